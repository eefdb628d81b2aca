/- Texts of the proof,one behind the other: AxRn,AxIn,SxL,SxM,Pf,Lo,AxTh,Cg,AxOw,AxYl,Co,Cp,AxRy,AxMe,Ta,Tw,Si,Sk,Pa,Lc,Na,Lm,Ar,Dg,Eb,Fc,Fk. -/
import Derived.Test.YtcoaaebppfbbnaaGreatDoorK4
import Derived.KernelRfl
import Derived.Laws.Cover3
import Derived.Lib.Overlaps
import Derived.Lib.AppendZerosOnto
import Derived.Test.YtcoaaebppfbbnaaGreatDoorProg
import Derived.Lib.Bytealg
set_option linter.all false
namespace Go.Ax
structure Hx (P:Program) (el:Ck->TypeId) (gl:Nat->Option Gv) (tt:Nat->Ty) (cx:Cx):Prop where
 p:cx.P=P
 e:cx.el=el
 g:cx.gl=gl
 t:∀t,B8 P el tt t=true
 m:P.follows .mixedOrders=true
structure Lv {R:Type}(cx:Cx) (px:Px R):Prop where
 p:PxOk cx px
 c:Ci cx px
 q:CallQOk cx px
section
variable {R:Type}{P:Program}{el:Ck->TypeId}{gl:Nat->Option Gv}{tt:Nat->Ty}{cx:Cx}
theorem lv{px:Px R}{l:List (Nat×Ev R)}{lq:List (Nat×Ed R)}{lw:List (Nat×Gi R)}(H:Hx P el gl tt cx)(h:∀g f,(g,f)∈l->Gt cx g f)(hq:∀g f,(g,f)∈lq->Ma cx g f)(hw:∀g f,(g,f)∈lw->Fb cx g f)(h1:px.tt=tt:=by rfl)(h2:px.gl=gl:=by rfl)(h3:px.call=A7e l:=by rfl)(h4:px.callQ=At6 lq:=by rfl)(h5:px.callW=tbl lw:=by rfl)(h6:noY px:=by exactλ_ _ _ _=>rfl):Lv cx px :=⟨⟨λt=>by rw[h1,H.p,H.e];exact H.t t,by rw[h2,H.g],h6.ok⟩,Be7 h3 h,Bcr h4 h5 hq hw⟩
theorem cO(H:Hx P el gl tt cx){g:Nat}{sa sr:List Sg}{F:HV sa->Option (HV sr)}(h:FnOk P el gl g sa sr F)(hsa:Cc (A7 0 sa) []=true:=by kernel_rfl):Gt (R:=R) cx g (Ku sa sr F):=Bwk (by rw[H.p,H.e,H.g];exact h) hsa
theorem cL(H:Hx P el gl tt cx){g:Nat}{sg so:Sig}{F:FL sg so}(h:FnLn P el gl g sg so F)(hok:lnB sg so=true:=by kernel_rfl):Gt (R:=R) cx g (C1 sg so F):=Bvs (by rw[H.p,H.e,H.g];exact h) hok
theorem cT(H:Hx P el gl tt cx){g:Nat}{sa:List Sg}{c:Ck}{F:HV sa->Option (HV [.sl c true])}(h:FnOk P el gl g sa [.sl c true] F)(hsa:Cc (A7 0 sa) []=true:=by kernel_rfl)(hfl:Bi9 c=true:=by rfl):Gt (R:=R) cx g (K5 sa c F):=Brl (by rw[H.p,H.e,H.g];exact h) hsa hfl
theorem cR(H:Hx P el gl tt cx){nb nt:Nat}{pc:Px R}{g:Nat}{fn:Func}{c:Code}{n:Nat}(h:Lv cx pc)(hf:P.funcs[g]? = some fn)(hb:fn.body=some c)(hl:∀i,i<n->Bg cx pc (lp fn i))(hname:(fn.name == "runtime.NumGoroutine")=false:=by kernel_rfl)(hcode:Qo fn=true:=by kernel_rfl)(hn:Kz fn=n:=by kernel_rfl):Gt cx g (A1 nb nt pc fn):=Bsx h.p h.c h.q (by rw[H.p];exact H.m) (by rw[H.p];exact hf) hb hname hcode hn hl
theorem c1(H:Hx P el gl tt cx){g:Nat}{sa sr:List Sg}{F:HV sa->Option (HV sr)}{l:List (Nat×Ev R)}(h:FnOk P el gl g sa sr F)(hl:∀g f,(g,f)∈l->Gt cx g f)(hsa:Cc (A7 0 sa) []=true:=by kernel_rfl):∀g' f',(g',f')∈(g,Ku sa sr F)::l->Gt cx g' f':=Ao (cO H h hsa) hl
theorem l1(H:Hx P el gl tt cx){g:Nat}{sg so:Sig}{F:FL sg so}{l:List (Nat×Ev R)}(h:FnLn P el gl g sg so F)(hl:∀g f,(g,f)∈l->Gt cx g f)(hok:lnB sg so=true:=by kernel_rfl):∀g' f',(g',f')∈(g,C1 sg so F)::l->Gt cx g' f':=Ao (cL H h hok) hl
theorem q1(H:Hx P el gl tt cx){g:Nat}{sa sr:List Sg}{F:HV sa->Option (HV sr)}{l:List (Nat×Ed R)}(h:FnOk P el gl g sa sr F)(hl:∀g f,(g,f)∈l->Ma cx g f)(hsa:Cc (A7 0 sa) []=true:=by kernel_rfl):∀g' f',(g',f')∈(g,Iz sa sr F)::l->Ma cx g' f':=Bcv (Bux (by rw[H.p,H.e,H.g];exact h) hsa) hl
theorem w1(H:Hx P el gl tt cx){g:Nat}{sg so:Sig}{F:HV sg.sgs->Option (HV so.sgs)}{l:List (Nat×Gi R)}(h:FnLn P el gl g sg so F)(hl:∀g f,(g,f)∈l->Fb cx g f)(hok:lnB sg so=true:=by kernel_rfl):∀g' f',(g',f')∈(g,Kf sg so F)::l->Fb cx g' f':=Ap4 (Bso (by rw[H.p,H.e,H.g];exact h) hok) hl
theorem lO{px:Px R}(H:Hx P el gl tt cx)(h:Lv cx px){b:Code}{k n:Nat}{s:Sig}{step:Aml (HV s.sgs) R}(hround:∀fr rec kx v,round px s b fr rec kx v=step rec kx v)(hin:∀i,i<n->Bg cx px (lpC b i))(hpx:∀st K,px.loop b st K=Am k s step st K:=by exactλ_ _=>by kernel_rfl)(hs:V2 s=true:=by kernel_rfl)(hn:(A4 b).length=n:=by kernel_rfl):Bg cx px b:=Bqw h.p h.c h.q (by rw[H.p];exact H.m) hpx hs hround (Pj hn hin)
theorem fO{f:FuncId}{fn:Func}{c:Code}{sa sr:List Sg}{px:Px (HV sr)}{F:FT sa sr}{n:Nat}(ht:∀t,B8 P el tt t=true)(hm:P.follows .mixedOrders=true)(hf:P.funcs[f]? = some fn)(hb:fn.body=some c)(hname:(fn.name == "runtime.NumGoroutine")=false)(hchk:(Qo fn&&Nat.ble sa.length fn.ntmps&&Cc (A7 0 sa) [])=true)(hn:Kz fn=n)
  (h:∀cx,Hx P el gl tt cx->Lv cx px/\∀i,i<n->Bg cx px (lp fn i)) (hF:∀x,Zj px fn sa sr x some=F x):FnOk P el gl f sa sr F :=
 Bhi hf hb hname hm hchk hn (λcx a b c _=>by obtain⟨h1,h2⟩:=h cx ⟨a,b,c,ht,hm⟩;exact⟨h1.p,h1.c,h1.q,h2⟩) hF
theorem fL{f:FuncId}{fn:Func}{c:Code}{sg so:Sig}{px:Px (HV so.sgs)}{F:FL sg so}{n:Nat}(ht:∀t,B8 P el tt t=true)(hm:P.follows .mixedOrders=true)(hf:P.funcs[f]? = some fn)(hb:fn.body=some c)(hname:(fn.name == "runtime.NumGoroutine")=false)(hchk:(Qo fn&&Nat.ble sg.n fn.ntmps)=true)(hn:Kz fn=n)
  (h:∀cx,Hx P el gl tt cx->Lv cx px/\∀i,i<n->Bg cx px (lp fn i)) (hF:∀x,Hg px fn sg so x some=F x):FnLn P el gl f sg so F :=
 Bmo hf hb hname hm hchk hn (λcx a b c=>by obtain⟨h1,h2⟩:=h cx ⟨a,b,c,ht,hm⟩;exact⟨h1.p,h1.c,h1.q,h2⟩) hF
end
open Go.RowKit
structure ClOk (P:Program) (f:FuncId) (t:TypeId) (sz:Nat):Prop where
 enters:Sx.Enters P f
 con:∀(a:Option Addr) (n c:Nat) (xs:List Value),xs.all Sx.one=true->n<=2000000->Sx.Con P f [.slice a n c] [] (Sx.RdS (.slice a n c) sz n xs) (λv L _=>L=[.row v t sz n xs])
def Ajk(P:Program)(f:FuncId):Prop:=∀(a:Option Addr) (c:Nat),Sx.Con P f [.slice a 0 c] [] (λ_=>True) (λv _ _=>∃a',v = .slice a' 0 0)
theorem Bvb{x:Vx}{c:Ck}{ys:List (El c)}{v:Value}(h:RF x.S x.w (.sl c ys .no) v):∃a cap vs,v = .slice a ys.length cap/\Ba x c ys vs/\∀w':World,(∀k,k<x.w.heap.size->w'.heap[k]? = x.w.heap[k]?)->Sx.RdS v (csz c) ys.length vs w':=by
 obtain⟨a,cap,vs,rfl,hrow,hcell⟩:=Fi h;refine⟨a,cap,vs,rfl,hrow,λw' hb=>⟨hrow.1,a,cap,rfl,?_⟩⟩;obtain⟨a',cap',he,hf⟩:=Br h;simp only[Value.slice.injEq] at he;rcases hf with rfl|⟨b,o,e,hle,_⟩
 ·exact .inl rfl
 ·by_cases h0:ys=[]
  ·grind
  ·refine .inr ⟨b,o,he.1.trans e,by rw[he.2.2];exact hle.1,λj u hj =>?_⟩;have hc:=hcell b o (he.1.trans e) h0 j u hj;rw[World.cell?_of_block (a:=⟨b,o+j,none⟩) (hb b (Aa6 hc))];exact hc
theorem Amz{P:Program}{Pre:World->Prop}{w:World}(h:∀w':World,(∀k,k<w.heap.size->w'.heap[k]? = w.heap[k]?)->Pre w'):Sx.StOk ⟨P,0,w,Sx.fps [],[]⟩ [] Pre w :=⟨Sx.Chg.refl _ _,by simp,by simp[Sx.fps],by simp[Sx.fps],by simp,λw' hc=>h w' λk hk=>hc.block k hk (by simp[Sx.fps])⟩
theorem S8{w w':World}(h:Sx.Chg [] w w'):Chg B9 w w' :=.of_blocks h.os h.tape h.output h.size λk hk=>h.block k hk (by simp)
theorem Pk{P:Program}{f:FuncId}{x:Vx}{c:Ck}{ys:List (El c)}{v:Value}(h:ClOk P f (x.el c) (csz c))(hrf:RF x.S x.w (.sl c ys .no) v)(hn:ys.length<=2000000) :
  ∃vs,Ba x c ys vs/\Calls P f #[v] x.w λen w'=>∃u,en = .returned u/\Chg B9 x.w w'/\((u = .slice none 0 0/\ys=[])\/∃g cap cur,u = .slice (some ⟨g,0,none⟩) ys.length cap/\(x.w.heap.size<=g/\g<w'.heap.size)/\w'.heap[g]? = some (.cells cur (x.el c) (0,0))/\cur.size=cap*csz c/\ys.length<=cap/\cap<=maxLen/\cur.toList.take (ys.length*csz c)=vs):=by
 obtain⟨a,cap,vs,rfl,hrow,hrd⟩:=Bvb hrf;refine⟨vs,hrow,((h.con a ys.length cap vs (Zg2.2 hrow.one) hn).run x.w [] (Amz hrd)).mono ?_⟩;rintro en w' ⟨u,L',F',rfl,rfl,hs⟩;refine⟨u,rfl,S8 (by simpa[Sx.fps] using hs.chg),?_⟩;have hok:w'.ownsRow 0 (x.el c) (csz c) u ys.length vs:=hs.ok (.row u (x.el c) (csz c) ys.length vs) (by simp);rcases hok.2 with ⟨rfl,h0⟩|⟨g,cap',cur,rfl,_,hh,hle,hm,hsz,htk⟩
 ·grind
 ·refine .inr ⟨g,cap',cur,rfl,⟨?_,(Zh2.1 hh).1⟩,hh,hsz,hle,hm,htk⟩;rcases hs.own g (by simp[Sx.fps,Sx.Ent.fp]) with h1|h1
  ·cases h1
  ·exact h1
def A1n(c:Ck):FT [.sl c false] [.sl c true]:=λ(ys:List (El c))=>cond (decide (ys.length<=2000000)) (some ys) none
theorem Aao{P:Program}{el:Ck->TypeId}{gl:Nat->Option Gv}{f:FuncId}{c:Ck}(h:ClOk P f (el c) (csz c)):FnOk P el gl f [.sl c false] [.sl c true] (A1n c):=by
 refine⟨h.enters,λx r hx w M vs hM _ hr =>?_⟩;have hx:cond (decide (List.length (α:=El c) x<=2000000)) (some x) none=some r:=hx;cases hd:decide (List.length (α:=El c) x<=2000000) with
 |false=>rw[hd] at hx;cases hx
 |true =>
  rw[hd] at hx;simp at hx;subst hx;simp at hd;simp[Bw,Cl] at hr;obtain⟨v,_,rfl,hv,rfl⟩:=hr;obtain⟨us,hrow,hc⟩:=Pk (x:=v0 el M w) h hv.1 hd;refine hc.mono ?_;rintro en w' ⟨u,rfl,hch,hu⟩;rcases hu with ⟨rfl,h0⟩|⟨g,cap,cur,rfl,⟨hg1,hg2⟩,hh,hsz,hle,hm,htk⟩
  ·refine⟨_,⟨λ_=>0,λ_=>none⟩,rfl,hch,λp g o _ hg=>by simp at hg,λp q g o o' _ _ hg=>by simp at hg,?_⟩;subst h0;exact⟨λ_ _ =>.nil _ _ _ _ trivial,by simp[vr],λ_ =>.inl ⟨rfl,rfl,rfl⟩⟩
  ·let m:Mp:=⟨λ_=>0,λp=>if p=0 then some (g,List.length (α:=El c) x*csz c) else none⟩;have hmt:∀p b o,m.tk p=some (b,o)->p=0/\b=g/\o=List.length (α:=El c) x*csz c:=λp b o hp=>by grind
   refine⟨_,m,rfl,hch,λp b o _ hp =>?_,λp q b o o' _ _ hp hq=>by rw[(hmt p b o hp).1,(hmt q b o' hq).1],?_⟩
   ·obtain⟨_,rfl,_⟩:=hmt p b o hp;exact⟨hg1,hg2⟩
   ·simp[Gw,Rep];have hrow2:Ba (vr el M m [.sl c true] w') c x us:=⟨hrow.1,λi y j d hy hd=>by
     obtain⟨z,hz,hf⟩:=hrow.2 i y j d hy hd;refine⟨z,hz,RF.later hf (hch.mono λ_ _ h=>h.elim) λb i hi =>?_⟩;rcases hi with hi|⟨p,o,_,hp,_⟩
     ·exact .inl hi
     ·obtain⟨_,rfl,_⟩:=hmt p b o hp;exact .inr hg1⟩
    refine⟨Alg hrow2 ⟨hle,hm⟩ (λj z hj =>?_) (λi hi =>?_),by simp[vr],λ_ =>.inr ⟨g,cap,cur,rfl,by simp[vr,m],hh,hsz,hle,hm⟩⟩
    ·show w'.cell? _=_;simp[World.cell?,hh]
     grind
    ·rintro(hMi|⟨p,o,_,hp,ho⟩)
     ·have:=hM g i hMi;have hg1:w.heap.size<=g:=hg1;omega
     ·grind
section
variable {R:Type}{cx:Cx}
def V1(c:Ck)(args:List D)(st:St)(K:List D->St->Option R):Option R:=match args with
 |[.sl c' xs _]=>match decide (c' = c)&&decide (xs.length<=2000000) with|true=>cond (List.isEmpty xs) (K [.sl c' [] .z] st) (K [.osl st.nb c' 0 ((xs.length:Nat):Int)] (G7 st (.dyn c' xs)))|false=>none
 |_=>none
theorem Af2{x:Vx}{c:Ck}{ys:List (El c)}{vs:List Value}{g cap:Nat}{cur:Array Value}(hrow:Ba x c ys vs)(hh:x.w.heap[g]? = some (.cells cur (x.el c) (0,0)))(hsz:cur.size=cap*csz c)(hle:ys.length<=cap)(hm:cap<=maxLen)(htk:cur.toList.take (ys.length*csz c)=vs):F6 x g (.dyn c ys):=by
 refine⟨Nat.le_trans hle hm,cur.toList,x.el c,by rw[Array.toArray_toList];exact hh,(by have hq:=Nat.mul_le_mul_right (csz c) hle;rw[<-hsz] at hq;simpa using hq),λi y j d hy hd =>?_⟩;obtain⟨u,hu,hf⟩:=hrow.2 i y j d hy hd;refine⟨u,?_,hf⟩;rw[<-htk,List.getElem?_take] at hu;split at hu
 ·exact hu
 ·cases hu
theorem Bbm{g:Nat}{c:Ck}(h:ClOk cx.P g (cx.el c) (csz c))(h0:Ajk cx.P g){args:List D}{st:St}{K:List D->St->Option R}{r:R}(hc:V1 c args st K=some r):H4 cx g args st K r:=by
 unfold V1 at hc;split at hc
 ·rename_i c' xs tk;split at hc
  ·rename_i hcc;simp at hcc;obtain⟨rfl,hn⟩:=hcc;refine⟨h.enters,λm a as_ w vs hr hargs =>?_⟩;simp only[Reps] at hargs;obtain⟨v,_,rfl,⟨hrf,_⟩,rfl⟩:=hargs;by_cases he:xs=[]
   ·subst he;obtain⟨ad,cap,rfl,_⟩:=hrf.here.slice;refine((h0 ad cap).run w [] (Amz λ_ _=>trivial)).mono ?_;rintro en w' ⟨u,L',F',rfl,⟨a',rfl⟩,hs⟩;have hch:Chg B9 w w':=S8 (by simpa[Sx.fps] using hs.chg);refine⟨_,rfl,_,st,m,hc,⟨rfl,rfl,rfl,rfl,rfl⟩,hr.quiet hch,?_⟩;simp[Gw];exact⟨λ_ _ =>.nil _ _ _ _ trivial,rfl,a',rfl⟩
   ·have hie:List.isEmpty xs=false:=by cases xs with|nil=>exact absurd rfl he|cons _ _=>rfl
    rw[hie] at hc;obtain⟨us,hrow,hcl⟩:=Pk (x:=vx cx m (fs st) w) h hrf hn;refine hcl.mono ?_;rintro en w' ⟨u,rfl,hch,hu⟩;rcases hu with ⟨_,e⟩|⟨g2,cap,cur,rfl,⟨hg1,hg2⟩,hh,hsz,hle,hm,htk⟩
    ·exact absurd e he
    ·obtain⟨m',h1,h2⟩:=hr.newAt (k :=.dyn c' xs) (g:=g2) hch hg1 hg2 (λx' nx hw=>Af2 (hrow.later nx) (by rw[hw,nx.el];exact hh) hsz hle hm htk);rw[<-A1i] at h1 h2;refine⟨_,rfl,_,_,m',hc,⟨rfl,rfl,rfl,rfl,rfl⟩,h1,?_⟩;simp only[Rep] at h2;simp[Gw];obtain⟨k1,k2⟩:=h2;simp at k2;have hbl:(vx cx m' (fs (G7 st (.dyn c' xs))) w').m.bl st.nb=g2:=k2.symm;refine⟨k1,Int.le_refl _,Int.natCast_nonneg _,by have:=Nat.le_trans hle hm;omega,some ⟨g2,0,none⟩,cap,by simp,.inr (by rw[hbl];simp),by simpa using hle,hm,cur,(0,0),by rw[hbl];exact hh,by simpa using hsz⟩
  ·cases hc
 ·cases hc
def Af1(c:Ck)(args:List D)(st:St)(K:D->List Nat->St->Option R):Option R:=match args with
 |[.sl c' xs _]=>match decide (c' = c)&&decide (xs.length<=2000000) with
  |true=>cond (List.isEmpty xs) (K (.sl c' [] .z) [] st) (match blk st.bl st.nb with
   |none=>K (.osl st.nb c' 0 ((xs.length:Nat):Int)) [] (G7 st (.dyn c' xs))
   |some _=>none)
  |false=>none
 |_=>none
theorem Bbo{st:St}(k:Blk)(h:blk st.bl st.nb=none):∀b,b∉([]:List Nat)->Fh (fs st) (fs (G7 st k)) b:=λb _=>by
 have e:∀q,(fs (G7 st k)).bl q=if q=st.nb then some k else(fs st).bl q:=λq=>Aw st.bl st.nb q k
 refine⟨λq hq =>?_,λq hq hlt =>?_⟩
 ·rw[e];by_cases hb:b=st.nb
  ·subst hb;have hq:blk st.bl st.nb=some q:=hq;rw[h] at hq;cases hq
  ·rw[if_neg hb];exact hq
 ·have hlt:b<st.nb:=hlt;rw[e,if_neg (by omega)] at hq;exact hq
theorem A1c{g:Nat}{c:Ck}(h:ClOk cx.P g (cx.el c) (csz c))(h0:Ajk cx.P g):Fb (R:=R) cx g (Af1 c):=by
 intro args st K r hc;unfold Af1 at hc;split at hc
 ·rename_i c' xs tk;split at hc
  ·rename_i hcc;simp at hcc;obtain⟨rfl,hn⟩:=hcc;by_cases he:xs=[]
   ·subst he;refine⟨_,[],st,hc,⟨rfl,rfl,rfl,rfl,rfl⟩,Zn1 _,λb _=>Fh.of_bl rfl b,h.enters,λs m a as_ w vs hW hr hargs =>?_⟩;simp only[Reps] at hargs;obtain⟨v,_,rfl,⟨hrf,_⟩,rfl⟩:=hargs;obtain⟨ad,cap,rfl,_⟩:=hrf.here.slice;refine((h0 ad cap).run w [] (Amz λ_ _=>trivial)).mono ?_;rintro en w' ⟨u,L',F',rfl,⟨a',rfl⟩,hs⟩;have hch:Chg B9 w w':=S8 (by simpa[Sx.fps] using hs.chg);rw[I5 hW];refine⟨_,rfl,m,hr.quiet hch,?_⟩;simp[Rep];exact⟨λ_ _ =>.nil _ _ _ _ trivial,rfl,a',rfl⟩
   ·have hie:List.isEmpty xs=false:=by cases xs with|nil=>exact absurd rfl he|cons _ _=>rfl
    rw[hie] at hc;cases hfr:blk st.bl st.nb with
    |some k=>rw[hfr] at hc;cases hc
    |none =>
    rw[hfr] at hc;refine⟨_,[],G7 st (.dyn c' xs),hc,⟨rfl,rfl,rfl,rfl,rfl⟩,Nat.le_succ _,Bbo _ hfr,h.enters,λs m a as_ w vs hW hr hargs =>?_⟩;simp only[Reps] at hargs;obtain⟨v,_,rfl,⟨hrf,_⟩,rfl⟩:=hargs;obtain⟨us,hrow,hcl⟩:=Pk (x:=vx cx m s w) h hrf hn;refine hcl.mono ?_;rintro en w' ⟨u,rfl,hch,hu⟩;rcases hu with ⟨_,e⟩|⟨g2,cap,cur,rfl,⟨hg1,hg2⟩,hh,hsz,hle,hm,htk⟩
    ·exact absurd e he
    ·obtain⟨m',h1,h2⟩:=hr.newAt (k :=.dyn c' xs) (g:=g2) hch hg1 hg2 (λx' nx hw=>Af2 (hrow.later nx) (by rw[hw,nx.el];exact hh) hsz hle hm htk);rw[Nw st _ s hW];refine⟨_,rfl,m',h1,?_⟩;simp only[Rep] at h2 ⊢;obtain⟨k1,k2⟩:=h2;simp at k2;have hnb:st.nb=s.nb:=hW.2.1.symm;rw[hnb];have hbl:(vx cx m' { s with bl:=λb=>if b=s.nb then some (.dyn c' xs) else s.bl b,nb:=s.nb+1 } w').m.bl s.nb=g2:=k2.symm;refine⟨k1,Int.le_refl _,Int.natCast_nonneg _,by have:=Nat.le_trans hle hm;omega,some ⟨g2,0,none⟩,cap,by simp,.inr (by rw[hbl];simp),by simpa using hle,hm,cur,(0,0),by rw[hbl];exact hh,by simpa using hsz⟩
  ·cases hc
 ·cases hc
theorem A82{α:Type}(l:List α):cut l 0 (0+((l.length:Nat):Int))=l:=by simp[cut]
theorem A58{m:Mp}{a:Act}{as_:List Act}{st:St}{w:World}(hr:Rel cx m a as_ (fs st) w){b cap:Nat}{c:Ck}{xs:List (El c)}(hb:blk st.bl b=some (.dyn c xs)){cur:Array Value}(hh:w.heap[m.bl b]? = some (.cells cur (cx.el c) (0,0)))(hsz:cur.size=cap*csz c)(hle:xs.length<=cap)(hm:cap<=maxLen) :
  Rel cx m a as_ (fs { st with bl:=Bj st.bl b }) w/\Rep (vx cx m (fs { st with bl:=Bj st.bl b }) w) (.sl c xs .no) (.slice (some ⟨m.bl b,0,none⟩) xs.length cap):=by
 have hd:Rep (vx cx m (fs st) w) (.osl b c 0 ((xs.length:Nat):Int)) (.slice (some ⟨m.bl b,0,none⟩) xs.length cap):=by simp only[Rep];exact⟨(hr.blks b _ hb).1,Int.le_refl _,Int.natCast_nonneg _,by have:=Nat.le_trans hle hm;omega,some ⟨m.bl b,0,none⟩,cap,by simp,.inr (by simp[vx]),by simpa using hle,hm,cur,(0,0),hh,by simpa using hsz⟩
 have hf:Bet st.bl (.osl b c 0 ((xs.length:Nat):Int)) (λd bl=>some (d,bl))=some (.sl c xs .no,Bj st.bl b):=by simp only[Bet,hb];rw[A82];refine(Bww ?_);simp
 obtain⟨d',bl',hk,hrel,_,hrep,_⟩:=Au2 hr hd hf;simp at hk;obtain⟨rfl,rfl⟩:=hk;exact⟨hrel,hrep⟩
theorem Bla{m:Mp}{a:Act}{as_:List Act}{st:St}{w w':World}(hr:Rel cx m a as_ (fs st) w){b cap:Nat}{c:Ck}{xs xs':List (El c)}{vs':List Value}(hb:blk st.bl b=some (.dyn c xs))(hch:Chg (λq _=>q=m.bl b) w w')(hh:w'.heap[m.bl b]? = some (.cells vs'.toArray (cx.el c) (0,0)))(hl:vs'.length=cap*csz c)(hrow:Ba (vx cx m (fs st) w) c xs' (vs'.take (xs'.length*csz c)))(hle:xs'.length<=cap)(hm:cap<=maxLen) :
  ∃m',Rel cx m' a as_ (fs { st with bl:=Bj st.bl b,nb:=st.nb+1 }) w'/\Rep (vx cx m' (fs { st with bl:=Bj st.bl b,nb:=st.nb+1 }) w') (.sl c xs' .no) (.slice (some ⟨m.bl b,0,none⟩) xs'.length cap):=by
 have hrel1:=hr.write (k :=.dyn c xs') (b:=b) hb hch (λx' nx hw=>Af2 (hrow.later nx) (by rw[hw,nx.el];exact hh) (by simpa using hl) hle hm (by simp));have e1:fs { st with bl:=Dd st.bl b (.dyn c xs') }={ fs st with bl:=λq=>if q=b then some (.dyn c xs') else(fs st).bl q }:=by
  refine FS.eq rfl rfl rfl rfl rfl ?_ rfl rfl rfl;funext q;show blk (Dd st.bl b _) q=_;rw[Eo];by_cases hq:q=b
  ·subst hq;simp[hb]
  ·simp[hq];rfl
 rw[<-e1] at hrel1;have hb1:blk (Dd st.bl b (.dyn c xs')) b=some (.dyn c xs'):=by rw[Eo,if_pos rfl,hb];rfl
 obtain⟨h1,h2⟩:=A58 (st:={ st with bl:=Dd st.bl b (.dyn c xs') }) hrel1 hb1 hh (by simpa using hl) hle hm;have e2:fs { st with bl:=Bj (Dd st.bl b (.dyn c xs')) b }=fs { st with bl:=Bj st.bl b }:=by refine FS.eq rfl rfl rfl rfl rfl ?_ rfl rfl rfl;funext q;show blk (Bj (Dd st.bl b _) b) q=blk (Bj st.bl b) q;rw[D9,D9,Eo];by_cases hq:q=b<;>simp[hq]
 have h1:Rel cx m a as_ (fs { st with bl:=Bj st.bl b }) w':=by rw[<-e2];exact h1
 have h3:=Rel.raise (st:={ st with bl:=Bj st.bl b }) (nb:=st.nb+1) (nt:=st.nt) (Nat.le_succ _) (Zn1 _) h1;refine⟨m,h3,?_⟩;simp at h2 ⊢;refine⟨?_,trivial⟩;have hS:(vx cx m (fs { st with bl:=Bj (Dd st.bl b (.dyn c xs')) b }) w').S=(vx cx m (fs { st with bl:=Bj st.bl b,nb:=st.nb+1 }) w').S:=by show(vx cx m (fs { st with bl:=Bj (Dd st.bl b (.dyn c xs')) b }) w').S=(vx cx m (fs { st with bl:=Bj st.bl b }) w').S;rw[e2]
 rw[<-hS];exact h2.1
theorem Bg5{m:Mp}{a:Act}{as_:List Act}{st:St}{w w':World}(hr:Rel cx m a as_ (fs st) w){b g cap:Nat}{c:Ck}{xs':List (El c)}{vs':List Value}(hch:Chg B9 w w')(hg1:w.heap.size<=g)(hh:w'.heap[g]? = some (.cells vs'.toArray (cx.el c) (0,0)))(hl:vs'.length=cap*csz c)(hrow:Ba (vx cx m (fs st) w) c xs' (vs'.take (xs'.length*csz c)))(hle:xs'.length<=cap)(hm:cap<=maxLen) :
  ∃m',Rel cx m' a as_ (fs { st with bl:=Bj st.bl b,nb:=st.nb+1 }) w'/\Rep (vx cx m' (fs { st with bl:=Bj st.bl b,nb:=st.nb+1 }) w') (.sl c xs' .no) (.slice (some ⟨g,0,none⟩) xs'.length cap):=by
 obtain⟨m',h1,h2⟩:=hr.newAt (k :=.dyn c xs') (g:=g) hch hg1 (Zh2.1 hh).1 (λx' nx hw=>Af2 (hrow.later nx) (by rw[hw,nx.el];exact hh) (by simpa using hl) hle hm (by simp));rw[<-A1i] at h1 h2;simp only[Rep] at h2;have k2:=h2.2;simp at k2;have hbl:m'.bl st.nb=g:=k2.symm;have hb1:blk (G7 st (.dyn c xs')).bl st.nb=some (.dyn c xs'):=by show blk ((st.nb,_)::st.bl) st.nb=_;rw[Aw,if_pos rfl]
 obtain⟨h3,h4⟩:=A58 (st:=G7 st (.dyn c xs')) h1 hb1 (by rw[hbl];exact hh) (by simpa using hl) hle hm;rw[hbl] at h4;obtain⟨h5,nx⟩:=h3.drop b;have h6:=Rep.later nx _ _ h4;have hnone:blk st.bl st.nb=none:=by cases hk:blk st.bl st.nb with|none=>rfl|some k=>exact absurd (hr.blks st.nb k hk).1 (Nat.lt_irrefl _)
 have e:fs { { G7 st (.dyn c xs') with bl:=Bj (G7 st (.dyn c xs')).bl st.nb } with bl:=Bj (Bj (G7 st (.dyn c xs')).bl st.nb) b }=fs { st with bl:=Bj st.bl b,nb:=st.nb+1 }:=by
  refine FS.eq rfl rfl rfl rfl rfl ?_ rfl rfl rfl;funext q;show blk (Bj (Bj ((st.nb,_)::st.bl) st.nb) b) q=blk (Bj st.bl b) q;rw[D9,D9,D9,Aw];by_cases hq:q=b
  ·simp[hq]
  ·rw[if_neg hq,if_neg hq];by_cases hn:q=st.nb
   ·rw[if_pos hn,hn,hnone]
   ·rw[if_neg hn,if_neg hn]
 rw[e] at h5 h6;exact⟨m',h5,h6⟩
theorem A8e{x:Vx}{c:Ck}{xs:List (El c)}{vs:List Value}(hl:xs.length*csz c<=vs.length)(h:∀i y j d,xs[i]? = some y->(enc c y)[j]? = some d->∃u,vs[i*csz c+j]? = some u/\RF x.S x.w d u):Ba x c xs (vs.take (xs.length*csz c)):=by
 refine⟨by rw[List.length_take];exact Nat.min_eq_left hl,λi y j d hy hd =>?_⟩;obtain⟨u,hu,hf⟩:=h i y j d hy hd;refine⟨u,?_,hf⟩;have hi:i<xs.length:=(Zi2.1 hy).1;have hj:j<csz c:=by rw[<-Bu c y];exact(Zi2.1 hd).1
 have:i*csz c+j<xs.length*csz c:=by have h1:(i+1)*csz c<=xs.length*csz c:=Nat.mul_le_mul_right _ hi;rw[Nat.add_mul] at h1;omega
 rw[List.getElem?_take_of_lt this];exact hu
theorem Ba.take{x:Vx}{c:Ck}{xs:List (El c)}{vs:List Value}(h:Ba x c xs vs)(k:Nat)(hk:k<=xs.length):Ba x c (xs.take k) (vs.take (k*csz c)):=by
 have hkl:(xs.take k).length=k:=by rw[List.length_take];exact Nat.min_eq_left hk
 have:=A8e (x:=x) (c:=c) (xs:=xs.take k) (vs:=vs) (by rw[hkl,h.1];exact Nat.mul_le_mul_right _ hk) (λi y j d hy hd=>by
  rw[List.getElem?_take] at hy;split at hy
  ·exact h.2 i y j d hy hd
  ·cases hy)
 rwa[hkl] at this
theorem Ba.drop{x:Vx}{c:Ck}{xs:List (El c)}{vs:List Value}(h:Ba x c xs vs)(k:Nat):Ba x c (xs.drop k) (vs.drop (k*csz c)):=by refine⟨by rw[Za2,Za2,h.1,Nat.sub_mul],λi y j d hy hd =>?_⟩;rw[List.getElem?_drop] at hy;obtain⟨u,hu,hf⟩:=h.2 (k+i) y j d hy hd;refine⟨u,?_,hf⟩;rw[List.getElem?_drop,<-hu];congr 1;rw[Nat.add_mul,Nat.add_assoc]
theorem Bfa{w:World}{d:D}(h:FV w d (.tuple #[])):False:=by cases h
theorem Bmc{x:Vx}{c:Ck}{y:El c}{ys:List (El c)}{b o n cap g:Nat}{cs:Array Value}{t:TypeId}(h:RF x.S x.w (.sl c (y::ys) .no) (.slice (some ⟨b,o,none⟩) n cap))(hg:∀i,x.S g i)(hh:x.w.heap[g]? = some (.cells cs t (0,0))):b≠g:=by
 intro e;subst e;have hch:Chg x.S x.w (x.w.setRow b (List.replicate cs.size (.tuple #[])).toArray):=by have hsx:Sx.Chg [b] x.w (x.w.setRow b (List.replicate cs.size (.tuple #[])).toArray):=⟨rfl,rfl,rfl,by simp,λk _ hn=>setRow_other x.w b k _ (by simpa using hn)⟩;refine(Ln hsx (vs:=cs.toList) (us:=List.replicate cs.size (.tuple #[])) (t:=t) (by rw[Array.toArray_toList];exact hh) (setRow_heap _ b _ _ t (0,0) hh) (by simp)).mono λq i hq =>?_;subst hq;exact hg i
 obtain⟨a',cap',e,hf⟩:=(h _ hch).slice;rcases hf with e0|⟨b',o',rfl,_,hat⟩
 ·cases e0
 ·simp at e;obtain⟨⟨rfl,rfl⟩,_⟩:=e;have hlt : 0<(enc c y).length:=by rw[Bu];exact Afx c
  obtain⟨u,hu,hfv⟩:=hat 0 y rfl 0 _ (Zo1 hlt);simp only[World.cell?,(setRow_heap x.w b _ (List.replicate cs.size (Value.tuple #[])).toArray t (0,0) hh)] at hu;simp at hu;have:u = .tuple #[]:=by obtain⟨hq,hu⟩:=Zh2.1 hu;simp at hu;exact hu.symm
  subst this;exact Bfa hfv
structure InsOk (P:Program) (f:FuncId) (t:TypeId):Prop where
 enters:Sx.Enters P f
 con:∀(g n i cap vb vo vc:Nat) (cs ys:List Value),0<n->i<=n->n<=cap->cs.length=cap*2->(∀v,v∈cs.take (n*2)->Sx.one v=true)->ys.length=2->(∀v,v∈ys->Sx.one v=true)->vb≠g->n<=2000000 ->
  Sx.Con P f [.slice (some ⟨g,0,none⟩) n cap,.int .i64 i,.slice (some ⟨vb,vo,none⟩) 1 vc] [.blk g cs t] (λw=>∀(j:Nat) v,ys[j]? = some v->w.cell? ⟨vb,vo+j,none⟩=some v) (λv L _ =>
   (∃cs',v = .slice (some ⟨g,0,none⟩) (n+1) cap/\n+1<=cap/\L=[.blk g cs' t]/\cs'.length=cs.length/\cs'.take ((n+1)*2)=cs.take (i*2)++ys++(cs.drop (i*2)).take ((n-i)*2)) \/
   (∃b cap' cs',v = .slice (some ⟨b,0,none⟩) (n+1) cap'/\n+1<=cap'/\cap'<=maxLen/\L=[.blk b cs' t,.blk g cs t]/\cs'.length=cap'*2/\cs'.take ((n+1)*2)=cs.take (i*2)++ys++(cs.drop (i*2)).take ((n-i)*2)))
 con0:∀(a:Option Addr) (vb vo vc:Nat) (ys:List Value),ys.length=2->(∀v,v∈ys->Sx.one v=true) ->
  Sx.Con P f [.slice a 0 0,.int .i64 0,.slice (some ⟨vb,vo,none⟩) 1 vc] [] (λw=>∀(j:Nat) v,ys[j]? = some v->w.cell? ⟨vb,vo+j,none⟩=some v) (λv L _=>∃b cap' cs',v = .slice (some ⟨b,0,none⟩) 1 cap'/\1<=cap'/\cap'<=maxLen/\L=[.blk b cs' t]/\cs'.length=cap'*2/\cs'.take 2=ys)
def Agj(args:List D)(st:St)(K:List D->St->Option R):Option R:=match args with
 |[.osl b .idx p n,.int .i64 i,.sl .idx [y] _]=>match blk st.bl b with
  |some (.dyn .idx xs)=>chk (decide (p=0)&&decide (0<n)&&decide (n=(xs.length:Int))&&decide (0<=i)&&decide (i<=n)&&decide (n<=2000000)) (K [.sl .idx (xs.take i.toNat++y::xs.drop i.toNat) .no] { st with bl:=Bj st.bl b,nb:=st.nb+1 })
  |_=>none
 |[.sl .idx [] .z,.int .i64 i,.sl .idx [y] _]=>chk (decide (i=0)) (K [.sl .idx [y] .no] st)
 |_=>none
theorem An6{x:Vx}{y:El .idx}{v:Value}(h:RF x.S x.w (.sl .idx [y] .no) v):∃vb vo vc us,v = .slice (some ⟨vb,vo,none⟩) 1 vc/\Ba x .idx [y] us/\us.length=2/\(∀z,z∈us->Sx.one z=true)/\∀(j:Nat) u,us[j]? = some u->x.w.cell? ⟨vb,vo+j,none⟩=some u:=by
 obtain⟨a,cap,us,rfl,hrow,hcell⟩:=Fi h;obtain⟨a',cap',e,hf⟩:=Br h;simp at e;rcases hf with e0|⟨b,o,e1,_⟩
 ·cases e0
 ·have ha:=e.1.trans e1;subst ha;exact⟨b,o,cap,us,rfl,hrow,by rw[hrow.1];rfl,hrow.one,hcell b o rfl (by simp)⟩
theorem A25{g:Nat}(h:InsOk cx.P g (cx.el .idx)){args:List D}{st:St}{K:List D->St->Option R}{r:R}(hc:Agj args st K=some r):H4 cx g args st K r:=by
 unfold Agj at hc;split at hc
 ·rename_i b p n i y tk;split at hc
  ·rename_i xs hb;obtain⟨hk,hK⟩:=A0 hc;simp at hk;obtain⟨⟨⟨⟨⟨hp,hn⟩,hnl⟩,hi0⟩,hin⟩,hbig⟩:=hk;subst hp hnl;obtain⟨i,rfl⟩:∃k:Nat,i=k:=⟨i.toNat,by omega⟩;refine⟨h.enters,λm a as_ w vs hr hargs =>?_⟩;simp only[Reps] at hargs;obtain⟨v1,_,rfl,⟨hb1,_,_,_,ad,cap,rfl,had,hle,hcm,cur,f,hh1,hsz⟩,v2,_,rfl,⟨rfl,_⟩,v3,_,rfl,⟨hrf,_⟩,rfl⟩:=hargs;obtain⟨_,hlen,vs,t,hh2,hvl,hel⟩:=hr.blks b _ hb;have hh1:w.heap[m.bl b]? = some (.cells cur (cx.el .idx) f):=hh1;have hh2:w.heap[m.bl b]? = some (.cells vs.toArray t (0,0)):=hh2;rw[hh1] at hh2;simp at hh2;obtain⟨rfl,rfl,rfl⟩:=hh2;obtain rfl:=had.resolve_left (by omega);have hsz2:vs.length=cap*2:=by simpa[csz] using hsz
   simp at hle;have hrowx:=A8e (x:=vx cx m (fs st) w) hvl hel;obtain⟨vb,vo,vc,us,rfl,hrow3,hul,hu1,hucell⟩:=An6 hrf;have hbn:(fs st).bl b≠none:=by rw[show(fs st).bl b=some _ from hb];simp
   have hne:vb≠m.bl b:=Bmc (x:=vx cx m (fs st) w) hrf (λ_ =>.inr (.inl ⟨b,hbn,rfl⟩)) hh1;have hx1:∀v,v∈vs.take (xs.length*2)->Sx.one v=true:=hrowx.one;have hst:Sx.StOk ⟨cx.P,0,w,Sx.fps [.blk (m.bl b) vs (cx.el .idx)],[]⟩ [.blk (m.bl b) vs (cx.el .idx)] (λw=>∀(j:Nat) v,us[j]? = some v->w.cell? ⟨vb,vo+j,none⟩=some v) w:=by
    refine⟨Sx.Chg.refl _ _,λq hq =>?_,by simp[Sx.fps,Sx.Ent.fp],λq hq =>.inl hq,by simp,λw' hc' j v hj =>?_⟩
    ·simp at hq;subst hq;exact hh1
    ·refine hc'.cell (hucell j v hj) ?_;simpa[Sx.fps,Sx.Ent.fp] using hne
   have hargs:([.slice (some ⟨m.bl b,(0:Int).toNat*csz .idx,none⟩) ((xs.length:Nat):Int).toNat cap,.int .i64 (i:Int),.slice (some ⟨vb,vo,none⟩) 1 vc]:List Value)=[.slice (some ⟨m.bl b,0,none⟩) xs.length cap,.int .i64 i,.slice (some ⟨vb,vo,none⟩) 1 vc]:=by simp
   show Calls cx.P g ([.slice (some ⟨m.bl b,(0:Int).toNat*csz .idx,none⟩) ((xs.length:Nat):Int).toNat cap,.int .i64 (i:Int),.slice (some ⟨vb,vo,none⟩) 1 vc]:List Value).toArray w _;rw[hargs];refine((h.con (m.bl b) xs.length i cap vb vo vc vs us (by omega) (by omega) hle hsz2 hx1 hul hu1 hne (by omega)).run w [] hst).mono ?_;rintro en w' ⟨u,L',F',rfl,hpost,hs⟩;have hsc:Sx.Chg [m.bl b] w w':=by simpa[Sx.fps,Sx.Ent.fp] using hs.chg
   have hil:i<=xs.length:=by omega
   have hnew:Ba (vx cx m (fs st) w) .idx (xs.take i++y::xs.drop i) (vs.take (i*2)++us++(vs.drop (i*2)).take ((xs.length-i)*2)):=by
    have e3:=((hrowx.take i hil).append hrow3).append (hrowx.drop i);rw[Zj1,List.singleton_append] at e3;have q1:(vs.take (xs.length*csz .idx)).take (i*csz .idx)=vs.take (i*2):=by rw[List.take_take,Nat.min_eq_left (Nat.mul_le_mul_right _ hil)];rfl
    have q2:(vs.take (xs.length*csz .idx)).drop (i*csz .idx)=(vs.drop (i*2)).take ((xs.length-i)*2):=by rw[List.drop_take];show(vs.drop (i*2)).take (xs.length*2-i*2)=_;rw[<-Nat.sub_mul]
    rw[q1,q2] at e3;exact e3
   have hnl:(xs.take i++y::xs.drop i).length=xs.length+1:=by simp;omega
   simp at hK;rcases hpost with ⟨cs',rfl,hroom,rfl,hcl,htk⟩|⟨b',cap',cs',rfl,hroom,hcm',rfl,hcl,htk⟩
   ·have hh':w'.heap[m.bl b]? = some (.cells cs'.toArray (cx.el .idx) (0,0)):=hs.ok (.blk (m.bl b) cs' (cx.el .idx)) (by simp);obtain⟨m',k1,k2⟩:=Bla (c :=.idx) (xs':=xs.take i++y::xs.drop i) hr hb (Ln hsc hh1 hh' hcl) hh' (cap:=cap) (by rw[hcl];exact hsz2) (by rw[hnl];show Ba _ _ _ (cs'.take ((xs.length+1)*2));rw[htk];exact hnew) (by rw[hnl];exact hroom) hcm;rw[hnl] at k2;exact⟨_,rfl,_,_,m',hK,⟨rfl,rfl,rfl,rfl,rfl⟩,k1,k2⟩
   ·have hh':w'.heap[b']? = some (.cells cs'.toArray (cx.el .idx) (0,0)):=hs.ok (.blk b' cs' (cx.el .idx)) (by simp);have hho:w'.heap[m.bl b]? = some (.cells vs.toArray (cx.el .idx) (0,0)):=hs.ok (.blk (m.bl b) vs (cx.el .idx)) (by simp);have hbb:b'≠m.bl b:=by have:=hs.nodup;simpa[Sx.fps,Sx.Ent.fp] using this
    have hg1:w.heap.size<=b':=by
     rcases hs.own b' (by simp[Sx.fps,Sx.Ent.fp]) with h1|h1
     ·exact absurd (by simpa[Sx.fps,Sx.Ent.fp] using h1) hbb
     ·exact h1
    have hch:Chg B9 w w' :=.of_blocks hsc.os hsc.tape hsc.output hsc.size λk hk=>by
     by_cases hkb:k=m.bl b
     ·rw[hkb,hho,hh1]
     ·exact hsc.block k hk (by simpa using hkb)
    obtain⟨m',k1,k2⟩:=Bg5 (b:=b) (c :=.idx) (xs':=xs.take i++y::xs.drop i) hr hch hg1 hh' (cap:=cap') hcl (by rw[hnl];show Ba _ _ _ (cs'.take ((xs.length+1)*2));rw[htk];exact hnew) (by rw[hnl];exact hroom) hcm';rw[hnl] at k2;exact⟨_,rfl,_,_,m',hK,⟨rfl,rfl,rfl,rfl,rfl⟩,k1,k2⟩
  ·cases hc
 ·rename_i i y tk;obtain⟨hk,hK⟩:=A0 hc;simp at hk;subst hk;refine⟨h.enters,λm a as_ w vs hr hargs =>?_⟩;simp only[Reps] at hargs;obtain⟨v1,_,rfl,⟨_,_,ad,rfl⟩,v2,_,rfl,⟨rfl,_⟩,v3,_,rfl,⟨hrf,_⟩,rfl⟩:=hargs;obtain⟨vb,vo,vc,us,rfl,hrow3,hul,hu1,hucell⟩:=An6 hrf;refine((h.con0 ad vb vo vc us hul hu1).run w [] (Amz λw' hb j v hj =>?_)).mono ?_
  ·have hcv:=hucell j v hj;rw[World.cell?_of_block (a:=⟨vb,vo+j,none⟩) (hb vb (Aa6 hcv))];exact hcv
  ·rintro en w' ⟨u,L',F',rfl,⟨b',cap',cs',rfl,hroom,hcm',rfl,hcl,htk⟩,hs⟩;have hch:Chg B9 w w':=S8 (by simpa[Sx.fps] using hs.chg);have hh':w'.heap[b']? = some (.cells cs'.toArray (cx.el .idx) (0,0)):=hs.ok (.blk b' cs' (cx.el .idx)) (by simp);have hg1:w.heap.size<=b':=by
    rcases hs.own b' (by simp[Sx.fps,Sx.Ent.fp]) with h1|h1
    ·cases h1
    ·exact h1
   have nx:Nx (vx cx m (fs st) w) (vx cx m (fs st) w'):=⟨hch.mono (λ_ _ h=>h.elim),λb i hi =>.inl hi,rfl,λ_ _=>rfl,Zn1 _,Zn1 _,λt _ ha=>⟨ha,rfl,λg o hg=>hch.block g (hr.own_t ha hg) (λ_ h=>h)⟩⟩;refine⟨_,rfl,_,st,m,hK,⟨rfl,rfl,rfl,rfl,rfl⟩,hr.quiet hch,?_⟩;simp[Gw];refine⟨Alg (x:=vx cx m (fs st) w') (hrow3.later nx) ⟨hroom,hcm'⟩ (λj z hj =>?_) (λi _=>Apt hr hg1 i),trivial⟩;show w'.cell? _=_;simp[World.cell?,hh'];rw[<-htk,List.getElem?_take] at hj;split at hj
   ·simpa using hj
   ·cases hj
 ·cases hc
end
section
variable {R:Type}{P:Program}{el:Ck->TypeId}{gl:Nat->Option Gv}{tt:Nat->Ty}{cx:Cx}
theorem cCl(H:Hx P el gl tt cx){g:Nat}{c:Ck}(h:ClOk P g (el c) (csz c))(h0:Ajk P g):Gt (R:=R) cx g (V1 c):=λ_ _ _ _ hc=>Bbm (by rw[H.p,H.e];exact h) (by rw[H.p];exact h0) hc
theorem Bxe(H:Hx P el gl tt cx){g:Nat}{c:Ck}(h:ClOk P g (el c) (csz c))(h0:Ajk P g):Fb (R:=R) cx g (Af1 c):=A1c (by rw[H.p,H.e];exact h) (by rw[H.p];exact h0)
theorem Bw7(H:Hx P el gl tt cx){g:Nat}(h:InsOk P g (el .idx)):Gt (R:=R) cx g Agj:=λ_ _ _ _ hc=>A25 (by rw[H.p,H.e];exact h) hc
end
end Go.Ax
namespace Go.Sx
open Go.RowKit
section
variable {cx:Cx}{k:List KI}{e:Env}{L:Loc}{F:World->Prop}{Q:Exit->Act->World->Prop}{ops:Array Oper}{l:List Oper}{w:World}
theorem StOk.swap{x y:Ent}(h:StOk cx (x::L) F w)(hfp:y.fp=x.fp)(hok:y.ok w):StOk cx (y::L) F w:=by
 have he:fps (y::L)=fps (x::L):=by simp[fps,hfp]
 refine⟨h.chg,?_,by rw[he];exact h.nodup,by rw[he];exact h.own,h.away,by rw[he];exact h.rob⟩;intro z hz;simp at hz;rcases hz with rfl|hz
 ·exact hok
 ·exact h.ok z (Zu1 _ hz)
theorem StOk.blkrow{b:Nat}{u:TypeId}(sz:Nat)(h:StOk cx (.blk b [] u::L) F w):StOk cx (.row (.slice (some ⟨b,0,none⟩) 0 0) u sz 0 []::L) F w :=h.swap rfl ⟨by simp,.inr ⟨b,0, #[],rfl,Nat.zero_le _,h.ok _ Zr1,Zn1 _,Nat.zero_le _,by simp,by simp⟩⟩
theorem J2{b:Nat}{u:TypeId}(sz:Nat)(h:O cx ops l k e (.row (.slice (some ⟨b,0,none⟩) 0 0) u sz 0 []::L) F Q):O cx ops l k e (.blk b [] u::L) F Q :=.mk λa w he hs=>h.run a w he (hs.blkrow sz)
theorem H6{P:Program}{t t':TypeId}{x y:Operand}{a:Option Addr}{n c:Nat}(sz:Nat)(ht:(elSz P t == some sz)=true)(hx:Env.ev e x=some (.slice a n c))(hy:Env.ev e y=some (.slice none 0 0)):Pure P e (.binOp .eql t x y t') (.bool a.isNone):=by obtain⟨u,hu,_⟩:=L3 (n:=sz) (by simpa using ht);refine p_bin hx hy (λw=>rfl) λw =>?_;have:=run_equal_slice_nil (P:=P) w t u a n c hu;simp[binOp,this]
end
theorem Aub{P:Program}(w:World)(dT sT ty elem:TypeId)(i0:TypeInfo)(g o dLen dCap:Nat)(a:Addr)(sLen sCap:Nat)(cur:Array Value)(t:TypeId)(cs:List Value)(hu:P.underlying dT=some (.slice elem))(hi:P.info? elem=some i0)
  (hg:w.heap[g]? = some (.cells cur t (0,0))) (hn:cs.length=Nat.min sLen dLen*i0.size) (hsrc:∀j v,cs[j]? = some v->w.cell? (a.add j)=some v) (hfit:o+cs.length<=cur.size) (h1:∀v∈cs,v.oneCell' = true) :
  (Builtin.copy_ #[dT,sT] ty #[.slice (some ⟨g,o,none⟩) dLen dCap,.slice (some a) sLen sCap]).run P w =
   .ok (goInt (Nat.min sLen dLen)) (w.setRow g (cur.toList.take o++cs++cur.toList.drop (o+cs.length)).toArray):=by
 have hl:=run_firstCells_some (P:=P) w i0.size (Nat.min sLen dLen) a sLen sCap cs hn hsrc;have hst:=run_storeCells_at P g o t cs 0 cur w hg (by simpa using hfit) h1;simp at hst;simp[Builtin.copy_,run_underlying hu,Builtin.lenOf,sizeOf,typeInfo,hi,hl,hst]
section
variable {cx:Cx}{k:List KI}{e:Env}{L:Loc}{F:World->Prop}{Q:Exit->Act->World->Prop}{ops:Array Oper}{rest:List Oper}
def Zz(cx:Cx)(L:Loc)(F:World->Prop)(b off:Nat)(zs:List Value):Prop:=∀w,StOk cx L F w->∀(j:Nat) v,zs[j]? = some v->w.cell? ⟨b,off+j,none⟩=some v
theorem Ao5{b off n:Nat}{cs:List Value}{t:TypeId}(i:Nat)(hi:L[i]? = some (.blk b cs t)):Zz cx L F b off ((cs.drop off).take n):=λw hs j v hj=>by
 refine Ahe (hs.ok _ (List.mem_of_getElem? hi)) ?_;rw[List.getElem?_take] at hj;split at hj
 ·grind
 ·cases hj
theorem Bql(w:World)(g:Nat)(cs:Array Value):Chg [g] w (w.setRow g cs) :=⟨rfl,rfl,rfl,by simp,λk _ hn=>setRow_other w g k cs (by simpa using hn)⟩
theorem StOk.setRow{w:World}{g:Nat}{cs cs':List Value}{t:TypeId}(h:StOk cx L F w)(i:Nat)(hi:L[i]? = some (.blk g cs t)):StOk cx (L.set i (.blk g cs' t)) F (w.setRow g cs'.toArray) :=h.updAt i hi (Bql w g _) (setRow_heap w g _ _ t (0,0) (h.ok _ (List.mem_of_getElem? hi))) (by simp[Ent.fp]) (λb hb =>.inl hb)
theorem Au1{dst:Nat}{d s:Operand}{t t' ty u u':TypeId}{pos:String}{after:Array Edge}{g':Option (Nat×Bool)}{g o dl dc b off sl sc sz by_:Nat}{cs zs:List Value}(i:Nat)(hg:Gd ops e g' = some true)(hd:Nat.blt dst cx.n=true)(hT:ElTy cx.P t u sz by_)
  (hx:Env.ev e d=some (.slice (some ⟨g,o,none⟩) dl dc)) (hy:Env.ev e s=some (.slice (some ⟨b,off,none⟩) sl sc)) (hi:L[i]? = some (.blk g cs u')) (hsrc:Zz cx L F b off zs) (hl:zs.length=Nat.min sl dl*sz) (hfit:o+zs.length<=cs.length) (h1:∀v,v∈zs->one v=true)
  (h:O cx ops rest k ((dst,goInt (Nat.min sl dl))::e) (L.set i (.blk g (cs.take o++zs++cs.drop (o+zs.length)) u')) F Q) :
  O cx ops (⟨some dst,.call ⟨.builtin .copy, #[d,s], #[t,t']⟩,ty,pos,after,g'⟩::rest) k e L F Q:=by
 refine Vb (λr L' F'=>r=goInt (Nat.min sl dl)/\L' = L.set i (.blk g (cs.take o++zs++cs.drop (o+zs.length)) u')/\F' = F) hg hd (λa w he hst =>?_) (λr L' F' ⟨hr,hL,hF⟩=>by rw[hr,hL,hF];exact h);obtain⟨hu,i0,z,hi0,hz,hsz,hby,hzs,hpos⟩:=hT;have hgh:w.heap[g]? = some (.cells cs.toArray u' (0,0)):=hst.ok _ (List.mem_of_getElem? hi);have hrun:=Aub (P:=cx.P) w t t' ty u i0 g o dl dc ⟨b,off,none⟩ sl sc cs.toArray u' zs hu hi0 hgh (by rw[hsz];exact hl) (λj v hj=>by rw[add_mk];exact hsrc w hst j v hj) (by simpa using hfit) (λv hv=>one_oneCell (h1 v hv));refine⟨_,_,_,F,?_,hst.setRow (cs':=cs.take o++zs++cs.drop (o+zs.length)) i hi,rfl,rfl,rfl⟩;simp[execOp,resolve,invoke,builtin,he.ev hx,he.ev hy,hrun]
theorem Bch{dst:Nat}{d s:Operand}{t ty u u':TypeId}{pos:String}{after:Array Edge}{g':Option (Nat×Bool)}{g n cap b off m sc sz by_:Nat}{cs zs:List Value}(i:Nat)(hg:Gd ops e g' = some true)(hd:Nat.blt dst cx.n=true)(hT:ElTy cx.P t u sz by_)
  (hx:Env.ev e d=some (.slice (some ⟨g,0,none⟩) n cap)) (hy:Env.ev e s=some (.slice (some ⟨b,off,none⟩) m sc)) (hi:L[i]? = some (.blk g cs u)) (hsrc:Zz cx L F b off zs) (hl:zs.length=m*sz) (hroom:n+m<=cap) (hfit:n*sz+zs.length<=cs.length) (h1:∀v,v∈zs->one v=true) (_hu':u' = u)
  (h:O cx ops rest k ((dst,.slice (some ⟨g,0,none⟩) (n+m) cap)::e) (L.set i (.blk g (cs.take (n*sz)++zs++cs.drop (n*sz+zs.length)) u)) F Q) :
  O cx ops (⟨some dst,.call ⟨.builtin .append, #[d,s], #[t,t]⟩,ty,pos,after,g'⟩::rest) k e L F Q:=by
 refine Vb (λr L' F'=>r = .slice (some ⟨g,0,none⟩) (n+m) cap/\L' = L.set i (.blk g (cs.take (n*sz)++zs++cs.drop (n*sz+zs.length)) u)/\F' = F) hg hd (λa w he hst =>?_) (λr L' F' ⟨hr,hL,hF⟩=>by rw[hr,hL,hF];exact h);obtain⟨hu,i0,z,hi0,hz,hsz,hby,hzs,hpos⟩:=hT;have hgh:w.heap[g]? = some (.cells cs.toArray u (0,0)):=hst.ok _ (List.mem_of_getElem? hi);have hrun:=run_append_room (P:=cx.P) w t ty u i0 hu hi0 g n cap cs.toArray hgh ⟨b,off,none⟩ m sc zs (by rw[hsz];exact hl) (λj v hj=>by rw[add_mk];exact hsrc w hst j v hj) (λv hv=>one_oneCell (h1 v hv)) hroom (by rw[hsz];simpa using hfit);rw[hsz] at hrun;refine⟨_,_,_,F,?_,hst.setRow (cs':=cs.take (n*sz)++zs++cs.drop (n*sz+zs.length)) i hi,rfl,rfl,rfl⟩;simp[execOp,resolve,invoke,builtin,he.ev hx,he.ev hy,hrun]
theorem A9t{dst:Nat}{d s:Operand}{t ty u u':TypeId}{pos:String}{after:Array Edge}{g':Option (Nat×Bool)}{g n cap b off m sc sz by_:Nat}{cs zs:List Value}(i:Nat)(hg:Gd ops e g' = some true)(hd:Nat.blt dst cx.n=true)(hT:ElTy cx.P t u sz by_)
  (hx:Env.ev e d=some (.slice (some ⟨g,0,none⟩) n cap)) (hy:Env.ev e s=some (.slice (some ⟨b,off,none⟩) m sc)) (hi:L[i]? = some (.blk g cs u')) (hsrc:Zz cx L F b off zs) (hl:zs.length=m*sz) (hn:n*sz<=cs.length) (hroom:cap<n+m) (h63:n+m<=maxLen) (hbig:(n+m)*by_<=140737488355328)
  (h:∀b' q tl,n+m<=q->q<=maxLen->tl.length=(q-(n+m))*sz->O cx ops rest k ((dst,.slice (some ⟨b',0,none⟩) (n+m) q)::e) (.blk b' (cs.take (n*sz)++zs++tl) u::L) F Q) :
  O cx ops (⟨some dst,.call ⟨.builtin .append, #[d,s], #[t,t]⟩,ty,pos,after,g'⟩::rest) k e L F Q:=by
 refine Vb (λr L' F'=>∃b' q tl,n+m<=q/\q<=maxLen/\tl.length=(q-(n+m))*sz/\r = .slice (some ⟨b',0,none⟩) (n+m) q/\L' = .blk b' (cs.take (n*sz)++zs++tl) u::L/\F' = F) hg hd (λa w he hst =>?_) (λr L' F' ⟨b',q,tl,a1,a2,a3,hr,hL,hF⟩=>by rw[hr,hL,hF];exact h b' q tl a1 a2 a3);obtain⟨hu,i0,z,hi0,hz,hsz,hby,hzs,hpos⟩:=hT;have hok:(Ent.blk g cs u').ok w:=hst.ok _ (List.mem_of_getElem? hi);have hrun:=run_append_grow (P:=cx.P) w t ty u i0 z hu hi0 hz ⟨g,0,none⟩ n cap (cs.take (n*sz)) (by rw[hsz,List.length_take];exact Nat.min_eq_left hn) (λj v hj=>by
  rw[add_mk,Nat.zero_add];refine Ahe hok ?_;rw[List.getElem?_take] at hj;split at hj
  ·exact hj
  ·cases hj) ⟨b,off,none⟩ m sc zs (by rw[hsz];exact hl) (λj v hj=>by rw[add_mk];exact hsrc w hst j v hj) hroom (by simp[maxLen] at h63;omega) (by rw[hby];exact growslice_fits hroom hbig)
 refine⟨_,_,_,F,?_,(hst.quiet (Chg.drew [] w)).alloc (cs.take (n*sz)++zs++(Builtin.zeroCells z.cells (grownCap w (n+m) cap u-(n+m))).toList) u,w.heap.size,grownCap w (n+m) cap u,_,(grownCap_ge w (n+m) cap u),grownCap_le_maxLen w _ _ _ h63,?_,rfl,rfl,rfl⟩
 ·simp[execOp,resolve,invoke,builtin,he.ev hx,he.ev hy,hrun];congr 3;apply Array.ext';simp
 ·simp[Builtin.zeroCells,hzs]
theorem A23{dst:Nat}{d s:Operand}{t ty u:TypeId}{pos:String}{after:Array Edge}{g':Option (Nat×Bool)}{a0:Option Addr}{b off m sc sz by_:Nat}{zs:List Value}(hg:Gd ops e g' = some true)(hd:Nat.blt dst cx.n=true)(hT:ElTy cx.P t u sz by_)
  (hx:Env.ev e d=some (.slice a0 0 0)) (hy:Env.ev e s=some (.slice (some ⟨b,off,none⟩) m sc)) (hsrc:Zz cx L F b off zs) (hl:zs.length=m*sz) (hm : 0<m) (h63:m<=maxLen) (hbig:m*by_<=140737488355328) (h1:∀v,v∈zs->one v=true)
  (h:∀b' q tl,m<=q->q<=maxLen->tl.length=(q-m)*sz->O cx ops rest k ((dst,.slice (some ⟨b',0,none⟩) m q)::e) (.blk b' (zs++tl) u::L) F Q) :
  O cx ops (⟨some dst,.call ⟨.builtin .append, #[d,s], #[t,t]⟩,ty,pos,after,g'⟩::rest) k e L F Q:=by
 refine Vb (λr L' F'=>∃b' q tl,m<=q/\q<=maxLen/\tl.length=(q-m)*sz/\r = .slice (some ⟨b',0,none⟩) m q/\L' = .blk b' (zs++tl) u::L/\F' = F) hg hd (λa w he hst =>?_) (λr L' F' ⟨b',q,tl,a1,a2,a3,hr,hL,hF⟩=>by rw[hr,hL,hF];exact h b' q tl a1 a2 a3);obtain⟨hu,i0,z,hi0,hz,hsz,hby,hzs,hpos⟩:=hT;have hsr:Src cx.P i0.size t (.slice (some ⟨b,off,none⟩) m sc) m zs w:=Src.ofSlice w hu ⟨b,off,none⟩ m sc zs (by rw[hsz];exact hl) (λj v hj=>by rw[add_mk];exact hsrc w hst j v hj) (λv hv=>one_oneCell (h1 v hv));have hold:(Builtin.firstCells i0.size 0 (.slice a0 0 0)).run cx.P w.drew = .ok ([]:List Value).toArray w.drew:=by cases a0 with|none=>exact run_firstCells_none w.drew i0.size 0 0 0|some p=>exact run_firstCells_some w.drew i0.size 0 p 0 0 [] (by simp) (by simp)
 have hrun:=run_append_grow_src (P:=cx.P) w t t ty u i0 z hu hi0 hz a0 0 0 [] hold _ m zs hsr (by omega) (by simp[maxLen] at h63;omega) (by rw[hby];exact growslice_fits (by omega) (by simpa using hbig));rw[Nat.zero_add] at hrun;refine⟨_,_,_,F,?_,(hst.quiet (Chg.drew [] w)).alloc (zs++(Builtin.zeroCells z.cells (grownCap w m 0 u-m)).toList) u,w.heap.size,grownCap w m 0 u,_,(grownCap_ge w m 0 u),grownCap_le_maxLen w _ _ _ h63,?_,rfl,rfl,rfl⟩
 ·simp[execOp,resolve,invoke,builtin,he.ev hx,he.ev hy,hrun];congr 3;apply Array.ext';simp
 ·simp[Builtin.zeroCells,hzs]
theorem Ab0{P:Program}{x y:Operand}{t u:TypeId}{sz by_:Nat}{g c:Nat}{ad:Option Addr}(hT:ElTy P t u sz by_)(hx:Env.ev e x=some (.slice (some ⟨g,0,none⟩) 0 0))(hy:Env.ev e y=some (.slice ad 0 c)):Pure P e (.call ⟨.builtin .append, #[x,y], #[t,t]⟩) (.slice (some ⟨g,0,none⟩) 0 0):=λn a w o he ho=>by
 obtain⟨hu,i0,z,hi0,hz,hsz,hby,hzs,hpos⟩:=hT;have hr:∀ty,(Builtin.append_ #[t,t] ty #[.slice (some ⟨g,0,none⟩) 0 0,.slice ad 0 c]).run P w = .ok (.slice (some ⟨g,0,none⟩) 0 0) w:=λty=>by cases ad<;>simp[ run_underlying hu,go_sem,sizeOf,typeInfo,hi0,loadCells]
 simp[execOp,ho,resolve,invoke,builtin,he.ev hx,he.ev hy,hr]
theorem A24{dst:Nat}{d s:Operand}{t tn ty u u':TypeId}{kn kq:IntKind}{pos:String}{after:Array Edge}{g':Option (Nat×Bool)}{g n cap sz by_:Nat}{m:Int}{cs:List Value}(i:Nat)(hg:Gd ops e g' = some true)(hd:Nat.blt dst cx.n=true)(hT:ElTy cx.P t u sz by_)(htn:(match cx.P.underlying tn with|some (.int k')=>decide (k' = kn)|_=>false)=true)
  (hx:Env.ev e d=some (.slice (some ⟨g,0,none⟩) n cap)) (hy:Env.ev e s=some (.int kq m)) (hi:L[i]? = some (.blk g cs u')) (hm : 0<m) (hn:n*sz<=cs.length) (hroom:cap<n+m.toNat) (h63:n+m.toNat<=maxLen) (hbig:(n+m.toNat)*by_<=140737488355328)
  (h:∀b' q tl,n+m.toNat<=q->q<=maxLen->tl.length=(q-n)*sz->O cx ops rest k ((dst,.slice (some ⟨b',0,none⟩) (n+m.toNat) q)::e) (.blk b' (cs.take (n*sz)++tl) u::L) F Q) :
  O cx ops (⟨some dst,.call ⟨.builtin .append, #[d,s], #[t,tn]⟩,ty,pos,after,g'⟩::rest) k e L F Q:=by
 obtain⟨j,rfl⟩:∃j:Nat,m=j:=⟨m.toNat,by omega⟩;simp at hroom h63 hbig h;refine Vb (λr L' F'=>∃b' q tl,n+j<=q/\q<=maxLen/\tl.length=(q-n)*sz/\r = .slice (some ⟨b',0,none⟩) (n+j) q/\L' = .blk b' (cs.take (n*sz)++tl) u::L/\F' = F) hg hd (λa w he hst =>?_) (λr L' F' ⟨b',q,tl,a1,a2,a3,hr,hL,hF⟩=>by rw[hr,hL,hF];exact h b' q tl a1 a2 a3);obtain⟨hu,i0,z,hi0,hz,hsz,hby,hzs,hpos⟩:=hT;have htn':cx.P.underlying tn=some (.int kn):=by grind
 have hok:(Ent.blk g cs u').ok w:=hst.ok _ (List.mem_of_getElem? hi);have hold:(Builtin.firstCells i0.size n (.slice (some ⟨g,0,none⟩) n cap)).run cx.P w.drew = .ok (cs.take (n*sz)).toArray w.drew:=run_firstCells_some (P:=cx.P) w.drew i0.size n ⟨g,0,none⟩ n cap (cs.take (n*sz)) (by rw[hsz,List.length_take];exact Nat.min_eq_left hn) (λj v hj=>by
  rw[add_mk,Nat.zero_add];have hc:w.cell? ⟨g,j,none⟩=some v:=by
   refine Ahe hok ?_;rw[List.getElem?_take] at hj;split at hj
   ·exact hj
   ·cases hj
  simpa using hc)
 have hrun:=Lib.run_append_grow_zeros (P:=cx.P) w t tn ty u i0 z kq kn hu htn' hi0 hz (some ⟨g,0,none⟩) n cap (cs.take (n*sz)) hold j (by omega) (by omega) hroom (by simp[maxLen] at h63;omega) (by rw[hby];have:j*by_<=(n+j)*by_:=Nat.mul_le_mul_right _ (by omega);omega) (by rw[hby];exact growslice_fits hroom hbig)
 have hge:=grownCap_ge w (n+j) cap u;refine⟨_,_,_,F,?_,(hst.quiet (Chg.drew [] w)).alloc (cs.take (n*sz)++((Builtin.zeroCells z.cells j).toList++(Builtin.zeroCells z.cells (grownCap w (n+j) cap u-(n+j))).toList)) u,w.heap.size,grownCap w (n+j) cap u,_,hge,grownCap_le_maxLen w _ _ _ h63,?_,rfl,rfl,rfl⟩
 ·simp[execOp,resolve,invoke,builtin,he.ev hx,he.ev hy,hrun];congr 3;apply Array.ext';simp
 ·simp[ Builtin.zeroCells];rw[<-Nat.add_mul];congr 1;omega
theorem Ah8{P:Program}{x:Operand}{t:TypeId}{a:Option Addr}{n c:Nat}(sz:Nat)(ht:(elSz P t == some sz)=true)(hx:Env.ev e x=some (.slice a n c)):Pure P e (.call ⟨.builtin .cap, #[x], #[t]⟩) (.int .i64 c):=λm a' w o he ho=>by obtain⟨u,hu,hs⟩:=L3 (n:=sz) (by simpa using ht);simp[execOp,ho,resolve,invoke,builtin,he.ev hx,Builtin.cap_,run_underlying hu,goInt]
theorem A2z{P:Program}{t:TypeId}{x z:Operand}{a:Option Addr}{n c:Nat}{jk:IntKind}{j:Int}(sz:Nat)(ht:(elSz P t == some sz)=true)(hx:Env.ev e x=some (.slice a n c))(hz:Env.ev e z=some (.int jk j))(h : 0<=j/\j<=n) :
  Pure P e (.slice t x (some z) none none) (.slice (if c=j.toNat then a else a.map (λp=>p.add (j.toNat*sz))) (n-j.toNat) (c-j.toNat)):=λn' a' w o he ho=>by
 obtain⟨u,hu,hs⟩:=L3 (n:=sz) (by simpa using ht);have hr:(Instr.sliceAt t (.slice a n c) (some (.int jk j)) none none).run P w = .ok (.slice (if c=j.toNat then a else a.map (λp=>p.add (j.toNat*sz))) (n-j.toNat) (c-j.toNat)) w:=by simp[Instr.sliceAt,Instr.slice,Sem.run_bind,run_underlying hu,Result.andThen_ok,Instr.sliceBounds,Instr.sliceBound,asIntOf,Sem.run_pure,if_pos h,run_sizeOf hs]
 simp[execOp,ho,Sem.run_bind,he.ev hx,he.ev hz,Zl2,Option.map_none,hr,Result.andThen_ok,Sem.run_pure]
theorem M9{P:Program}{t:TypeId}{x z:Operand}{g off n c:Nat}{jk:IntKind}{j:Int}(sz:Nat)(ht:(elSz P t == some sz)=true)(hx:Env.ev e x=some (.slice (some ⟨g,off,none⟩) n c))(hz:Env.ev e z=some (.int jk j))(h : 0<=j/\j<=n/\j<c) :
  Pure P e (.slice t x (some z) none none) (.slice (some ⟨g,off+j.toNat*sz,none⟩) (n-j.toNat) (c-j.toNat)):=by
 have:=A2z (P:=P) sz ht hx hz ⟨h.1,h.2.1⟩;rw[if_neg (by omega),Zl2,add_mk] at this;exact this
end
end Go.Sx
namespace Go.Ax
theorem Asp{s:Str}{i:Nat}(h:i<s.length):bat s (i:Int)=((s[i]'h).toNat:Int):=by simp[bat,List.getD_eq_getElem?_getD,h]
theorem Al{c:Ck}{xs:List (El c)}{i:Nat}(h:i<xs.length):at' c xs (i:Int)=xs[i]'h:=by simp[at',List.getD_eq_getElem?_getD,h]
theorem Bgb{n:Nat}(h:ln n):wr .i64 (n:Int)=(n:Int):=B3 (by simp only[ln,inI] at *;omega)
theorem An{i n:Nat}(h:i<n)(hn:ln n):wr .i64 ((i:Int)+1)=((i+1:Nat):Int):=by rw[B3 (by simp only[ln,inI] at *;omega)];rfl
theorem Ak{α:Type}{l:List α}{i:Nat}(h:i<l.length):l.drop i=l[i]'h::l.drop (i+1):=List.drop_eq_getElem_cons h
theorem As{i n:Nat}(h:i<n):inb (i:Int) n=true:=by simp[Brm,h]
theorem Ay{V R:Type}{step:(V->Option R)->V->Option R}{k:Nat}{v:V}:Aj step (k+1) v=step (Aj step k) v:=rfl
theorem Af{α:Type}{a b : α}:cond true a b=a:=rfl
theorem Ag{α:Type}{a b : α}:cond false a b=b:=rfl
theorem Az{α:Type}{c:Bool}{a b : α}:cond c (some a) (some b)=some (cond c a b):=by cases c<;>rfl
theorem Aqn{R:Type}{px:Px R}{cx:Cx}{b:Code}(h:∀st K,px.loop b st K=none):Bg cx px b:=λst K r hk=>by rw[h] at hk;cases hk
theorem C9{V R β:Type}{step:(V->Option R)->V->Option R}(n:Nat)(st:Nat->β->V)(Inv:Nat->β->Prop)(F:Nat->β->Option R)
  (hs:∀i,i<n->∀a,Inv i a->∀rec,(∀a',Inv (i+1) a'->rec (st (i+1) a')=F (i+1) a')->step rec (st i a)=F i a)
  (he:∀a,Inv n a->∀rec,step rec (st n a)=F n a):∀(k i:Nat) (a : β),i<=n->n-i<k->Inv i a->Aj step k (st i a)=F i a
 |0,_,_,_,h,_=>absurd h (Zm1 _)
 |k+1,i,a,hi,h,ha=>by
  rw[Ay];by_cases hl:i<n
  ·exact hs i hl a ha _ λa' ha'=>C9 n st Inv F hs he k (i+1) a' (by omega) (by omega) ha'
  ·obtain rfl:i=n:=by omega
   exact he a ha _
theorem A8{V R:Type}{step:(V->Option R)->V->Option R}(n:Nat)(st:Nat->V)(F:Nat->Option R)
  (hs:∀i,i<n->∀rec,rec (st (i+1))=F (i+1)->step rec (st i)=F i) (he:∀rec,step rec (st n)=F n):∀(k i:Nat),i<=n->n-i<k->Aj step k (st i)=F i:=λk i hi hk =>
 C9 n (λi (_:Unit)=>st i) (λ_ _=>True) (λi _=>F i) (λi hi _ _ rec h=>hs i hi rec (h () trivial)) (λ_ _ rec=>he rec) k i () hi hk trivial
theorem Ea{i n:Nat}(h:i<n):decide ((i:Int)<(n:Int))=true:=Ze1 (by omega)
theorem Ee(n:Nat):decide ((n:Int)<(n:Int))=false:=Zd1 (by omega)
def U2(e:Xpr):Xpr:=Xpr.mk e.kind ⟨e.v.kind,e.v.n,e.v.s⟩ e.name e.l
theorem T1(e:Xpr):U2 e=e:=by cases e;rfl
open Go.RowKit
section
variable {R:Type}{px px2:Px R}{cx:Cx}
end
end Go.Ax
namespace Go.Sx
open Go.RowKit
section
variable {cx:Cx}{k:List KI}{e:Env}{L:Loc}{F:World->Prop}{Q:Exit->Act->World->Prop}{ops:Array Oper}{rest:List Oper}
theorem As9{dst:Nat}{d s:Operand}{t tn ty u:TypeId}{kn kq:IntKind}{pos:String}{after:Array Edge}{g':Option (Nat×Bool)}{sz by_:Nat}{m:Int}(hg:Gd ops e g' = some true)(hd:Nat.blt dst cx.n=true)(hT:ElTy cx.P t u sz by_)(htn:(match cx.P.underlying tn with|some (.int k')=>decide (k' = kn)|_=>false)=true)
  (hx:Env.ev e d=some (.slice none 0 0)) (hy:Env.ev e s=some (.int kq m)) (hm : 0<m) (h63:m.toNat<=maxLen) (hbig:m.toNat*by_<=140737488355328)
  (h:∀b' q cs,m.toNat<=q->q<=maxLen->List.length cs=q*sz->O cx ops rest k ((dst,.slice (some ⟨b',0,none⟩) m.toNat q)::e) (.blk b' cs u::L) F Q) :
  O cx ops (⟨some dst,.call ⟨.builtin .append, #[d,s], #[t,tn]⟩,ty,pos,after,g'⟩::rest) k e L F Q:=by
 obtain⟨j,rfl⟩:∃j:Nat,m=j:=⟨m.toNat,by omega⟩;simp at h63 hbig h;refine Vb (λr L' F'=>∃b' q cs,j<=q/\q<=maxLen/\List.length cs=q*sz/\r = .slice (some ⟨b',0,none⟩) j q/\L' = .blk b' cs u::L/\F' = F) hg hd (λa w he hst =>?_) (λr L' F' ⟨b',q,cs,a1,a2,a3,hr,hL,hF⟩=>by rw[hr,hL,hF];exact h b' q cs a1 a2 a3);obtain⟨hu,i0,z,hi0,hz,hsz,hby,hzs,hpos⟩:=hT;have htn':cx.P.underlying tn=some (.int kn):=by grind
 have hold:(Builtin.firstCells i0.size 0 (.slice none 0 0)).run cx.P w.drew = .ok ([]:List Value).toArray w.drew:=by simp[Builtin.firstCells,Sem.run_pure]
 have hrun:=Lib.run_append_grow_zeros (P:=cx.P) w t tn ty u i0 z kq kn hu htn' hi0 hz none 0 0 [] hold j (by omega) (by omega) (by omega) (by simp[maxLen] at h63;omega) (by rw[hby];omega) (by rw[hby];exact growslice_fits (by omega) (by simpa using hbig))
 have hge:=grownCap_ge w (0+j) 0 u;have hq2:=grownCap_le_maxLen w (0+j) 0 u (by simpa using h63);rw[Nat.zero_add] at hge hq2 hrun;refine⟨_,_,_,F,?_,(hst.quiet (Chg.drew [] w)).alloc ((Builtin.zeroCells z.cells j).toList++(Builtin.zeroCells z.cells (grownCap w j 0 u-j)).toList) u,w.heap.size,grownCap w j 0 u,_,hge,hq2,?_,rfl,rfl,rfl⟩
 ·simp[execOp,resolve,invoke,builtin,he.ev hx,he.ev hy,hrun];congr 3;apply Array.ext';simp
 ·simp[Builtin.zeroCells];rw[<-Nat.add_mul];congr 1;omega
end
end Go.Sx
namespace Go.Ax
open Go.RowKit
structure GrOk (P:Program) (f:FuncId) (t:TypeId) (sz:Nat):Prop where
 enters:Sx.Enters P f
 con:∀n:Int,0<n->n<=2000000->Sx.Con P f [.slice none 0 0,.int .i64 n] [] (λ_=>True) (λv L _=>∃b q cs,v = .slice (some ⟨b,0,none⟩) 0 q/\q<=maxLen/\List.length cs=q*sz/\L=[.blk b cs t])
 con0:Sx.Con P f [.slice none 0 0,.int .i64 0] [] (λ_=>True) (λv _ _=>v = .slice none 0 0)
section
variable {R:Type}{cx:Cx}
def Xz(c:Ck)(args:List D)(st:St)(K:List D->St->Option R):Option R:=match args with
 |[.sl c' [] .nil,.int .i64 n]=>match decide (c' = c)&&decide (0<=n)&&decide (n<=2000000) with|true=>K [.sl c' [] (.id st.nt)] (D4 st)|false=>none
 |_=>none
theorem Bsg(st:St):fs (D4 st)={ fs st with al:=λt=>((fs st).al t/\(none:Option Nat)≠some t)\/t=(fs st).nt,nt:=(fs st).nt+1 }:=by refine FS.eq rfl rfl rfl rfl rfl rfl rfl ?_ rfl;funext t;simp[fs,D4];exact or_comm
theorem Bka{g:Nat}{c:Ck}(h:GrOk cx.P g (cx.el c) (csz c)){args:List D}{st:St}{K:List D->St->Option R}{r:R}(hc:Xz c args st K=some r):H4 cx g args st K r:=by
 unfold Xz at hc;split at hc
 ·rename_i c' n;split at hc
  ·rename_i hcc;simp at hcc;obtain⟨⟨rfl,hn0⟩,hn⟩:=hcc;refine⟨h.enters,λm a as_ w vs hr hargs =>?_⟩;simp only[Reps] at hargs;obtain⟨v1,_,rfl,⟨hb1,hb2⟩,v2,_,rfl,hb3,rfl⟩:=hargs;obtain⟨rfl,_⟩:=hb2;simp only[Rep] at hb3;obtain⟨rfl,_⟩:=hb3;obtain rfl|hpos:n=0\/0<n:=by omega
   ·refine(h.con0.run w [] (Amz λ_ _=>trivial)).mono ?_;rintro en w' ⟨u,L',F',rfl,rfl,hs⟩;have hch:Chg B9 w w':=S8 (by simpa[Sx.fps] using hs.chg);obtain⟨hrel,nx⟩:=hr.right (t0:=none) (p:=none) (hch.mono (λ_ _ h=>h.elim)) (λg o hg=>by simp at hg);rw[<-Bsg st] at hrel nx;refine⟨_,rfl,_,_,_,hc,⟨rfl,rfl,rfl,rfl,rfl⟩,hrel,?_⟩;simp[Gw,Rep];exact⟨λ_ _ =>.nil _ _ _ _ trivial,by simp[vx,fs,D4],λ_ =>.inl ⟨rfl,by simp[vx,fs],rfl⟩⟩
   ·refine((h.con n hpos hn).run w [] (Amz λ_ _=>trivial)).mono ?_;rintro en w' ⟨u,L',F',rfl,⟨b,q,cs,rfl,hq,hl,rfl⟩,hs⟩;have hch:Chg B9 w w':=S8 (by simpa[Sx.fps] using hs.chg);have hh:w'.heap[b]? = some (.cells cs.toArray (cx.el c') (0,0)):=hs.ok (.blk b cs (cx.el c')) (by simp);have hbw:w.heap.size<=b:=by
     rcases hs.own b (by simp[Sx.fps,Sx.Ent.fp]) with h1|h1
     ·cases h1
     ·exact h1
    obtain⟨hrel,nx⟩:=hr.right (t0:=none) (p:=some (b,0)) (hch.mono (λ_ _ h=>h.elim)) (λg o hg=>by simp at hg;obtain⟨rfl,rfl⟩:=hg;exact⟨(Zh2.1 hh).1,.inl hbw⟩)
    rw[<-Bsg st] at hrel nx;refine⟨_,rfl,_,_,_,hc,⟨rfl,rfl,rfl,rfl,rfl⟩,hrel,?_⟩;simp[Gw,Rep];exact⟨λ_ _ =>.nil _ _ _ _ trivial,by simp[vx,fs,D4],λ_ =>.inr ⟨b,q,cs.toArray,rfl,by simp[vx,fs],hh,by simpa using hl,by simp,hq⟩⟩
  ·cases hc
 ·cases hc
theorem Ara{P:Program}{el:Ck->TypeId}{gl:Nat->Option Gv}{tt:Nat->Ty}(H:Hx P el gl tt cx){g:Nat}{c:Ck}(h:GrOk P g (el c) (csz c)):Gt (R:=R) cx g (Xz c):=λ_ _ _ _ hc=>Bka (by rw[H.p,H.e];exact h) hc
end
end Go.Ax
namespace Go.Ax
section
variable {R:Type}{cx:Cx}
end
section
variable {R:Type}{P:Program}{el:Ck->TypeId}{gl:Nat->Option Gv}{tt:Nat->Ty}{cx:Cx}
end
open Go.RowKit
section
variable {R:Type}{cx:Cx}
theorem Ao8{k:Nat}{d:D}:∀{ps:List Nat}{ds:List D}{e e':Env},Q6 ps ds e=some e'->get e' k=some d->(∃i,ps[i]? = some k/\ds[i]? = some d/\∀j:Nat,i<j->ps[j]? ≠ some k)\/(k∉ps/\get e k=some d)
 |[],[],e,e',h,hd=>by simp only[Q6,Za1] at h;subst h;exact .inr ⟨by simp,hd⟩
 |p::ps,x::ds,e,e',h,hd=>by
  simp only[Q6] at h;rcases Ao8 h hd with ⟨i,h1,h2,h3⟩|⟨h1,h2⟩
  ·refine .inl ⟨i+1,by simpa using h1,by simpa using h2,λj hj =>?_⟩;cases j with|zero=>omega|succ j=>simpa using h3 j (by omega)
  ·rw[Bd] at h2;by_cases hk:k=p
   ·rw[if_pos hk] at h2;subst hk;refine .inl ⟨0,by simp,by simpa using h2,λj hj =>?_⟩;cases j with|zero=>omega|succ j=>simpa using λh=>h1 (List.mem_of_getElem? h)
   ·rw[if_neg hk] at h2;exact .inr ⟨by simp[hk,h1],h2⟩
 |[],_::_,_,_,h,_=>by simp[Q6] at h
 |_::_,[],_,_,h,_=>by simp[Q6] at h
theorem Aqg:∀{ps:List Nat}{ds:List D}{e e':Env},Q6 ps ds e=some e'->ps.length=ds.length
 |[],[],_,_,_=>rfl
 |p::ps,x::ds,e,e',h=>by simp only[Q6] at h;simp[Aqg h]
 |[],_::_,_,_,h=>by simp[Q6] at h
 |_::_,[],_,_,h=>by simp[Q6] at h
theorem A0c:∀(ps:List Nat) (vs:List Value) (tm:Array Value),ps.length=vs.length->((ps.zip vs).foldl (λt (p:Nat×Value)=>t.setIfInBounds p.1 p.2) tm).size=tm.size/\∀k,(k∉ps->((ps.zip vs).foldl (λt (p:Nat×Value)=>t.setIfInBounds p.1 p.2) tm)[k]? = tm[k]?)/\∀i v,ps[i]? = some k->vs[i]? = some v->(∀j:Nat,i<j->ps[j]? ≠ some k)->k<tm.size->((ps.zip vs).foldl (λt (p:Nat×Value)=>t.setIfInBounds p.1 p.2) tm)[k]? = some v
 |[],[],tm,_=>⟨rfl,λk=>⟨λ_=>rfl,λi v h=>by simp at h⟩⟩
 |p::ps,x::vs,tm,h=>by
  simp only[Zf1,Nat.add_right_cancel_iff] at h;obtain⟨h1,h2⟩:=A0c ps vs (tm.setIfInBounds p x) h;simp only[List.zip_cons_cons,List.foldl_cons];refine⟨by rw[h1];simp,λk=>⟨λhk =>?_,λi v hi hv hj hlt =>?_⟩⟩
  ·simp only[List.mem_cons,not_or] at hk;rw[(h2 k).1 hk.2,Array.getElem?_setIfInBounds_ne (Ne.symm hk.1)]
  ·cases i with
   |zero =>
    simp only[List.getElem?_cons_zero,Za1] at hi hv;subst hi;subst hv;have hn:p∉ps:=λhm=>by obtain⟨j,hj1,hj2⟩:=List.getElem_of_mem hm;exact hj (j+1) (by omega) (by simp[hj1,hj2])
    rw[(h2 p).1 hn];simp[hlt]
   |succ i =>refine(h2 k).2 i v (by simpa using hi) (by simpa using hv) (λj hij =>?_) (by simpa using hlt);have:=hj (j+1) (by omega);simpa using this
 |[],_::_,_,h=>by simp at h
 |_::_,[],_,h=>by simp at h
theorem Reps.at{x:Vx}{i:Nat}{d:D}:∀{ds:List D}{vs:List Value},Reps x ds vs->ds[i]? = some d->∃v,vs[i]? = some v/\Rep x d v
 |[],vs,_,h=>by simp at h
 |e::ds,vs,hr,h=>by simp only[Reps] at hr;obtain⟨u,us,rfl,h1,h2⟩:=hr;cases i with|zero=>simp at h;subst h;exact⟨u,by simp,h1⟩|succ i =>obtain⟨v,h3,h4⟩:=Reps.at (i:=i) h2 (by simpa using h);exact⟨v,by simpa using h3,h4⟩
theorem Rel.setBlk{m:Mp}{a:Act}{as_:List Act}{st:St}{w:World}(h:Rel cx m a as_ (fs st) w){b:Nat}{k0 k:Blk}{o o':Obj}(hb:blk st.bl b=some k0)(ho:w.heap[m.bl b]? = some o)(hc:∀cs t f,o ≠ .cells cs t f)(hk:∀x',Nx (vx cx m (fs st) w) x'->x'.w=w.putObj (m.bl b) o'->F6 x' (m.bl b) k):Rel cx m a as_ (fs { st with bl:=Dd st.bl b k }) (w.putObj (m.bl b) o'):=by
 have h1:=h.write (k:=k) (b:=b) hb (w':=w.putObj (m.bl b) o') (Chg.putObj (λ_=>rfl) ho hc) hk;have e:fs { st with bl:=Dd st.bl b k }={ fs st with bl:=λc=>if c=b then some k else(fs st).bl c }:=by refine FS.eq rfl rfl rfl rfl rfl ?_ rfl rfl rfl;funext c;simp[fs,Eo,hb]
 rw[e];exact h1
theorem Rel.pinned{m:Mp}{a:Act}{as_:List Act}{st:St}{w:World}{g b nb nt:Nat}{fr:List Fr}(h:Rel cx m a ({ tmps := #[.pointer (some ⟨g,0,none⟩)],defers:=[] }::as_) (fs st) w)(hf:st.fr=⟨1,[(0,.ptr b 0)],nb,nt,[]⟩::fr):m.bl b=g:=by have hfrs:=h.frs;rw[show(fs st).fr=⟨1,[(0,.ptr b 0)],nb,nt,[]⟩::fr from hf] at hfrs;obtain⟨a0,r0,he,_,_,h1,_⟩:=hfrs;simp only[Ze2] at he;obtain⟨rfl,rfl⟩:=he;obtain⟨v,v1,v2⟩:=h1.get 0 (.ptr b 0) rfl;simp only[Rep] at v2;obtain⟨_,v2⟩:=v2;simp at v1;rw[<-v1] at v2;simp at v2;exact v2.symm
theorem Awn{pc:Px R}(hp:PxOk cx pc)(hcl:Ci cx pc)(hcq:CallQOk cx pc)(hm:cx.P.follows .mixedOrders=true){P:Code->Code->Nat->Prop}(hP:∀asg body n,P asg body n->Bm n asg=true/\Bm n body=true/\(∀l,Bp (some l) asg=true/\Bp (some l) body=true)/\(∀b,b∈A4 asg->Bg cx pc b)/\∀b,b∈A4 body->Bg cx pc b){b:Nat}{ds:List D}{st:St}{K:D->St->Option R}{r:R}(hblk:∀s n ps asg body env,blk st.bl b=some (.lr s n ps asg body env)->P asg body n)(h:A8b pc b ds st K=some r)(m:Mp)(a:Act)(as_:List Act)(w:World)(vs:List Value)(hr:Rel cx m a as_ (fs st) w)(hvs:Reps (vx cx m (fs st) w) ds vs) :
  ∃fn tmps asg body,(Instr.yield (m.bl b) vs.toArray).run cx.P w = .ok (.round (m.bl b) fn tmps asg body) w/\RoundIn Fence.wide 0 cx.P (m.bl b) fn tmps asg body w λen w'=>∃v,en = .returned v/\∃d st' m',K d st' = some r/\Acm st st'/\Rel cx m' a as_ (fs st') w'/\Rep (vx cx m' (fs st') w') d v:=by
 unfold A8b at h;split at h
 ·rename_i n ps asg body env hb;obtain⟨c1,c2,c3,c4,c5⟩:=hP _ _ _ (hblk _ _ _ _ _ _ hb);split at h
  ·rename_i env' hps hall;obtain⟨rc,g1,g2,g3,g4,g5,g6⟩:=(hr.blks b _ hb).2;obtain⟨q1,q2⟩:=g6 rfl;have hlen:=Aqg hps;have hvl:=hvs.len;have g1:w.heap[m.bl b]? = some (.loop rc):=g1;refine⟨_,_,_,_,run_yield g1 (by rw[g2];simp;omega),?_⟩;have hfold:((rc.params.zip vs.toArray).foldl (λtmps (x:Tmp×Value)=>tmps.setIfInBounds x.1 x.2) rc.tmps)=((ps.zip vs).foldl (λt (p:Nat×Value)=>t.setIfInBounds p.1 p.2) rc.tmps):=by rw[g2];simp
   obtain⟨f1,f2⟩:=A0c ps vs rc.tmps (by omega);have hsz:rc.tmps.size=n:=g5.size;have hbn:b<st.nb:=(hr.blks b _ hb).1;have hrel:Rel cx m { tmps:=(ps.zip vs).foldl (λt (p:Nat×Value)=>t.setIfInBounds p.1 p.2) rc.tmps,defers:=[] } ({ tmps := #[.pointer (some ⟨m.bl b,0,none⟩)],defers:=[] }::a::as_) (fs { st with n:=n,env:=env',lb:=st.nb,lt:=st.nt,fr:=⟨1,[(0,.ptr b 0)],st.nb,st.nt,[]⟩::⟨st.n,st.env,st.lb,st.lt,st.df⟩::st.fr,df:=[] }) w:=by
    refine⟨hr.chg,⟨rfl,by rw[f1];exact hsz,λk d hk =>?_⟩,⟨_,_,rfl,Zn1 _,Zn1 _,⟨rfl,rfl,λk d hk =>?_⟩,⟨a,as_,rfl,hr.lb,hr.lt,hr.env,hr.frs⟩⟩,Zn1 _,Zn1 _,hr.blks,hr.als,hr.inj,hr.injt,hr.injbt,hr.own,hr.away,hr.glb⟩
    rotate_left
    ·rw[Bd] at hk;split at hk
     ·rename_i hk0;simp only[Za1] at hk;subst hk;subst hk0;exact⟨_,rfl,by simp only[Rep];exact⟨hbn,rfl⟩⟩
     ·simp[get] at hk
    rcases Ao8 hps hk with ⟨i,i1,i2,i3⟩|⟨i1,i2⟩
    ·obtain⟨v,v1,v2⟩:=Reps.at hvs i2;have hlt:k<rc.tmps.size:=by have:=Zg2.1 hall k (List.mem_of_getElem? i1);rw[hsz];simpa[Nat.blt_eq] using this
     exact⟨v,(f2 k).2 i v i1 v1 i3 hlt,v2⟩
    ·obtain⟨v,v1,v2⟩:=g5.get k d i2;exact⟨v,by rw[(f2 k).1 i1];exact v1,v2⟩
   rw[hfold,g3,g4];refine roundIn_of_wpIn (F:=Fence.wide) trivial (Dy (ro:=some (m.bl b)) hp hcl hcq hm asg _ _ r c1 (c3 _).1 c4 h _ m _ _ w hrel ?_);intro e st1 m1 a1 w1 hk1 hs1 hrel1;split at hk1
   ·rename_i n1 ps1 asg1 body1 env1 hb1;have e1:m1.bl b=m.bl b:=hrel1.pinned hs1.2;obtain⟨rc1,k1,k2,k3,k4,k5,k6⟩:=(hrel1.blks b _ hb1).2;have k1:w1.heap[m1.bl b]? = some (.loop rc1):=k1;obtain⟨q3,q4⟩:=k6 rfl;refine⟨_,run_beginRound (by rw[<-e1];exact k1) q3,?_⟩;rw[<-e1];have hrel2:=hrel1.setBlk (k :=.lr 1 n1 ps1 asg1 body1 env1) (o' :=.loop { rc1 with state :=.busy }) hb1 k1 (by simp) (λx' hx hw=>⟨{ rc1 with state :=.busy },by rw[hw];exact World.putObj_heap_same (Zh2.1 k1).1,k2,k3,k4,k5.later hx,nofun⟩);have hn1:st1.n=n:=hs1.1;refine Dy (ro:=some (m1.bl b)) hp hcl hcq hm body _ _ r (by rw[show(St.mk st1.n st1.env st1.lb st1.lt st1.fr (Dd st1.bl b (.lr 1 n1 ps1 asg1 body1 env1)) st1.nb st1.tk st1.nt st1.df).n=n from hn1];exact c2) (c3 _).2 c5 hk1 _ m1 _ _ _ hrel2 ?_;intro e2 st2 m2 a2 w2 hk2 hs2 hrel3;have hfr2:st2.fr=⟨1,[(0,.ptr b 0)],st.nb,st.nt,[]⟩::⟨st.n,st.env,st.lb,st.lt,st.df⟩::st.fr:=hs2.2.trans hs1.2;have e2':m2.bl b=m1.bl b:=(hrel3.pinned hfr2).trans e1.symm;split at hk2
    ·rename_i pin f fr n2 ps2 asg2 body2 env2 hdf hfr hb2;rw[hfr2] at hfr;simp only[Ze2] at hfr;obtain⟨rfl,rfl,rfl⟩:=hfr;obtain⟨rc2,j1,j2,j3,j4,j5,_⟩:=(hrel3.blks b _ hb2).2;have j1:w2.heap[m2.bl b]? = some (.loop rc2):=j1;have fin:∀(kb:Blk) (o':Obj),(∀x',Nx (vx cx m2 (fs st2) w2) x'->x'.w=w2.putObj (m2.bl b) o'->F6 x' (m2.bl b) kb)->Rel cx m2 a as_ (fs { st2 with n:=st.n,env:=st.env,lb:=st.lb,lt:=st.lt,fr:=st.fr,df:=st.df,bl:=Dd st2.bl b kb }) (w2.putObj (m2.bl b) o'):=λkb o' hkb=>by have h9:=hrel3.setBlk (k:=kb) (o':=o') hb2 j1 (by simp) hkb;have hfrs:=h9.frs;rw[show(fs { st2 with bl:=Dd st2.bl b kb }).fr=⟨1,[(0,.ptr b 0)],st.nb,st.nt,[]⟩::⟨st.n,st.env,st.lb,st.lt,st.df⟩::st.fr from hfr2] at hfrs;obtain⟨a0,r0,he0,p1,p2,_,⟨a3,r3,he3,p3,p4,p5,p6⟩⟩:=hfrs;simp only[Ze2] at he0;obtain⟨_,rfl⟩:=he0;simp only[Ze2] at he3;obtain⟨rfl,rfl⟩:=he3;have l1:st.nb<=st2.nb:=Nat.le_trans p1 h9.lb;have l2:st.nt<=st2.nt:=Nat.le_trans p2 h9.lt;have hx:Nx { vx cx m2 (fs { st2 with bl:=Dd st2.bl b kb }) (w2.putObj (m2.bl b) o') with nb:=st.nb,nt:=st.nt } (vx cx m2 (fs { st2 with bl:=Dd st2.bl b kb }) (w2.putObj (m2.bl b) o')):=⟨Chg.refl _ _,λ_ _ h =>.inl h,rfl,λ_ _=>rfl,l1,l2,λt _ ha=>⟨ha,rfl,λ_ _ _=>rfl⟩⟩;exact⟨h9.chg,p5.later hx,p6,Nat.le_trans p3 l1,Nat.le_trans p4 l2,h9.blks,h9.als,h9.inj,h9.injt,h9.injbt,h9.own,h9.away,h9.glb⟩
     split at hk2
     ·refine⟨_,_,run_endRound none (by rw[<-e2'];exact j1),_,rfl,_,_,m2,hk2,⟨rfl,rfl,rfl,rfl,rfl⟩,?_,by simp[Rep]⟩;rw[<-e2'];exact fin _ _ λx' hx hw=>⟨{ rc2 with state :=.ready,pending:=none },by rw[hw];exact World.putObj_heap_same (Zh2.1 j1).1,j2,j3,j4,j5.later hx,λ_=>⟨rfl,rfl⟩⟩
     ·rename_i hne;have hjump:∀c,Nm e2=Nm e2->c=A20 e2->∃v w',(Instr.endRound (m1.bl b) (some c)).run cx.P w2 = .ok v w'/\∃u,Ending.returned v = .returned u/\∃d st' m',K d st' = some r/\Acm st st'/\Rel cx m' a as_ (fs st') w'/\Rep (vx cx m' (fs st') w') d u:=λc _ hc=>by refine⟨_,_,run_endRound (some c) (by rw[<-e2'];exact j1),_,rfl,_,_,m2,hk2,⟨rfl,rfl,rfl,rfl,rfl⟩,?_,by simp[Rep]⟩;rw[<-e2'];exact fin _ _ λx' hx hw=>⟨{ rc2 with state :=.done,pending:=some c },by rw[hw];exact World.putObj_heap_same (Zh2.1 j1).1,rfl,by rw[hc]⟩
      cases e2 with|normal=>exact absurd rfl hne|exit id=>exact hjump _ rfl rfl|ret=>exact hjump _ rfl rfl
    ·cases hk2
   ·cases hk1
  ·cases h
 ·cases h
theorem Rel.relab{m:Mp}{a:Act}{as_:List Act}{st:St}{w:World}(h:Rel cx m a as_ (fs st) w){b:Nat}{k0 k:Blk}(hb:blk st.bl b=some k0)(hk:F6 (vx cx m (fs st) w) (m.bl b) k):Rel cx m a as_ (fs { st with bl:=Dd st.bl b k }) w:=by
 have h1:=h.write (k:=k) (b:=b) hb (w':=w) (Chg.refl _ _) (λx' hx hw=>hk.later hx (by rw[hw];rfl));have e:fs { st with bl:=Dd st.bl b k }={ fs st with bl:=λc=>if c=b then some k else(fs st).bl c }:=by refine FS.eq rfl rfl rfl rfl rfl ?_ rfl rfl rfl;funext c;simp[fs,Eo,hb]
 rw[e];exact h1
theorem A0b{pc:Px R}(hp:PxOk cx pc)(hcl:Ci cx pc)(hcq:CallQOk cx pc)(hm:cx.P.follows .mixedOrders=true){P:Code->Code->Nat->Prop}(hP:∀asg body n,P asg body n->Bm n asg=true/\Bm n body=true/\(∀l,Bp (some l) asg=true/\Bp (some l) body=true)/\(∀b,b∈A4 asg->Bg cx pc b)/\∀b,b∈A4 body->Bg cx pc b){b:Nat}{ds:List D}{st:St}{K:D->St->Option R}{r:R}(hblk:∀s n ps asg body env,blk st.bl b=some (.lr s n ps asg body env)->P asg body n)(hblx:∀j n ps asg body env q,blk st.bl b=some (.lx j n ps asg body env q)->P asg body n)(h:A72 pc b ds st K=some r)(m:Mp)(a:Act)(as_:List Act)(w:World)(vs:List Value)(hr:Rel cx m a as_ (fs st) w)(hvs:Reps (vx cx m (fs st) w) ds vs) :
  ∃fn tmps asg body,(Instr.yield (m.bl b) vs.toArray).run cx.P w = .ok (.round (m.bl b) fn tmps asg body) w/\RoundIn Fence.wide 0 cx.P (m.bl b) fn tmps asg body w λen w'=>∃v,en = .returned v/\∃d st' m',K d st' = some r/\Acm st st'/\Rel cx m' a as_ (fs st') w'/\Rep (vx cx m' (fs st') w') d v:=by
 unfold A72 at h;split at h
 ·rename_i j n ps asg body env q hb;obtain⟨h0,h⟩:=A0 h;have h0:=of_decide_eq_true h0;obtain⟨rc,g1,g2,g3,g4,g5,g6⟩:=(hr.blks b _ hb).2.2.1 h0;have hr':=hr.relab hb (k :=.lr 0 n ps asg body env) ⟨rc,g1,g2,g3,g4,g5,λ_=>g6⟩;have hb':blk (Dd st.bl b (.lr 0 n ps asg body env)) b=some (.lr 0 n ps asg body env):=by simp[Eo,hb]
  refine Awn hp hcl hcq hm hP (λs n1 ps1 asg1 body1 env1 h1 =>?_) h m a as_ w vs hr' ?_
  ·simp only at h1;rw[hb'] at h1;simp only[Za1,Blk.lr.injEq] at h1;obtain⟨rfl,rfl,rfl,rfl,rfl,rfl⟩:=h1;exact hblx _ _ _ _ _ _ _ hb
  ·refine Reps.later ?_ _ _ hvs;exact⟨Chg.refl _ _,λc i hi =>.inl (by
    rcases hi with hM|⟨p,hp',rfl⟩|hh
    ·exact .inl hM
    ·refine .inr (.inl ⟨p,λe =>?_,rfl⟩);have e:blk st.bl p=none:=e;by_cases hpb:p=b
     ·subst hpb;rw[hb] at e;cases e
     ·apply hp';show blk (Dd st.bl b _) p=none;simp[Eo,hpb,e]
    ·exact .inr (.inr hh)),rfl,λ_ _=>rfl,Zn1 _,Zn1 _,λt _ ha=>⟨ha,rfl,λ_ _ _=>rfl⟩⟩
 ·exact Awn hp hcl hcq hm hP hblk h m a as_ w vs hr hvs
theorem Fo(l:Nat):∀c:Code,Bp (some l) c=Bp (some 0) c
 |.region _ os _=>by
  have h:∀o,Afq (some l) o=Afq (some 0) o:=λo=>by unfold Afq;cases o.op<;>rfl
  simp only[Bp,h]
 |.seq a b=>by simp only[Bp,Fo l a,Fo l b]
 |.cond _ a b=>by simp only[Bp,Fo l a,Fo l b]
 |.block _ b=>by simp only[Bp,Fo l b]
 |.loop _|.scope _|.rangeFunc _ _ _ _|.skip|.ret|.exit _|.label _|.goto _|.refuse _=>by simp only[Bp]
theorem Dq:∀c:Code,Bp (some 0) c=true->A4 c=[]
 |.seq a b,h=>by simp only[Bp,Zb1] at h;simp[A4,Dq a h.1,Dq b h.2]
 |.cond _ a b,h=>by simp only[Bp,Zb1] at h;simp[A4,Dq a h.1,Dq b h.2]
 |.block _ b,h=>by simp only[Bp] at h;simp[A4,Dq b h]
 |.loop _,h|.scope _,h|.rangeFunc _ _ _ _,h=>by cases h
 |.region _ _ _,_|.skip,_|.ret,_|.exit _,_|.label _,_|.goto _,_|.refuse _,_=>rfl
def Asq(pc:Px R)(b:Nat)(ds:List D)(st:St)(K:D->St->Option R):Option R:=match blk st.bl b with
 |some (.lr _ n _ asg body _)=>match Bm n asg&&Bm n body&&Bp (some 0) asg&&Bp (some 0) body with|true=>A72 pc b ds st K|false=>none
 |some (.lx _ n _ asg body _ _)=>match Bm n asg&&Bm n body&&Bp (some 0) asg&&Bp (some 0) body with|true=>A72 pc b ds st K|false=>none
 |_=>none
theorem Aqv{px pc:Px R}(hp:PxOk cx pc)(hcl:Ci cx pc)(hcq:CallQOk cx pc)(hm:cx.P.follows .mixedOrders=true)(hy:px.yld=Asq pc):Bnf cx px:=by
 intro b ds st K r h m a as_ w vs hr hvs;rw[hy] at h;unfold Asq at h;split at h
 ·rename_i s n ps asg body env hb;split at h
  ·rename_i hc;simp only[Zb1] at hc;refine A0b hp hcl hcq hm (P:=λasg body n=>Bm n asg=true/\Bm n body=true/\Bp (some 0) asg=true/\Bp (some 0) body=true) (λasg body n ⟨h1,h2,h3,h4⟩=>⟨h1,h2,λl=>⟨by rw[Fo];exact h3,by rw[Fo];exact h4⟩,(λb hb=>by rw[Dq _ h3] at hb;cases hb),(λb hb=>by rw[Dq _ h4] at hb;cases hb)⟩) (λs' n' ps' asg' body' env' hb' =>?_) (λj' n' ps' asg' body' env' q' hb'=>by rw[hb] at hb';cases hb') h m a as_ w vs hr hvs;rw[hb] at hb';simp only[Za1,Blk.lr.injEq] at hb';obtain⟨rfl,rfl,rfl,rfl,rfl,rfl⟩:=hb';exact⟨hc.1.1.1,hc.1.1.2,hc.1.2,hc.2⟩
  ·cases h
 ·rename_i j n ps asg body env q hb;split at h
  ·rename_i hc;simp only[Zb1] at hc;refine A0b hp hcl hcq hm (P:=λasg body n=>Bm n asg=true/\Bm n body=true/\Bp (some 0) asg=true/\Bp (some 0) body=true) (λasg body n ⟨h1,h2,h3,h4⟩=>⟨h1,h2,λl=>⟨by rw[Fo];exact h3,by rw[Fo];exact h4⟩,(λb hb=>by rw[Dq _ h3] at hb;cases hb),(λb hb=>by rw[Dq _ h4] at hb;cases hb)⟩) (λs' n' ps' asg' body' env' hb'=>by rw[hb] at hb';cases hb') (λj' n' ps' asg' body' env' q' hb' =>?_) h m a as_ w vs hr hvs;rw[hb] at hb';simp only[Za1,Blk.lx.injEq] at hb';obtain⟨rfl,rfl,rfl,rfl,rfl,rfl,rfl⟩:=hb';exact⟨hc.1.1.1,hc.1.1.2,hc.1.2,hc.2⟩
  ·cases h
 ·cases h
end
def trim(n:Nat)(e:Env):Env:=(List.range n).filterMap λk=>match get e k with|some d=>some (k,d)|none=>none
section
variable {R:Type}
def Ae0(fns:Nat->Option Func)(px:Px R):List D->St->(St->Option R)->Option R
 |[],st,K=>K st
 |.ptr b _::l,st,K=>match blk st.bl b with
  |some (.ob 0)=>Ae0 fns px l { st with bl:=Dd st.bl b (.ob 2),df:=l } K
  |_=>none
 |.fn f caps::l,st,K=>match fns f with
  |some fn=>match fn.body with
   |some c=>match Nat.ble caps.length fn.ntmps with
    |true=>Gx px c { st with n:=fn.ntmps,env:=Dm 0 caps,lb:=st.nb,lt:=st.nt,fr:=⟨st.n,st.env,st.lb,st.lt,l⟩::st.fr,df:=[] } λe st'=>match e with
     |.exit _=>none
     |_=>match st'.df,results px st' fn.results.toList,st'.fr with
      |[],some _,fr0::fr=>Ae0 fns px l { st' with n:=fr0.n,env:=fr0.env,lb:=fr0.lb,lt:=fr0.lt,fr:=fr,df:=fr0.df } K
      |_,_,_=>none
    |false=>none
   |none=>none
  |none=>none
 |_,_,_=>none
def Av5(bl:List (Nat×Blk)):List D->(List D->List (Nat×Blk)->Option R)->Option R
 |[],K=>K [] bl
 |.agg ds::l,K=>Bkz bl ds λds' bl'=>Av5 bl' l λl' bl2=>K (.agg ds'::l') bl2
 |d::l,K=>Av5 bl l λl' bl2=>K (d::l') bl2
def A27(fns:Nat->Option Func)(px:Px R)(fn:Func)(args:List D)(st:St)(K:List D->St->Option R):Option R:=match fn.body,Nat.ble args.length fn.ntmps with
 |some c,true=>Av5 st.bl args λargs' bl'=>Gx px c { st with n:=fn.ntmps,env:=Dm 0 args',lb:=st.nb,lt:=st.nt,fr:=⟨st.n,st.env,st.lb,st.lt,st.df⟩::st.fr,bl:=bl',df:=[] } λe st'=>match e with
  |.exit _=>none
  |_=>Ae0 fns px st'.df st' λst2=>match results px st2 fn.results.toList,st2.fr with
   |some rs,f::fr=>Av5 st2.bl rs λrs' bl2=>K rs' { st2 with n:=f.n,env:=f.env,lb:=f.lb,lt:=f.lt,fr:=fr,bl:=bl2,df:=f.df }
   |_,_=>none
 |_,_=>none
def A6b:D->Bool
 |.bool _|.int _ _|.str _|.nilp|.gp _|.nilfn|.ep _ _ _=>true
 |.sl _ _ t=>match t with|.id _=>false|_=>true
 |_=>false
def A70:D->Bool
 |.sv _ _|.undef=>true
 |.agg ds=>ds.all A6b
 |d=>A6b d
def Hy:D->D
 |.agg ds =>.agg (ds.map A3)
 |d=>A3 d
def Btf(fns:Nat->Option Func)(px:Px (List D))(fn:Func)(args:List D):Option (List D):=match fn.body,(args.map Hy).all A70&&Nat.ble args.length fn.ntmps with
 |some c,true=>Gx px c ⟨fn.ntmps,Dm 0 (args.map Hy),0,0,[],[],0,[],0,[]⟩ λe st=>match e with
  |.exit _=>none
  |_=>Ae0 fns px st.df st λst2=>match results px st2 fn.results.toList with
   |some rs=>Bbx st2.bl rs λrs' _=>match(rs'.map Hy).all A70 with|true=>some (rs'.map Hy)|false=>none
   |none=>none
 |_,_=>none
end
def co(tt:Nat->Ty)(gl:Nat->Option Gv)(fns:Nat->Option Func)(tb:(R:Type)->Nat->Option (Ev R))(tq:(R:Type)->Nat->Option (Ed R))(sw:Nat->Option (Sig×Sig)):Nat->(R:Type)->Px R
 |0,_=>⟨tt,gl,λ_ _ _ _=>none,λ_ _ _=>none,λ_ _ _=>none,λ_=>none,λ_ _ _ _=>none⟩
 |n+1,R=>⟨tt,gl,
  λg args st K=>match tb R g with
   |some f=>f args st K
   |none=>match fns g with
    |some fn=>A27 fns (co tt gl fns tb tq sw n R) fn args st K
    |none=>none,
  λg args K=>match tq R g with
   |some f=>f args K
   |none=>match fns g with
    |some fn=>match Btf fns (co tt gl fns tb tq sw n (List D)) fn args with|some rs=>K rs|none=>none
    |none=>none,
  λb st K=>Gx (co tt gl fns tb tq sw n R) b { st with env:=trim st.n st.env } λe st'=>match e with
   |.normal=>(co tt gl fns tb tq sw n R).loop b st' K
   |e=>K e st',
  λg=>match sw g,fns g with
   |some (si,so),some fn=>match Nat.ble si.n fn.ntmps with|true=>some (Kf si so (λx=>Hg (co tt gl fns tb tq sw n (HV so.sgs)) fn si so x some))|false=>none
   |_,_=>none,
  Asq (co tt gl fns tb tq sw n R)⟩
theorem Bfz{e:Env}{n k:Nat}{d:D}(h:get (trim n e) k=some d):get e k=some d:=by
 have key:∀l:Env,(∀p,p∈l->get e p.1=some p.2)->get l k=some d->get e k=some d:=by
  intro l;induction l with
  |nil=>intro _ h;simp[get] at h
  |cons p l ih =>
   intro hp h;obtain⟨k0,v0⟩:=p;rw[Bd] at h;by_cases hk:k=k0
   ·subst hk;simp at h;subst h;exact hp _ Zr1
   ·rw[if_neg hk] at h;exact ih (λp hp'=>hp p (Zu1 _ hp')) h
 refine key _ (λp hp =>?_) h;unfold trim at hp;obtain⟨q,_,hq⟩:=List.mem_filterMap.1 hp;cases hg:get e q with|none=>rw[hg] at hq;cases hq|some v=>rw[hg] at hq;simp at hq;subst hq;exact hg
section
variable {R:Type}{cx:Cx}
theorem Rel.trim{m:Mp}{a:Act}{as_:List Act}{st:St}{w:World}(hr:Rel cx m a as_ (fs st) w):Rel cx m a as_ (fs { st with env:=trim st.n st.env }) w :=⟨hr.chg,⟨hr.env.defers,hr.env.size,λk d hk=>hr.env.get k d (Bfz hk)⟩,hr.frs,hr.lb,hr.lt,hr.blks,hr.als,hr.inj,hr.injt,hr.injbt,hr.own,hr.away,hr.glb⟩
theorem Aqa{x x':Vx}(hS:∀b j,x'.S b j->x.S b j)(hw:x'.w=x.w){d:D}{v:Value}(hb:A6b d=true)(h:Rep x d v):Rep x' d v:=by
 have hrf:∀{d:D}{v:Value},RF x.S x.w d v->RF x'.S x'.w d v:=λh=>by rw[hw];exact h.later (Chg.refl _ _) (λk j hk =>.inl (hS k j hk))
 cases d with
 |sl c xs t =>simp only[Rep] at h ⊢;refine⟨hrf h.1,?_⟩;cases t with|id t=>cases hb|_=>exact h.2
 |ep c y off =>simp only[Rep] at h ⊢;obtain⟨b,o,hv,hr⟩:=h;exact⟨b,o,hv,λw' hc=>hr w' (by rw[<-hw];exact hc.mono hS)⟩
 |bool b=>simpa only[Rep] using h
 |int k n=>simpa only[Rep] using h
 |str l=>simpa only[Rep] using h
 |nilp=>simpa only[Rep] using h
 |gp g=>simpa only[Rep] using h
 |nilfn=>simpa only[Rep] using h
 |_=>cases hb
theorem Aio{x x':Vx}(hS:∀b j,x'.S b j->x.S b j)(hw:x'.w=x.w):∀{ds:List D}{vs:List Value},ds.all A6b=true->Reps x ds vs->Reps x' ds vs
 |[],_,_,h=>by simpa[Reps] using h
 |d::ds,vs,hb,h=>by simp only[Zv1,Zb1] at hb;obtain⟨u,us,e,h1,h2⟩:=h;exact⟨u,us,e,Aqa hS hw hb.1 h1,Aio hS hw hb.2 h2⟩
theorem Bes{x x':Vx}(hS:∀b j,x'.S b j->x.S b j)(hw:x'.w=x.w){d:D}{v:Value}(hb:A70 d=true)(h:Rep x d v):Rep x' d v:=by
 have hrf:∀{d:D}{v:Value},RF x.S x.w d v->RF x'.S x'.w d v:=λh=>by rw[hw];exact h.later (Chg.refl _ _) (λk j hk =>.inl (hS k j hk))
 cases d with|sv c y =>simp only[Rep] at h ⊢;obtain⟨ha,vs,hv,hl,hr⟩:=h;exact⟨ha,vs,hv,hl,λj d hd=>by obtain⟨u,hu,hf⟩:=hr j d hd;exact⟨u,hu,hrf hf⟩⟩|undef=>simpa only[Rep] using h|agg ds =>simp only[Rep] at h ⊢;obtain⟨h1,vs,hv,h2⟩:=h;exact⟨h1,vs,hv,Aio hS hw hb h2⟩|_=>exact Aqa hS hw hb h
theorem Wv{x x':Vx}(hS:∀b j,x'.S b j->x.S b j)(hw:x'.w=x.w):∀{ds:List D}{vs:List Value},ds.all A70=true->Reps x ds vs->Reps x' ds vs
 |[],_,_,h=>by simpa[Reps] using h
 |d::ds,vs,hb,h=>by simp only[Zv1,Zb1] at hb;obtain⟨u,us,e,h1,h2⟩:=h;exact⟨u,us,e,Bes hS hw hb.1 h1,Wv hS hw hb.2 h2⟩
theorem Apu{x:Vx}{d:D}{v:Value}(h:Rep x d v):Rep x (A3 d) v:=by cases d<;>first|exact h|exact A0a h
theorem Ak8{x:Vx}:∀{ds:List D}{vs:List Value},Reps x ds vs->Reps x (ds.map A3) vs
 |[],_,h=>h
 |_::_,_,⟨u,us,e,h1,h2⟩=>⟨u,us,e,Apu h1,Ak8 h2⟩
theorem A30{x:Vx}{d:D}{v:Value}(h:Rep x d v):Rep x (Hy d) v:=by
 cases d with
 |agg ds =>simp only[Hy,Rep] at h ⊢;obtain⟨h1,vs,e,h2⟩:=h;refine⟨?_,vs,e,Ak8 h2⟩;rw[List.all_map];refine Zg2.2 λd hd =>?_;have:=Zg2.1 h1 d hd;cases d<;>first|rfl|exact this
 |_=>exact Apu h
theorem Pz{x:Vx}:∀{ds:List D}{vs:List Value},Reps x ds vs->Reps x (ds.map Hy) vs
 |[],_,h=>h
 |_::_,_,⟨u,us,e,h1,h2⟩=>⟨u,us,e,A30 h1,Pz h2⟩
theorem Atw(d:D):A3 (Hy d)=Hy d:=by cases d with|sl c xs t=>cases t<;>rfl|_=>rfl
theorem Ajc{x:Vx}{n:Nat}{ds:List D}{vs:List Value}(hr:Reps x ds vs)(hl:vs.length<=n):∀k d,get (Dm 0 ds) k=some d->∃v,(vs.toArray++Array.replicate (n-vs.toArray.size) undef)[k]? = some v/\Rep x d v:=λk d hk=>by obtain⟨v,_,h2,h3⟩:=Ht 0 k d hr hk;rw[Nat.sub_zero] at h2;refine⟨v,?_,h3⟩;have hlt:k<vs.length:=(Zi2.1 h2).1;simp only[Array.getElem?_append,List.size_toArray,hlt];simpa using h2
theorem Ab2{n:Nat}{vs:List Value}(hl:vs.length<=n):(vs.toArray++Array.replicate (n-vs.toArray.size) undef).size=n:=by simp;omega
theorem Agh{fn:Func}{tmps:Array Value}{us:List Value}{w:World}(hrun:Sem.run cx.P (fn.results.toList.mapM (Sx.rdv tmps)) w=Result.ok us w):(_root_.Go.results fn tmps).run cx.P w = .ok (Sx.resv us) w:=by obtain⟨rl⟩:∃rl,fn.results=List.toArray rl:=⟨fn.results.toList,by simp⟩;rename_i hrl;rw[Sx.results_eq,hrl];rw[hrl] at hrun;simp only[List.mapM_toArray,Sem.run_bind,map_eq_pure_bind,hrun];congr 1;match us with|[]=>rfl|[v]=>rfl|_::_::_=>simp[Sx.resv]
theorem Rel.pop{m:Mp}{a a0:Act}{as_:List Act}{st:St}{f:Fr}{fr:List Fr}{w:World}(hr:Rel cx m a (a0::as_) (fs st) w)(hfr:st.fr=f::fr):Rel cx m a0 as_ (fs { st with n:=f.n,env:=f.env,lb:=f.lb,lt:=f.lt,fr:=fr,df:=f.df }) w:=by have hfrs:=hr.frs;rw[show(fs st).fr=f::fr from hfr] at hfrs;obtain⟨a1,r1,he0,h1,h2,h3,h4⟩:=hfrs;simp at he0;obtain⟨rfl,rfl⟩:=he0;have hx:Nx { vx cx m (fs st) w with nb:=(fs st).lb,nt:=(fs st).lt } (vx cx m (fs st) w):=⟨Chg.refl _ _,λ_ _ h =>.inl h,rfl,λ_ _=>rfl,hr.lb,hr.lt,λt _ ha=>⟨ha,rfl,λ_ _ _=>rfl⟩⟩;exact⟨hr.chg,h3.later hx,h4,Nat.le_trans h1 hr.lb,Nat.le_trans h2 hr.lt,hr.blks,hr.als,hr.inj,hr.injt,hr.injbt,hr.own,hr.away,hr.glb⟩
def Lv1(cx:Cx)(px:Px R):Prop:=PxOk cx px/\Ci cx px/\CallQOk cx px/\∀b,Bg cx px b
def Aed(P:Program)(fns:Nat->Option Func):Prop:=∀g fn,fns g=some fn->P.funcs[g]? = some fn/\(fn.name == "runtime.NumGoroutine")=false/\∃c,fn.body=some c/\Bm fn.ntmps c=true
theorem Aed.all{P:Program}{fns:Nat->Option Func}(h:Aed P fns)(g:Nat)(fn:Func)(hg:fns g=some fn):P.funcs[g]? = some fn/\(fn.name == "runtime.NumGoroutine")=false/\∀c,fn.body=some c->Bm fn.ntmps c=true:=by obtain⟨h1,h2,c0,h3,h4⟩:=h g fn hg;exact⟨h1,h2,λc hc=>by rw[h3] at hc;simp only[Za1] at hc;rw[<-hc];exact h4⟩
theorem Qb{fns:Nat->Option Func}(hfns:Aed cx.P fns){px:Px R}(hpx:Lv1 cx px)(hm:cx.P.follows .mixedOrders=true){fn:Func}{as_:List Act}{K:St->Option R}{r:R}{Rr:Ending->World->Prop}{tmps:Array Value} :
  ∀(df:List D) (st:St),st.df=df->Ae0 fns px df st K=some r->∀(m:Mp) (dds:List Deferred) (w:World),Rel cx m ⟨tmps,dds⟩ as_ (fs st) w ->
   (∀st2 m2 w2,K st2=some r->(st2.n=st.n/\st2.fr=st.fr)->Rel cx m2 ⟨tmps,[]⟩ as_ (fs st2) w2->∃v,(_root_.Go.results fn tmps).run cx.P w2 = .ok v w2/\Rr (.returned v) w2) ->
   LeavesInM Fence.wide 0 cx.P fn tmps Rr dds .returning w
 |[],st,hdf,h,m,dds,w,hr,hfin=>by have hd:dds=[]:=hr.noDf hdf;subst hd;exact hfin st m w h ⟨rfl,rfl⟩ hr
 |d::l,st,hdf,h,m,dds,w,hr,hfin=>by
  have hd:=hr.env.defers;rw[show(fs st).df=d::l from hdf] at hd;obtain⟨dd,rest,e,h1,h2⟩:=hd;simp only at e;subst e;refine⟨by simp,?_⟩;cases d with
  |ptr b c =>
   left;simp only[Ae0] at h;split at h
   ·rename_i hb;obtain⟨_,_,_,rfl⟩:=h1;have hblk:=(hr.blks b (.ob 0) hb).2 rfl;have hblk:w.heap[m.bl b]? = some (.deferred (some [])):=hblk;have hr1:=hr.served (o' :=.deferred none) hb hblk (by simp);have hr2:Rel cx m ⟨tmps,rest⟩ as_ (fs { st with bl:=Dd st.bl b (.ob 2),df:=l }) (w.putObj (m.bl b) (.deferred none)):=by have hd2:=hr1.env.defers;rw[show(fs { st with bl:=Dd st.bl b (.ob 2) }).df = .ptr b c::l from hdf] at hd2;obtain⟨_,_,e2,_,h4⟩:=hd2;simp only[Ze2] at e2;obtain⟨_,rfl⟩:=e2;exact⟨hr1.chg,⟨h4,hr1.env.size,hr1.env.get⟩,hr1.frs,hr1.lb,hr1.lt,hr1.blks,hr1.als,hr1.inj,hr1.injt,hr1.injbt,hr1.own,hr1.away,hr1.glb⟩
    exact⟨m.bl b,_,rfl,run_takeDeferred hblk,Qb hfns hpx hm l _ rfl h m rest _ hr2 (λst2 m2 w2 k1 k2 k3=>hfin st2 m2 w2 k1 k2 k3)⟩
   ·cases h
  |fn f caps =>
   right;simp only[Ae0] at h;split at h
   ·rename_i fn' hfn;split at h
    ·rename_i c hb;obtain⟨cvs,rfl,hcaps⟩:=h1;obtain⟨f1,f2,f3⟩:=hfns.all f fn' hfn;have hent:=Sx.enters_of f1 (by rw[hb];rfl) f2;split at h
     ·rename_i hle;have hle:cvs.length<=fn'.ntmps:=by rw[hcaps.len];simpa using hle
      have hr1:Rel cx m ⟨tmps,rest⟩ as_ (fs { st with df:=l }) w:=⟨hr.chg,⟨h2,hr.env.size,hr.env.get⟩,hr.frs,hr.lb,hr.lt,hr.blks,hr.als,hr.inj,hr.injt,hr.injbt,hr.own,hr.away,hr.glb⟩;have hrel:Rel cx m { tmps:=cvs.toArray++Array.replicate (fn'.ntmps-cvs.toArray.size) undef,defers:=[] } (⟨tmps,rest⟩::as_) (fs { st with n:=fn'.ntmps,env:=Dm 0 caps,lb:=st.nb,lt:=st.nt,fr:=⟨st.n,st.env,st.lb,st.lt,l⟩::st.fr,df:=[] }) w :=⟨hr.chg,⟨rfl,Ab2 hle,Ajc hcaps hle⟩,⟨_,as_,rfl,hr1.lb,hr1.lt,hr1.env,hr1.frs⟩,Zn1 _,Zn1 _,hr.blks,hr.als,hr.inj,hr.injt,hr.injbt,hr.own,hr.away,hr.glb⟩
      refine⟨(λe=>nomatch e),.func f,cvs.toArray,f,cvs.toArray,rfl,?_,λ_ _=>trivial,?_⟩
      ·have h9:=hent cvs.toArray w;simp[invoke,go_sem];simpa using h9
      ·refine CallsDIn.mono (callsDIn_of_wp (R:=λe w'=>∃v,e = .returned v/\LeavesInM Fence.wide 0 cx.P fn tmps Rr rest .returning w') f1 hb trivial (wpIn_wide.2 (D1 hpx.1 hpx.2.1 hpx.2.2.1 hm c _ _ r (f3 c hb) (λb _=>hpx.2.2.2 b) h _ m _ _ w hrel ?_))) ?_
       ·intro e st' m' a' w' hk hsame hrel';cases e
        case exit=>cases hk
        all_goals
         simp only at hk;split at hk
         ·rename_i rs0 fr0 fr hd0 hrs hfr;have hfr2:st'.fr=⟨st.n,st.env,st.lb,st.lt,l⟩::st.fr:=hsame.2;obtain⟨us,hrun,_⟩:=Du hpx.1 hrel' hrs;have hpop:=hrel'.pop hfr;rw[hfr2] at hfr;simp only[Ze2] at hfr;obtain⟨rfl,rfl⟩:=hfr;exact⟨hrel'.noDf hd0,_,Agh hrun,_,rfl,Qb hfns hpx hm l _ rfl hk m' rest w' hpop (λst2 m2 w2 k1 k2 k3=>hfin st2 m2 w2 k1 k2 k3)⟩
         ·cases hk
       ·rintro e u' w' ⟨rfl,v,rfl,hl⟩;exact hl
     ·cases h
    ·cases h
   ·cases h
  |_=>exact h1.elim
theorem Af6{m:Mp}{a:Act}{as_:List Act}{w:World}{r:R}:∀{ds:List D}{st:St}{vs:List Value}{K:List D->List (Nat×Blk)->Option R},Rel cx m a as_ (fs st) w->Reps (vx cx m (fs st) w) ds vs->Av5 st.bl ds K=some r->∃ds' bl',K ds' bl' = some r/\Rel cx m a as_ (fs { st with bl:=bl' }) w/\Nx (vx cx m (fs st) w) (vx cx m (fs { st with bl:=bl' }) w)/\Reps (vx cx m (fs { st with bl:=bl' }) w) ds' vs
 |[],st,vs,K,hr,hd,h=>⟨[],st.bl,h,hr,⟨Chg.refl _ _,λ_ _ h =>.inl h,rfl,λ_ _=>rfl,Zn1 _,Zn1 _,λt _ ha=>⟨ha,rfl,λ_ _ _=>rfl⟩⟩,by simpa using hd⟩
 |d::ds,st,vs,K,hr,hd,h=>by
  obtain⟨u,us,rfl,h1,h2⟩:=hd;by_cases hag:∃es,d = .agg es
  ·obtain⟨es,rfl⟩:=hag;simp only[Av5] at h;simp only[Rep] at h1;obtain⟨hl,vs1,rfl,h3⟩:=h1;obtain⟨es',bl1,hk,hr1,nx1,hd1,hl1⟩:=Atf hr h3 h;obtain⟨ds',bl2,hk2,hr2,nx2,hds⟩:=Af6 (st:={ st with bl:=bl1 }) hr1 (Reps.later nx1 _ _ h2) hk;exact⟨.agg es'::ds',bl2,hk2,hr2,nx1.trans nx2,⟨_,us,rfl,by simp only[Rep];exact⟨hl1 hl,vs1,rfl,Reps.later nx2 _ _ hd1⟩,hds⟩⟩
  ·have e:Av5 st.bl (d::ds) K=Av5 st.bl ds λl' bl2=>K (d::l') bl2:=by cases d<;>first|rfl|exact absurd ⟨_,rfl⟩ hag
   rw[e] at h;obtain⟨ds',bl2,hk2,hr2,nx2,hds⟩:=Af6 hr h2 h;exact⟨d::ds',bl2,hk2,hr2,nx2,⟨u,us,rfl,Rep.later nx2 _ _ h1,hds⟩⟩
theorem Bdu{fns:Nat->Option Func}(hfns:Aed cx.P fns){px:Px R}(hpx:Lv1 cx px)(hm:cx.P.follows .mixedOrders=true){g:Nat}{fn:Func}(hfn:fns g=some fn){args:List D}{st:St}{K:List D->St->Option R}{r:R}(hc:A27 fns px fn args st K=some r):H4 cx g args st K r:=by
 obtain⟨f1,f2,f3⟩:=hfns.all g fn hfn;unfold A27 at hc;split at hc
 ·rename_i c hb hle;refine⟨Sx.enters_of f1 (by rw[hb];rfl) f2,λm a as_ w vs hr hreps =>?_⟩;have hlen:vs.length<=fn.ntmps:=by rw[hreps.len];simpa using hle
  obtain⟨args',bl',hc,hr1,_,hreps1⟩:=Af6 hr hreps hc;have hrel:Rel cx m { tmps:=vs.toArray++Array.replicate (fn.ntmps-vs.toArray.size) undef,defers:=[] } (a::as_) (fs { st with n:=fn.ntmps,env:=Dm 0 args',lb:=st.nb,lt:=st.nt,fr:=⟨st.n,st.env,st.lb,st.lt,st.df⟩::st.fr,bl:=bl',df:=[] }) w :=⟨hr1.chg,⟨rfl,Ab2 hlen,Ajc hreps1 hlen⟩,⟨a,as_,rfl,hr1.lb,hr1.lt,hr1.env,hr1.frs⟩,Zn1 _,Zn1 _,hr1.blks,hr1.als,hr1.inj,hr1.injt,hr1.injbt,hr1.own,hr1.away,hr1.glb⟩
  refine callsIn_wide.1 (callsIn_of_wp_marks (n:=0) f1 hb trivial (wpIn_wide.2 (D1 hpx.1 hpx.2.1 hpx.2.2.1 hm c _ _ r (f3 c hb) (λb _=>hpx.2.2.2 b) hc _ m _ (a::as_) w hrel ?_)));intro e st' m' a' w' hk hsame hrel';cases e
  case exit=>cases hk
  all_goals
   simp only at hk;have hfr0:st'.fr=⟨st.n,st.env,st.lb,st.lt,st.df⟩::st.fr:=hsame.2;refine Qb hfns hpx hm (tmps:=a'.tmps) st'.df st' rfl hk m' a'.defers w' hrel' (λst2 m2 w2 k1 k2 k3 =>?_);split at k1
   ·rename_i rs f fr hrs hfr;obtain⟨us,hrun,hres⟩:=Du hpx.1 k3 hrs;have hpop:=k3.pop hfr;rw[k2.2,hfr0] at hfr;simp only[Ze2] at hfr;obtain⟨rfl,rfl⟩:=hfr;obtain⟨rs',bl2,k4,k5,_,k6⟩:=Af6 hpop hres k1;exact⟨_,Agh hrun,_,rfl,rs',_,m2,k4,⟨rfl,rfl,rfl,rfl,rfl⟩,k5,G3 k6⟩
   ·cases k1
 ·cases hc
theorem Bq6{fns:Nat->Option Func}(hfns:Aed cx.P fns){px:Px (List D)}(hpx:∀cx0:Cx,cx0.P=cx.P->cx0.el=cx.el->cx0.gl=cx.gl->Lv1 cx0 px)(hm:cx.P.follows .mixedOrders=true){g:Nat}{fn:Func}(hfn:fns g=some fn){args rs:List D}(h:Btf fns px fn args=some rs):Sx.Enters cx.P g/\∀(s:FS) (m:Mp) (a:Act) (as_:List Act) (w:World) (vs:List Value),Rel cx m a as_ s w->Reps (vx cx m s w) args vs->Calls cx.P g vs.toArray w λen w'=>∃v,en = .returned v/\Rel cx m a as_ s w'/\Rep (vx cx m s w') (Gw (rs.map A3)) v:=by
 obtain⟨f1,f2,f3⟩:=hfns.all g fn hfn;unfold Btf at h;split at h
 ·rename_i c hb hcond;simp only[Zb1] at hcond;refine⟨Sx.enters_of f1 (by rw[hb];rfl) f2,λs m a as_ w vs hr hargs =>?_⟩;have hlen:vs.length<=fn.ntmps:=by rw[hargs.len];simpa using hcond.2
  obtain⟨hM,hgl⟩:=Jz hr;have base:=Arr (P:=cx.P) (el:=cx.el) (gl:=cx.gl) (sa:=[]) rfl (x:=()) (n:=fn.ntmps) (Nat.zero_le _) hM hgl (vs:=[]) (by simp[Bw,Reps]);have hargs0:Reps (vx ⟨cx.P,w,B9,(vx cx m s w).S,cx.el,cx.gl⟩ ⟨λ_=>0,λ_=>none⟩ (fs (st0 fn.ntmps [] ())) w) (args.map Hy) vs:=by
   refine Wv (x:=vx cx m s w) (x':=vx ⟨cx.P,w,B9,(vx cx m s w).S,cx.el,cx.gl⟩ ⟨λ_=>0,λ_=>none⟩ (fs (st0 fn.ntmps [] ())) w) (λb j hS =>?_) rfl hcond.1 (Pz hargs);rcases hS with hS|⟨k,hk,_⟩|⟨t,o,ht,_⟩
   ·exact hS
   ·exact absurd rfl hk
   ·cases ht
  have hrel:Rel ⟨cx.P,w,B9,(vx cx m s w).S,cx.el,cx.gl⟩ ⟨λ_=>0,λ_=>none⟩ { tmps:=vs.toArray++Array.replicate (fn.ntmps-vs.toArray.size) undef,defers:=[] } [] (fs ⟨fn.ntmps,Dm 0 (args.map Hy),0,0,[],[],0,[],0,[]⟩) w :=⟨base.chg,⟨rfl,Ab2 hlen,Ajc hargs0 hlen⟩,base.frs,base.lb,base.lt,base.blks,base.als,base.inj,base.injt,base.injbt,base.own,base.away,base.glb⟩
  obtain⟨p1,p2,p3,p4⟩:=hpx ⟨cx.P,w,B9,(vx cx m s w).S,cx.el,cx.gl⟩ rfl rfl rfl;refine callsIn_wide.1 (callsIn_of_wp_marks (n:=0) f1 hb trivial (wpIn_wide.2 (D1 p1 p2 p3 hm c _ _ rs (f3 c hb) (λb _=>p4 b) h _ _ _ [] w hrel ?_)));intro e st' m' a' w' hk hsame hrel';cases e
  case exit=>cases hk
  all_goals
   simp only at hk;refine Qb (cx:=⟨cx.P,w,B9,(vx cx m s w).S,cx.el,cx.gl⟩) hfns ⟨p1,p2,p3,p4⟩ hm (tmps:=a'.tmps) st'.df st' rfl hk m' a'.defers w' hrel' (λst2 m2 w2 k1 k2 k3 =>?_);split at k1
   ·rename_i rs1 hrs;obtain⟨us,hrun,hres⟩:=Du p1 k3 hrs;obtain⟨ds',bl',hk2,hrel1,_,hreps⟩:=Agm k3 hres k1;split at hk2
    ·rename_i hbare;simp only[Za1] at hk2;subst hk2;refine⟨_,Agh (cx:=cx) hrun,_,rfl,hr.quiet hrel1.chg,?_⟩;have h9:=Wv (x:=vx ⟨cx.P,w,B9,(vx cx m s w).S,cx.el,cx.gl⟩ m2 (fs { st2 with bl:=bl' }) w2) (x':=vx cx m s w2) (λb j hS =>.inl hS) rfl hbare (Pz hreps);rw[List.map_map,show A3∘Hy=Hy from funext Atw];exact G3 h9
    ·cases hk2
   ·cases k1
 ·cases h
def Bw2(cx:Cx)(px:Px R)(b:Code):Prop:=∀(st:St) (K:Ex->St->Option R) (r:R),px.loop b st K=some r->∀(Q:Exit->Act->World->Prop) (m:Mp) (a:Act) (as_:List Act) (w:World),Bm st.n b=true->Rel cx m a as_ (fs st) w->(∀e st' m' a' w',K e st' = some r->(st'.n=st.n/\st'.fr=st.fr)->Rel cx m' a' as_ (fs st') w'->Q (Nm e) a' w')->Sx.LW cx.P b Q a w
def Lv2(cx:Cx)(px:Px R):Prop:=PxOk cx px/\Ci cx px/\CallQOk cx px/\∀b,Bw2 cx px b
theorem Lv2.to1{px:Px R}(h:Lv2 cx px):Lv1 cx px:=⟨h.1,h.2.1,h.2.2.1,λb st K r h1 Q m a as_ w h2 h3 h4=>Sx.wp_of_LW (h.2.2.2 b st K r h1 Q m a as_ w h2 h3 h4)⟩
end
theorem Avm{P:Program}{el:Ck->TypeId}(hm:P.follows .mixedOrders=true){tt:Nat->Ty}{gl:Nat->Option Gv}{fns:Nat->Option Func}{tb:(R:Type)->Nat->Option (Ev R)}{tq:(R:Type)->Nat->Option (Ed R)}(htt:∀t,B8 P el tt t=true)(hfns:Aed P fns)
  (htb:∀(R:Type) (cx:Cx),cx.P=P->cx.el=el->cx.gl=gl->∀g f,tb R g=some f->Gt cx g f) (htq:∀(R:Type) (cx:Cx),cx.P=P->cx.el=el->cx.gl=gl->∀g f,tq R g=some f->Ma cx g f) {sw:Nat->Option (Sig×Sig)}(hsw:∀g p,sw g=some p->lnB p.1 p.2=true) :
  ∀(n:Nat) (R:Type) (cx:Cx),cx.P=P->cx.el=el->cx.gl=gl->Lv2 cx (co tt gl fns tb tq sw n R)
 |0,R,cx,e1,e2,e3=>by subst e1 e2 e3;exact⟨⟨htt,rfl,noY.ok λ_ _ _ _=>rfl⟩,(λ_ _ _ _ _ h=>nomatch h),⟨(λ_ _ _ _ h=>nomatch h),(λ_ _ h=>nomatch h)⟩,(λ_ _ _ _ h=>nomatch h)⟩
 |n+1,R,cx,e1,e2,e3=>by
  have ih:=Avm hm htt hfns htb htq hsw n R cx e1 e2 e3;have ihD:∀cx0:Cx,cx0.P=cx.P->cx0.el=cx.el->cx0.gl=cx.gl->Lv1 cx0 (co tt gl fns tb tq sw n (List D)):=λcx0 h1 h2 h3=>(Avm hm htt hfns htb htq hsw n (List D) cx0 (h1.trans e1) (h2.trans e2) (h3.trans e3)).to1;have htb1:=htb R cx e1 e2 e3;have htq1:=htq R cx e1 e2 e3;subst e1 e2 e3;have ih1:=ih.to1;refine⟨⟨htt,rfl,Aqv ih1.1 ih1.2.1 ih1.2.2.1 hm rfl⟩,λg args st K r hk =>?_,⟨λg args K r hk =>?_,λg F hF =>?_⟩,λb st K r hk Q m a as_ w hcb hr hQ =>?_⟩
  ·simp only[co] at hk;split at hk
   ·rename_i f hf;exact htb1 g f hf args st K r hk
   ·split at hk
    ·rename_i fn hfn;exact Bdu hfns ih1 hm hfn hk
    ·cases hk
  ·simp only[co] at hk;split at hk
   ·rename_i f hf;exact htq1 g f hf args K r hk
   ·split at hk
    ·rename_i fn hfn;split at hk
     ·rename_i rs hrs;exact⟨rs,hk,Bq6 hfns ihD hm hfn hrs⟩
     ·cases hk
    ·cases hk
  ·simp only[co] at hF;split at hF
   ·rename_i si so fn hsi hfn;split at hF
    ·rename_i hle;simp only[Za1] at hF;subst hF;obtain⟨f1,f2,c,hb,f3⟩:=hfns g fn hfn;exact Bso (Aad f1 hb f2 hm (by rw[f3];simpa using hle) (λcx0 h1 h2 h3=>by obtain⟨q1,q2,q3,q4⟩:=(Avm hm htt hfns htb htq hsw n (HV so.sgs) cx0 h1 h2 h3).to1;exact⟨q1,q2,q3,λb _=>q4 b⟩) (λ_=>rfl)) (hsw g (si,so) hsi)
    ·cases hF
   ·cases hF
  ·simp only[co] at hk;refine Sx.LW_round (D1 ih1.1 ih1.2.1 ih1.2.2.1 hm b { st with env:=trim st.n st.env } _ r hcb (λb' _=>ih1.2.2.2 b') hk _ m a as_ w hr.trim ?_);intro e st' m' a' w' hk2 hsame hrel';cases e with|normal=>exact ih.2.2.2 b st' K r hk2 Q m' a' as_ w' (by rw[hsame.1];exact hcb) hrel' (λe2 st2 m2 a2 w2 k1 k2 k3=>hQ e2 st2 m2 a2 w2 k1 ⟨k2.1.trans hsame.1,k2.2.trans hsame.2⟩ k3)|exit id=>exact hQ (.exit id) st' m' a' w' hk2 hsame hrel'|ret=>exact hQ .ret st' m' a' w' hk2 hsame hrel'
end Go.Ax
namespace Go.Ax
section
variable {R:Type}{P:Program}{el:Ck->TypeId}{gl:Nat->Option Gv}{tt:Nat->Ty}{cx:Cx}
def withY(px pc:Px R):Px R:=⟨px.tt,px.gl,px.call,px.callQ,px.loop,px.callW,Asq pc⟩
theorem Lv.withY{px pc:Px R}(h:Lv cx px)(hc:Lv cx pc)(hm:cx.P.follows .mixedOrders=true):Lv cx (withY px pc) :=⟨⟨h.p.1,h.p.2,Aqv hc.p hc.c hc.q hm rfl⟩,λg args st K r hk=>h.c g args st K r hk,⟨λg args K r hk=>h.q.1 g args K r hk,λg f hf=>h.q.2 g f hf⟩⟩
end
section
def A87{R:Type}(px:Px R)(fn:Func)(sa sr:List Sg)(x:HV sa)(fin:HV sr->Option R):Option R:=match fn.body with
 |some c=>Gx px c (st0 fn.ntmps sa x) λe st=>match e with
  |.exit _=>none
  |_=>Ae0 (λ_=>none) px st.df st λst2=>match results px st2 fn.results.toList with
   |some rs=>Afn sr st2 rs λrs' st'=>match L0 sr st'.tk rs' with|some r=>fin r|none=>none
   |none=>none
 |none=>none
theorem Bmv{P:Program}{el:Ck->TypeId}{gl:Nat->Option Gv}{f:FuncId}{fn:Func}{c:Code}{sa sr:List Sg}{px:Px (HV sr)}{F:HV sa->Option (HV sr)}(hf:P.funcs[f]? = some fn)(hb:fn.body=some c)(hname:(fn.name == "runtime.NumGoroutine")=false)(hm:P.follows .mixedOrders=true)(hchk:(Bm fn.ntmps c&&Nat.ble sa.length fn.ntmps&&Cc (A7 0 sa) [])=true)
  (hpx:∀cx:Cx,cx.P=P->cx.el=el->cx.gl=gl->cx.I=B9->PxOk cx px/\Ci cx px/\CallQOk cx px/\∀b,Bg cx px b) (hF:∀x,A87 px fn sa sr x some=F x):FnOk P el gl f sa sr F:=by
 refine⟨Sx.enters_of hf (by rw[hb];rfl) hname,λx r hx w M vs hM hgl hr =>?_⟩;simp at hchk;have hn:sa.length<=fn.ntmps:=by simpa using hchk.1.2
 have hrel:=Arr (P:=P) (Gl hchk.2) hn hM hgl hr;rw[<-hF] at hx;unfold A87 at hx;rw[hb] at hx;simp only at hx;obtain⟨h1,h2,h3,h4⟩:=hpx ⟨P,w,B9,M,el,gl⟩ rfl rfl rfl rfl;have hfns:Aed P (λ_=>(none:Option Func)):=λg fx hx=>by cases hx
 refine callsIn_wide.1 (callsIn_of_wp_marks (n:=0) hf hb trivial (wpIn_wide.2 (D1 h1 h2 h3 hm c _ _ r hchk.1.1 (λb _=>h4 b) hx _ _ _ [] w hrel ?_)));intro e st1 m1 a' w1 hk _ hrel1';cases e
 case exit=>cases hk
 all_goals
  simp only at hk;refine Qb (cx:=⟨P,w,B9,M,el,gl⟩) hfns ⟨h1,h2,h3,h4⟩ hm (tmps:=a'.tmps) st1.df st1 rfl hk m1 a'.defers w1 hrel1' (λst' m' w' hk _ hrel' =>?_);split at hk
  ·rename_i rs0 hrs;obtain⟨us,hrun,hreps0⟩:=Du h1 hrel' hrs;obtain⟨rs,st2,m2,hk,hrel1,_,hreps⟩:=Ye hrel' hreps0 hk;clear hreps0 hrel';split at hk
   ·rename_i r' hr';simp at hk;subst hk;obtain⟨as1,as2⟩:=Q2 0 hr';let mc:Mp:=⟨λ_=>0,λp=>(asg 0 sr rs p).bind m2.tk⟩;have horig:∀p g o,mc.tk p=some (g,o)->∃t,asg 0 sr rs p=some t/\t∈st2.tk/\m2.tk t=some (g,o):=λp g o hg=>by cases ha:asg 0 sr rs p with|none=>simp only[mc,ha] at hg;cases hg|some t=>simp[mc,ha] at hg;exact⟨t,rfl,(as1 p t ha).1,hg⟩
    have hS:∀b i,(vr el M mc sr w').S b i->(vx ⟨P,w,B9,M,el,gl⟩ m2 (fs st2) w').S b i:=by
     rintro b i (h|⟨p,o,_,h2,h3⟩)
     ·exact .inl h
     ·obtain⟨t,_,q2,q3⟩:=horig p b o h2;exact .inr (.inr ⟨t,o,q2,q3,h3⟩)
    have hfin:=F3 (X:=vx ⟨P,w,B9,M,el,gl⟩ m2 (fs st2) w') (X':=vr el M mc sr w') hS rfl rfl 0 hr' (λt ht=>ht) hreps (λp hp=>by have:=(F8 _ _ _ hp).2;exact⟨by simpa[vr] using this,rfl⟩)
    refine⟨_,Agh (cx:=⟨P,w,B9,M,el,gl⟩) hrun,Sx.resv us,mc,rfl,hrel1.chg,λp g o hp hg =>?_,λp q g o o' _ _ hg hg' =>?_,G3 hfin⟩
    ·obtain⟨t,_,q2,q3⟩:=horig p g o hg;have:=hrel1.own g o (.inr ⟨t,o,q2,q3,Zn1 _⟩);exact⟨this.2.resolve_left id,this.1⟩
    ·obtain⟨t,q1,q2,q3⟩:=horig p g o hg;obtain⟨t',p1,p2,p3⟩:=horig q g o' hg';have:=hrel1.injt t t' g o o' q2 p2 q3 p3;subst this;exact as2 p q t q1 p1
   ·cases hk
  ·cases hk
theorem fOD{P:Program}{el:Ck->TypeId}{gl:Nat->Option Gv}{tt:Nat->Ty}{f:FuncId}{fn:Func}{c:Code}{sa sr:List Sg}{px:Px (HV sr)}{F:FT sa sr}(ht:∀t,B8 P el tt t=true)(hm:P.follows .mixedOrders=true)(hf:P.funcs[f]? = some fn)(hb:fn.body=some c)(hname:(fn.name == "runtime.NumGoroutine")=false)(hchk:(Bm fn.ntmps c&&Nat.ble sa.length fn.ntmps&&Cc (A7 0 sa) [])=true)
  (hl:∀b st K,px.loop b st K=none) (h:∀cx,Hx P el gl tt cx->Lv cx px) (hF:∀x,A87 px fn sa sr x some=F x):FnOk P el gl f sa sr F :=
 Bmv hf hb hname hm hchk (λcx a b c _=>by have h1:=h cx ⟨a,b,c,ht,hm⟩;exact⟨h1.p,h1.c,h1.q,λb st K r hk=>by rw[hl] at hk;cases hk⟩) hF
end
def sameI:List Idx->List Idx->Bool
 |[],[]=>true
 |a::l,b::m=>decide (a.name=b.name)&&decide (a.cols=b.cols)&&sameI l m
 |_,_=>false
theorem Ayu:∀{l m:List Idx},sameI l m=true->l=m
 |[],[],_=>rfl
 |⟨_,_⟩::l,⟨_,_⟩::m,h=>by simp only[sameI,Zb1,Zg1] at h;have h1:=Ayu h.2;have h2:=h.1.1;have h3:=h.1.2;subst h1 h2 h3;rfl
 |[],_::_,h=>by cases h
 |_::_,[],h=>by cases h
def Bg6(a b:Tbl):Bool:=decide (a.name=b.name)&&decide (a.cols=b.cols)&&decide (a.key=b.key)&&sameI a.idx b.idx&&a.checks.isEmpty&&b.checks.isEmpty
theorem Bfw{a b:Tbl}(h:Bg6 a b=true):a=b:=by obtain⟨n,c,k,x,i⟩:=a;obtain⟨n',c',k',x',i'⟩:=b;simp only[Bg6,Zb1,Zg1] at h;obtain⟨⟨⟨⟨⟨h1,h2⟩,h3⟩,h4⟩,h5⟩,h6⟩:=h;subst h1 h2 h3;rw[Ayu h4];rw[List.isEmpty_iff.1 h5,List.isEmpty_iff.1 h6]
mutual
def Av0:NodeS->NodeS->Bool
 |.mk k p h v l s,.mk k' p' h' v' l' s'=>decide (k=k')&&decide (p=p')&&decide (h=h')&&decide (v=v')&&decide (s=s')&&sameNl l l'
def sameNl:List NodeS->List NodeS->Bool
 |[],[]=>true
 |a::l,b::m=>Av0 a b&&sameNl l m
 |_,_=>false
end
mutual
theorem Alf:∀{a b:NodeS},Av0 a b=true->a=b
 |.mk k p h v l s,.mk k' p' h' v' l' s',e=>by simp only[Av0,Zb1,Zg1] at e;obtain⟨⟨⟨⟨⟨h1,h2⟩,h3⟩,h4⟩,h5⟩,h6⟩:=e;have h7:=sameNl_eq h6;subst h1 h2 h3 h4 h5 h7;rfl
theorem sameNl_eq:∀{l m:List NodeS},sameNl l m=true->l=m
 |[],[],_=>rfl
 |a::l,b::m,h=>by simp only[sameNl,Zb1] at h;rw[Alf h.1,sameNl_eq h.2]
 |[],_::_,h=>by simp[sameNl] at h
 |_::_,[],h=>by simp[sameNl] at h
end
def Avt:(c:Ck)->El c->El c->Bool
 |.byte,a,b=>decide (a=b)
 |.int,a,b=>decide (a=b)
 |.u64,a,b=>decide (a=b)
 |.str,a,b=>decide (a=b)
 |.bool,a,b=>decide (a=b)
 |.val,a,b=>decide (a=b)
 |.tok,a,b=>decide (a=b)
 |.col,a,b=>decide (a=b)
 |.vals,a,b=>decide (a=b)
 |.strs,a,b=>decide (a=b)
 |.bytes,a,b=>decide (a=b)
 |.idx,a,b=>decide (a.name=b.name)&&decide (a.cols=b.cols)
 |.tbl,a,b=>Bg6 a b
 |.node,a,b=>Av0 a b
 |.stt,a,b=>Av0 a b
 |.kv,a,b=>decide (a.key=b.key)&&decide (a.val=b.val)
 |_,_,_=>false
theorem A06:∀{c:Ck}{a b:El c},Avt c a b=true->a=b:=by
 intro c a b h;cases c
 case idx=>cases a;cases b;simp only[Avt,Zb1,Zg1] at h;simp only[h.1,h.2]
 case kv=>cases a;cases b;simp only[Avt,Zb1,Zg1] at h;simp only[h.1,h.2]
 case tbl=>exact Bfw h
 case node=>exact Alf h
 case stt=>exact Alf h
 all_goals first
  |exact of_decide_eq_true h
  |exact absurd h Bool.false_ne_true
def Abb(c:Ck):List (El c)->List (El c)->Bool
 |[],[]=>true
 |a::l,b::m=>Avt c a b&&Abb c l m
 |_,_=>false
theorem Ao3{c:Ck}:∀{l m:List (El c)},Abb c l m=true->l=m
 |[],[],_=>rfl
 |a::l,b::m,h=>by simp only[Abb,Zb1] at h;rw[A06 h.1,Ao3 h.2]
 |[],_::_,h=>by cases h
 |_::_,[],h=>by cases h
def Bho:(s:Sg)->den s->den s->Bool
 |.int _,a,b=>decide (a=b)
 |.bool,a,b=>decide (a=b)
 |.str,a,b=>decide (a=b)
 |.sl c _,a,b=>Abb c a b
 |.sv c,a,b=>Avt c a b
 |.rw c _,a,b=>Abb c a b
 |.dn c,a,b=>Abb c a b
 |.nl _,_,_=>true
theorem Avy:∀{s:Sg}{a b:den s},Bho s a b=true->a=b:=by
 intro s a b h;cases s<;>first
  |exact of_decide_eq_true h
  |exact Ao3 h
  |exact A06 h
  |rfl
def Au3:(l:List Sg)->HV l->HV l->Bool
 |[],_,_=>true
 |[a],x,y=>Bho a x y
 |a::b::l,x,y=>Bho a x.1 y.1&&Au3 (b::l) x.2 y.2
theorem Anw:∀{l:List Sg}{x y:HV l},Au3 l x y=true->x=y
 |[],_,_,_=>rfl
 |[a],_,_,h=>Avy h
 |a::b::l,x,y,h=>by simp only[Au3,Zb1] at h;exact Prod.ext (Avy h.1) (Anw (l:=b::l) h.2)
def G0(sa sr:List Sg):List (HV sa×HV sr)->HV sa->Option (HV sr)
 |[],_=>none
 |(a,r)::l,x=>match Au3 sa x a with|true=>some r|false=>G0 sa sr l x
theorem Aar{sa sr:List Sg}{F:HV sa->Option (HV sr)}:∀{l:List (HV sa×HV sr)}(_:∀q,q∈l->F q.1=some q.2) (x:HV sa) (r:HV sr),G0 sa sr l x=some r->F x=some r
 |[],_,_,_,h=>by cases h
 |(a,r')::l,hl,x,r,h=>by
  unfold G0 at h;split at h
  ·rename_i e;injection h with h;subst h;rw[Anw e];exact hl _ (Zr1 ..)
  ·exact Aar (λq hq=>hl q (Zu1 _ hq)) x r h
theorem FnOk.le{P:Program}{el:Ck->TypeId}{gl:Nat->Option Gv}{f:FuncId}{sa sr:List Sg}{F G:HV sa->Option (HV sr)}(h:FnOk P el gl f sa sr F)(hg:∀x r,G x=some r->F x=some r):FnOk P el gl f sa sr G :=⟨h.enters,λx r hx=>h.run x r (hg x r hx)⟩
theorem FnLn.le{P:Program}{el:Ck->TypeId}{gl:Nat->Option Gv}{f:FuncId}{sg so:Sig}{F G:HV sg.sgs->Option (HV so.sgs)}(h:FnLn P el gl f sg so F)(hg:∀x r,G x=some r->F x=some r):FnLn P el gl f sg so G :=⟨h.enters,λx r hx=>h.run x r (hg x r hx)⟩
def Bug{R:Type}(px:Px R)(w:Nat->Option (Gi R)):Px R:=⟨px.tt,px.gl,px.call,px.callQ,px.loop,λg=>match w g with
 |some f=>some f
 |none=>px.callW g,px.yld⟩
theorem Bp6{R:Type}{cx:Cx}{px:Px R}{w:Nat->Option (Gi R)}(h:Lv2 cx px)(hw:∀g f,w g=some f->Fb cx g f):Lv2 cx (Bug px w):=by
 refine⟨⟨h.1.1,h.1.2,h.1.3⟩,λg args st K r hk=>h.2.1 g args st K r hk,⟨λg args K r hk=>h.2.2.1.1 g args K r hk,λg f hf =>?_⟩,λb st K r hk=>h.2.2.2 b st K r hk⟩;simp only[Bug] at hf;split at hf
 ·rename_i f' hf';cases hf;exact hw g _ hf'
 ·exact h.2.2.1.2 g f hf
def Blb{R:Type}(px:Px R)(c:Nat->Option (Ev R))(w:Nat->Option (Gi R)):Px R:=⟨px.tt,px.gl,λg=>match c g with
 |some f=>f
 |none=>px.call g,px.callQ,px.loop,λg=>match w g with
 |some f=>some f
 |none=>px.callW g,px.yld⟩
theorem Bms{R:Type}{cx:Cx}{px:Px R}{c:Nat->Option (Ev R)}{w:Nat->Option (Gi R)}(h:Lv2 cx px)(hc:∀g f,c g=some f->Gt cx g f)(hw:∀g f,w g=some f->Fb cx g f):Lv2 cx (Blb px c w):=by
 refine⟨⟨h.1.1,h.1.2,h.1.3⟩,λg args st K r hk =>?_,⟨λg args K r hk=>h.2.2.1.1 g args K r hk,λg f hf =>?_⟩,λb st K r hk=>h.2.2.2 b st K r hk⟩
 ·have hk:(match c g with|some f=>f|none=>px.call g) args st K=some r:=hk;cases hg:c g with|none =>rw[hg] at hk;exact h.2.1 g args st K r hk|some f =>rw[hg] at hk;exact hc g f hg args st K r hk
 ·simp only[Blb] at hf;split at hf
  ·rename_i f' hf';cases hf;exact hw g _ hf'
  ·exact h.2.2.1.2 g f hf
end Go.Ax
namespace Go.Proofs.YtcoaaebppfbbnaaGreatDoor
open Go.Ax
inductive T where
 |no
 |lf (p v:Str)
 |way (p:Str) (k:T)
 |br (o:Option Str) (k:Nat->T)
namespace T
def isBr:T->Bool
 |.br _ _=>true
 |_=>false
def isNo:T->Bool
 |.no=>true
 |_=>false
end T
def A3:Str->Str->Option Str
 |[],p=>some p
 |_::_,[]=>none
 |x::q,y::p=>if x=y then A3 q p else none
theorem Bi:∀{q p r:Str},A3 q p=some r↔p=q++r
 |[],p,r=>by simp[A3]
 |x::q,[],r=>by simp[A3]
 |x::q,y::p,r=>by
  simp only[A3];split
  ·rename_i h;subst h;simp[Bi (q:=q)]
  ·rename_i h;simp;intro h2;exact absurd h2.symm h
theorem Fj(q r:Str):A3 q (q++r)=some r:=Bi.2 rfl
def B6:Str->Str->Str×Str×Str
 |x::a,y::b=>if x=y then(x::(B6 a b).1,(B6 a b).2) else([],x::a,y::b)
 |a,b=>([],a,b)
theorem Ft:∀a b:Str,a=(B6 a b).1++(B6 a b).2.1/\b=(B6 a b).1++(B6 a b).2.2
 |[],b=>by simp[B6]
 |_::_,[]=>by simp[B6]
 |x::a,y::b=>by
  simp only[B6];split
  ·rename_i h;have ih:=Ft a b;subst h;exact⟨by rw[Zb2,<-ih.1],by rw[Zb2,<-ih.2]⟩
  ·simp
theorem Gj:∀{a b:Str}{x y:UInt8}{a' b':Str},(B6 a b).2.1=x::a'->(B6 a b).2.2=y::b'->x≠y
 |[],b,x,y,a',b',h,_=>by simp[B6] at h
 |_::_,[],_,_,_,_,_,h=>by simp[B6] at h
 |x::a,y::b,x',y',a',b',h,h2=>by
  simp only[B6] at h h2;split at h
  ·rename_i e;simp only[e,if_true] at h2;exact Gj h h2
  ·rename_i e;simp only[e,if_false] at h2;simp at h h2;rw[<-h.1,<-h2.1];exact e
def upd(k:Nat->T)(i:Nat)(t:T):Nat->T:=λj=>if j=i then t else k j
theorem Hw(k:Nat->T)(i:Nat)(t:T):upd k i t i=t:=by simp[upd]
theorem K4{k:Nat->T}{i j:Nat}{t:T}(h:j≠i):upd k i t j=k j:=by simp[upd,h]
def Lx:Str->T->T
 |[],t=>t
 |x::p,t =>.way (x::p) t
def nos:Nat->T:=λ_ =>.no
def hold(o:Option Str)(k:Nat->T):Str->Str->T
 |[],v =>.br (some v) k
 |x::p,v =>.br o (upd k x.toNat (.lf p v))
def Ym(q u p v:Str):T:=match B6 q p with|(s,[],b)=>Lx s (hold (some u) nos b v)|(s,x::a,b)=>Lx s (hold none (upd nos x.toNat (.lf a u)) b v)
def Xr(q:Str)(k:T)(p v:Str):T:=match B6 q p with|(_,[],_) =>.no|(s,x::a,b)=>Lx s (hold none (upd nos x.toNat (Lx a k)) b v)
namespace T
def put:T->Str->Str->T
 |.no,p,v =>.lf p v
 |.lf q u,p,v=>if q=p then .lf p v else Ym q u p v
 |.way q k,p,v=>match A3 q p with|some r =>.way q (k.put r v)|none=>Xr q k p v
 |.br _ k,[],v =>.br (some v) k
 |.br o k,x::p,v =>.br o (upd k x.toNat ((k x.toNat).put p v))
def look:T->Str->Option Str
 |.no,_=>none
 |.lf q v,p=>if q=p then some v else none
 |.way q k,p=>match A3 q p with|some r=>k.look r|none=>none
 |.br o _,[]=>o
 |.br _ k,x::p=>(k x.toNat).look p
end T
theorem Jy:∀(s:Str) (t:T) (r:Str),(Lx s t).look r=match A3 s r with|some r'=>t.look r'|none=>none
 |[],t,r=>by simp[Lx,A3]
 |x::s,t,r=>by simp[Lx,T.look]
theorem Ic{x y:UInt8}(h:x≠y):x.toNat≠y.toNat:=λe=>h (UInt8.toNat_inj.1 e)
theorem Ac7(o:Option Str)(k:Nat->T)(v:Str):∀(b:Str),(∀x b',b=x::b'->k x.toNat = .no)->∀r,(hold o k b v).look r=if r=b then some v else(T.br o k).look r
 |[],_,[]=>by simp[hold,T.look]
 |[],_,y::r=>by simp[hold,T.look]
 |x::b,h,[]=>by simp[hold,T.look]
 |x::b,h,y::r=>by
  simp only[hold,T.look];by_cases e:y=x
  ·subst e;rw[Hw,h y b rfl];simp only[T.look,Ze2,true_and];by_cases e2:r=b
   ·simp[e2]
   ·simp[e2,Ne.symm e2]
  ·rw[K4 (Ic e)];simp[e]
theorem X8{s a b:Str}:s++a=s++b↔a=b:=by simp
theorem A36{q u p v:Str}(h:q≠p)(r:Str):(Ym q u p v).look r=if r=p then some v else if r=q then some u else none:=by
 have he:=Ft q p;have hn :=@Gj q p;unfold Ym;generalize B6 q p=z at he hn;obtain⟨s,a,b⟩:=z;simp only at he hn;obtain⟨rfl,rfl⟩:=he;have hab:a≠b:=λe=>h (by rw[e]);cases hs:A3 s r with
 |none =>
  have h1:∀c,r≠s++c:=λc e=>by rw[e,Fj] at hs;cases hs
  cases a<;>simp[Jy,hs,h1,show r≠s fromλe=>h1 [] (by simpa using e)]
 |some r' =>
  have e:=Bi.1 hs;subst e;cases a with
  |nil =>
   simp only[Jy,hs];rw[Ac7 _ _ _ _ (λ_ _ _=>rfl)];have:(s++r' = s++[])↔r' = []:=by simp
   simp only[X8,this];cases r'<;>simp[T.look,nos]
  |cons x a =>
   simp only[Jy,hs];rw[Ac7 _ _ _ _ (λy b' e=>by rw[K4 (Ic (Ne.symm (hn (x:=x) rfl e)))];rfl)];simp only[X8];cases r' with
   |nil=>simp[T.look]
   |cons y r' =>
    simp only[T.look];by_cases e:y=x
    ·subst e;rw[Hw];simp only[T.look,Ze2,true_and];by_cases e2:r' = a
     ·simp[e2]
     ·simp[e2,Ne.symm e2]
    ·rw[K4 (Ic e)];simp[T.look,nos,e]
theorem A4f{q:Str}{k:T}{p v:Str}(h:A3 q p=none)(r:Str):(Xr q k p v).look r=if r=p then some v else(T.way q k).look r:=by
 have he:=Ft q p;have hn :=@Gj q p;unfold Xr;generalize B6 q p=z at he hn;obtain⟨s,a,b⟩:=z;simp only at he hn;obtain⟨rfl,rfl⟩:=he;cases a with
 |nil=>simp[Fj] at h
 |cons x a =>
  simp only[Jy,T.look];cases hs:A3 s r with
  |none =>
   have h1:∀c,r≠s++c:=λc e=>by rw[e,Fj] at hs;cases hs
   have h2:A3 (s++x::a) r=none:=by cases hq:A3 (s++x::a) r with|none=>rfl|some z=>have:=Bi.1 hq;rw[Zj1] at this;exact absurd this (h1 _)
   simp[h1,h2]
  |some r' =>
   have e:=Bi.1 hs;subst e;simp only;rw[Ac7 _ _ _ _ (λy b' e=>by rw[K4 (Ic (Ne.symm (hn (x:=x) rfl e)))];rfl)];simp only[X8];by_cases eb:r' = b
   ·simp[eb]
   ·simp only[eb,if_false];cases r' with
    |nil =>
     have:A3 (s++x::a) (s++[])=none:=by cases hq:A3 (s++x::a) (s++[]) with|none=>rfl|some z=>have:=Bi.1 hq;simp at this
     simp only[this,T.look]
    |cons y r' =>
     simp only[T.look];by_cases e:y=x
     ·subst e;rw[Hw,Jy];have:A3 (s++y::a) (s++y::r')=A3 a r':=by
       cases hq:A3 a r' with
       |some z=>rw[Bi] at hq ⊢;rw[hq];simp
       |none =>cases hq2:A3 (s++y::a) (s++y::r') with|none=>rfl|some z=>rw[Bi] at hq2;simp at hq2;rw[hq2,Fj] at hq;cases hq
      rw[this]
     ·rw[K4 (Ic e)];have:A3 (s++x::a) (s++y::r')=none:=by cases hq2:A3 (s++x::a) (s++y::r') with|none=>rfl|some z=>rw[Bi] at hq2;simp at hq2;exact absurd hq2.1 e
      simp[T.look,nos,this]
theorem Ai9:∀(t:T) (p v r:Str),(t.put p v).look r=if r=p then some v else t.look r
 |.no,p,v,r=>by simp only[T.put,T.look];by_cases e:r=p<;>simp[e,Ne.symm,eq_comm (a:=p)]
 |.lf q u,p,v,r=>by
  simp only[T.put];split
  ·rename_i e;subst e;simp only[T.look];by_cases e:r=q
   ·simp[e]
   ·simp[e,Ne.symm e]
  ·rename_i e;rw[A36 e];simp only[T.look];by_cases e1:r=p
   ·simp[e1]
   ·simp only[e1,if_false];by_cases e2:r=q
    ·simp[e2]
    ·simp[e2,Ne.symm e2]
 |.way q k,p,v,r=>by
  simp only[T.put];split
  ·rename_i r' e;have e':=Bi.1 e;subst e';simp only[T.look];cases hs:A3 q r with
   |none =>
    have:r≠q++r':=λe=>by rw[e,Fj] at hs;cases hs
    simp[this]
   |some r2 =>have:=Bi.1 hs;subst this;simp only[Ai9 k,X8]
  ·rename_i e;exact A4f e r
 |.br o k,[],v,r=>by cases r<;>simp[T.put,T.look]
 |.br o k,x::p,v,r=>by
  cases r with
  |nil=>simp[T.put,T.look]
  |cons y r =>
   simp only[T.put,T.look];by_cases e:y=x
   ·subst e;rw[Hw,Ai9];simp
   ·rw[K4 (Ic e)];simp[e]
def hv(p:Str):Prop:=∀x,x∈p->x.toNat<16
theorem Xk:hv []:=λ_ h=>by cases h
theorem E6{a b:Str}:hv (a++b)↔hv a/\hv b:=by simp only[hv,List.mem_append];exact⟨λh=>⟨λx hx=>h x (.inl hx),λx hx=>h x (.inr hx)⟩,λh x hx=>hx.elim (h.1 x) (h.2 x)⟩
theorem Dl{x:UInt8}{a:Str}:hv (x::a)↔x.toNat<16/\hv a:=by simp[hv]
def Ams(o:Option Str)(k:Nat->T):Nat:=(if o.isSome then 1 else 0)+(List.range 16).countP λi => !(k i).isNo
def T.Wf:T->Nat->Prop
 |.no,d=>d<=400
 |.lf p v,d=>hv p/\d+p.length<=400/\(d+p.length) % 2=0/\v.length<=4000
 |.way p k,d=>hv p/\p≠[]/\k.isBr=true/\k.Wf (d+p.length)
 |.br o k,d=>d+1<=400/\(∀v,o=some v->d % 2=0/\v.length<=4000)/\2<=Ams o k/\∀i,i<16->(k i).Wf (d+1)
theorem Wf.le{t:T}:∀{d:Nat},t.Wf d->d<=400:=by
 cases t with
 |no=>exactλh=>h
 |lf p v=>intro d h;have:=h.2.1;omega
 |way p k =>intro d h;cases k with|br o k=>have:=h.2.2.2.1;omega|_=>cases h.2.2.1
 |br o k=>intro d h;have:=h.1;omega
theorem two:∀x y:Fin 16,x≠y->2<=(List.range 16).countP (λi=>i == x.val||i == y.val):=by decide
theorem Aqj{o o':Option Str}{k k':Nat->T}(ho:o.isSome=true->o'.isSome=true)(hk:∀i,i<16->(k i).isNo=false->(k' i).isNo=false):Ams o k<=Ams o' k':=by
 have h1:(List.range 16).countP (λi => !(k i).isNo)<=(List.range 16).countP λi => !(k' i).isNo:=List.countP_mono_left λi hi h=>by have:=hk i (List.mem_range.1 hi);simp at h ⊢;exact this h
 unfold Ams;cases h:o.isSome with|true=>simp[ho h];exact h1|false=>simp;omega
theorem Bja{o:Option Str}{k:Nat->T}{x y:Nat}(hx:x<16)(hy:y<16)(h:x≠y)(h1:(k x).isNo=false)(h2:(k y).isNo=false) : 2<=Ams o k:=by
 have h3:=two ⟨x,hx⟩ ⟨y,hy⟩ λe=>h (by simpa using e);have h4:(List.range 16).countP (λi=>i == x||i == y)<=(List.range 16).countP λi => !(k i).isNo:=List.countP_mono_left λi hi h=>by
  simp at h ⊢;rcases h with rfl|rfl
  ·exact h1
  ·exact h2
 unfold Ams;simp at h3;omega
theorem A09{v:Str}{k:Nat->T}{x:Nat}(hx:x<16)(h1:(k x).isNo=false) : 2<=Ams (some v) k:=by have : 0<(List.range 16).countP λi => !(k i).isNo:=List.countP_pos_iff.2 ⟨x,List.mem_range.2 hx,by simp[h1]⟩;unfold Ams;simp;omega
theorem Yl:∀{s:Str}{t:T}{d:Nat},hv s->t.isBr=true->t.Wf (d+s.length)->(Lx s t).Wf d/\(Lx s t).isNo=false
 |[],t,d,_,h,h2=>⟨h2,by cases t<;>first|rfl|cases h⟩
 |x::s,t,d,h,h1,h2=>⟨⟨h,by simp,h1,h2⟩,rfl⟩
theorem Aus(o:Option Str)(k:Nat->T)(b v:Str):(hold o k b v).isBr=true:=by cases b<;>rfl
def Bxa(o:Option Str)(k:Nat->T)(d:Nat):Prop:=d+1<=400/\(∀v,o=some v->d % 2=0/\v.length<=4000)/\∀i,i<16->(k i).Wf (d+1)
theorem Art{k:Nat->T}{i d:Nat}{t:T}(h:∀i,i<16->(k i).Wf d)(ht:t.Wf d):∀j,j<16->(upd k i t j).Wf d:=λj hj=>by
 unfold upd;split
 ·exact ht
 ·exact h j hj
theorem Arl{o:Option Str}{k:Nat->T}{b v:Str}{d:Nat}(h:Bxa o k d)(hb:hv b)(hd:d+b.length<=400)(he:(d+b.length) % 2=0)(hl:v.length<=4000)
  (hm:(b=[]/\∃x,x<16/\(k x).isNo=false)\/(∃y b',b=y::b'/\(o.isSome=true\/∃x,x<16/\x≠y.toNat/\(k x).isNo=false))):(hold o k b v).Wf d:=by
 rcases hm with ⟨rfl,x,hx,hk⟩|⟨y,b',rfl,hm⟩
 ·exact⟨h.1,λw e=>by cases e;exact⟨by simpa using he,hl⟩,A09 hx hk,h.2.2⟩
 ·have hb:=Dl.1 hb;simp only[Zf1] at hd he;refine⟨h.1,h.2.1,?_,Art h.2.2 ⟨hb.2,by omega,by omega,hl⟩⟩;rcases hm with ho|⟨x,hx,hne,hk⟩
  ·obtain⟨w,rfl⟩:=Option.isSome_iff_exists.1 ho;exact A09 hb.1 (by rw[Hw];rfl)
  ·exact Bja hx hb.1 hne (by rw[K4 hne];exact hk) (by rw[Hw];rfl)
theorem A2y{d:Nat}(h:d<=400):∀i,i<16->(nos i).Wf d:=λ_ _=>h
theorem Bk4{q u p v:Str}{d:Nat}(h:q≠p)(ht:(T.lf q u).Wf d)(hp:hv p)(hd:d+p.length<=400)(he:(d+p.length) % 2=0)(hl:v.length<=4000):(Ym q u p v).Wf d/\(Ym q u p v).isNo=false:=by
 have hs:=Ft q p;have hn :=@Gj q p;unfold Ym;generalize B6 q p=z at hs hn;obtain⟨s,a,b⟩:=z;simp only at hs hn;obtain⟨rfl,rfl⟩:=hs;obtain⟨h1,h2,h3,h4⟩:=ht;have h1:=E6.1 h1;have hp:=E6.1 hp;simp only[Zh1] at h2 h3 hd he;cases a with
 |nil =>cases b with|nil=>exact absurd rfl h|cons y b =>simp only[Zf1,Zi1] at h2 h3 hd he;exact Yl h1.1 (Aus ..) (Arl ⟨by omega,λw e=>by cases e;exact⟨by omega,h4⟩,A2y (by omega)⟩ hp.2 (by simp;omega) (by simp;omega) hl (.inr ⟨y,b,rfl,.inl rfl⟩))
 |cons x a =>simp only[Zf1] at h2 h3;have hx:=Dl.1 h1.2;refine Yl h1.1 (Aus ..) (Arl ⟨by omega,λw e=>(by cases e),Art (A2y (by omega)) ⟨hx.2,by omega,by omega,h4⟩⟩ hp.2 (by omega) (by omega) hl ?_);cases b with|nil=>exact .inl ⟨rfl,x.toNat,hx.1,by rw[Hw];rfl⟩|cons y b=>exact .inr ⟨y,b,rfl,.inr ⟨x.toNat,hx.1,Ic (hn rfl rfl),by rw[Hw];rfl⟩⟩
theorem Bkm{q:Str}{k:T}{p v:Str}{d:Nat}(h:A3 q p=none)(ht:(T.way q k).Wf d)(hp:hv p)(hd:d+p.length<=400)(he:(d+p.length) % 2=0)(hl:v.length<=4000):(Xr q k p v).Wf d/\(Xr q k p v).isNo=false:=by
 have hs:=Ft q p;have hn :=@Gj q p;unfold Xr;generalize B6 q p=z at hs hn;obtain⟨s,a,b⟩:=z;simp only at hs hn;obtain⟨rfl,rfl⟩:=hs;obtain⟨h1,_,h3,h4⟩:=ht;have h1:=E6.1 h1;have hp:=E6.1 hp;have hle:=Wf.le h4;simp only[Zh1] at hle h4 hd he;cases a with
 |nil=>simp[Fj] at h
 |cons x a =>simp only[Zf1] at h4 hle;have hx:=Dl.1 h1.2;have h5:=Yl (s:=a) (t:=k) (d:=d+s.length+1) hx.2 h3 (by rw[show d+s.length+1+a.length=d+(s.length+(a.length+1)) by omega];exact h4);refine Yl h1.1 (Aus ..) (Arl ⟨by omega,λw e=>(by cases e),Art (A2y (by omega)) h5.1⟩ hp.2 (by omega) (by omega) hl ?_);cases b with|nil=>exact .inl ⟨rfl,x.toNat,hx.1,by rw[Hw];exact h5.2⟩|cons y b=>exact .inr ⟨y,b,rfl,.inr ⟨x.toNat,hx.1,Ic (hn rfl rfl),by rw[Hw];exact h5.2⟩⟩
theorem A4s:∀{t:T}{p v:Str}{d:Nat},t.Wf d->hv p->d+p.length<=400->(d+p.length) % 2=0->v.length<=4000->(t.put p v).Wf d/\(t.put p v).isNo=false/\(t.isBr=true->(t.put p v).isBr=true)
 |.no,p,v,d,h,hp,hd,he,hl=>⟨⟨hp,hd,he,hl⟩,rfl,λh=>by cases h⟩
 |.lf q u,p,v,d,h,hp,hd,he,hl=>by
  simp only[T.put];split
  ·exact⟨⟨hp,hd,he,hl⟩,rfl,λh=>by cases h⟩
  ·rename_i e;have:=Bk4 e h hp hd he hl;exact⟨this.1,this.2,λh=>by cases h⟩
 |.way q k,p,v,d,h,hp,hd,he,hl=>by
  simp only[T.put];split
  ·rename_i r e;have e:=Bi.1 e;subst e;simp only[Zh1] at hd he;have:=A4s (p:=r) (v:=v) h.2.2.2 (E6.1 hp).2 (by omega) (by omega) hl;exact⟨⟨h.1,h.2.1,this.2.2 h.2.2.1,this.1⟩,rfl,λh=>by cases h⟩
  ·rename_i e;have:=Bkm e h hp hd he hl;exact⟨this.1,this.2,λh=>by cases h⟩
 |.br o k,[],v,d,h,hp,hd,he,hl=>⟨⟨h.1,λw e=>by cases e;exact⟨by simpa using he,hl⟩,Nat.le_trans h.2.2.1 (Aqj (λ_=>rfl) λ_ _ h=>h),h.2.2.2⟩,rfl,λ_=>rfl⟩
 |.br o k,x::p,v,d,h,hp,hd,he,hl=>by
  have hx:=Dl.1 hp;simp only[Zf1] at hd he;have:=A4s (p:=p) (v:=v) (h.2.2.2 x.toNat hx.1) hx.2 (by omega) (by omega) hl;refine⟨⟨h.1,h.2.1,Nat.le_trans h.2.2.1 (Aqj (λh=>h) λi _ hi =>?_),Art h.2.2.2 this.1⟩,rfl,λ_=>rfl⟩;unfold upd;split
  ·exact this.2.1
  ·exact hi
theorem Af5:∀{t:T}{r v:Str}{d:Nat},t.Wf d->hv r->t.look r=some v->d+r.length<=400/\(d+r.length) % 2=0/\v.length<=4000
 |.no,r,v,d,h,hr,e=>by cases e
 |.lf q u,r,v,d,h,hr,e=>by
  simp only[T.look] at e;split at e
  ·rename_i e2;subst e2;cases e;exact h.2
  ·cases e
 |.way q k,r,v,d,h,hr,e=>by
  simp only[T.look] at e;split at e
  ·rename_i r' e2;have e2:=Bi.1 e2;subst e2;have:=Af5 h.2.2.2 (E6.1 hr).2 e;simp only[Zh1];omega
  ·cases e
 |.br o k,[],v,d,h,hr,e=>by have:=h.2.1 v e;have:=h.1;simp;omega
 |.br o k,x::r,v,d,h,hr,e=>by have hx:=Dl.1 hr;have:=Af5 (h.2.2.2 x.toNat hx.1) hx.2 e;simp only[Zf1];omega
def T.items:T->Str->List (Str×Str)
 |.no,_=>[]
 |.lf p v,w=>[(w++p,v)]
 |.way p k,w=>k.items (w++p)
 |.br o k,w=>(match o with|some v=>[(w,v)]|none=>[])++(List.range 16).flatMap λi=>(k i).items (w++[UInt8.ofNat i])
theorem Fl:∀{t:T}{w q v:Str}{d:Nat},t.Wf d->((q,v)∈t.items w↔∃r,q=w++r/\hv r/\t.look r=some v)
 |.no,w,q,v,d,h=>by simp[T.items,T.look]
 |.lf p u,w,q,v,d,h=>by
  simp only[T.items,T.look,List.mem_singleton,Zp1];constructor
  ·rintro⟨rfl,rfl⟩;exact⟨p,rfl,h.1,by simp⟩
  ·rintro⟨r,rfl,hr,e⟩;split at e
   ·rename_i e2;subst e2;cases e;exact⟨rfl,rfl⟩
   ·cases e
 |.way p k,w,q,v,d,h=>by
  simp only[T.items,T.look];rw[Fl h.2.2.2];constructor
  ·rintro⟨r,rfl,hr,e⟩;exact⟨p++r,by simp,E6.2 ⟨h.1,hr⟩,by rw[Fj];exact e⟩
  ·rintro⟨r,rfl,hr,e⟩;split at e
   ·rename_i r' e2;have e2:=Bi.1 e2;subst e2;exact⟨r',by simp,(E6.1 hr).2,e⟩
   ·cases e
 |.br o k,w,q,v,d,h=>by
  simp only[T.items,List.mem_append,List.mem_flatMap,List.mem_range];constructor
  ·rintro(e|⟨i,hi,e⟩)
   ·cases o with|none=>cases e|some u=>simp at e;obtain⟨rfl,rfl⟩:=e;exact⟨[],by simp,Xk,rfl⟩
   ·obtain⟨r,rfl,hr,e⟩:=(Fl (h.2.2.2 i hi)).1 e;have hn:(UInt8.ofNat i).toNat=i:=by simp[UInt8.toNat_ofNat'];omega
    exact⟨UInt8.ofNat i::r,by simp,Dl.2 ⟨by omega,hr⟩,by simp only[T.look,hn];exact e⟩
  ·rintro⟨r,rfl,hr,e⟩;cases r with|nil =>simp only[T.look] at e;subst e;exact .inl (by simp)|cons x r =>have hx:=Dl.1 hr;refine .inr ⟨x.toNat,hx.1,(Fl (h.2.2.2 _ hx.1)).2 ⟨r,by simp,hx.2,e⟩⟩
theorem A39:∀(w:Str) {a b:Str},a<b->w++a<w++b
 |[],_,_,h=>h
 |x::w,_,_,h=>by simp only[Zb2];exact List.cons_lt_cons_iff.2 (.inr ⟨rfl,A39 w h⟩)
theorem N6:∀{t:T}{w:Str}{d:Nat},t.Wf d->(t.items w).Pairwise λa b=>a.1<b.1
 |.no,w,d,h=>by simp[T.items]
 |.lf p v,w,d,h=>by simp[T.items]
 |.way p k,w,d,h=>N6 (t:=k) h.2.2.2
 |.br o k,w,d,h=>by
  simp only[T.items];rw[List.pairwise_append];refine⟨by cases o<;>simp,?_,?_⟩
  ·rw[List.pairwise_flatMap];refine⟨λi hi=>N6 (h.2.2.2 i (List.mem_range.1 hi)),?_⟩;refine List.Pairwise.imp_of_mem ?_ (List.pairwise_lt_range (n:=16));intro i j hi hj hij a ha b hb;have hi:=List.mem_range.1 hi;have hj:=List.mem_range.1 hj;obtain⟨r,h1,_⟩:=(Fl (h.2.2.2 i hi)).1 (show(a.1,a.2)∈_ from ha);obtain⟨s,h2,_⟩:=(Fl (h.2.2.2 j hj)).1 (show(b.1,b.2)∈_ from hb);rw[h1,h2,Zj1,Zj1];refine A39 w (List.cons_lt_cons_iff.2 (.inl ?_));rw[UInt8.lt_iff_toNat_lt];simp[UInt8.toNat_ofNat'];omega
  ·intro a ha b hb;cases o with|none=>cases ha|some v =>simp at ha;subst ha;obtain⟨i,hi,hb⟩:=List.mem_flatMap.1 hb;obtain⟨s,h2,_⟩:=(Fl (h.2.2.2 i (List.mem_range.1 hi))).1 (show(b.1,b.2)∈_ from hb);rw[h2,Zj1];simpa using A39 w (a:=[]) (List.nil_lt_cons (UInt8.ofNat i) s)
def signsL:List (Int×Str):=[(4,[65,78,68]),(5,[79,82]),(6,[61]),(7,[60,62]),(8,[60]),(9,[60,61]),(10,[62]),(11,[62,61]),(12,[43]),(13,[45]),(14,[42])]
def ttL:List (Nat×Ax.Ty):=[
 (3,.int .i64),
 (4,.bool),
 (5,.int .u8),
 (9,.str),
 (21,.int .i32),
 (22,.sl .col),
 (23,.sl .str),
 (24,.sl .expr),
 (25,.sl .idx),
 (27,.st (some .tbl) [(0,9),(1,22),(2,23),(3,24),(4,25)] [.str [],.sl .col [] .nil,.sl .str [] .nil,.sl .expr [] .nil,.sl .idx [] .nil]),
 (28,.sl .val),
 (30,.sl .vals),
 (31,.fn),
 (32,.sl .kv),
 (33,.int .i64),
 (40,.ptr),
 (43,.sl .byte),
 (44,.sl .node),
 (46,.st (some .node) [(0,3),(1,43),(2,4),(3,43),(4,44),(5,43)] [.int .i64 0,.sl .byte [] .nil,.bool false,.sl .byte [] .nil,.sl .node [] .nil,.sl .byte [] .nil]),
 (54,.st (some .col) [(0,9),(1,3),(2,4),(3,4),(4,9)] [.str [],.int .i64 0,.bool false,.bool false,.str []]),
 (56,.st (some .val) [(0,3),(1,3),(2,9)] [.int .i64 0,.int .i64 0,.str []]),
 (59,.st (some .idx) [(0,9),(1,23)] [.str [],.sl .str [] .nil]),
 (60,.int .u64),
 (72,.st (some .lay) [(0,32),(1,33)] [.sl .kv [] .nil,.int .i64 0]),
 (75,.sl .lay),
 (77,.sl .ent),
 (80,.st (some .kv) [(0,43),(1,43)] [.sl .byte [] .nil,.sl .byte [] .nil]),
 (82,.st (some .ent) [(0,3),(1,80)] [.int .i64 0,.sl .byte [] .nil,.sl .byte [] .nil]),
 (86,.st (some .stt) [(0,46)] [.int .i64 0,.sl .byte [] .nil,.bool false,.sl .byte [] .nil,.sl .node [] .nil,.sl .byte [] .nil]),
 (87,.sl .stt),
 (89,.st none [(0,86),(6,87),(7,43)] [.int .i64 0,.sl .byte [] .nil,.bool false,.sl .byte [] .nil,.sl .node [] .nil,.sl .byte [] .nil,.sl .stt [] .nil,.sl .byte [] .nil]),
 (106,.sl .exprs),
 (107,.sl .set),
 (109,.st (some .expr) [(0,3),(1,56),(4,9),(5,24)] [.int .i64 0,.int .i64 0,.int .i64 0,.str [],.str [],.sl .expr [] .nil]),
 (110,.sl .bool),
 (112,.st (some .stmt) [(0,3),(1,9),(2,9),(3,22),(4,23),(5,24),(6,106),(7,107),(8,4),(9,109),(15,23),(16,110),(17,3)] [.int .i64 0,.str [],.str [],.sl .col [] .nil,.sl .str [] .nil,.sl .expr [] .nil,.sl .exprs [] .nil,.sl .set [] .nil,.bool false,.int .i64 0,.int .i64 0,.int .i64 0,.str [],.str [],.sl .expr [] .nil,.sl .str [] .nil,.sl .bool [] .nil,.int .i64 0]),
 (117,.fn),
 (140,.sl .kvs),
 (154,.int .u64),
 (161,.st (some .set) [(0,9),(1,109)] [.str [],.int .i64 0,.int .i64 0,.int .i64 0,.str [],.str [],.sl .expr [] .nil]),
 (173,.ptr),
 (189,.st (some .span) [(0,43),(1,43),(2,4)] [.sl .byte [] .nil,.sl .byte [] .nil,.bool false]),
 (193,.ptr),
 (195,.st none [(0,43),(1,3),(2,33)] [.sl .byte [] .nil,.int .i64 0,.int .i64 0]),
 (197,.fn),
 (212,.arr 2 .int),
 (221,.fn),
 (225,.fn),
 (228,.st none [(0,80),(2,43)] [.sl .byte [] .nil,.sl .byte [] .nil,.sl .byte [] .nil]),
 (234,.fn),
 (236,.fn),
 (238,.sl .bytes),
 (239,.ptr),
 (253,.fn),
 (258,.fn),
 (266,.ptr),
 (267,.fn),
 (275,.int .u32),
 (283,.fn),
 (292,.map),
 (299,.sl .int),
 (301,.st (some .num) [(0,4),(1,299)] [.bool false,.sl .int [] .nil]),
 (315,.fn),
 (319,.fn),
 (326,.arr 256 .byte),
 (328,.st none [(0,5),(1,5)] [.int .u8 0,.int .u8 0])]
def elT:Ck->TypeId
 |.byte=>5
 |.int=>3
 |.u64=>154
 |.str=>9
 |.bool=>4
 |.val=>56
 |.col=>54
 |.expr=>109
 |.num=>301
 |.set=>161
 |.stmt=>112
 |.idx=>59
 |.tbl=>27
 |.node=>46
 |.stt=>86
 |.kv=>80
 |.kvs=>32
 |.lay=>72
 |.ent=>82
 |.span=>189
 |.vals=>28
 |.exprs=>24
 |.strs=>23
 |.bytes=>43
 |_=>0
theorem Xa:(ttL.all λp=>B8 Tryz.prog elT (Ag6 ttL) p.1)=true:=by kernel_rfl
def glT:Nat->Option Gv:=tbl [(0,.num .i64),(2,.map signsL)]
theorem follows:Tryz.prog.follows .mixedOrders=true:=by kernel_rfl
abbrev FO:=FnOk Tryz.prog elT glT
abbrev FM:=FnLn Tryz.prog elT glT
abbrev HX:=Hx Tryz.prog elT glT (Ag6 ttL)
def pxO{R:Type}(c:List (Nat×Ev R))(q:List (Nat×Ed R))(l:List (Nat×Ay2 R))(w:List (Nat×Gi R)):Px R:=⟨Ag6 ttL,glT,A7e c,At6 q,Bvj l,tbl w,λ_ _ _ _=>none⟩
abbrev cA{R:Type}{sa sr:List Sg}(F:FT sa sr):Ev R:=Ku sa sr F
abbrev qA{R:Type}{sa sr:List Sg}(F:FT sa sr):Ed R:=Iz sa sr F
theorem fR{f:FuncId}{fn:Func}{c:Code}{sa sr:List Sg}{px:Px (HV sr)}{F:FT sa sr}{n:Nat}(hf:Tryz.prog.funcs[f]? = some fn)(hb:fn.body=some c)(h:∀cx,HX cx->Lv cx px/\∀i,i<n->Bg cx px (lp fn i))(hF:∀x,Zj px fn sa sr x some=F x)(hname:(fn.name == "runtime.NumGoroutine")=false:=by kernel_rfl)(hchk:(Qo fn&&Nat.ble sa.length fn.ntmps&&Cc (A7 0 sa) [])=true:=by kernel_rfl)(hn:Kz fn=n:=by kernel_rfl):FO f sa sr F:=fO (Ajh Xa) follows hf hb hname hchk hn h hF
theorem fRL{f:FuncId}{fn:Func}{c:Code}{sg so:Sig}{px:Px (HV so.sgs)}{F:FL sg so}{n:Nat}(hf:Tryz.prog.funcs[f]? = some fn)(hb:fn.body=some c)(h:∀cx,HX cx->Lv cx px/\∀i,i<n->Bg cx px (lp fn i))(hF:∀x,Hg px fn sg so x some=F x)(hname:(fn.name == "runtime.NumGoroutine")=false:=by kernel_rfl)(hchk:(Qo fn&&Nat.ble sg.n fn.ntmps)=true:=by kernel_rfl)(hn:Kz fn=n:=by kernel_rfl):FM f sg so F:=fL (Ajh Xa) follows hf hb hname hchk hn h hF
end Go.Proofs.YtcoaaebppfbbnaaGreatDoor
namespace Go.Proofs.YtcoaaebppfbbnaaGreatDoor
open Go.Sx Go.RowKit
theorem Bsi:ElTy Tryz.prog 23 9 1 16:=elTy_of (by kernel_rfl)
theorem Bsf:ElTy Tryz.prog 22 54 5 48:=elTy_of (by kernel_rfl)
theorem A85:ElTy Tryz.prog 24 109 6 80:=elTy_of (by kernel_rfl)
theorem O5:ElTy Tryz.prog 25 59 2 40:=elTy_of (by kernel_rfl)
def C5(t:TypeId)(sz n:Nat)(xs:List Value):Value->Sx.Loc->(World->Prop)->Prop:=λv L _=>L=[.row v t sz n xs]
theorem Hq{cx:Sx.Cx}{L:Sx.Loc}{F:World->Prop}{t:TypeId}{sz n:Nat}{xs:List Value}{Φ:Sx.Loc->(World->Prop)->Prop}(hF:∀w,F w->n=0/\xs=[])(h : Φ (.row (.slice none 0 0) t sz n xs::L) F):Rt cx L F Φ :=.mk λw hs=>by obtain⟨h1,h2⟩:=hF w hs.here;subst h1 h2;exact⟨_,_,h,hs.newRow t sz⟩
theorem Nq{a:Option Addr}{n c sz:Nat}{xs:List Value}(ha:a.isNone=true)(w:World)(h:RdS (.slice a n c) sz n xs w):n=0/\xs=[]:=by
 obtain⟨hl,a',c',he,hr⟩:=h;have h0:n=0:=by
  rcases hr with h0|⟨b,off,e,_⟩
  ·exact h0
  ·simp only[Value.slice.injEq] at he;rw[he.1,e] at ha;cases ha
 subst h0;exact⟨rfl,List.eq_nil_of_length_eq_zero (by simpa using hl)⟩
set_option maxRecDepth 20000 in
theorem Au0(a:Option Addr)(n c:Nat)(xs:List Value)(h1:xs.all one=true)(hbig:n<=2000000):Con Tryz.prog 178 [.slice a n c] [] (RdS (.slice a n c) 1 n xs) (C5 9 1 n xs):=by
 refine Bh Tryz.func178 Tryz.ntmps178 rfl (by kernel_rfl) rfl λw M =>?_
 repeat' (first|(refine E3 ?_;(first|refine B4 ?_|(apply Au rfl rfl;(first|exact p_move rfl|exact p_assign rfl))|(apply Au rfl rfl;exact H6 1 (by dsimp only;decide +kernel) rfl rfl)|(refine F7 rfl rfl Bsi rfl rfl rfl rfl ?_;intro b)))|(refine E5 ?_;(first|refine D3 ?_|refine Bb ?_|refine Eh ?_|(refine Ek rfl ?_ ?_<;>intro hc<;>try contradiction)|refine B1 rfl rfl ?_))|(refine E0 ?_;(first|refine B5 ?_))|fail)
 ·exact Hq (Nq (by assumption)) rfl
 ·refine J2 1 ?_;refine Jn 0 rfl rfl Bsi rfl rfl rfl (Jo (λw h=>h)) h1 (by omega) (by omega) ?_;intro v'
  repeat' (first|(refine E3 ?_;(first|refine B4 ?_|(apply Au rfl rfl;(first|exact p_assign rfl))))|(refine E5 ?_;(first|refine B1 rfl rfl ?_))|(refine E0 ?_;(first|refine B5 ?_))|fail)
  refine Bv ?_;simp[C5]
set_option maxRecDepth 20000 in
theorem Atl(a:Option Addr)(n c:Nat)(xs:List Value)(h1:xs.all one=true)(hbig:n<=2000000):Con Tryz.prog 177 [.slice a n c] [] (RdS (.slice a n c) 5 n xs) (C5 54 5 n xs):=by
 refine Bh Tryz.func177 Tryz.ntmps177 rfl (by kernel_rfl) rfl λw M =>?_
 repeat' (first|(refine E3 ?_;(first|refine B4 ?_|(apply Au rfl rfl;(first|exact p_move rfl|exact p_assign rfl))|(apply Au rfl rfl;exact H6 5 (by dsimp only;decide +kernel) rfl rfl)|(refine F7 rfl rfl Bsf rfl rfl rfl rfl ?_;intro b)))|(refine E5 ?_;(first|refine D3 ?_|refine Bb ?_|refine Eh ?_|(refine Ek rfl ?_ ?_<;>intro hc<;>try contradiction)|refine B1 rfl rfl ?_))|(refine E0 ?_;(first|refine B5 ?_))|fail)
 ·exact Hq (Nq (by assumption)) rfl
 ·refine J2 5 ?_;refine Jn 0 rfl rfl Bsf rfl rfl rfl (Jo (λw h=>h)) h1 (by omega) (by omega) ?_;intro v'
  repeat' (first|(refine E3 ?_;(first|refine B4 ?_|(apply Au rfl rfl;(first|exact p_assign rfl))))|(refine E5 ?_;(first|refine B1 rfl rfl ?_))|(refine E0 ?_;(first|refine B5 ?_))|fail)
  refine Bv ?_;simp[C5]
set_option maxRecDepth 20000 in
theorem Atx(a:Option Addr)(n c:Nat)(xs:List Value)(h1:xs.all one=true)(hbig:n<=2000000):Con Tryz.prog 225 [.slice a n c] [] (RdS (.slice a n c) 6 n xs) (C5 109 6 n xs):=by
 refine Bh Tryz.func225 Tryz.ntmps225 rfl (by kernel_rfl) rfl λw M =>?_
 repeat' (first|(refine E3 ?_;(first|refine B4 ?_|(apply Au rfl rfl;(first|exact p_move rfl|exact p_assign rfl))|(apply Au rfl rfl;exact H6 6 (by dsimp only;decide +kernel) rfl rfl)|(refine F7 rfl rfl A85 rfl rfl rfl rfl ?_;intro b)))|(refine E5 ?_;(first|refine D3 ?_|refine Bb ?_|refine Eh ?_|(refine Ek rfl ?_ ?_<;>intro hc<;>try contradiction)|refine B1 rfl rfl ?_))|(refine E0 ?_;(first|refine B5 ?_))|fail)
 ·exact Hq (Nq (by assumption)) rfl
 ·refine J2 6 ?_;refine Jn 0 rfl rfl A85 rfl rfl rfl (Jo (λw h=>h)) h1 (by omega) (by omega) ?_;intro v'
  repeat' (first|(refine E3 ?_;(first|refine B4 ?_|(apply Au rfl rfl;(first|exact p_assign rfl))))|(refine E5 ?_;(first|refine B1 rfl rfl ?_))|(refine E0 ?_;(first|refine B5 ?_))|fail)
  refine Bv ?_;simp[C5]
set_option maxRecDepth 20000 in
theorem Atz(a:Option Addr)(n c:Nat)(xs:List Value)(h1:xs.all one=true)(hbig:n<=2000000):Con Tryz.prog 185 [.slice a n c] [] (RdS (.slice a n c) 2 n xs) (C5 59 2 n xs):=by
 refine Bh Tryz.func185 Tryz.ntmps185 rfl (by kernel_rfl) rfl λw M =>?_
 repeat' (first|(refine E3 ?_;(first|refine B4 ?_|(apply Au rfl rfl;(first|exact p_move rfl|exact p_assign rfl))|(apply Au rfl rfl;exact H6 2 (by dsimp only;decide +kernel) rfl rfl)|(refine F7 rfl rfl O5 rfl rfl rfl rfl ?_;intro b)))|(refine E5 ?_;(first|refine D3 ?_|refine Bb ?_|refine Eh ?_|(refine Ek rfl ?_ ?_<;>intro hc<;>try contradiction)|refine B1 rfl rfl ?_))|(refine E0 ?_;(first|refine B5 ?_))|fail)
 ·exact Hq (Nq (by assumption)) rfl
 ·refine J2 2 ?_;refine Jn 0 rfl rfl O5 rfl rfl rfl (Jo (λw h=>h)) h1 (by omega) (by omega) ?_;intro v'
  repeat' (first|(refine E3 ?_;(first|refine B4 ?_|(apply Au rfl rfl;(first|exact p_assign rfl))))|(refine E5 ?_;(first|refine B1 rfl rfl ?_))|(refine E0 ?_;(first|refine B5 ?_))|fail)
  refine Bv ?_;simp[C5]
set_option maxRecDepth 20000 in
theorem Amt(a:Option Addr)(c:Nat):Con Tryz.prog 225 [.slice a 0 c] [] (λ_=>True) (λv _ _=>∃a',v = .slice a' 0 0):=by
 refine Bh Tryz.func225 Tryz.ntmps225 rfl (by kernel_rfl) rfl λw M =>?_
 repeat' (first|(refine E3 ?_;(first|refine B4 ?_|(apply Au rfl rfl;(first|exact p_move rfl|exact p_assign rfl))|(apply Au rfl rfl;exact H6 6 (by dsimp only;decide +kernel) rfl rfl)|(refine F7 rfl rfl A85 rfl rfl rfl rfl ?_;intro b)|(apply Au rfl rfl;exact Ab0 A85 rfl rfl)))|(refine E5 ?_;(first|refine D3 ?_|refine Bb ?_|refine Eh ?_|(refine Ek rfl ?_ ?_<;>intro hc<;>try contradiction)|refine B1 rfl rfl ?_))|(refine E0 ?_;(first|refine B5 ?_))|fail)
 ·exact Bv ⟨_,rfl⟩
 ·exact Bv ⟨_,rfl⟩
set_option maxRecDepth 20000 in
theorem Amv(a:Option Addr)(c:Nat):Con Tryz.prog 185 [.slice a 0 c] [] (λ_=>True) (λv _ _=>∃a',v = .slice a' 0 0):=by
 refine Bh Tryz.func185 Tryz.ntmps185 rfl (by kernel_rfl) rfl λw M =>?_
 repeat' (first|(refine E3 ?_;(first|refine B4 ?_|(apply Au rfl rfl;(first|exact p_move rfl|exact p_assign rfl))|(apply Au rfl rfl;exact H6 2 (by dsimp only;decide +kernel) rfl rfl)|(refine F7 rfl rfl O5 rfl rfl rfl rfl ?_;intro b)|(apply Au rfl rfl;exact Ab0 O5 rfl rfl)))|(refine E5 ?_;(first|refine D3 ?_|refine Bb ?_|refine Eh ?_|(refine Ek rfl ?_ ?_<;>intro hc<;>try contradiction)|refine B1 rfl rfl ?_))|(refine E0 ?_;(first|refine B5 ?_))|fail)
 ·exact Bv ⟨_,rfl⟩
 ·exact Bv ⟨_,rfl⟩
theorem Abl{P:Program}(w:World)(tS tR e:TypeId)(ht:P.underlying tS=some (.slice e))(size:Nat)(hz:∀w,(Go.sizeOf e).run P w = .ok size w)
  (a b:Addr) (la ca lb cb:Nat) (hne:a.block≠b.block) (c1 c2:Array Value) (t1 t2:TypeId) (f1:Nat×Nat)
  (ha:w.heap[a.block]? = some (.cells c1 t1 f1)) (hb:w.heap[b.block]? = some (.cells c2 t2 (0,0))) (h1:c1.size≠0) :
  (Extern.SlicesOverlaps.overlaps #[tS,tS] #[tR] #[.slice (some a) la ca,.slice (some b) lb cb]).run P w = .ok (.bool false) w:=by
 have hnb:(a.block != b.block)=true:=by simpa using hne
 have hnb':(a.block == b.block)=false:=by simpa using hne
 have hsa:w.shape? a.block=some (t1,c1.size):=by simp[World.shape?,ha]
 have hsb:w.shape? b.block=some (t2,c2.size):=by simp[World.shape?,hb]
 have hfb:∀o sp,w.frozen? ⟨b.block,o,sp⟩=false:=λo sp=>by simp[World.frozen?,hb]
 change Sem.run P (α:=Value) (do
  let some t:=(#[tS,tS]:Array TypeId)[0]? | stuck "slices.overlaps: no parameter types"
  let .slice elem <-underlying t|stuck "slices.overlaps: slice type expected"
  let size <-sizeOf elem;match(some a:Option Addr),(some b:Option Addr) with
  |some a,some b =>
   if la=0\/lb=0\/size=0 then pure (Value.bool false)
   else if a.block != b.block&&(<-frozen a)&&(<-frozen b) then unsupported .addressObserved
   else do
    if a.block != b.block then do
     noView a;noView b
     if <-mayBeOne a b then return Value.bool ((<-choose (.extern "sameAddr.stringBytes" 2)) == 1)
    pure (Value.bool (a.block == b.block&&a.off<b.off+lb*size&&b.off<a.off+la*size))
  |_,_=>pure (Value.bool false)) w=_
 by_cases h0:la=0\/lb=0\/size=0
 ·simp[run_underlying ht,hz,h0]
 ·obtain⟨k1,hk1⟩:∃k1,c1.size=k1+1:=⟨c1.size-1,by omega⟩;cases hf1:w.frozen? a<;>simp[run_underlying ht,hz,h0,hnb,hnb',frozen,noView,viewAt,mayBeOne,stringish,shape,Sem.run,hsa,hsb,hfb,hf1,hk1]
section
variable {cx:Sx.Cx}{k:List KI}{e:Sx.Env}{L:Sx.Loc}{F:World->Prop}{Q:Exit->Act->World->Prop}{ops:Array Oper}{rest:List Oper}
theorem Boy{dst:Nat}{fo x y:Operand}{ts:Array TypeId}{t tS tR elem u':TypeId}{pos:String}{after:Array Edge}{g':Option (Nat×Bool)}{f:FuncId}{g go lb cb vb vo la ca sz:Nat}{cs:List Value}(i:Nat)(hg:Gd ops e g' = some true)(hd:Nat.blt dst cx.n=true)
  (hf:Env.ev e fo=some (.func (.func f) #[] #[])) (hx:Env.ev e x=some (.slice (some ⟨vb,vo,none⟩) la ca)) (hy:Env.ev e y=some (.slice (some ⟨g,go,none⟩) lb cb)) (hi:L[i]? = some (.blk g cs u')) (hne:vb≠g) (hsrc:∀w,F w->∃u,w.cell? ⟨vb,vo,none⟩=some u)
  (hrun:∀args w,(callFunc f args).run cx.P w=((Extern.SlicesOverlaps.overlaps #[tS,tS] #[tR] args).run cx.P w).andThen λv w' =>.ok (.value v) w') (ht:cx.P.underlying tS=some (.slice elem)) (hz:tySz cx.P elem=some sz)
  (h:O cx ops rest k ((dst,.bool false)::e) L F Q):O cx ops (⟨some dst,.call ⟨.value fo, #[x,y],ts⟩,t,pos,after,g'⟩::rest) k e L F Q:=by
 refine Vb (λr L' F'=>r = .bool false/\L' = L/\F' = F) hg hd (λa w he hst=>⟨.bool false,w,L,F,?_,hst,rfl,rfl,rfl⟩) (λr L' F' ⟨hr,hL,hF⟩=>by rw[hr,hL,hF];exact h);have hgh:w.heap[g]? = some (.cells cs.toArray u' (0,0)):=hst.ok _ (List.mem_of_getElem? hi);obtain⟨u,hu⟩:=hsrc w hst.here;obtain⟨c1,t1,f1,hh,hc1⟩:∃c1 t1 f1,w.heap[vb]? = some (.cells c1 t1 f1)/\c1.size≠0:=by
  unfold World.cell? at hu;split at hu
  ·rename_i c t' f' hh;refine⟨c,t',f',hh,λh0 =>?_⟩;simp only[Option.isSome_none,Zj2,if_false] at hu;have:=(Zh2.1 hu).1;omega
  ·cases hu
 have hov:=Abl (P:=cx.P) w tS tR elem ht sz (λw=>Sx.run_sizeOf hz w) ⟨vb,vo,none⟩ ⟨g,go,none⟩ la ca lb cb hne c1 _ t1 u' f1 hh hgh hc1;simp only[execOp,resolve,he.ev hf,he.ev hx,he.ev hy,Deferred.ofValue,Sem.run_bind,Sem.run_pure,Result.andThen_ok,invoke,List.map_toArray,Zw1,List.map_nil];rw[show(#[] ++ #[Value.slice (some ⟨vb,vo,none⟩) la ca,Value.slice (some ⟨g,go,none⟩) lb cb] ++ #[]:Array Value) = #[Value.slice (some ⟨vb,vo,none⟩) la ca,Value.slice (some ⟨g,go,none⟩) lb cb] by simp,hrun,hov];rfl
end
def put(c z:List Value)(o:Nat):List Value:=c.take o++z++c.drop (o+z.length)
theorem N4{c z:List Value}{o:Nat}(h:o+z.length<=c.length):(put c z o).length=c.length:=by simp only[put,Zh1,List.length_take,Za2];omega
theorem Af3{c z:List Value}{o:Nat}(h:o+z.length<=c.length)(q:Nat):(put c z o)[q]? = if o<=q/\q<o+z.length then z[q-o]? else c[q]? := by
 have ht:(c.take o).length=o:=by simp;omega
 simp only[put,Zj1];by_cases h1:q<o
 ·rw[List.getElem?_append_left (by omega),if_neg (by omega),List.getElem?_take,if_pos h1]
 ·rw[List.getElem?_append_right (by omega),ht];by_cases h2:q<o+z.length
  ·rw[List.getElem?_append_left (by omega),if_pos (by omega)]
  ·rw[List.getElem?_append_right (by omega),if_neg (by omega),List.getElem?_drop];congr 1;omega
def Axp(cs ys:List Value)(i n:Nat):List Value:=cs.take (i*2)++ys++(cs.drop (i*2)).take ((n-i)*2)
theorem Awo{cs ys:List Value}{i n:Nat}(hin:i<=n)(hl:n*2<=cs.length)(hy:ys.length=2)(q:Nat):(Axp cs ys i n)[q]? = if q<i*2 then cs[q]? else if q<i*2+2 then ys[q-i*2]? else if q<(n+1)*2 then cs[q-2]? else none:=by
 have ht:(cs.take (i*2)).length=i*2:=by simp;omega
 have hd:((cs.drop (i*2)).take ((n-i)*2)).length=(n-i)*2:=by simp;omega
 simp only[Axp,Zj1];by_cases h1:q<i*2
 ·rw[List.getElem?_append_left (by omega),if_pos h1,List.getElem?_take,if_pos h1]
 ·rw[List.getElem?_append_right (by omega),ht,if_neg h1];by_cases h2:q<i*2+2
  ·rw[List.getElem?_append_left (by omega),if_pos h2]
  ·rw[List.getElem?_append_right (by omega),if_neg h2,hy,List.getElem?_take,List.getElem?_drop];by_cases h3:q<(n+1)*2
   ·rw[if_pos h3,if_pos (by omega)];congr 1;omega
   ·rw[if_neg h3,if_neg (by omega)]
theorem Bjs{cs ys Z:List Value}{i n:Nat}(hin:i<=n)(hl:(n+1)*2<=cs.length)(hy:ys.length=2)(hZ:Z=(cs.drop (i*2)).take ((n-i)*2)):(put (put cs Z ((i+1)*2)) ys (i*2)).length=cs.length/\(put (put cs Z ((i+1)*2)) ys (i*2)).take ((n+1)*2)=Axp cs ys i n:=by
 have hZl:Z.length=(n-i)*2:=by rw[hZ];simp;omega
 have h1:(i+1)*2+Z.length<=cs.length:=by omega
 have h2:i*2+ys.length<=(put cs Z ((i+1)*2)).length:=by rw[N4 h1];omega
 refine⟨by rw[N4 h2,N4 h1],List.ext_getElem? λq =>?_⟩;rw[List.getElem?_take,Awo hin (by omega) hy,Af3 h2,Af3 h1,hZl,hy,hZ,List.getElem?_take,List.getElem?_drop];by_cases a1:q<(n+1)*2
 ·rw[if_pos a1];by_cases a2:q<i*2
  ·rw[if_neg (by omega),if_neg (by omega),if_pos a2]
  ·rw[if_neg a2];by_cases a3:q<i*2+2
   ·rw[if_pos (by omega),if_pos a3]
   ·rw[if_neg (by omega),if_neg a3,if_pos a1,if_pos (by omega),if_pos (by omega)];congr 1;omega
 ·rw[if_neg a1,if_neg (by omega),if_neg (by omega),if_neg a1]
theorem Bn2{cs ys c1 Z:List Value}{i n q:Nat}(hin:i<=n)(hl:n*2<=cs.length)(hy:ys.length=2)(hZ:Z=(cs.drop (i*2)).take ((n-i)*2))(hc1:c1.take (i*2)=cs.take (i*2))(hq:n+1<=q)(hcl:c1.length=q*2):(put (put c1 ys (i*2)) Z ((i+1)*2)).length=q*2/\(put (put c1 ys (i*2)) Z ((i+1)*2)).take ((n+1)*2)=Axp cs ys i n:=by
 have hZl:Z.length=(n-i)*2:=by rw[hZ];simp;omega
 have h2:i*2+ys.length<=c1.length:=by omega
 have h1:(i+1)*2+Z.length<=(put c1 ys (i*2)).length:=by rw[N4 h2];omega
 refine⟨by rw[N4 h1,N4 h2,hcl],List.ext_getElem? λk =>?_⟩;rw[List.getElem?_take,Awo hin hl hy,Af3 h1,Af3 h2,hZl,hy,hZ,List.getElem?_take,List.getElem?_drop];have hck:k<i*2->c1[k]? = cs[k]? :=λhk=>by have:=congrArg (·[k]?) hc1;simpa[List.getElem?_take,hk] using this
 by_cases a1:k<(n+1)*2
 ·rw[if_pos a1];by_cases a2:k<i*2
  ·rw[if_neg (by omega),if_neg (by omega),if_pos a2,hck a2]
  ·rw[if_neg a2];by_cases a3:k<i*2+2
   ·rw[if_neg (by omega),if_pos (by omega),if_pos a3]
   ·rw[if_pos (by omega),if_pos (by omega),if_neg a3,if_pos a1];congr 1;omega
 ·rw[if_neg a1,if_neg (by omega),if_neg (by omega),if_neg a1]
def Bol(t:TypeId)(g n i cap:Nat)(cs ys:List Value):Value->Sx.Loc->(World->Prop)->Prop:=λv L _ =>
 (∃cs',v = .slice (some ⟨g,0,none⟩) (n+1) cap/\n+1<=cap/\L=[.blk g cs' t]/\cs'.length=cs.length/\cs'.take ((n+1)*2)=Axp cs ys i n) \/
 (∃b cap' cs',v = .slice (some ⟨b,0,none⟩) (n+1) cap'/\n+1<=cap'/\cap'<=maxLen/\L=[.blk b cs' t,.blk g cs t]/\cs'.length=cap'*2/\cs'.take ((n+1)*2)=Axp cs ys i n)
theorem Bu1(args:Array Value)(w:World):(callFunc 226 args).run Tryz.prog w=((Extern.SlicesOverlaps.overlaps #[25,25] #[4] args).run Tryz.prog w).andThen λv w' =>.ok (.value v) w':=run_callFunc_extern Tryz.func226 (by kernel_rfl) rfl (by kernel_rfl) (e:=Extern.SlicesOverlaps.overlaps #[25,25] #[4]) (by kernel_rfl) args w
theorem Bsj{cs:List Value}{n i:Nat}(h1:∀v,v∈cs.take (n*2)->one v=true)(hin:i<=n){v:Value}(hv:v∈(cs.drop (i*2)).take ((n-i)*2)):one v=true:=by
 refine h1 v ?_;obtain⟨q,hq⟩:=List.getElem?_of_mem hv;rw[List.getElem?_take] at hq;split at hq
 ·rw[List.getElem?_drop] at hq;exact List.mem_of_getElem? ((List.getElem?_take_of_lt (by omega)).trans hq)
 ·cases hq
set_option maxRecDepth 20000 in
theorem Bqn(g n i cap vb vo vc:Nat)(cs ys:List Value)(hn : 0<n)(hin:i<=n)(hnc:n<=cap)(hl:cs.length=cap*2)(h1:∀v,v∈cs.take (n*2)->one v=true)(hy:ys.length=2)(hy1:∀v,v∈ys->one v=true)(hne:vb≠g)(hbig:n<=2000000) :
  Con Tryz.prog 184 [.slice (some ⟨g,0,none⟩) n cap,.int .i64 i,.slice (some ⟨vb,vo,none⟩) 1 vc] [.blk g cs 59] (λw=>∀(j:Nat) v,ys[j]? = some v->w.cell? ⟨vb,vo+j,none⟩=some v) (Bol 59 g n i cap cs ys):=by
 refine Bh Tryz.func184 Tryz.ntmps184 rfl (by kernel_rfl) rfl λw M =>?_
 repeat' (first|(refine E3 ?_;(first|refine B4 ?_|(apply Au rfl rfl;(first|exact p_move rfl|exact p_assign rfl|exact p_lensl (by dsimp only;decide +kernel) rfl|exact p_eql rfl rfl|exact p_gtr rfl rfl|exact Agf rfl rfl (by omega)|exact Ka rfl rfl (by omega)))|(apply Au rfl rfl;exact Ks 2 (by dsimp only;decide +kernel) rfl rfl (by omega))|(apply Au rfl rfl;exact Ah8 2 (by dsimp only;decide +kernel) rfl)|(apply Au rfl rfl;exact M9 2 (by dsimp only;decide +kernel) rfl rfl (by omega))|(apply Au rfl rfl;exact A2z 2 (by dsimp only;decide +kernel) rfl rfl (by omega))))|(refine E5 ?_;(first|refine D3 ?_|refine Bb ?_|refine Eh ?_|(refine Iq rfl ?_ ?_<;>intro hc<;>try (first|contradiction))))|(refine E0 ?_;(first|refine B5 ?_))|fail)
 ·obtain rfl:i=n:=by omega
  have hin':cs.take (i*2)++ys=Axp cs ys i i:=by simp[Axp]
  by_cases hr:i+1<=cap
  ·refine Bch (zs:=ys) 0 rfl rfl O5 rfl rfl rfl (λw hs=>hs.here) (by rw[hy]) hr (by omega) hy1 rfl ?_
   repeat' (first|(refine E3 ?_;(first|refine B4 ?_|(apply Au rfl rfl;(first|exact p_assign rfl))))|(refine E5 ?_;(first|refine B1 rfl rfl ?_))|(refine E0 ?_;(first|refine B5 ?_))|fail)
   refine Bv (.inl ⟨_,rfl,hr,rfl,N4 (z:=ys) (o:=i*2) (by omega),?_⟩);rw[<-hin'];exact List.take_left' (by simp;omega)
  ·refine A9t (zs:=ys) 0 rfl rfl O5 rfl rfl rfl (λw hs=>hs.here) (by rw[hy]) (by omega) (by omega) (by simp only[maxLen];omega) (by omega) ?_;intro b' q tl hq1 hq2 htl
   repeat' (first|(refine E3 ?_;(first|refine B4 ?_|(apply Au rfl rfl;(first|exact p_assign rfl))))|(refine E5 ?_;(first|refine B1 rfl rfl ?_))|(refine E0 ?_;(first|refine B5 ?_))|fail)
   refine Bv (.inr ⟨_,_,_,rfl,hq1,hq2,rfl,by simp;omega,?_⟩);rw[<-hin'];exact List.take_left' (by simp;omega)
 ·refine A24 (kn :=.i64) 0 rfl rfl O5 (by dsimp only;decide +kernel) rfl rfl rfl (by omega) (by omega) (by omega) (by simp only[maxLen];omega) (by omega) ?_;intro b' q tl hq1 hq2 htl
  repeat' (first|(refine E3 ?_;(first|refine B4 ?_|(apply Au rfl rfl;(first|exact p_move rfl|exact p_assign rfl))|(apply Au rfl rfl;exact M9 2 (by dsimp only;decide +kernel) rfl rfl (by omega))))|(refine E5 ?_;(first|refine D3 ?_|refine Bb ?_))|(refine E0 ?_;(first|refine B5 ?_))|fail)
  refine Au1 (zs:=ys) 0 rfl rfl O5 rfl rfl rfl (λw hs=>hs.here) ?_ ?_ hy1 ?_
  ·rw[hy,show Nat.min 1 _=1 from Nat.min_eq_left (by omega)]
  ·simp only[Zh1,List.length_take];omega
  ·repeat' (first|(refine E3 ?_;(first|refine B4 ?_))|(refine E5 ?_;(first|refine D3 ?_|refine A6q (by dsimp only;decide +kernel) Iw ?_))|(refine E0 ?_;(first|refine B5 ?_))|(refine Bn0 ?_;(first|(apply F0 0 rfl rfl rfl (by decide +kernel);(first|exact p_move rfl))|(apply F0 1 rfl rfl rfl (by decide +kernel);(first|exact p_move rfl))|(apply F0 2 rfl rfl rfl (by decide +kernel);(first|exact p_move rfl))|(apply F0 3 rfl rfl rfl (by decide +kernel);(first|exact Agf rfl rfl (by omega)))|(apply F0 5 rfl rfl rfl (by decide +kernel);(first|exact p_move rfl))|(apply F0 6 rfl rfl rfl (by decide +kernel);(first|exact p_move rfl))))|fail)
   apply F0 4 rfl rfl rfl (by decide +kernel) (M9 2 (by dsimp only;decide +kernel) rfl rfl (by omega));apply F0 7 rfl rfl rfl (by decide +kernel) (M9 2 (by dsimp only;decide +kernel) rfl rfl (by omega));refine Bse 8 rfl (by decide +kernel) ?_;refine Au1 0 rfl rfl O5 rfl rfl rfl (Ao5 (n:=(n-i)*2) 1 rfl) ?_ ?_ ?_ ?_
   ·have:Nat.min (n-(i:Int).toNat) ((i:Int).toNat+((n:Int)+((1:Nat):Int)-(i:Int)).toNat-((i:Int)+((1:Nat):Int)).toNat)=n-i:=(Nat.min_eq_left (by omega)).trans (by omega);rw[this,List.length_take,Za2];omega
   ·simp only[Zh1,List.length_take,Za2];omega
   ·intro v hv;exact Bsj h1 hin (by simpa using hv)
   ·repeat' (first|(refine E3 ?_;(first|refine B4 ?_|(apply Au rfl rfl;(first|exact p_move rfl|exact p_assign rfl))))|(refine E5 ?_;(first|refine D3 ?_|refine Bb ?_|refine B1 rfl rfl ?_))|(refine E0 ?_;(first|refine B5 ?_|(refine A8g Iw ?_)))|(refine Bn0 ?_;(first|refine Br0 (by decide +kernel) ?_))|fail)
    have e1:i+((n:Int)+((1:Nat):Int)-(i:Int)).toNat=n+1:=by omega
    have e2:((i:Int)+((1:Nat):Int)).toNat=i+1:=by omega
    simp only[e1,e2,Int.toNat_natCast,Nat.zero_add] at hq1 htl ⊢;have hd:=Bn2 (c1:=cs.take (i*2)++tl) (q:=q) hin (by omega) hy rfl (List.take_left' (by simp;omega)) hq1 (by simp;omega);refine Bv (.inr ⟨_,_,_,rfl,hq1,hq2,rfl,hd.1,hd.2⟩)
 ·refine Boy 0 rfl rfl rfl rfl rfl rfl hne (λw h=>⟨_,h 0 _ (Zo1 (by omega))⟩) Bu1 rfl rfl ?_
  repeat' (first|(refine E3 ?_;(first|refine B4 ?_|(apply Au rfl rfl;(first|exact p_not rfl))))|(refine E5 ?_;(first|refine D3 ?_|refine A6q (by dsimp only;decide +kernel) Iw ?_|(refine Ek rfl ?_ ?_<;>intro hc<;>try contradiction)))|(refine E0 ?_;(first|refine B5 ?_))|(refine Bn0 ?_;(first|(apply F0 0 rfl rfl rfl (by decide +kernel);(first|exact p_move rfl))|(apply F0 1 rfl rfl rfl (by decide +kernel);(first|exact p_move rfl))|(apply F0 2 rfl rfl rfl (by decide +kernel);(first|exact p_move rfl))|(apply F0 3 rfl rfl rfl (by decide +kernel);(first|exact Agf rfl rfl (by omega)))|(apply F0 5 rfl rfl rfl (by decide +kernel);(first|exact p_move rfl))|(apply F0 6 rfl rfl rfl (by decide +kernel);(first|exact p_move rfl))))|fail)
  apply F0 4 rfl rfl rfl (by decide +kernel) (M9 2 (by dsimp only;decide +kernel) rfl rfl (by omega));apply F0 7 rfl rfl rfl (by decide +kernel) (M9 2 (by dsimp only;decide +kernel) rfl rfl (by omega));refine Bse 8 rfl (by decide +kernel) ?_;refine Au1 0 rfl rfl O5 rfl rfl rfl (Ao5 (n:=(n-i)*2) 0 rfl) ?_ ?_ ?_ ?_
  ·have:Nat.min (((n:Int)+((1:Nat):Int)).toNat-(i:Int).toNat) (((n:Int)+((1:Nat):Int)).toNat-((i:Int)+((1:Nat):Int)).toNat)=n-i:=(Nat.min_eq_right (by omega)).trans (by omega);rw[this,List.length_take,Za2];omega
  ·simp only[List.length_take,Za2];omega
  ·intro v hv;exact Bsj h1 hin (by simpa using hv)
  ·repeat' (first|(refine E3 ?_;(first|refine B4 ?_|(apply Au rfl rfl;(first|exact p_move rfl))|(apply Au rfl rfl;exact M9 2 (by dsimp only;decide +kernel) rfl rfl (by omega))))|(refine E5 ?_;(first|refine D3 ?_|refine Bb ?_))|(refine E0 ?_;(first|refine B5 ?_|(refine A8g Iw ?_)))|(refine Bn0 ?_;(first|refine Br0 (by decide +kernel) ?_))|fail)
   refine Au1 (zs:=ys) 0 rfl rfl O5 rfl rfl rfl (λw hs=>hs.here) ?_ ?_ hy1 ?_
   ·rw[hy,show Nat.min 1 _=1 from Nat.min_eq_left (by omega)]
   ·simp only[Zh1,List.length_take,Za2];omega
   ·repeat' (first|(refine E3 ?_;(first|refine B4 ?_|(apply Au rfl rfl;(first|exact p_move rfl|exact p_assign rfl))))|(refine E5 ?_;(first|refine D3 ?_|refine Bb ?_|refine B1 rfl rfl ?_))|(refine E0 ?_;(first|refine B5 ?_))|fail)
    have e1:((n:Int)+((1:Nat):Int)).toNat=n+1:=by omega
    have e2:((i:Int)+((1:Nat):Int)).toNat=i+1:=by omega
    simp only[e1,e2,Int.toNat_natCast,Nat.zero_add];have hd:=Bjs (cs:=cs) hin (by omega) hy rfl;exact Bv (.inl ⟨_,rfl,by omega,rfl,hd.1,hd.2⟩)
set_option maxRecDepth 20000 in
theorem Bjl(a:Option Addr)(vb vo vc:Nat)(ys:List Value)(hy:ys.length=2)(hy1:∀v,v∈ys->one v=true) :
  Con Tryz.prog 184 [.slice a 0 0,.int .i64 0,.slice (some ⟨vb,vo,none⟩) 1 vc] [] (λw=>∀(j:Nat) v,ys[j]? = some v->w.cell? ⟨vb,vo+j,none⟩=some v) (λv L _=>∃b cap' cs',v = .slice (some ⟨b,0,none⟩) 1 cap'/\1<=cap'/\cap'<=maxLen/\L=[.blk b cs' 59]/\cs'.length=cap'*2/\cs'.take 2=ys):=by
 refine Bh Tryz.func184 Tryz.ntmps184 rfl (by kernel_rfl) rfl λw M =>?_
 repeat' (first|(refine E3 ?_;(first|refine B4 ?_|(apply Au rfl rfl;(first|exact p_move rfl|exact p_assign rfl|exact p_lensl (by dsimp only;decide +kernel) rfl|exact p_eql rfl rfl))|(apply Au rfl rfl;exact A2z 2 (by dsimp only;decide +kernel) rfl rfl (by omega))))|(refine E5 ?_;(first|refine D3 ?_|refine Bb ?_|refine Eh ?_|(refine Iq rfl ?_ ?_<;>intro hc<;>try (first|contradiction))))|(refine E0 ?_;(first|refine B5 ?_))|fail)
 refine A23 (zs:=ys) rfl rfl O5 rfl rfl (λw hs=>hs.here) (by rw[hy]) (by omega) (by simp only[maxLen];omega) (by omega) hy1 ?_;intro b' q tl hq1 hq2 htl
 repeat' (first|(refine E3 ?_;(first|refine B4 ?_|(apply Au rfl rfl;(first|exact p_assign rfl))))|(refine E5 ?_;(first|refine B1 rfl rfl ?_))|(refine E0 ?_;(first|refine B5 ?_))|fail)
 refine Bv ⟨_,_,_,rfl,hq1,hq2,rfl,by simp;omega,?_⟩;exact List.take_left' hy
end Go.Proofs.YtcoaaebppfbbnaaGreatDoor
namespace Go.Proofs.YtcoaaebppfbbnaaGreatDoor
open Go.Ax
theorem A0z:ClOk Tryz.prog 178 (elT .str) (csz .str):=⟨Sx.enters_of Tryz.func178 rfl (by kernel_rfl),Au0⟩
def Lb(l:List (Str)):Option (List (Str)):=cond (decide (l.length<=2000000)) (some l) none
def Vp:FT [.sl .str false] [.sl .str true]:=λx=>Lb x
theorem Ael:FO 178 [.sl .str false] [.sl .str true] Vp:=Aao A0z
theorem Au9:ClOk Tryz.prog 177 (elT .col) (csz .col):=⟨Sx.enters_of Tryz.func177 rfl (by kernel_rfl),Atl⟩
def Akg(l:List (Col)):Option (List (Col)):=cond (decide (l.length<=2000000)) (some l) none
def Ahb:FT [.sl .col false] [.sl .col true]:=λx=>Akg x
theorem Avc:FO 177 [.sl .col false] [.sl .col true] Ahb:=Aao Au9
theorem Aeq:ClOk Tryz.prog 225 (elT .expr) (csz .expr):=⟨Sx.enters_of Tryz.func225 rfl (by kernel_rfl),Atx⟩
theorem Avu:ClOk Tryz.prog 185 (elT .idx) (csz .idx):=⟨Sx.enters_of Tryz.func185 rfl (by kernel_rfl),Atz⟩
theorem Xw:Ajk Tryz.prog 225:=Amt
theorem Atp:Ajk Tryz.prog 185:=Amv
theorem Bsy:InsOk Tryz.prog 184 (elT .idx):=⟨Sx.enters_of Tryz.func184 rfl (by kernel_rfl),λ_ _ _ _ _ _ _ _ _ h1 h2 h3 h4 h5 h6 h7 h8 h9=>Bqn _ _ _ _ _ _ _ _ _ h1 h2 h3 h4 h5 h6 h7 h8 h9,λ_ _ _ _ _ h1 h2=>Bjl _ _ _ _ _ h1 h2⟩
end Go.Proofs.YtcoaaebppfbbnaaGreatDoor
namespace Go.Proofs.YtcoaaebppfbbnaaGreatDoor.Lp
open Go.Sx Go.RowKit
abbrev Tok:=Go.Ax.Tok
def pre(l m:List UInt8):Bool:=decide (m.length<=l.length)&&decide (l.take m.length=m)
def inI(n:Int):Prop := -9223372036854775808<=n/\n<=9223372036854775807
instance (n:Int):Decidable (inI n):=by unfold inI;infer_instance
def vis(c:Int):Bool:=decide (32<=c)&&decide (c<=126)
theorem Bcq(l:List UInt8)(j:Int)(h : 0<=j/\j<l.length):l.drop j.toNat=l.getD j.toNat 0::l.drop (j+1).toNat:=by
 have h1:j.toNat<l.length:=by omega
 have h2:(j+1).toNat=j.toNat+1:=by omega
 rw[h2,List.drop_eq_getElem_cons h1];simp[ h1]
theorem Aia(p:Int->Bool)(l:List UInt8)(j:Int)(h : 0<=j/\j<l.length):((l.drop j.toNat).all λb=>p b.toNat)=(p (byt l j)&&(l.drop (j+1).toNat).all λb=>p b.toNat):=by rw[Bcq l j h];rfl
def Bw8(c:Int):Bool:=decide (65<=c)&&decide (c<=90)
def isLo(c:Int):Bool:=decide (97<=c)&&decide (c<=122)
def isDi(c:Int):Bool:=decide (48<=c)&&decide (c<=57)
def isIn(c:Int):Bool:=isLo c||isDi c||c == 95
def runTo(p:Int->Bool)(l:List UInt8)(i:Int):Int:=i+((l.drop i.toNat).takeWhile λb=>p b.toNat).length
theorem A68(l:List UInt8)(j:Int)(h : 0<=j/\j<l.length):l.drop j.toNat=l.getD j.toNat 0::l.drop (j+1).toNat:=by
 have h1:j.toNat<l.length:=by omega
 have h2:(j+1).toNat=j.toNat+1:=by omega
 rw[h2,List.drop_eq_getElem_cons h1];simp[ h1]
theorem runTo_yes{p:Int->Bool}{l:List UInt8}{j:Int}(h : 0<=j/\j<l.length)(hp:p (byt l j)=true):runTo p l (j+1)=runTo p l j:=by unfold runTo;rw[A68 l j h];have:p ((l.getD j.toNat 0).toNat:Int)=true:=hp;simp only[List.takeWhile_cons,this,if_true,Zf1];omega
theorem runTo_no{p:Int->Bool}{l:List UInt8}{j:Int}(h : 0<=j/\j<l.length)(hp:p (byt l j)=false):runTo p l j=j:=by unfold runTo;rw[A68 l j h];have:p ((l.getD j.toNat 0).toNat:Int)=false:=hp;simp only[List.takeWhile_cons,this,Zj2,if_false,Zi1];omega
theorem runTo_end{p:Int->Bool}{l:List UInt8}{j:Int}(h:(l.length:Int)<=j):runTo p l j=j:=by unfold runTo;rw[Zk1 (by omega)];simp
def signs:List UInt8:=[40,41,44,42,61,60,62,43,45,59]
def idx(x:List UInt8):List (List UInt8)->Int->Int
 |[],_ => -1
 |l::r,i=>if x=l then i else idx x r (i+1)
theorem idx_ge(x:List UInt8):∀(ls:List (List UInt8)) (i:Int),0<=i->(0<=idx x ls i↔x∈ls)
 |[],i,_=>by simp[idx]
 |l::r,i,h=>by
  by_cases hx:x=l
  ·simp[idx,hx,h]
  ·simp[idx,hx,idx_ge x r (i+1) (by omega)]
def nameF(l:List UInt8):Bool := !decide (l=[])&&decide ((l.length:Int)<=30)&&isLo (byt l 0)&&(runTo isIn l 0 == l.length)
def signsI:List Int:=[40,41,44,42,61,60,62,43,45,59]
def Bwh(c:Int):Int :=
 if Bw8 c then 1 else if isLo c then 2 else if isDi c then 3 else if c=95 then 4 else if c=39 then 5
 else if c=32\/c=9\/c=10\/c=13 then 6 else if signsI.contains c then 7 else 0
def Bt8(c:Int):Bool:=decide (1<=Bwh c)&&decide (Bwh c<=4)
def Bsl(l:List UInt8)(i:Int):Prop:=cut l i (runTo Bt8 l i)=[120]/\runTo Bt8 l i<l.length/\byt l (runTo Bt8 l i)=39
instance (l:List UInt8) (i:Int):Decidable (Bsl l i):=by unfold Bsl;infer_instance
def Bwf(l:List UInt8)(i:Int):Prop:=i+1<l.length/\(cut l i (i+2)=[60,62]\/cut l i (i+2)=[60,61]\/cut l i (i+2)=[62,61])
instance (l:List UInt8) (i:Int):Decidable (Bwf l i):=by unfold Bwf;infer_instance
theorem Mg(b:UInt8) : 0<=(b.toNat:Int)/\(b.toNat:Int)<=255:=by have:=b.toNat_lt;omega
theorem Bxg{x:List UInt8}(hne:x≠[]):(decide (x=[48])||byt x 0 != 48)=true↔¬(1<(x.length:Int)/\byt x 0=48):=by
 cases x with
 |nil=>exact absurd rfl hne
 |cons c x =>
  have hb:byt (c::x) 0=(c.toNat:Int):=rfl;have hc:(c.toNat:Int)=48↔c=48:=by rw[<-UInt8.toNat_inj];simp;omega
  rw[hb];simp only[Zd2,Zg1,bne_iff_ne,ne_eq,Ze2,Zf1,hc];constructor
  ·rintro(⟨_,h⟩|h) ⟨h1,h2⟩
   ·subst h;simp at h1
   ·exact h h2
  ·intro h;by_cases h2:c=48
   ·left;refine⟨h2,?_⟩;cases x with|nil=>rfl|cons d x=>exact absurd ⟨by simp;omega,h2⟩ h
   ·exact .inr h2
end Go.Proofs.YtcoaaebppfbbnaaGreatDoor.Lp
namespace Go.Ax
theorem FnOk.ofIs{P:Program}{el:Ck->TypeId}{gl:Nat->Option Gv}{f:FuncId}{sa sr:List Sg}{F:FT sa sr}(he:Sx.Enters P f)(ho:A7 0 sr=[])(h:∀x r,F x=some r->∃(us:List Value) (v:Value),(∀X vs,Reps X (Bw 0 sa x) vs->vs=us)/\Sx.Con P f us [] (λ_=>True) (Sx.Is v)/\∀X,BdL sa x->Rep X (Gw (Bw 0 sr r)) v):FnOk P el gl f sa sr F:=by
 refine⟨he,λx r hx w M vs hM hgl hr =>?_⟩;obtain⟨us,v,h1,h2,h3⟩:=h x r hx;obtain rfl:=h1 _ _ hr;refine(h2.calls w (λ_ _=>trivial)).mono ?_;rintro en w' ⟨u,L',F',rfl,⟨rfl,_,_⟩,_,hb⟩;refine⟨u,⟨λ_=>0,λ_=>Option.none⟩,rfl,Chg.of_below hb,λp g o hp =>?_,λp q g o o' hp =>?_,h3 _ (Y9 hr)⟩
 ·rw[ho] at hp;cases hp
 ·rw[ho] at hp;cases hp
end Go.Ax
namespace Go.Proofs.YtcoaaebppfbbnaaGreatDoor
open Go.Ax
open Go.Sx (Con S Is Bh Bsn)
theorem Az0(a b:Str)(w:World):(callFunc 193 #[S a,S b]).run Tryz.prog w = .ok (.value (.int .i64 (Lib.compareBytes a b))) w:=by rw[run_callFunc_extern Tryz.func193 (by kernel_rfl) rfl (by kernel_rfl) (e:=Extern.BytealgCompare.compare) (by kernel_rfl)];simp[Lib.run_compareString]
set_option maxRecDepth 20000 in
open Go.Sx in
theorem Aev(a b:Str):Con Tryz.prog 140 [S a,S b] [] (λ_=>True) (Is (.int .i64 (Lib.compareBytes a b))):=by
 refine Bh Tryz.func140 Tryz.ntmps140 rfl (by kernel_rfl) rfl λw M =>?_
 repeat' (first|refine D3 ?_|refine Bb ?_|refine B4 ?_|refine B5 ?_|refine Bve ?_|refine Bnp ?_|refine Eh ?_|refine Bst ?_|refine Btw ?_|refine Bvk ?_|refine Bu8 ?_|refine Bvw rfl ?_|refine Bow ?_|refine Bpd ?_|refine Bre ?_|refine Boa ?_|(apply Au rfl rfl;(first|exact p_move rfl|exact p_assign rfl|exact p_lens (by dsimp only;decide +kernel) rfl|exact p_lensl (by dsimp only;decide +kernel) rfl|exact p_extract rfl rfl|exact p_pick_t rfl rfl|exact p_pick_f rfl rfl|exact p_eql rfl rfl|exact p_neq rfl rfl|exact p_lss rfl rfl|exact p_leq rfl rfl|exact p_gtr rfl rfl|exact p_geq rfl rfl|exact p_not rfl|exact p_eqls rfl rfl|exact p_neqs rfl rfl|exact Agf rfl rfl (by omega)|exact Ka rfl rfl (by omega)|exact p_index (by dsimp only;decide +kernel) rfl rfl (by omega)|exact p_cut (by dsimp only;decide +kernel) rfl rfl rfl (by omega)|exact p_cutlo (by dsimp only;decide +kernel) rfl rfl (by omega)|exact p_cuthi (by dsimp only;decide +kernel) rfl rfl (by omega)|exact p_fa (fo:=0) (by dsimp only;decide +kernel) rfl|exact p_fa (fo:=1) (by dsimp only;decide +kernel) rfl|exact p_fa (fo:=2) (by dsimp only;decide +kernel) rfl|exact p_fa (fo:=3) (by dsimp only;decide +kernel) rfl|exact Bwt rfl))|refine Bvm rfl rfl ?_|refine A5g rfl ?_|(apply Au rfl rfl (Brx rfl rfl (Az0 _ _)))|(refine Bvo rfl rfl ?_ ?_<;>intro hc)|(refine Bwd rfl rfl ?_ ?_<;>intro hc)|(refine Bv9 rfl rfl ?_ ?_<;>intro hc)|(refine Buy rfl rfl ?_ ?_<;>intro hc)|(refine Bv4 rfl rfl ?_ ?_<;>intro hc)|(refine Bw3 rfl rfl ?_ ?_<;>intro hc)|refine Axf rfl rfl ?_|refine Axb rfl rfl ?_|refine Axf rfl (Ze1 (by omega)) ?_|refine Axb rfl (Zd1 (by omega)) ?_|(refine Iq rfl ?_ ?_<;>intro hc)|(refine Bp7 rfl ?_ ?_<;>intro hc)|(refine Bnn rfl ?_ ?_<;>intro hc)|(refine Blc rfl ?_ ?_<;>intro hc)|(refine Bn8 rfl ?_ ?_<;>intro hc)|(refine Ek rfl ?_ ?_<;>intro hc)|refine B1 rfl rfl ?_|refine Bsv rfl rfl rfl ?_|refine Bs7 rfl rfl rfl rfl ?_|fail)
 exact Bsn rfl
def Cr(a b:Str):Int:=Lib.compareBytes a b
def A1f:FT [.str,.str] [.int .i64]:=λx=>some (Cr x.1 x.2)
theorem V6:∀(a b:Str),Cr a b = -1\/Cr a b=0\/Cr a b=1
 |[],[]=>by simp[Cr,Lib.compareBytes]
 |[],_::_=>by simp[Cr,Lib.compareBytes]
 |_::_,[]=>by simp[Cr,Lib.compareBytes]
 |a::l,b::m=>by
  have ih:=V6 l m;simp only[Cr,Lib.compareBytes] at ih ⊢;split
  ·simp
  ·grind
theorem Bod:FO 140 [.str,.str] [.int .i64] A1f:=by
 refine FnOk.ofIs (Aev [] []).enters rfl λx r hx =>?_;obtain⟨a,b⟩:=x;simp only[A1f,Za1] at hx;subst hx;refine⟨[S a,S b],_,λX vs h =>?_,Aev a b,λX hb =>?_⟩
 ·simp only[Bw,Cl,Reps,Rep] at h;obtain⟨u,us,rfl,⟨rfl,_⟩,u2,us2,rfl,⟨rfl,_⟩,rfl⟩:=h;rfl
 ·simp only[Gw,Bw,Cl];have h:=V6 a b;refine C2 (Ay8 ?_);simp only[IntKind.min,IntKind.max,IntKind.signed,IntKind.bits];simp only[if_true];omega
end Go.Proofs.YtcoaaebppfbbnaaGreatDoor
namespace Go.Proofs.YtcoaaebppfbbnaaGreatDoor
open Go.Ax
def Z7:Sig:=⟨20,[(0,.str),(2,.bool),(5,.int .i64),(6,.int .i64)],[],[],0,0,0,[],[]⟩
abbrev Kl:=Str×Bool×Int×Int
def Jd{R:Type}(rec:Kl->Option R)(kx:Ex->Kl->Option R)(v:Kl):Option R:=match v with
 |(v,v1,v2,v3) =>
 cond (decide (v3<v2)) (
  chk (inb v3 v.length) (
  cond (decide ((bat v v3)<32)) (
   kx .ret (v,false,v2,v3)) (
   chk (inb v3 v.length) (
   cond (decide (126<(bat v v3))) (
    kx .ret (v,false,v2,v3)) (
    rec (v,v1,v2,(wr .i64 (v3+1)))))))) (
  kx (.exit 0) (v,v1,v2,v3))
def Alo(R:Type)(k:Nat):Px R:=pxO [] [] [(2,Am k Z7 (Jd))] []
def Aro(k:Nat)(x:HV [.str]):Option (HV [.bool]):=match x with
 |s =>
 Aj (λrec=>Jd rec (λe vz=>match vz with|(_,v5,_,_)=>match e with
  |.ret =>
  some v5
  |.exit 0 =>
  some true
  |_=>none)) k (s,false,(s.length:Int),0)
theorem Ax7(k:Nat):FO 168 [.str] [.bool] (Aro k):=fR (px:=Alo _ k) (n:=1) Tryz.func168 rfl (λcx H=>by have h0:Lv cx (Alo (HV [.bool]) k):=lv H Ae Aa Ab;have hlvisible_0:=lO H h0 (b:=lp Tryz.f168 0) (k:=k) (n:=0) (s:=Z7) (step:=Jd) (λ_ _ _ (_,_,_,_)=>by kernel_rfl) Ai;exact⟨h0,(A6 Ai hlvisible_0)⟩) λ_=>by kernel_rfl
def vis(b:UInt8):Bool:=decide (32<=b.toNat)&&decide (b.toNat<=126)
def S0(s:Str):Bool:=s.all vis
def Ab8:FT [.str] [.bool]:=λx=>some (S0 x)
theorem Z8{R:Type}{kx:Ex->Kl->Option R}{s:Str}{a b:Option R}(hs:ln s.length)(h1:∀r j,kx .ret (s,false,r,j)=a)(h2:∀q r j,kx (.exit 0) (s,q,r,j)=b):∀(k i:Nat) q,i<=s.length->s.length-i<k->Aj (λrec=>Jd rec kx) k (s,q,(s.length:Int),(i:Int))=cond ((s.drop i).all vis) b a
 |0,i,q,_,h=>by omega
 |k+1,i,q,hi,h=>by
  rw[Ay];by_cases hl:i<s.length
  ·simp only[Jd,An hl hs,(Z8 hs h1 h2 k (i+1) q (by omega) (by omega)),h1,Ak hl,Asp hl,As hl,Zv1,Bool.cond_decide];rw[if_pos (by omega)];simp only[vis];split
   ·rw[Zd1 (by omega)];rfl
   ·split
    ·rw[Ze1 (by omega),Zd1 (by omega)];rfl
    ·rw[Ze1 (by omega),Ze1 (by omega)];rfl
  ·simp[Jd,h2,Bool.cond_decide];rw[if_neg (by omega),Zk1 (by omega)];rfl
theorem A15:FO 168 [.str] [.bool] Ab8 :=.fin 0 Ax7 λx r hb hx=>⟨x.length+1,by simp only[Ab8,Za1] at hx;have:=Z8 (a:=some false) (b:=some true) hb (kx:=λe v=>match v with|(_,v5,_,_)=>match e with|.ret=>some v5|.exit 0=>some true|_=>none) (λ_ _=>rfl) (λ_ _ _=>rfl) (x.length+1) 0 false (Nat.zero_le _) (by omega);refine Eq.trans this ?_;rw[<-hx,Zq1,S0];cases x.all vis<;>rfl⟩
def A97(R:Type):Px R:=pxO [(168,cA Ab8)] [] [] []
def Pl(x:HV [.sv .val]):Option (HV [.bool]):=match x with
 |v =>
 cond (decide (v.kind=1)) (
  cond (decide (v.n=0)) (
  some (decide (v.s=[]))) (
  some false)) (
  cond (decide (v.kind=2)) (
  cond (decide (v.n=0)) (
   some (decide (v.s=[]))) (
   cond (decide (v.n=1)) (
   some (decide (v.s=[]))) (
   some false))) (
  cond (decide (v.kind=3)) (
   some (decide (v.s=[]))) (
   cond (decide (v.kind=4)) (
   cond (decide (v.n=0)) (
    cond (decide ((v.s.length:Int)<=1000)) (
    some (S0 v.s)) (
    some false)) (
    some false)) (
   cond (decide (v.kind=5)) (
    cond (decide (v.n=0)) (
    some (decide ((v.s.length:Int)<=1000))) (
    some false)) (
    some false)))))
theorem A11:FO 123 [.sv .val] [.bool] (Pl):=fR (px:=A97 _) (n:=0) Tryz.func123 rfl (λ_ H=>⟨lv H (c1 H A15 Ae) Aa Ab,Ai⟩) λ_=>by kernel_rfl
def Aq(v:Val):Bool :=
 cond (decide (v.kind=1)) (
  cond (decide (v.n=0)) (
  (decide (v.s=[]))) (
  false)) (
  cond (decide (v.kind=2)) (
  cond (decide (v.n=0)) (
   (decide (v.s=[]))) (
   cond (decide (v.n=1)) (
   (decide (v.s=[]))) (
   false))) (
  cond (decide (v.kind=3)) (
   (decide (v.s=[]))) (
   cond (decide (v.kind=4)) (
   cond (decide (v.n=0)) (
    cond (decide ((v.s.length:Int)<=1000)) (
    (S0 v.s)) (
    false)) (
    false)) (
   cond (decide (v.kind=5)) (
    cond (decide (v.n=0)) (
    (decide ((v.s.length:Int)<=1000))) (
    false)) (
    false)))))
theorem A16(x:HV [.sv .val]):Pl x=some (Aq x):=by
 first
  |exact rfl
  |simp only[Pl,Aq,Az]
def Aj2:FT [.sv .val] [.bool]:=λx=>some (Aq x)
theorem Anb:FO 123 [.sv .val] [.bool] Aj2 :=.fin0 A11 λx _ _ hx=>(A16 x).trans hx
def Bem(R:Type):Px R:=pxO [(123,cA Aj2)] [] [] []
def Qr(x:HV [.sv .val]):Option (HV [.int .i64]):=match x with
 |v =>
 cond (!(Aq v)) (
  some 2) (
  some 0)
theorem A4t:FO 80 [.sv .val] [.int .i64] (Qr):=fR (px:=Bem _) (n:=0) Tryz.func80 rfl (λ_ H=>⟨lv H (c1 H Anb Ae) Aa Ab,Ai⟩) λ_=>by kernel_rfl
def Eg(v:Val):Int :=
 cond (!(Aq v)) (
  2) (
  0)
theorem A1q(x:HV [.sv .val]):Qr x=some (Eg x):=by
 first
  |exact rfl
  |simp only[Qr,Eg,Az]
def Qs:FT [.sv .val] [.int .i64]:=λx=>some (Eg x)
theorem Ud:FO 80 [.sv .val] [.int .i64] Qs :=.fin0 A4t λx _ _ hx=>(A1q x).trans hx
def Bm6(R:Type):Px R:=pxO [(123,cA Aj2)] [] [] []
def Wj(x:HV [.sv .val,.int .i64]):Option (HV [.bool]):=match x with
 |(v,kind) =>
 cond ((Aq v)) (
  cond (decide (v.kind=1)) (
  some true) (
  some (decide (v.kind=kind)))) (
  some false)
theorem Bbc:FO 87 [.sv .val,.int .i64] [.bool] (Wj):=fR (px:=Bm6 _) (n:=0) Tryz.func87 rfl (λ_ H=>⟨lv H (c1 H Anb Ae) Aa Ab,Ai⟩) λ(_,_)=>by kernel_rfl
def Aaj(v:Val)(kind:Int):Bool :=
 cond ((Aq v)) (
  cond (decide (v.kind=1)) (
  true) (
  (decide (v.kind=kind)))) (
  false)
theorem Bbk(x:HV [.sv .val,.int .i64]):Wj x=some (Aaj x.1 x.2):=by
 first
  |exact rfl
  |simp only[Wj,Aaj,Az]
def A56:FT [.sv .val,.int .i64] [.bool]:=λx=>some (Aaj x.1 x.2)
theorem Blm:FO 87 [.sv .val,.int .i64] [.bool] A56 :=.fin0 Bbc λx _ _ hx=>(Bbk x).trans hx
def Bez(R:Type):Px R:=pxO [] [] [] []
def Wr(x:HV [.int .i64,.int .i64]):Option (HV [.int .i64]):=match x with
 |(a,b) =>
 cond (decide (a<b)) (
  some (-1)) (
  cond (decide (b<a)) (
  some 1) (
  some 0))
theorem Bcg:FO 92 [.int .i64,.int .i64] [.int .i64] (Wr):=fR (px:=Bez _) (n:=0) Tryz.func92 rfl (λ_ H=>⟨lv H Ae Aa Ab,Ai⟩) λ(_,_)=>by kernel_rfl
def Dj(a:Int)(b:Int):Int :=
 cond (decide (a<b)) (
  (-1)) (
  cond (decide (b<a)) (
  1) (
  0))
theorem Bbb(x:HV [.int .i64,.int .i64]):Wr x=some (Dj x.1 x.2):=by
 first
  |exact rfl
  |simp only[Wr,Dj,Az]
def A9i:FT [.int .i64,.int .i64] [.int .i64]:=λx=>some (Dj x.1 x.2)
theorem Bmn:FO 92 [.int .i64,.int .i64] [.int .i64] A9i :=.fin0 Bcg λx _ _ hx=>(Bbb x).trans hx
def Brk(R:Type):Px R:=pxO [] [] [] []
def Adt(x:HV [.int .i64,.int .i64]):Option (HV [.int .i64,.int .i64]):=match x with
 |(a,b) =>
 cond (!decide ((decide (a<(wr .i64 (a+b))))=(decide (0<b)))) (
  some (0,20)) (
  some ((wr .i64 (a+b)),0))
theorem Bh0:FO 190 [.int .i64,.int .i64] [.int .i64,.int .i64] (Adt):=fR (px:=Brk _) (n:=0) Tryz.func190 rfl (λ_ H=>⟨lv H Ae Aa Ab,Ai⟩) λ(_,_)=>by kernel_rfl
def Afs(a:Int)(b:Int):Int×Int :=
 cond (!decide ((decide (a<(wr .i64 (a+b))))=(decide (0<b)))) (
  (0,20)) (
  ((wr .i64 (a+b)),0))
theorem Bfn(x:HV [.int .i64,.int .i64]):Adt x=some (Afs x.1 x.2):=by
 first
  |exact rfl
  |simp only[Adt,Afs,Az]
def Bfh:FT [.int .i64,.int .i64] [.int .i64,.int .i64]:=λx=>some (Afs x.1 x.2)
theorem Bqo:FO 190 [.int .i64,.int .i64] [.int .i64,.int .i64] Bfh :=.fin0 Bh0 λx _ _ hx=>(Bfn x).trans hx
def Bnv(R:Type):Px R:=pxO [] [] [] []
def Adx(x:HV [.int .i64,.int .i64]):Option (HV [.int .i64,.int .i64]):=match x with
 |(a,b) =>
 cond (!decide ((decide ((wr .i64 (a-b))<a))=(decide (0<b)))) (
  some (0,20)) (
  some ((wr .i64 (a-b)),0))
theorem Bfe:FO 191 [.int .i64,.int .i64] [.int .i64,.int .i64] (Adx):=fR (px:=Bnv _) (n:=0) Tryz.func191 rfl (λ_ H=>⟨lv H Ae Aa Ab,Ai⟩) λ(_,_)=>by kernel_rfl
def Pg(a:Int)(b:Int):Int×Int :=
 cond (!decide ((decide ((wr .i64 (a-b))<a))=(decide (0<b)))) (
  (0,20)) (
  ((wr .i64 (a-b)),0))
theorem Bjr(x:HV [.int .i64,.int .i64]):Adx x=some (Pg x.1 x.2):=by
 first
  |exact rfl
  |simp only[Adx,Pg,Az]
def Bj8:FT [.int .i64,.int .i64] [.int .i64,.int .i64]:=λx=>some (Pg x.1 x.2)
theorem Boc:FO 191 [.int .i64,.int .i64] [.int .i64,.int .i64] Bj8 :=.fin0 Bfe λx _ _ hx=>(Bjr x).trans hx
def Bkh(R:Type):Px R:=pxO [] [] [] []
def Xi(x:HV [.int .i64]):Option (HV [.int .u64]):=match x with
 |n =>
 cond (decide (n<0)) (
  some (wr .u64 (0-(wr .u64 n)))) (
  some (wr .u64 n))
theorem A94:FO 233 [.int .i64] [.int .u64] (Xi):=fR (px:=Bkh _) (n:=0) Tryz.func233 rfl (λ_ H=>⟨lv H Ae Aa Ab,Ai⟩) λ_=>by kernel_rfl
def Dx(n:Int):Int :=
 cond (decide (n<0)) (
  (wr .u64 (0-(wr .u64 n)))) (
  (wr .u64 n))
theorem Bda(x:HV [.int .i64]):Xi x=some (Dx x):=by
 first
  |exact rfl
  |simp only[Xi,Dx,Az]
def A7a:FT [.int .i64] [.int .u64]:=λx=>some (Dx x)
theorem Bhp:FO 233 [.int .i64] [.int .u64] A7a :=.fin0 A94 λx _ _ hx=>(Bda x).trans hx
def Ax9(R:Type):Px R:=pxO [(140,cA A1f)] [] [] []
def Kw(x:HV [.str,.str]):Option (HV [.int .i64]):=match x with
 |(a,b) =>
 some (Cr a b)
theorem Ats:FO 93 [.str,.str] [.int .i64] (Kw):=fR (px:=Ax9 _) (n:=0) Tryz.func93 rfl (λ_ H=>⟨lv H (c1 H Bod Ae) Aa Ab,Ai⟩) λ(_,_)=>by kernel_rfl
def F2(a:Str)(b:Str):Int :=(Cr a b)
theorem Arj(x:HV [.str,.str]):Kw x=some (F2 x.1 x.2):=by
 first
  |exact rfl
  |simp only[Kw,F2,Az]
def W3:FT [.str,.str] [.int .i64]:=λx=>some (F2 x.1 x.2)
theorem Aew:FO 93 [.str,.str] [.int .i64] W3 :=.fin0 Ats λx _ _ hx=>(Arj x).trans hx
def Bnw(R:Type):Px R:=pxO [(92,cA A9i),(93,cA W3)] [] [] []
def Ac6(x:HV [.sv .val,.sv .val]):Option (HV [.int .i64]):=match x with
 |(a,b) =>
 cond (!decide ((Dj a.kind b.kind)=0)) (
  some (Dj a.kind b.kind)) (
  cond (!decide ((Dj a.n b.n)=0)) (
  some (Dj a.n b.n)) (
  some (F2 a.s b.s)))
theorem Bkj:FO 56 [.sv .val,.sv .val] [.int .i64] (Ac6):=fR (px:=Bnw _) (n:=0) Tryz.func56 rfl (λ_ H=>⟨lv H (c1 H Bmn (c1 H Aew Ae)) Aa Ab,Ai⟩) λ(_,_)=>by kernel_rfl
def Gu(a:Val)(b:Val):Int :=
 cond (!decide ((Dj a.kind b.kind)=0)) (
  (Dj a.kind b.kind)) (
  cond (!decide ((Dj a.n b.n)=0)) (
  (Dj a.n b.n)) (
  (F2 a.s b.s)))
theorem Blf(x:HV [.sv .val,.sv .val]):Ac6 x=some (Gu x.1 x.2):=by
 first
  |exact rfl
  |simp only[Ac6,Gu,Az]
def A37:FT [.sv .val,.sv .val] [.int .i64]:=λx=>some (Gu x.1 x.2)
theorem A7l:FO 56 [.sv .val,.sv .val] [.int .i64] A37 :=.fin0 Bkj λx _ _ hx=>(Blf x).trans hx
def Bfd(R:Type):Px R:=pxO [] [] [] []
def Vq(x:HV [.int .u64,.int .u64]):Option (HV [.int .u64,.int .u64]):=match x with
 |(a,b) =>
 some ((wr .u64 ((wr .u64 ((wr .u64 ((D5 .u64 a 32)*(D5 .u64 b 32)))+(D5 .u64 (wr .u64 ((wr .u64 ((D5 .u64 a 32)*(G9 .u64 b 4294967295)))+(D5 .u64 (wr .u64 ((G9 .u64 a 4294967295)*(G9 .u64 b 4294967295))) 32))) 32)))+(D5 .u64 (wr .u64 ((G9 .u64 (wr .u64 ((wr .u64 ((D5 .u64 a 32)*(G9 .u64 b 4294967295)))+(D5 .u64 (wr .u64 ((G9 .u64 a 4294967295)*(G9 .u64 b 4294967295))) 32))) 4294967295)+(wr .u64 ((G9 .u64 a 4294967295)*(D5 .u64 b 32))))) 32))),(wr .u64 (a*b)))
theorem Bce:FO 232 [.int .u64,.int .u64] [.int .u64,.int .u64] (Vq):=fR (px:=Bfd _) (n:=0) Tryz.func232 rfl (λ_ H=>⟨lv H Ae Aa Ab,Ai⟩) λ(_,_)=>by kernel_rfl
def Ik(a:Int)(b:Int):Int×Int :=((wr .u64 ((wr .u64 ((wr .u64 ((D5 .u64 a 32)*(D5 .u64 b 32)))+(D5 .u64 (wr .u64 ((wr .u64 ((D5 .u64 a 32)*(G9 .u64 b 4294967295)))+(D5 .u64 (wr .u64 ((G9 .u64 a 4294967295)*(G9 .u64 b 4294967295))) 32))) 32)))+(D5 .u64 (wr .u64 ((G9 .u64 (wr .u64 ((wr .u64 ((D5 .u64 a 32)*(G9 .u64 b 4294967295)))+(D5 .u64 (wr .u64 ((G9 .u64 a 4294967295)*(G9 .u64 b 4294967295))) 32))) 4294967295)+(wr .u64 ((G9 .u64 a 4294967295)*(D5 .u64 b 32))))) 32))),(wr .u64 (a*b)))
theorem Bbe(x:HV [.int .u64,.int .u64]):Vq x=some (Ik x.1 x.2):=by
 first
  |exact rfl
  |simp only[Vq,Ik,Az]
def A69:FT [.int .u64,.int .u64] [.int .u64,.int .u64]:=λx=>some (Ik x.1 x.2)
theorem Bft:FO 232 [.int .u64,.int .u64] [.int .u64,.int .u64] A69 :=.fin0 Bce λx _ _ hx=>(Bbe x).trans hx
def Brh(R:Type):Px R:=pxO [(233,cA A7a),(232,cA A69)] [] [] []
def Ab7(x:HV [.int .i64,.int .i64]):Option (HV [.int .i64,.int .i64]):=match x with
 |(a,b) =>
 let j1:=λ(p3:Bool) =>
  cond (p3) (
  some (0,20)) (
  cond (!decide ((decide (a<0))=(decide (b<0)))) (
   some ((wr .i64 (wr .u64 (0-(Ik (Dx a) (Dx b)).2))),0)) (
   some ((wr .i64 ((Ik (Dx a) (Dx b)).2)),0)))
 let j:=λ(p:Bool) =>
  cond (p) (
  j1 true) (
  cond (decide ((Ik (Dx a) (Dx b)).2=9223372036854775808)) (
   j1 (!(!decide ((decide (a<0))=(decide (b<0)))))) (
   j1 false))
 cond (decide (0<(Ik (Dx a) (Dx b)).1)) (
  j true) (
  j (decide (9223372036854775808<(Ik (Dx a) (Dx b)).2)))
theorem Bl9:FO 192 [.int .i64,.int .i64] [.int .i64,.int .i64] (Ab7):=fR (px:=Brh _) (n:=0) Tryz.func192 rfl (λ_ H=>⟨lv H (c1 H Bhp (c1 H Bft Ae)) Aa Ab,Ai⟩) λ(_,_)=>by kernel_rfl
def Afo(a:Int)(b:Int):Int×Int :=
 let j1:=λ(p3:Bool) =>
  cond (p3) (
  (0,20)) (
  cond (!decide ((decide (a<0))=(decide (b<0)))) (
   ((wr .i64 (wr .u64 (0-(Ik (Dx a) (Dx b)).2))),0)) (
   ((wr .i64 ((Ik (Dx a) (Dx b)).2)),0)))
 let j:=λ(p:Bool) =>
  cond (p) (
  j1 true) (
  cond (decide ((Ik (Dx a) (Dx b)).2=9223372036854775808)) (
   j1 (!(!decide ((decide (a<0))=(decide (b<0)))))) (
   j1 false))
 cond (decide (0<(Ik (Dx a) (Dx b)).1)) (
  j true) (
  j (decide (9223372036854775808<(Ik (Dx a) (Dx b)).2)))
theorem Bg9(x:HV [.int .i64,.int .i64]):Ab7 x=some (Afo x.1 x.2):=by
 first
  |exact rfl
  |simp only[Ab7,Afo,Az]
def Bge:FT [.int .i64,.int .i64] [.int .i64,.int .i64]:=λx=>some (Afo x.1 x.2)
theorem Brr:FO 192 [.int .i64,.int .i64] [.int .i64,.int .i64] Bge :=.fin0 Bl9 λx _ _ hx=>(Bg9 x).trans hx
theorem Bvu{i:Int}{n:Nat}(h : 0<=i/\i<n):inb i n=true:=by simp[inb,h]
def Bfc(R:Type):Px R:=pxO [] [] [] []
def Wu(x:HV [.int .u8]):Option (HV [.bool]):=match x with
 |c =>
 cond (decide (97<=c)) (
  some (decide (c<=122))) (
  some false)
theorem A98:FO 228 [.int .u8] [.bool] (Wu):=fR (px:=Bfc _) (n:=0) Tryz.func228 rfl (λ_ H=>⟨lv H Ae Aa Ab,Ai⟩) λ_=>by kernel_rfl
def Ae1(c:Int):Bool :=
 cond (decide (97<=c)) (
  (decide (c<=122))) (
  false)
theorem Ba0(x:HV [.int .u8]):Wu x=some (Ae1 x):=by
 first
  |exact rfl
  |simp only[Wu,Ae1,Az]
def Arv:FT [.int .u8] [.bool]:=λx=>some (Ae1 x)
theorem Azq:FO 228 [.int .u8] [.bool] Arv :=.fin0 A98 λx _ _ hx=>(Ba0 x).trans hx
def Bgd(R:Type):Px R:=pxO [] [] [] []
def Vy(x:HV [.int .u8]):Option (HV [.bool]):=match x with
 |c =>
 cond (decide (48<=c)) (
  some (decide (c<=57))) (
  some false)
theorem A9n:FO 268 [.int .u8] [.bool] (Vy):=fR (px:=Bgd _) (n:=0) Tryz.func268 rfl (λ_ H=>⟨lv H Ae Aa Ab,Ai⟩) λ_=>by kernel_rfl
def Akw(c:Int):Bool :=
 cond (decide (48<=c)) (
  (decide (c<=57))) (
  false)
theorem Bco(x:HV [.int .u8]):Vy x=some (Akw x):=by
 first
  |exact rfl
  |simp only[Vy,Akw,Az]
def A8t:FT [.int .u8] [.bool]:=λx=>some (Akw x)
theorem Bm8:FO 268 [.int .u8] [.bool] A8t :=.fin0 A9n λx _ _ hx=>(Bco x).trans hx
def Bhg(R:Type):Px R:=pxO [(228,cA Arv),(268,cA A8t)] [] [] []
def Xc(x:HV [.int .u8]):Option (HV [.bool]):=match x with
 |c =>
 cond ((Ae1 c)) (
  some true) (
  cond ((Akw c)) (
  some true) (
  some (decide (c=95))))
theorem Bav:FO 230 [.int .u8] [.bool] (Xc):=fR (px:=Bhg _) (n:=0) Tryz.func230 rfl (λ_ H=>⟨lv H (c1 H Azq (c1 H Bm8 Ae)) Aa Ab,Ai⟩) λ_=>by kernel_rfl
def Apv(c:Int):Bool :=
 cond ((Ae1 c)) (
  true) (
  cond ((Akw c)) (
  true) (
  (decide (c=95))))
theorem Bap(x:HV [.int .u8]):Xc x=some (Apv x):=by
 first
  |exact rfl
  |simp only[Xc,Apv,Az]
def A8f:FT [.int .u8] [.bool]:=λx=>some (Apv x)
theorem Blp:FO 230 [.int .u8] [.bool] A8f :=.fin0 Bav λx _ _ hx=>(Bap x).trans hx
theorem Avq(c:Int):Ae1 c=Lp.isLo c:=by simp only[Ae1,Lp.isLo];cases decide (97<=c)<;>rfl
theorem Bhm(c:Int):Akw c=Lp.isDi c:=by simp only[Akw,Lp.isDi];cases decide (48<=c)<;>rfl
theorem Bjp(c:Int):Apv c=Lp.isIn c:=by simp[Apv,Lp.isIn,Avq,Bhm];cases Lp.isLo c<;>cases Lp.isDi c<;>rfl
def Ah3:Sig:=⟨21,[(0,.str),(1,.int .i64)],[(2,.fn 230 [])],[],40,40,200,[],[]⟩
abbrev R0:=Str×Int
def Sq{R:Type}(rec:R0->Option R)(kx:Ex->R0->Option R)(v:R0):Option R:=match v with
 |(v,v1) =>
 cond (decide (v1<(v.length:Int))) (
  chk (inb v1 v.length) (
  cond ((Apv (bat v v1))) (
   rec (v,(wr .i64 (v1+1)))) (
   kx (.exit 0) (v,v1)))) (
  kx (.exit 0) (v,v1))
def Ahi(R:Type)(k:Nat):Px R:=pxO [(230,cA A8f)] [] [(1,Am k Ah3 (Sq))] []
noncomputable def Ax8(R:Type)(k:Nat):Px R:=pxO [(228,cA Arv),(229,A1 40 200 (Ahi R k) Tryz.f229)] [] [] []
def Alt(k:Nat)(x:HV [.str]):Option (HV [.bool]):=match x with
 |s =>
 let j1:=λ(p:Bool) =>
  let j:=λ(p1:Bool) =>
  cond (p1) (
   Aj (λrec=>Sq rec (λe vz=>match vz with|(_,v3)=>match e with
   |.exit 0 =>some (decide (v3=(s.length:Int)))
   |_=>none)) k (s,0)) (
   some false)
  cond (p) (
  chk (inb 0 s.length) (
   j (Ae1 (bat s 0)))) (
  j false)
 cond (!decide (s=[])) (
  j1 (decide ((s.length:Int)<=30))) (
  j1 false)
theorem Bb9(k:Nat):FO 187 [.str] [.bool] (Alt k):=fR (px:=Ax8 _ k) (n:=0) Tryz.func187 rfl (λcx H=>by have h1:Lv cx (Ahi (HV [.bool]) k):=lv H (c1 H Blp Ae) Aa Ab;have hllname_0:=lO H h1 (b:=lp Tryz.f229 0) (k:=k) (n:=0) (s:=Ah3) (step:=Sq) (λ_ _ _ (_,_)=>by kernel_rfl) Ai;have h0:Lv cx (Ax8 (HV [.bool]) k):=lv H (c1 H Azq (Ao (cR H h1 Tryz.func229 rfl (n:=1) ((A6 Ai hllname_0))) Ae)) Aa Ab;exact⟨h0,Ai⟩) λ_=>by kernel_rfl
abbrev Dr(s:Str):Bool:=Lp.nameF s
def Uc:FT [.str] [.bool]:=λx=>some (Dr x)
theorem Aaa{R:Type}{kx:Ex->R0->Option R}{s:Str}  {a:Int->Option R}(hs:ln s.length) (h1:∀j,kx (.exit 0) (s,j)=a j):∀(k i:Nat),i<=s.length->s.length-i<k->Aj (λrec=>Sq rec kx) k (s,(i:Int))=a (Lp.runTo Lp.isIn s i)
 |0,i,_,h=>absurd h (Zm1 _)
 |k+1,i,hi,h=>by
  rw[Ay];by_cases hl:i<s.length
  ·have ih:=Aaa  hs h1 k (i+1) (by omega) (by omega);have eb:Sx.byt s (i:Int)=(s[i].toNat:Int):=Asp hl;simp only[Sq,An hl hs,ih,h1,Asp hl,As hl,Bjp];rw[Ze1 (show(i:Int)<(s.length:Int) by omega)];cases hp:Lp.isIn (s[i].toNat:Int) with|true =>have:=Lp.runTo_yes (p:=Lp.isIn) (l:=s) (j:=i) (by omega) (by rw[eb];exact hp);rw[<-this];rfl|false =>have:=Lp.runTo_no (p:=Lp.isIn) (l:=s) (j:=i) (by omega) (by rw[eb];exact hp);rw[this];rfl
  ·have:=Lp.runTo_end (p:=Lp.isIn) (l:=s) (j:=i) (by omega);simp only[Sq,h1];rw[Zd1 (by omega),this];rfl
theorem Yn:FO 187 [.str] [.bool] Uc :=.fin 0 Bb9 λs r hb hx=>⟨s.length+1,by
 simp only[Uc,Za1] at hx;rw[<-hx];simp only[Alt,Dr,Lp.nameF];by_cases he:s=[]
 ·rw[Ze1 he];rfl
 ·rw[Zd1 he];simp only[Zs1,Af,Bool.true_and];by_cases h30:(s.length:Int)<=30
  ·have hp : 0<s.length:=List.length_pos_iff.2 he;rw[Ze1 h30,Bvu (by omega),Avq];simp only[chk,Af,Bool.true_and];have eb:bat s 0=Sx.byt s 0:=rfl;rw[eb];cases Lp.isLo (Sx.byt s 0) with|false=>rfl|true =>simp only[Af,Bool.true_and];exact Aaa (s:=s) (a:=λj=>some (decide (j=(s.length:Int)))) hb (λ_=>rfl) (s.length+1) 0 (Nat.zero_le _) (by omega)
  ·rw[Zd1 h30];rfl⟩
def val:List Int->Int
 |[]=>0
 |x::l=>x+10*val l
def nv(n:Num):Int:=if n.minus=true then -val n.d else val n.d
def Bl6(R:Type):Px R:=pxO [] [] [] []
def V7(x:HV [.int .i64]):Option (HV [.int .i64]):=match x with
 |kind =>
 let j1:=λ(p1:Bool) =>
  cond (p1) (
  some 0) (
  let j:=λ(p5:Bool) =>
   cond (p5) (
   some 1) (
   cond (!decide ((U0 signsL kind)=[])) (
    some 2) (
    some (-1)))
  cond (decide (kind=3)) (
   j true) (
   cond (decide (kind=15)) (
   j true) (
   j (decide (kind=16)))))
 cond (decide (kind=1)) (
  j1 true) (
  j1 (decide (kind=2)))
theorem A9q:FO 186 [.int .i64] [.int .i64] (V7):=fR (px:=Bl6 _) (n:=0) Tryz.func186 rfl (λ_ H=>⟨lv H Ae Aa Ab,Ai⟩) λ_=>by kernel_rfl
def parts(kind:Int):Int :=
 let j1:=λ(p1:Bool) =>
  cond (p1) (
  0) (
  let j:=λ(p5:Bool) =>
   cond (p5) (
   1) (
   cond (!decide ((U0 signsL kind)=[])) (
    2) (
    (-1)))
  cond (decide (kind=3)) (
   j true) (
   cond (decide (kind=15)) (
   j true) (
   j (decide (kind=16)))))
 cond (decide (kind=1)) (
  j1 true) (
  j1 (decide (kind=2)))
theorem Ba3(x:HV [.int .i64]):V7 x=some (parts x):=by
 first
  |exact rfl
  |simp only[V7,parts,Az]
def A5p:FT [.int .i64] [.int .i64]:=λx=>some (parts x)
theorem Bmg:FO 186 [.int .i64] [.int .i64] A5p :=.fin0 A9q λx _ _ hx=>(Ba3 x).trans hx
mutual
def Bf:Xpr->Nat
 |.mk _ _ _ l=>1+esizes l
def esizes:List Xpr->Nat
 |[]=>0
 |x::l=>1+Bf x+esizes l
end
theorem C6:∀{l:List Xpr}{x:Xpr},x∈l->Bf x<esizes l
 |y::l,x,h=>by
  simp at h;simp[esizes];rcases h with rfl|h
  ·omega
  ·have:=C6 h;omega
theorem Hm:∀(l:List Xpr),l.length<=esizes l
 |[]=>by simp
 |x::l=>by have:=Hm l;simp[esizes];omega
theorem Hu(e:Xpr) : 0<Bf e:=by cases e;simp[Bf];omega
theorem Ld(e:Xpr):Bf e=1+esizes e.l:=by cases e;simp[Bf,Xpr.l]
theorem Are{e:Xpr}(h:BdExpr e):ln e.l.length/\∀x,x∈e.l->BdExpr x:=by obtain⟨_,_,_,_,_,_,_,h4,h5⟩:=h;exact⟨h4,h5⟩
def Aef:Sig:=⟨19,[(0,.sl .expr false),(4,.int .i64),(7,.int .i64),(8,.int .i64)],[(1,.fn 189 [.ptr 1 0])],[(1,.cells [.int .i64])],80,80,400,[],[]⟩
abbrev Of:=List Xpr×Int×Int×Int×Int
def Mm{R:Type}(rf:FT [.sv .expr,.int .i64] [.bool])(rec:Of->Option R)(kx:Ex->Of->Option R)(v:Of):Option R:=match v with
 |(v,v1,v2,v3,w) =>
 cond (decide (v3<v2)) (
  chk (inb v3 v.length) (
  (rf ((at' .expr v v3),(wr .i64 (w-1)))).bind λx =>
   cond (!x) (
   kx .ret (v,v3,v2,v3,w)) (
   rec (v,v1,v2,(wr .i64 (v3+1)),w)))) (
  kx (.exit 0) (v,v1,v2,v3,w))
def Pd(R:Type)(_k:Nat)(rf:FT [.sv .expr,.int .i64] [.bool]):Px R:=pxO [(133,cA rf)] [] [] []
noncomputable def Vd(R:Type)(k:Nat)(rf:FT [.sv .expr,.int .i64] [.bool]):Px R:=pxO [(189,A1 120 600 (Pd R k rf) Tryz.f189)] [] [(2,Am k Aef (Mm rf))] []
noncomputable def Aen(R:Type)(k:Nat)(rf:FT [.sv .expr,.int .i64] [.bool]):Px R:=pxO [(231,A1 80 400 (Vd R k rf) Tryz.f231)] [] [] []
noncomputable def An5(R:Type)(k:Nat)(rf:FT [.sv .expr,.int .i64] [.bool]):Px R:=pxO [(80,cA Qs),(187,cA Uc),(188,A1 40 200 (Aen R k rf) Tryz.f188)] [(186,qA A5p)] [] []
def Gq(k:Nat)(rf:FT [.sv .expr,.int .i64] [.bool])(x:HV [.sv .expr,.int .i64]):Option (HV [.bool]):=match x with
 |(e,most) =>
 cond (decide (most=0)) (
  some false) (
  cond (!decide ((e.l.length:Int)=(parts e.kind))) (
  some false) (
  let j2:=λ(_:Unit) =>
   let j1:=λ(_:Unit) =>
   Aj (λrec=>Mm rf rec (λe vz=>match vz with|(_,v5,_,_,_)=>match e with
    |.ret =>
    some (!(decide (0<=v5)))
    |.exit 0 =>
    some true
    |_=>none)) k (e.l,0,(e.l.length:Int),0,most)
   let j:=λ(p5:Bool) =>
   cond (p5) (
    some false) (
    cond (!decide (e.kind=2)) (
    cond (!decide (e.name=[])) (
     some false) (
     j1 ())) (
    j1 ()))
   cond (decide (e.kind=2)) (
   j (!(Dr e.name))) (
   j false)
  cond (decide (e.kind=1)) (
   cond (!decide ((Eg e.v)=0)) (
   some false) (
   cond (decide (e.v.kind=3)) (
    cond (decide (e.v.n<0)) (
    some false) (
    j2 ())) (
    j2 ()))) (
   cond (!decide (e.v=(Val.mk 0 0 []))) (
   some false) (
   j2 ()))))
theorem A4l(k:Nat)(rf:FT [.sv .expr,.int .i64] [.bool])(hrf:FO 133 [.sv .expr,.int .i64] [.bool] rf):FO 133 [.sv .expr,.int .i64] [.bool] (Gq k rf):=fR (px:=An5 _ k rf) (n:=0) Tryz.func133 rfl (λcx H=>by have h3:Lv cx (Pd (HV [.bool]) k rf):=lv H (c1 H hrf Ae) Aa Ab;have h2:Lv cx (Vd (HV [.bool]) k rf):=lv H (Ao (cR H h3 Tryz.func189 rfl (n:=0) (Ai)) Ae) Aa Ab;have hleright_0:=lO H h2 (b:=lp Tryz.f231 0) (k:=k) (n:=0) (s:=Aef) (step:=Mm rf) (λ_ _ _ (_,_,_,_,_)=>by kernel_rfl) Ai;have h1:Lv cx (Aen (HV [.bool]) k rf):=lv H (Ao (cR H h2 Tryz.func231 rfl (n:=1) ((A6 Ai hleright_0))) Ae) Aa Ab;have h0:Lv cx (An5 (HV [.bool]) k rf):=lv H (c1 H Ud (c1 H Yn (Ao (cR H h1 Tryz.func188 rfl (n:=0) (Ai)) Ae))) (q1 H Bmg Aa) Ab;exact⟨h0,Ai⟩) λ(_,_)=>by kernel_rfl
def eok(k:Int)(v:Val)(nm:Str):Bool:=cond (decide (k=1)) (decide (Eg v=0) && !(decide (v.kind=3)&&decide (v.n<0))) (decide (v=⟨0,0,[]⟩))&&cond (decide (k=2)) (Dr nm) (decide (nm=[]))
mutual
def B0:Xpr->Int->Bool
 |.mk k v nm l,m => !decide (m=0)&&decide ((l.length:Int)=parts k)&&eok k v nm&&erights l (wr .i64 (m-1))
def erights:List Xpr->Int->Bool
 |[],_=>true
 |x::l,m=>B0 x m&&erights l m
end
def Ql:FT [.sv .expr,.int .i64] [.bool]:=λx=>some (B0 x.1 x.2)
theorem Aeu{R:Type}{rf:FT [.sv .expr,.int .i64] [.bool]}{kx:Ex->Of->Option R}{l:List Xpr}{m:Int}{a b:Option R}(hn:ln l.length)(hrf:∀x,x∈l->rf (x,wr .i64 (m-1))=some (B0 x (wr .i64 (m-1))))(h1:∀(j:Nat),kx .ret (l,(j:Int),(l.length:Int),(j:Int),m)=a)(h2:∀q j,kx (.exit 0) (l,q,(l.length:Int),j,m)=b):∀(k i:Nat) q,i<=l.length->l.length-i<k->Aj (λrec=>Mm rf rec kx) k (l,q,(l.length:Int),(i:Int),m)=cond (erights (l.drop i) (wr .i64 (m-1))) b a
 |0,i,q,_,h=>by omega
 |k+1,i,q,hi,h=>by
  rw[Ay];by_cases hl:i<l.length
  ·simp only[Mm,An hl hn,(Aeu hn hrf h1 h2 k (i+1) q (by omega) (by omega)),h1,Ak hl,Al (c :=.expr) hl,As hl,Bool.cond_decide,erights,hrf _ (List.getElem_mem hl)];rw[if_pos (by omega)];cases B0 l[i] (wr .i64 (m-1))<;>rfl
  ·simp[Mm,h2,Bool.cond_decide];rw[if_neg (by omega),Zk1 (by omega)];rfl
theorem Ao4(e:Xpr)(m:Int):B0 e m=(!decide (m=0)&&decide ((e.l.length:Int)=parts e.kind)&&eok e.kind e.v e.name&&erights e.l (wr .i64 (m-1))):=by cases e;simp[B0];rfl
theorem Agu(k:Nat):∀(n:Nat) (e:Xpr) (m:Int),BdExpr e->Bf e<=n->Bf e<=k->Aj (Gq k) n (e,m)=some (B0 e m)
 |0,e,m,_,h,_=>by have:=Hu e;omega
 |n+1,e,m,hb,h,hk=>by
  obtain⟨hb4,hb5⟩:=Are hb;rw[Ld] at h hk;have hl:=Hm e.l;have hrf:∀x,x∈e.l->∀m,Aj (Gq k) n (x,m)=some (B0 x m):=λx hx m=>Agu k n x m (hb5 x hx) (by have:=C6 hx;omega) (by have:=C6 hx;omega);have hloop:=Aeu (R:=Bool) (rf:=Aj (Gq k) n) (l:=e.l) (m:=m) (a:=some false) (b:=some true) (kx:=λe v=>match v with
   |(_,v5,_,_,_)=>match e with
    |.ret=>some (!(decide (0<=v5)))
    |.exit 0=>some true
    |_=>none) hb4 (λx hx=>hrf x hx _) (λj=>by simp) (λ_ _=>rfl) k 0 0 (Nat.zero_le _) (by omega)
  have e0:((0:Nat):Int)=0:=rfl;rw[e0] at hloop;rw[Ay,Ao4];simp only[Gq] at hloop ⊢;rw[hloop];simp only[Zq1,eok];by_cases hm:m=0
  ·simp[hm]
  ·rw[Zd1 hm];simp only[Ag,Zs1,Bool.true_and];by_cases hp:(e.l.length:Int)=parts e.kind
   ·rw[Ze1 hp];by_cases h1:e.kind=1
    ·have h2:¬e.kind=2:=by omega
     rw[Ze1 h1,Zd1 h2];simp only[Af,Ag,Zs1,Zt1,Bool.true_and];cases decide (Eg e.v=0)<;>cases decide (e.v.kind=3)<;>cases decide (e.v.n<0)<;>cases decide (e.name=[])<;>cases erights e.l (wr .i64 (m-1))<;>rfl
    ·rw[Zd1 h1];simp only[Ag,Zt1,Bool.true_and];cases decide (e.v=Val.mk 0 0 [])<;>cases decide (e.kind=2)<;>cases decide (e.name=[])<;>cases Dr e.name<;>cases erights e.l (wr .i64 (m-1))<;>rfl
   ·rw[Zd1 hp];rfl
theorem R5:FO 133 [.sv .expr,.int .i64] [.bool] Ql:=by refine .fin (ι:=Nat) 0 (F:=λn=>Aj (Gq n) n) (λn=>FnOk.rec' (Sx.enters_of Tryz.func133 rfl rfl) (λrf hrf=>A4l n rf hrf) n) λ(e,m) r hb hx=>⟨Bf e,?_⟩;exact(Agu (Bf e) (Bf e) e m hb.1 (Zn1 _) (Zn1 _)).trans hx
def Blg(R:Type):Px R:=pxO [(133,cA Ql)] [] [] []
def V5(x:HV [.sv .expr]):Option (HV [.int .i64]):=match x with
 |e =>
 cond (!(B0 e 30)) (
  some 2) (
  some 0)
theorem Bak:FO 89 [.sv .expr] [.int .i64] (V5):=fR (px:=Blg _) (n:=0) Tryz.func89 rfl (λ_ H=>⟨lv H (c1 H R5 Ae) Aa Ab,Ai⟩) λ_=>by kernel_rfl
def Il(e:Xpr):Int :=
 cond (!(B0 e 30)) (
  2) (
  0)
theorem Bal(x:HV [.sv .expr]):V5 x=some (Il x):=by
 first
  |exact rfl
  |simp only[V5,Il,Az]
def Ar5:FT [.sv .expr] [.int .i64]:=λx=>some (Il x)
theorem Aw2:FO 89 [.sv .expr] [.int .i64] Ar5 :=.fin0 Bak λx _ _ hx=>(Bal x).trans hx
def Ajx:Sig:=⟨41,[(1,.int .i64),(5,.int .i64),(6,.int .i64)],[(2,.ptr 0 0)],[(0,.one (.sv .expr))],1,0,0,[],[]⟩
abbrev T8:=Int×Int×Int×Xpr
def S1{R:Type}(rf:FT [.sv .expr,.int .i64] [.int .i64])(rec:T8->Option R)(kx:Ex->T8->Option R)(v:T8):Option R:=match v with
 |(v,v1,v2,w) =>
 cond (decide (v2<(w.l.length:Int))) (
  cond (decide (v1<v)) (
  chk (inb v2 w.l.length) (
   (rf ((at' .expr w.l v2),(wr .i64 (v-v1)))).bind λx =>
   rec (v,(wr .i64 (v1+x)),(wr .i64 (v2+1)),w))) (
  kx (.exit 0) (v,v1,v2,w))) (
  kx (.exit 0) (v,v1,v2,w))
def A07(R:Type)(k:Nat)(rf:FT [.sv .expr,.int .i64] [.int .i64]):Px R:=pxO [(85,cA rf)] [] [(3,Am k Ajx (S1 rf))] []
def Jg(k:Nat)(rf:FT [.sv .expr,.int .i64] [.int .i64])(x:HV [.sv .expr,.int .i64]):Option (HV [.int .i64]):=match x with
 |(e,most) =>
 Aj (λrec=>S1 rf rec (λe vz=>match vz with|(_,v4,_,_)=>match e with
  |.exit 0 =>
  some v4
  |_=>none)) k (most,(wr .i64 (1+(wr .i64 (Int.tdiv (wr .i64 ((e.v.s.length:Int)+(e.name.length:Int))) 30)))),0,e)
theorem A96(k:Nat)(rf:FT [.sv .expr,.int .i64] [.int .i64])(hrf:FO 85 [.sv .expr,.int .i64] [.int .i64] rf):FO 85 [.sv .expr,.int .i64] [.int .i64] (Jg k rf):=fR (px:=A07 _ k rf) (n:=1) Tryz.func85 rfl (λcx H=>by have h0:Lv cx (A07 (HV [.int .i64]) k rf):=lv H (c1 H hrf Ae) Aa Ab;have hlmuch1_0:=lO H h0 (b:=lp Tryz.f85 0) (k:=k) (n:=0) (s:=Ajx) (step:=S1 rf) (λ_ _ _ (_,_,_,_)=>by kernel_rfl) Ai;exact⟨h0,(A6 Ai hlmuch1_0)⟩) λ(_,_)=>by kernel_rfl
mutual
def Io:Xpr->Int->Int
 |.mk _ v nm l,most=>muchL l most (wr .i64 (1+wr .i64 (Int.tdiv (wr .i64 ((v.s.length:Int)+(nm.length:Int))) 30)))
def muchL:List Xpr->Int->Int->Int
 |[],_,n=>n
 |x::l,most,n=>cond (decide (n<most)) (muchL l most (wr .i64 (n+Io x (wr .i64 (most-n))))) n
end
def Atq:FT [.sv .expr,.int .i64] [.int .i64]:=λx=>some (Io x.1 x.2)
theorem Ahd{R:Type}{rf:FT [.sv .expr,.int .i64] [.int .i64]}{kx:Ex->T8->Option R}{e:Xpr}{most:Int}{g:Int->Option R}(hn:ln e.l.length)(hrf:∀x,x∈e.l->∀m,rf (x,m)=some (Io x m))(h2:∀n j,kx (.exit 0) (most,n,j,e)=g n):∀(k i:Nat) n,i<=e.l.length->e.l.length-i<k->Aj (λrec=>S1 rf rec kx) k (most,n,(i:Int),e)=g (muchL (e.l.drop i) most n)
 |0,i,n,_,h=>by omega
 |k+1,i,n,hi,h=>by
  rw[Ay];by_cases hl:i<e.l.length
  ·simp only[S1,An hl hn,(λn=>Ahd hn hrf h2 k (i+1) n (by omega) (by omega)),h2,Ak hl,Al (c :=.expr) hl,As hl,Bool.cond_decide,muchL,hrf _ (List.getElem_mem hl)];rw[if_pos (by omega)];split<;>rfl
  ·simp[S1,h2,Bool.cond_decide];rw[if_neg (by omega),Zk1 (by omega)];rfl
theorem Aoy(k:Nat):∀(n:Nat) (e:Xpr) (m:Int),BdExpr e->Bf e<=n->Bf e<=k->Aj (Jg k) n (e,m)=some (Io e m)
 |0,e,m,_,h,_=>by have:=Hu e;omega
 |n+1,.mk kd v nm l,m,hb,h,hk=>by
  obtain⟨_,_,_,_,hb1,hb2,hb3,hb4,hb5⟩:=hb;simp[Bf] at h hk;have hl:=Hm l;have hrf:∀x,x∈l->∀m,Aj (Jg k) n (x,m)=some (Io x m):=λx hx m=>Aoy k n x m (hb5 x hx) (by have:=C6 hx;omega) (by have:=C6 hx;omega);rw[Ay];simp[Jg];refine(Ahd (e :=.mk kd v nm l) (g:=some) hb4 hrf ?_ k 0 _ (Nat.zero_le _) (by simp[Xpr.l];omega)).trans ?_
  ·exactλ_ _=>rfl
  ·simp[Io,Xpr.l,Xpr.v,Xpr.name]
theorem Au7:FO 85 [.sv .expr,.int .i64] [.int .i64] Atq:=by refine .fin (ι:=Nat) 0 (F:=λn=>Aj (Jg n) n) (λn=>FnOk.rec' (Sx.enters_of Tryz.func85 rfl rfl) (λrf hrf=>A96 n rf hrf) n) λ(e,m) r hb hx=>⟨Bf e,?_⟩;exact(Aoy (Bf e) (Bf e) e m hb.1 (Zn1 _) (Zn1 _)).trans hx
def Biv(R:Type):Px R:=pxO [] [] [] []
def W8(x:HV [.int .i64,.int .i64]):Option (HV [.bool]):=match x with
 |(k,want) =>
 cond (decide (k=want)) (
  some true) (
  some (decide (k=1)))
theorem Bax:FO 135 [.int .i64,.int .i64] [.bool] (W8):=fR (px:=Biv _) (n:=0) Tryz.func135 rfl (λ_ H=>⟨lv H Ae Aa Ab,Ai⟩) λ(_,_)=>by kernel_rfl
def Jv(k:Int)(want:Int):Bool :=
 cond (decide (k=want)) (
  true) (
  (decide (k=1)))
theorem Bb6(x:HV [.int .i64,.int .i64]):W8 x=some (Jv x.1 x.2):=by
 first
  |exact rfl
  |simp only[W8,Jv,Az]
def A57:FT [.int .i64,.int .i64] [.bool]:=λx=>some (Jv x.1 x.2)
theorem Bku:FO 135 [.int .i64,.int .i64] [.bool] A57 :=.fin0 Bax λx _ _ hx=>(Bb6 x).trans hx
def Bjj(R:Type):Px R:=pxO [] [] [] []
def Vm(x:HV [.bool]):Option (HV [.sv .val]):=match x with
 |b =>
 cond (b) (
  some (Val.mk 2 1 [])) (
  some (Val.mk 2 0 []))
theorem Bde:FO 136 [.bool] [.sv .val] (Vm):=fR (px:=Bjj _) (n:=0) Tryz.func136 rfl (λ_ H=>⟨lv H Ae Aa Ab,Ai⟩) λ_=>by kernel_rfl
def Fv(b:Bool):Val :=
 cond (b) (
  (Val.mk 2 1 [])) (
  (Val.mk 2 0 []))
theorem Bao(x:HV [.bool]):Vm x=some (Fv x):=by
 first
  |exact rfl
  |simp only[Vm,Fv,Az]
def Atg:FT [.bool] [.sv .val]:=λx=>some (Fv x)
theorem Aya:FO 136 [.bool] [.sv .val] Atg :=.fin0 Bde λx _ _ hx=>(Bao x).trans hx
def Bd5(R:Type):Px R:=pxO [] [] [] []
def P2(x:HV [.int .i64,.int .i64]):Option (HV [.bool]):=match x with
 |(kind,n) =>
 cond (decide (kind=6)) (
  some (decide (n=0))) (
  cond (decide (kind=7)) (
  some (!decide (n=0))) (
  cond (decide (kind=8)) (
   some (decide (n<0))) (
   cond (decide (kind=9)) (
   some (decide (n<=0))) (
   cond (decide (kind=10)) (
    some (decide (0<n))) (
    some (decide (0<=n)))))))
theorem A3n:FO 139 [.int .i64,.int .i64] [.bool] (P2):=fR (px:=Bd5 _) (n:=0) Tryz.func139 rfl (λ_ H=>⟨lv H Ae Aa Ab,Ai⟩) λ(_,_)=>by kernel_rfl
def Al0(kind:Int)(n:Int):Bool :=
 cond (decide (kind=6)) (
  (decide (n=0))) (
  cond (decide (kind=7)) (
  (!decide (n=0))) (
  cond (decide (kind=8)) (
   (decide (n<0))) (
   cond (decide (kind=9)) (
   (decide (n<=0))) (
   cond (decide (kind=10)) (
    (decide (0<n))) (
    (decide (0<=n)))))))
theorem A4b(x:HV [.int .i64,.int .i64]):P2 x=some (Al0 x.1 x.2):=by
 first
  |exact rfl
  |simp only[P2,Al0,Az]
def Ay1:FT [.int .i64,.int .i64] [.bool]:=λx=>some (Al0 x.1 x.2)
theorem A90:FO 139 [.int .i64,.int .i64] [.bool] Ay1 :=.fin0 A3n λx _ _ hx=>(A4b x).trans hx
def Bq7(R:Type):Px R:=pxO [(190,cA Bfh),(191,cA Bj8),(192,cA Bge)] [] [] []
def Adq(x:HV [.int .i64,.int .i64,.int .i64]):Option (HV [.sv .val,.int .i64]):=match x with
 |(kind,a,b) =>
 cond (decide (kind=12)) (
  cond (!decide ((Afs a b).2=0)) (
  some ((Val.mk 0 0 []),(Afs a b).2)) (
  some ((Val.mk 3 ((Afs a b).1) []),0))) (
  cond (decide (kind=13)) (
  cond (!decide ((Pg a b).2=0)) (
   some ((Val.mk 0 0 []),(Pg a b).2)) (
   some ((Val.mk 3 ((Pg a b).1) []),0))) (
  cond (decide (kind=14)) (
   cond (!decide ((Afo a b).2=0)) (
   some ((Val.mk 0 0 []),(Afo a b).2)) (
   some ((Val.mk 3 ((Afo a b).1) []),0))) (
   cond (!decide ((Pg 0 a).2=0)) (
   some ((Val.mk 0 0 []),(Pg 0 a).2)) (
   some ((Val.mk 3 ((Pg 0 a).1) []),0)))))
theorem Bin:FO 138 [.int .i64,.int .i64,.int .i64] [.sv .val,.int .i64] (Adq):=fR (px:=Bq7 _) (n:=0) Tryz.func138 rfl (λ_ H=>⟨lv H (c1 H Bqo (c1 H Boc (c1 H Brr Ae))) Aa Ab,Ai⟩) λ(_,_,_)=>by kernel_rfl
def U1(kind:Int)(a:Int)(b:Int):Val×Int :=
 cond (decide (kind=12)) (
  cond (!decide ((Afs a b).2=0)) (
  ((Val.mk 0 0 []),(Afs a b).2)) (
  ((Val.mk 3 ((Afs a b).1) []),0))) (
  cond (decide (kind=13)) (
  cond (!decide ((Pg a b).2=0)) (
   ((Val.mk 0 0 []),(Pg a b).2)) (
   ((Val.mk 3 ((Pg a b).1) []),0))) (
  cond (decide (kind=14)) (
   cond (!decide ((Afo a b).2=0)) (
   ((Val.mk 0 0 []),(Afo a b).2)) (
   ((Val.mk 3 ((Afo a b).1) []),0))) (
   cond (!decide ((Pg 0 a).2=0)) (
   ((Val.mk 0 0 []),(Pg 0 a).2)) (
   ((Val.mk 3 ((Pg 0 a).1) []),0)))))
theorem Bhb(x:HV [.int .i64,.int .i64,.int .i64]):Adq x=some (U1 x.1 x.2.1 x.2.2):=by
 first
  |exact rfl
  |simp only[Adq,U1,Az]
def Blj:FT [.int .i64,.int .i64,.int .i64] [.sv .val,.int .i64]:=λx=>some (U1 x.1 x.2.1 x.2.2)
theorem Boh:FO 138 [.int .i64,.int .i64,.int .i64] [.sv .val,.int .i64] Blj :=.fin0 Bin λx _ _ hx=>(Bhb x).trans hx
def Arb:Sig:=⟨20,[(1,.str),(4,.int .i64),(7,.sl .col false),(8,.int .i64),(9,.int .i64)],[],[],0,0,0,[],[]⟩
abbrev Aan:=Str×Int×List Col×Int×Int
def Ace{R:Type}(rec:Aan->Option R)(kx:Ex->Aan->Option R)(v:Aan):Option R:=match v with
 |(v,v1,v2,v3,v4) =>
 cond (decide (v4<v3)) (
  chk (inb v4 v2.length) (
  cond (decide (((at' .col v2 v4).name)=v)) (
   kx .ret (v,v4,v2,v3,v4)) (
   rec (v,v1,v2,v3,(wr .i64 (v4+1)))))) (
  kx (.exit 0) (v,v1,v2,v3,v4))
def A6f(R:Type)(k:Nat):Px R:=pxO [] [] [(2,Am k Arb (Ace))] []
def Aot(k:Nat)(x:HV [.sl .col false,.str]):Option (HV [.int .i64]):=match x with
 |(cols,name) =>
 Aj (λrec=>Ace rec (λe vz=>match vz with|(_,v6,_,_,_)=>match e with
  |.ret =>
  some v6
  |.exit 0 =>
  some (-1)
  |_=>none)) k (name,0,cols,(cols.length:Int),0)
theorem Bgx(k:Nat):FO 134 [.sl .col false,.str] [.int .i64] (Aot k):=fR (px:=A6f _ k) (n:=1) Tryz.func134 rfl (λcx H=>by have h0:Lv cx (A6f (HV [.int .i64]) k):=lv H Ae Aa Ab;have hlfind_0:=lO H h0 (b:=lp Tryz.f134 0) (k:=k) (n:=0) (s:=Arb) (step:=Ace) (λ_ _ _ (_,_,_,_,_)=>by kernel_rfl) Ai;exact⟨h0,(A6 Ai hlfind_0)⟩) λ(_,_)=>by kernel_rfl
def Ds:List Col->Str->Nat->Int
 |[],_,_ => -1
 |c::l,s,i=>if c.name=s then(i:Int) else Ds l s (i+1)
def C7(cols:List Col)(name:Str):Int:=Ds cols name 0
def A21:FT [.sl .col false,.str] [.int .i64]:=λx=>some (C7 x.1 x.2)
theorem Aoc{R:Type}{kx:Ex->Aan->Option R}{s:Str}{cols:List Col}{g:Int->Option R}(hn:ln cols.length)(h1:∀j,kx .ret (s,j,cols,(cols.length:Int),j)=g j)(h2:∀q j,kx (.exit 0) (s,q,cols,(cols.length:Int),j)=g (-1)):∀(k i:Nat) q,i<=cols.length->cols.length-i<k->Aj (λrec=>Ace rec kx) k (s,q,cols,(cols.length:Int),(i:Int))=g (Ds (cols.drop i) s i)
 |0,i,q,_,h=>by omega
 |k+1,i,q,hi,h=>by
  rw[Ay];by_cases hl:i<cols.length
  ·simp only[Ace,An hl hn,(Aoc hn h1 h2 k (i+1) q (by omega) (by omega)),h1,Ak hl,Al (c :=.col) hl,As hl,Bool.cond_decide,Ds];rw[if_pos (by omega)];split<;>rfl
  ·simp[Ace,h2,Bool.cond_decide];rw[if_neg (by omega),Zk1 (by omega)];rfl
theorem A8i:FO 134 [.sl .col false,.str] [.int .i64] A21 :=.fin 0 Bgx λ(cols,s) r hb hx=>⟨cols.length+1,by
 simp only[Aot];refine(Aoc (g:=some) hb.1.1 ?_ ?_ (cols.length+1) 0 0 (Nat.zero_le _) (by omega)).trans hx
 ·exactλ_=>rfl
 ·exactλ_ _=>rfl⟩
def Aam:Sig:=⟨28,[(1,.sl .val false),(4,.bool),(12,.sl .col false),(13,.int .i64),(14,.int .i64)],[],[],0,0,0,[],[]⟩
abbrev Kn:=List Val×Bool×List Col×Int×Int
def Ja{R:Type}(rec:Kn->Option R)(kx:Ex->Kn->Option R)(v:Kn):Option R:=match v with
 |(v,v1,v2,v3,v4) =>
 cond (decide (v4<v3)) (
  chk (inb v4 v2.length) (
  chk (inb v4 v.length) (
   cond (!(Aaj (at' .val v v4) ((at' .col v2 v4).kind))) (
   kx .ret (v,false,v2,v3,v4)) (
   rec (v,v1,v2,v3,(wr .i64 (v4+1))))))) (
  kx (.exit 0) (v,v1,v2,v3,v4))
def Alz(R:Type)(k:Nat):Px R:=pxO [(87,cA A56)] [] [(4,Am k Aam (Ja))] []
def Yu(k:Nat)(x:HV [.sl .col false,.sl .val false]):Option (HV [.bool]):=match x with
 |(cols,row) =>
 cond (!decide ((cols.length:Int)=(row.length:Int))) (
  some false) (
  Aj (λrec=>Ja rec (λe vz=>match vz with|(_,v6,_,_,_)=>match e with
  |.ret =>some v6
  |.exit 0 =>some true
  |_=>none)) k (row,false,cols,(cols.length:Int),0))
theorem Av1(k:Nat):FO 53 [.sl .col false,.sl .val false] [.bool] (Yu k):=fR (px:=Alz _ k) (n:=1) Tryz.func53 rfl (λcx H=>by have h0:Lv cx (Alz (HV [.bool]) k):=lv H (c1 H Blm Ae) Aa Ab;have hlrowfits_0:=lO H h0 (b:=lp Tryz.f53 0) (k:=k) (n:=0) (s:=Aam) (step:=Ja) (λ_ _ _ (_,_,_,_,_)=>by kernel_rfl) Ai;exact⟨h0,(A6 Ai hlrowfits_0)⟩) λ(_,_)=>by kernel_rfl
def Hd:List Col->List Val->Bool
 |[],[]=>true
 |c::cs,v::vs=>Aaj v c.kind&&Hd cs vs
 |_,_=>false
def Fu(cols:List Col)(row:List Val):Bool:=Hd cols row
def Tb:FT [.sl .col false,.sl .val false] [.bool]:=λx=>some (Fu x.1 x.2)
theorem J1:∀{cols:List Col}{row:List Val},Hd cols row=true->cols.length=row.length
 |[],[],_=>rfl
 |_::cs,_::vs,h=>by simp[Hd] at h;simp[J1 h.2]
 |[],_::_,h=>by simp[Hd] at h
 |_::_,[],h=>by simp[Hd] at h
theorem Aaz{R:Type}{kx:Ex->Kn->Option R}{row:List Val}{cols:List Col}{a b:Option R}(hn:ln cols.length)(he:cols.length=row.length)(h1:∀j,kx .ret (row,false,cols,(cols.length:Int),j)=a)(h2:∀q j,kx (.exit 0) (row,q,cols,(cols.length:Int),j)=b):∀(k i:Nat) q,i<=cols.length->cols.length-i<k->Aj (λrec=>Ja rec kx) k (row,q,cols,(cols.length:Int),(i:Int))=cond (Hd (cols.drop i) (row.drop i)) b a
 |0,i,q,_,h=>by omega
 |k+1,i,q,hi,h=>by
  rw[Ay];by_cases hl:i<cols.length
  ·have hl2:i<row.length:=by omega
   simp only[Ja,An hl hn,(Aaz hn he h1 h2 k (i+1) q (by omega) (by omega)),h1,Ak hl,Ak hl2,Al (c :=.col) hl,Al (c :=.val) hl2,As hl,As hl2,Bool.cond_decide,Hd];rw[if_pos (by omega)];cases Aaj row[i] cols[i].kind<;>rfl
  ·simp[Ja,h2,Bool.cond_decide];rw[if_neg (by omega),Zk1 (by omega),Zk1 (by omega)];rfl
theorem Aj9:FO 53 [.sl .col false,.sl .val false] [.bool] Tb :=.fin 0 Av1 λ(cols,row) r hb hx=>⟨cols.length+1,by
 simp only[Tb,Za1,Fu] at hx;simp only[Yu];by_cases he:cols.length=row.length
 ·rw[Ze1 (by omega)];simp only[Zt1,Ag];refine(Aaz (a:=some false) (b:=some true) hb.1.1 he ?_ ?_ (cols.length+1) 0 false (Nat.zero_le _) (by omega)).trans ?_
  ·exactλ_=>rfl
  ·exactλ_ _=>rfl
  ·rw[<-hx];simp only[Zq1];cases Hd cols row<;>rfl
 ·rw[Zd1 (by omega)];have:Hd cols row=false:=by cases hf:Hd cols row with|false=>rfl|true=>exact absurd (J1 hf) he
  rw[<-hx,this];rfl⟩
def Aje:Sig:=⟨34,[(0,.int .i64),(6,.bool),(12,.sl .val false),(13,.int .i64),(14,.int .i64)],[(4,.ptr 0 0),(5,.ptr 1 0)],[(0,.one (.sv .val)),(1,.one (.sv .val))],2,0,0,[],[]⟩
abbrev Rj:=Int×Bool×List Val×Int×Int×Val×Val
def Sj{R:Type}(rec:Rj->Option R)(kx:Ex->Rj->Option R)(v:Rj):Option R:=match v with
 |(v,v1,v2,v3,v4,w,w1) =>
 cond (decide (v4<v3)) (
  chk (inb v4 v2.length) (
  cond (decide ((at' .val v2 v4)=w1)) (
   kx .ret (v,v1,v2,v3,v4,w1,w1)) (
   cond (v1) (
   rec (v,true,v2,v3,(wr .i64 (v4+1)),w,w1)) (
   rec (v,decide ((at' .val v2 v4).kind=1),v2,v3,(wr .i64 (v4+1)),w,w1))))) (
  kx (.exit 0) (v,v1,v2,v3,v4,w,w1))
def Azg(R:Type)(k:Nat):Px R:=pxO [(136,cA Atg)] [] [(4,Am k Aje (Sj))] []
def Akp(k:Nat)(x:HV [.int .i64,.sl .val false]):Option (HV [.sv .val]):=match x with
 |(kind,l) =>
 Aj (λrec=>Sj rec (λe vz=>match vz with|(v5,v6,_,_,_,a,_)=>match e with
  |.ret =>
  some a
  |.exit 0 =>
  cond (v6) (
   some (Val.mk 1 0 [])) (
   some (Fv (!decide (v5=5))))
  |_=>none)) k (kind,false,l,(l.length:Int),0,(Val.mk 0 0 []),(Fv (decide (kind=5))))
theorem Bc4(k:Nat):FO 137 [.int .i64,.sl .val false] [.sv .val] (Akp k):=fR (px:=Azg _ k) (n:=1) Tryz.func137 rfl (λcx H=>by have h0:Lv cx (Azg (HV [.sv .val]) k):=lv H (c1 H Aya Ae) Aa Ab;have hllogic_0:=lO H h0 (b:=lp Tryz.f137 0) (k:=k) (n:=0) (s:=Aje) (step:=Sj) (λ_ _ _ (_,_,_,_,_,_,_)=>by kernel_rfl) Ai;exact⟨h0,(A6 Ai hllogic_0)⟩) λ(_,_)=>by kernel_rfl
def Ij(v:Val):Bool:=decide (v.kind=1)
def Ae2(kind:Int)(l:List Val):Val:=cond (l.any λv=>decide (v=Fv (decide (kind=5)))) (Fv (decide (kind=5))) (cond (l.any Ij) ⟨1,0,[]⟩ (Fv (!decide (kind=5))))
def Asw:FT [.int .i64,.sl .val false] [.sv .val]:=λx=>some (Ae2 x.1 x.2)
theorem Aj0{R:Type}{kx:Ex->Rj->Option R}{kd:Int}{l:List Val}{e:Val}{a:Option R}{b:Bool->Option R}(hn:ln l.length)(h1:∀q j,kx .ret (kd,q,l,(l.length:Int),j,e,e)=a)(h2:∀q j z,kx (.exit 0) (kd,q,l,(l.length:Int),j,z,e)=b q):∀(k i:Nat) (u:Bool) z,i<=l.length->l.length-i<k->Aj (λrec=>Sj rec kx) k (kd,u,l,(l.length:Int),(i:Int),z,e)=cond ((l.drop i).any λv=>decide (v=e)) a (b (u||(l.drop i).any Ij))
 |0,i,u,z,_,h=>by omega
 |k+1,i,u,z,hi,h=>by
  rw[Ay];by_cases hl:i<l.length
  ·simp only[Sj,An hl hn,(λu=>Aj0 hn h1 h2 k (i+1) u z (by omega) (by omega)),Ak hl,Al (c :=.val) hl,As hl,chk,Bool.cond_decide,List.any_cons];rw[if_pos (by omega)];by_cases he:l[i]=e
   ·grind
   ·rw[if_neg he,Zd1 he];cases u<;>simp[Ij]
  ·simp[Sj,h2,Bool.cond_decide];rw[if_neg (by omega),Zk1 (by omega)];simp
theorem Bgg:FO 137 [.int .i64,.sl .val false] [.sv .val] Asw :=.fin 0 Bc4 λ(kd,l) r hb hx=>⟨l.length+1,by
 simp only[Asw,Za1,Ae2] at hx;simp only[Akp];refine(Aj0 (a:=some (Fv (decide (kd=5)))) (b:=λq=>cond q (some ⟨1,0,[]⟩) (some (Fv (!decide (kd=5))))) hb.2.1 ?_ ?_ (l.length+1) 0 false _ (Nat.zero_le _) (by omega)).trans ?_
 ·exactλ_ _=>rfl
 ·exactλ_ _ _=>rfl
 rw[<-hx];simp only[Zq1,Bool.false_or];cases (l.any λv=>decide (v=Fv (decide (kd=5))))<;>cases l.any Ij<;>rfl⟩
end Go.Proofs.YtcoaaebppfbbnaaGreatDoor
