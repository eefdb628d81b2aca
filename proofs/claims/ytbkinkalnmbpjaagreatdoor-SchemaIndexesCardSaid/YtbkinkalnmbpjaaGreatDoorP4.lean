/- Texts of the proof,one behind the other: AxRn,AxIn,SxL,SxM,Pf,Lo,Tw,Si,Sk,Pa,Lc,Na,Lm,Ar,Shp,Sr,Dg,Nc,Eb. -/
import Derived.Test.YtbkinkalnmbpjaaGreatDoorP3
import Derived.KernelRfl
import Derived.Laws.Cover3
import Derived.Lib.Overlaps
import Derived.Lib.AppendZerosOnto
import Derived.Test.YtbkinkalnmbpjaaGreatDoorProg
import Derived.Lib.Bytealg
import Derived.Shelf.Strings.Replace
set_option linter.all false
namespace Go.Ax
structure Hx (P:Program) (el:Ck->TypeId) (gl:Nat->Option Gv) (tt:Nat->Ty) (cx:Cx):Prop where
 p:cx.P=P
 e:cx.el=el
 g:cx.gl=gl
 t:∀t,Cq P el tt t=true
 m:P.follows .mixedOrders=true
structure Lv {R:Type}(cx:Cx) (px:Px R):Prop where
 p:PxOk cx px
 c:D3 cx px
 q:CallQOk cx px
section
variable {R:Type}{P:Program}{el:Ck->TypeId}{gl:Nat->Option Gv}{tt:Nat->Ty}{cx:Cx}
theorem lv{px:Px R}{l:List (Nat×J8 R)}{lq:List (Nat×I4 R)}{lw:List (Nat×Vo R)}(H:Hx P el gl tt cx)(h:∀g f,(g,f)∈l->Jj cx g f)(hq:∀g f,(g,f)∈lq->Yp cx g f)(hw:∀g f,(g,f)∈lw->Hm cx g f)(h1:px.tt=tt:=by rfl)(h2:px.gl=gl:=by rfl)(h3:px.call=A2b l:=by rfl)(h4:px.callQ=Ap0 lq:=by rfl)(h5:px.callW=tbl lw:=by rfl):Lv cx px :=⟨⟨λt=>by rw[h1,H.p,H.e];exact H.t t,by rw[h2,H.g]⟩,Bbc h3 h,A3j h4 h5 hq hw⟩
theorem cO(H:Hx P el gl tt cx){g:Nat}{sa sr:List Sg}{F:HV sa->Option (HV sr)}(h:FnOk P el gl g sa sr F)(hsa:D8 (Bg 0 sa) []=true:=by kernel_rfl):Jj (R:=R) cx g (Aab sa sr F):=Bjf (by rw[H.p,H.e,H.g];exact h) hsa
theorem cL(H:Hx P el gl tt cx){g:Nat}{sg so:Sig}{F:FL sg so}(h:FnLn P el gl g sg so F)(hok:lnB sg so=true:=by kernel_rfl):Jj (R:=R) cx g (Am sg so F):=Bio (by rw[H.p,H.e,H.g];exact h) hok
theorem cR(H:Hx P el gl tt cx){nb nt:Nat}{pc:Px R}{g:Nat}{fn:Func}{c:Code}{n:Nat}(h:Lv cx pc)(hf:P.funcs[g]? = some fn)(hb:fn.body=some c)(hl:∀i,i<n->B9 cx pc (lp fn i))(hname:(fn.name == "runtime.NumGoroutine")=false:=by kernel_rfl)(hcode:Od fn=true:=by kernel_rfl)(hn:Kp fn=n:=by kernel_rfl):Jj cx g (Aw nb nt pc fn):=Bg3 h.p h.c h.q (by rw[H.p];exact H.m) (by rw[H.p];exact hf) hb hname hcode hn hl
theorem c1(H:Hx P el gl tt cx){g:Nat}{sa sr:List Sg}{F:HV sa->Option (HV sr)}{l:List (Nat×J8 R)}(h:FnOk P el gl g sa sr F)(hl:∀g f,(g,f)∈l->Jj cx g f)(hsa:D8 (Bg 0 sa) []=true:=by kernel_rfl):∀g' f',(g',f')∈(g,Aab sa sr F)::l->Jj cx g' f':=An (cO H h hsa) hl
theorem l1(H:Hx P el gl tt cx){g:Nat}{sg so:Sig}{F:FL sg so}{l:List (Nat×J8 R)}(h:FnLn P el gl g sg so F)(hl:∀g f,(g,f)∈l->Jj cx g f)(hok:lnB sg so=true:=by kernel_rfl):∀g' f',(g',f')∈(g,Am sg so F)::l->Jj cx g' f':=An (cL H h hok) hl
theorem q1(H:Hx P el gl tt cx){g:Nat}{sa sr:List Sg}{F:HV sa->Option (HV sr)}{l:List (Nat×I4 R)}(h:FnOk P el gl g sa sr F)(hl:∀g f,(g,f)∈l->Yp cx g f)(hsa:D8 (Bg 0 sa) []=true:=by kernel_rfl):∀g' f',(g',f')∈(g,Wm sa sr F)::l->Yp cx g' f':=A4l (Bh4 (by rw[H.p,H.e,H.g];exact h) hsa) hl
theorem w1(H:Hx P el gl tt cx){g:Nat}{sg so:Sig}{F:HV sg.sgs->Option (HV so.sgs)}{l:List (Nat×Vo R)}(h:FnLn P el gl g sg so F)(hl:∀g f,(g,f)∈l->Hm cx g f)(hok:lnB sg so=true:=by kernel_rfl):∀g' f',(g',f')∈(g,C1 sg so F)::l->Hm cx g' f':=Ako (Biv (by rw[H.p,H.e,H.g];exact h) hok) hl
theorem lO{px:Px R}(H:Hx P el gl tt cx)(h:Lv cx px){b:Code}{k n:Nat}{s:Sig}{step:Ajm (HV s.sgs) R}(hround:∀fr rec kx v,Qb px s b fr rec kx v=step rec kx v)(hin:∀i,i<n->B9 cx px (lpC b i))(hpx:∀st K,px.loop b st K=Ao k s step st K:=by exactλ_ _=>by kernel_rfl)(hs:U4 s=true:=by kernel_rfl)(hn:(Bj b).length=n:=by kernel_rfl):B9 cx px b:=Bev h.p h.c h.q (by rw[H.p];exact H.m) hpx hs hround (Iv hn hin)
theorem fO{f:FuncId}{fn:Func}{c:Code}{sa sr:List Sg}{px:Px (HV sr)}{F:FT sa sr}{n:Nat}(ht:∀t,Cq P el tt t=true)(hm:P.follows .mixedOrders=true)(hf:P.funcs[f]? = some fn)(hb:fn.body=some c)(hname:(fn.name == "runtime.NumGoroutine")=false)(hchk:(Od fn&&Nat.ble sa.length fn.ntmps&&D8 (Bg 0 sa) [])=true)(hn:Kp fn=n)
  (h:∀cx,Hx P el gl tt cx->Lv cx px/\∀i,i<n->B9 cx px (lp fn i)) (hF:∀x,Bdd px fn sa sr x some=F x):FnOk P el gl f sa sr F :=
 A9o hf hb hname hm hchk hn (λcx a b c=>by obtain⟨h1,h2⟩:=h cx ⟨a,b,c,ht,hm⟩;exact⟨h1.p,h1.c,h1.q,h2⟩) hF
theorem fL{f:FuncId}{fn:Func}{c:Code}{sg so:Sig}{px:Px (HV so.sgs)}{F:FL sg so}{n:Nat}(ht:∀t,Cq P el tt t=true)(hm:P.follows .mixedOrders=true)(hf:P.funcs[f]? = some fn)(hb:fn.body=some c)(hname:(fn.name == "runtime.NumGoroutine")=false)(hchk:(Od fn&&Nat.ble sg.n fn.ntmps)=true)(hn:Kp fn=n)
  (h:∀cx,Hx P el gl tt cx->Lv cx px/\∀i,i<n->B9 cx px (lp fn i)) (hF:∀x,At1 px fn sg so x some=F x):FnLn P el gl f sg so F :=
 Ba2 hf hb hname hm hchk hn (λcx a b c=>by obtain⟨h1,h2⟩:=h cx ⟨a,b,c,ht,hm⟩;exact⟨h1.p,h1.c,h1.q,h2⟩) hF
end
open Go.RowKit
structure ClOk (P:Program) (f:FuncId) (t:TypeId) (sz:Nat):Prop where
 enters:Sx.Enters P f
 con:∀(a:Option Addr) (n c:Nat) (xs:List Value),xs.all Sx.one=true->n<=1000000->Sx.Con P f [.slice a n c] [] (Sx.RdS (.slice a n c) sz n xs) (λv L _=>L=[.row v t sz n xs])
def Am4(P:Program)(f:FuncId):Prop:=∀(a:Option Addr) (c:Nat),Sx.Con P f [.slice a 0 c] [] (λ_=>True) (λv _ _=>∃a',v = .slice a' 0 0)
theorem Bhg{x:Vx}{c:Ck}{ys:List (El c)}{v:Value}(h:RF x.S x.w (.sl c ys .no) v):∃a cap vs,v = .slice a ys.length cap/\Bf x c ys vs/\∀w':World,(∀k,k<x.w.heap.size->w'.heap[k]? = x.w.heap[k]?)->Sx.RdS v (csz c) ys.length vs w':=by
 obtain⟨a,cap,vs,rfl,hrow,hcell⟩:=H5 h;refine⟨a,cap,vs,rfl,hrow,λw' hb=>⟨hrow.1,a,cap,rfl,?_⟩⟩;obtain⟨a',cap',he,hf⟩:=Dj h;simp only[Value.slice.injEq] at he;rcases hf with rfl|⟨b,o,e,hle,_⟩
 ·exact .inl rfl
 ·by_cases h0:ys=[]
  ·exact .inl (by rw[h0];rfl)
  ·refine .inr ⟨b,o,he.1.trans e,by rw[he.2.2];exact hle.1,λj u hj =>?_⟩;have hc:=hcell b o (he.1.trans e) h0 j u hj;rw[World.cell?_of_block (a:=⟨b,o+j,none⟩) (hb b (Q1 hc))];exact hc
theorem A0v{P:Program}{Pre:World->Prop}{w:World}(h:∀w':World,(∀k,k<w.heap.size->w'.heap[k]? = w.heap[k]?)->Pre w'):Sx.StOk ⟨P,0,w,Sx.fps [],[]⟩ [] Pre w :=⟨Sx.Chg.refl _ _,by simp,by simp[Sx.fps],by simp[Sx.fps],by simp,λw' hc=>h w' λk hk=>hc.block k hk (by simp[Sx.fps])⟩
theorem Adv{w w':World}(h:Sx.Chg [] w w'):Chg Dh w w' :=.of_blocks h.os h.tape h.output h.size λk hk=>h.block k hk (by simp)
theorem Oo{P:Program}{f:FuncId}{x:Vx}{c:Ck}{ys:List (El c)}{v:Value}(h:ClOk P f (x.el c) (csz c))(hrf:RF x.S x.w (.sl c ys .no) v)(hn:ys.length<=1000000) :
  ∃vs,Bf x c ys vs/\Calls P f #[v] x.w λen w'=>∃u,en = .returned u/\Chg Dh x.w w'/\((u = .slice none 0 0/\ys=[])\/∃g cap cur,u = .slice (some ⟨g,0,none⟩) ys.length cap/\(x.w.heap.size<=g/\g<w'.heap.size)/\w'.heap[g]? = some (.cells cur (x.el c) (0,0))/\cur.size=cap*csz c/\ys.length<=cap/\cap<=maxLen/\cur.toList.take (ys.length*csz c)=vs):=by
 obtain⟨a,cap,vs,rfl,hrow,hrd⟩:=Bhg hrf;refine⟨vs,hrow,((h.con a ys.length cap vs (Zf2.2 hrow.one) hn).run x.w [] (A0v hrd)).mono ?_⟩;rintro en w' ⟨u,L',F',rfl,rfl,hs⟩;refine⟨u,rfl,Adv (by simpa[Sx.fps] using hs.chg),?_⟩;have hok:w'.ownsRow 0 (x.el c) (csz c) u ys.length vs:=hs.ok (.row u (x.el c) (csz c) ys.length vs) (by simp);rcases hok.2 with ⟨rfl,h0⟩|⟨g,cap',cur,rfl,_,hh,hle,hm,hsz,htk⟩
 ·exact .inl ⟨rfl,List.eq_nil_of_length_eq_zero h0⟩
 ·refine .inr ⟨g,cap',cur,rfl,⟨?_,(Zg2.1 hh).1⟩,hh,hsz,hle,hm,htk⟩;rcases hs.own g (by simp[Sx.fps,Sx.Ent.fp]) with h1|h1
  ·cases h1
  ·exact h1
def Bh7(c:Ck):FT [.sl c false] [.sl c true]:=λ(ys:List (El c))=>cond (decide (ys.length<=1000000)) (some ys) none
theorem Aqo{P:Program}{el:Ck->TypeId}{gl:Nat->Option Gv}{f:FuncId}{c:Ck}(h:ClOk P f (el c) (csz c)):FnOk P el gl f [.sl c false] [.sl c true] (Bh7 c):=by
 refine⟨h.enters,λx r hx w M vs hM _ hr =>?_⟩;have hx:cond (decide (List.length (α:=El c) x<=1000000)) (some x) none=some r:=hx;cases hd:decide (List.length (α:=El c) x<=1000000) with
 |false=>rw[hd] at hx;cases hx
 |true =>
  rw[hd] at hx;simp only[cond_true,Za1] at hx;subst hx;simp only[Zg1] at hd;simp only[B3,Ce,Reps] at hr;obtain⟨v,_,rfl,hv,rfl⟩:=hr;simp only[Rep] at hv;obtain⟨us,hrow,hc⟩:=Oo (x:=v0 el M w) h hv.1 hd;refine hc.mono ?_;rintro en w' ⟨u,rfl,hch,hu⟩;rcases hu with ⟨rfl,h0⟩|⟨g,cap,cur,rfl,⟨hg1,hg2⟩,hh,hsz,hle,hm,htk⟩
  ·refine⟨_,⟨λ_=>0,λ_=>none⟩,rfl,hch,λp g o _ hg=>by simp at hg,λp q g o o' _ _ hg=>by simp at hg,?_⟩;have h0:x=([]:List (El c)):=h0;subst h0;simp only[Gj,B3,Ce,Rep];exact⟨λ_ _ =>.nil _ _ _ _,by simp[vr],λ_ =>.inl ⟨rfl,rfl,rfl⟩⟩
  ·let m:Mp:=⟨λ_=>0,λp=>if p=0 then some (g,List.length (α:=El c) x*csz c) else none⟩;have hmt:∀p b o,m.tk p=some (b,o)->p=0/\b=g/\o=List.length (α:=El c) x*csz c:=λp b o hp=>by
    simp only[m] at hp;split at hp
    ·rename_i hp0;simp only[Za1,Zp1] at hp;exact⟨hp0,hp.1.symm,hp.2.symm⟩
    ·cases hp
   refine⟨_,m,rfl,hch,λp b o _ hp =>?_,λp q b o o' _ _ hp hq=>by rw[(hmt p b o hp).1,(hmt q b o' hq).1],?_⟩
   ·obtain⟨_,rfl,_⟩:=hmt p b o hp;exact⟨hg1,hg2⟩
   ·simp only[Gj,B3,Ce,Rep];have hrow2:Bf (vr el M m [.sl c true] w') c x us:=⟨hrow.1,λi y j d hy hd=>by
     obtain⟨z,hz,hf⟩:=hrow.2 i y j d hy hd;refine⟨z,hz,RF.later hf (hch.mono λ_ _ h=>h.elim) λb i hi =>?_⟩;rcases hi with hi|⟨p,o,_,hp,_⟩
     ·exact .inl hi
     ·obtain⟨_,rfl,_⟩:=hmt p b o hp;exact .inr hg1⟩
    refine⟨Agc hrow2 ⟨hle,hm⟩ (λj z hj =>?_) (λi hi =>?_),by simp[vr],λ_ =>.inr ⟨g,cap,cur,rfl,by simp[vr,m],hh,hsz,hle,hm⟩⟩
    ·show w'.cell? _=_;simp only[World.cell?,hh];have:cur.toList[j]? = some z:=by
      rw[<-htk,List.getElem?_take] at hj;split at hj
      ·exact hj
      ·cases hj
     simpa using this
    ·rintro(hMi|⟨p,o,_,hp,ho⟩)
     ·have:=hM g i hMi;have hg1:w.heap.size<=g:=hg1;omega
     ·obtain⟨_,_,rfl⟩:=hmt p g o hp;omega
section
variable {R:Type}{cx:Cx}
def Zg(c:Ck)(args:List D)(st:St)(K:List D->St->Option R):Option R:=match args with
 |[.sl c' xs _]=>match decide (c' = c)&&decide (xs.length<=1000000) with|true=>cond (List.isEmpty xs) (K [.sl c' [] .z] st) (K [.osl st.nb c' 0 ((xs.length:Nat):Int)] (Gi st (.dyn c' xs)))|false=>none
 |_=>none
theorem Adx{x:Vx}{c:Ck}{ys:List (El c)}{vs:List Value}{g cap:Nat}{cur:Array Value}(hrow:Bf x c ys vs)(hh:x.w.heap[g]? = some (.cells cur (x.el c) (0,0)))(hsz:cur.size=cap*csz c)(hle:ys.length<=cap)(hm:cap<=maxLen)(htk:cur.toList.take (ys.length*csz c)=vs):Kn x g (.dyn c ys):=by
 refine⟨Nat.le_trans hle hm,cur.toList,x.el c,by rw[Array.toArray_toList];exact hh,(by have hq:=Nat.mul_le_mul_right (csz c) hle;rw[<-hsz] at hq;simpa using hq),λi y j d hy hd =>?_⟩;obtain⟨u,hu,hf⟩:=hrow.2 i y j d hy hd;refine⟨u,?_,hf⟩;rw[<-htk,List.getElem?_take] at hu;split at hu
 ·exact hu
 ·cases hu
theorem A3f{g:Nat}{c:Ck}(h:ClOk cx.P g (cx.el c) (csz c))(h0:Am4 cx.P g){args:List D}{st:St}{K:List D->St->Option R}{r:R}(hc:Zg c args st K=some r):Jz cx g args st K r:=by
 unfold Zg at hc;split at hc
 ·rename_i c' xs tk;split at hc
  ·rename_i hcc;simp only[Zb1,Zg1] at hcc;obtain⟨rfl,hn⟩:=hcc;refine⟨h.enters,λm a as_ w vs hr hargs =>?_⟩;simp only[Reps,Rep] at hargs;obtain⟨v,_,rfl,⟨hrf,_⟩,rfl⟩:=hargs;by_cases he:xs=[]
   ·subst he;obtain⟨ad,cap,rfl,_⟩:=hrf.here.slice;refine((h0 ad cap).run w [] (A0v λ_ _=>trivial)).mono ?_;rintro en w' ⟨u,L',F',rfl,⟨a',rfl⟩,hs⟩;have hch:Chg Dh w w':=Adv (by simpa[Sx.fps] using hs.chg);refine⟨_,rfl,_,st,m,hc,⟨rfl,rfl,rfl,rfl,rfl⟩,hr.quiet hch,?_⟩;simp only[Gj,Rep];exact⟨λ_ _ =>.nil _ _ _ _,rfl,a',rfl⟩
   ·have hie:List.isEmpty xs=false:=by cases xs with|nil=>exact absurd rfl he|cons _ _=>rfl
    rw[hie] at hc;obtain⟨us,hrow,hcl⟩:=Oo (x:=vx cx m (fs st) w) h hrf hn;refine hcl.mono ?_;rintro en w' ⟨u,rfl,hch,hu⟩;rcases hu with ⟨_,e⟩|⟨g2,cap,cur,rfl,⟨hg1,hg2⟩,hh,hsz,hle,hm,htk⟩
    ·exact absurd e he
    ·obtain⟨m',h1,h2⟩:=hr.newAt (k :=.dyn c' xs) (g:=g2) hch hg1 hg2 (λx' nx hw=>Adx (hrow.later nx) (by rw[hw,nx.el];exact hh) hsz hle hm htk);rw[<-A7v] at h1 h2;refine⟨_,rfl,_,_,m',hc,⟨rfl,rfl,rfl,rfl,rfl⟩,h1,?_⟩;simp only[Rep] at h2;simp only[Gj,Rep];obtain⟨k1,k2⟩:=h2;simp only[Value.pointer.injEq,Za1,Addr.mk.injEq,and_true] at k2;have hbl:(vx cx m' (fs (Gi st (.dyn c' xs))) w').m.bl st.nb=g2:=k2.symm;refine⟨k1,Int.le_refl _,Int.natCast_nonneg _,by have:=Nat.le_trans hle hm;omega,some ⟨g2,0,none⟩,cap,by simp,.inr (by rw[hbl];simp),by simpa using hle,hm,cur,(0,0),by rw[hbl];exact hh,by simpa using hsz⟩
  ·cases hc
 ·cases hc
def Adr(c:Ck)(args:List D)(st:St)(K:D->List Nat->St->Option R):Option R:=match args with
 |[.sl c' xs _]=>match decide (c' = c)&&decide (xs.length<=1000000) with
  |true=>cond (List.isEmpty xs) (K (.sl c' [] .z) [] st) (match blk st.bl st.nb with
   |none=>K (.osl st.nb c' 0 ((xs.length:Nat):Int)) [] (Gi st (.dyn c' xs))
   |some _=>none)
  |false=>none
 |_=>none
theorem A3b{st:St}(k:Blk)(h:blk st.bl st.nb=none):∀b,b∉([]:List Nat)->Ez (fs st) (fs (Gi st k)) b:=λb _=>by
 have e:∀q,(fs (Gi st k)).bl q=if q=st.nb then some k else(fs st).bl q:=λq=>A3 st.bl st.nb q k
 refine⟨λq hq =>?_,λq hq hlt =>?_⟩
 ·rw[e];by_cases hb:b=st.nb
  ·subst hb;have hq:blk st.bl st.nb=some q:=hq;rw[h] at hq;cases hq
  ·rw[if_neg hb];exact hq
 ·have hlt:b<st.nb:=hlt;rw[e,if_neg (by omega)] at hq;exact hq
theorem Awn{g:Nat}{c:Ck}(h:ClOk cx.P g (cx.el c) (csz c))(h0:Am4 cx.P g):Hm (R:=R) cx g (Adr c):=by
 intro args st K r hc;unfold Adr at hc;split at hc
 ·rename_i c' xs tk;split at hc
  ·rename_i hcc;simp only[Zb1,Zg1] at hcc;obtain⟨rfl,hn⟩:=hcc;by_cases he:xs=[]
   ·subst he;refine⟨_,[],st,hc,⟨rfl,rfl,rfl,rfl,rfl⟩,Zn1 _,λb _=>Ez.of_bl rfl b,h.enters,λs m a as_ w vs hW hr hargs =>?_⟩;simp only[Reps,Rep] at hargs;obtain⟨v,_,rfl,⟨hrf,_⟩,rfl⟩:=hargs;obtain⟨ad,cap,rfl,_⟩:=hrf.here.slice;refine((h0 ad cap).run w [] (A0v λ_ _=>trivial)).mono ?_;rintro en w' ⟨u,L',F',rfl,⟨a',rfl⟩,hs⟩;have hch:Chg Dh w w':=Adv (by simpa[Sx.fps] using hs.chg);rw[Q9 hW];refine⟨_,rfl,m,hr.quiet hch,?_⟩;simp only[Rep];exact⟨λ_ _ =>.nil _ _ _ _,rfl,a',rfl⟩
   ·have hie:List.isEmpty xs=false:=by cases xs with|nil=>exact absurd rfl he|cons _ _=>rfl
    rw[hie] at hc;cases hfr:blk st.bl st.nb with
    |some k=>rw[hfr] at hc;cases hc
    |none =>
    rw[hfr] at hc;refine⟨_,[],Gi st (.dyn c' xs),hc,⟨rfl,rfl,rfl,rfl,rfl⟩,Nat.le_succ _,A3b _ hfr,h.enters,λs m a as_ w vs hW hr hargs =>?_⟩;simp only[Reps,Rep] at hargs;obtain⟨v,_,rfl,⟨hrf,_⟩,rfl⟩:=hargs;obtain⟨us,hrow,hcl⟩:=Oo (x:=vx cx m s w) h hrf hn;refine hcl.mono ?_;rintro en w' ⟨u,rfl,hch,hu⟩;rcases hu with ⟨_,e⟩|⟨g2,cap,cur,rfl,⟨hg1,hg2⟩,hh,hsz,hle,hm,htk⟩
    ·exact absurd e he
    ·obtain⟨m',h1,h2⟩:=hr.newAt (k :=.dyn c' xs) (g:=g2) hch hg1 hg2 (λx' nx hw=>Adx (hrow.later nx) (by rw[hw,nx.el];exact hh) hsz hle hm htk);rw[Mx st _ s hW];refine⟨_,rfl,m',h1,?_⟩;simp only[Rep] at h2 ⊢;obtain⟨k1,k2⟩:=h2;simp only[Value.pointer.injEq,Za1,Addr.mk.injEq,and_true] at k2;have hnb:st.nb=s.nb:=hW.2.1.symm;rw[hnb];have hbl:(vx cx m' { s with bl:=λb=>if b=s.nb then some (.dyn c' xs) else s.bl b,nb:=s.nb+1 } w').m.bl s.nb=g2:=k2.symm;refine⟨k1,Int.le_refl _,Int.natCast_nonneg _,by have:=Nat.le_trans hle hm;omega,some ⟨g2,0,none⟩,cap,by simp,.inr (by rw[hbl];simp),by simpa using hle,hm,cur,(0,0),by rw[hbl];exact hh,by simpa using hsz⟩
  ·cases hc
 ·cases hc
theorem Apn{α:Type}(l:List α):cut l 0 (0+((l.length:Nat):Int))=l:=by simp[cut]
theorem A15{m:Mp}{a:Act}{as_:List Act}{st:St}{w:World}(hr:Rel cx m a as_ (fs st) w){b cap:Nat}{c:Ck}{xs:List (El c)}(hb:blk st.bl b=some (.dyn c xs)){cur:Array Value}(hh:w.heap[m.bl b]? = some (.cells cur (cx.el c) (0,0)))(hsz:cur.size=cap*csz c)(hle:xs.length<=cap)(hm:cap<=maxLen) :
  Rel cx m a as_ (fs { st with bl:=Bm st.bl b }) w/\Rep (vx cx m (fs { st with bl:=Bm st.bl b }) w) (.sl c xs .no) (.slice (some ⟨m.bl b,0,none⟩) xs.length cap):=by
 have hd:Rep (vx cx m (fs st) w) (.osl b c 0 ((xs.length:Nat):Int)) (.slice (some ⟨m.bl b,0,none⟩) xs.length cap):=by simp only[Rep];exact⟨(hr.blks b _ hb).1,Int.le_refl _,Int.natCast_nonneg _,by have:=Nat.le_trans hle hm;omega,some ⟨m.bl b,0,none⟩,cap,by simp,.inr (by simp[vx]),by simpa using hle,hm,cur,(0,0),hh,by simpa using hsz⟩
 have hf:A47 st.bl (.osl b c 0 ((xs.length:Nat):Int)) (λd bl=>some (d,bl))=some (.sl c xs .no,Bm st.bl b):=by simp only[A47,hb,decide_true];rw[Apn];refine(Ash ?_);simp
 obtain⟨d',bl',hk,hrel,_,hrep,_⟩:=Aov hr hd hf;simp only[Za1,Zp1] at hk;obtain⟨rfl,rfl⟩:=hk;exact⟨hrel,hrep⟩
theorem Asy{m:Mp}{a:Act}{as_:List Act}{st:St}{w w':World}(hr:Rel cx m a as_ (fs st) w){b cap:Nat}{c:Ck}{xs xs':List (El c)}{vs':List Value}(hb:blk st.bl b=some (.dyn c xs))(hch:Chg (λq _=>q=m.bl b) w w')(hh:w'.heap[m.bl b]? = some (.cells vs'.toArray (cx.el c) (0,0)))(hl:vs'.length=cap*csz c)(hrow:Bf (vx cx m (fs st) w) c xs' (vs'.take (xs'.length*csz c)))(hle:xs'.length<=cap)(hm:cap<=maxLen) :
  ∃m',Rel cx m' a as_ (fs { st with bl:=Bm st.bl b,nb:=st.nb+1 }) w'/\Rep (vx cx m' (fs { st with bl:=Bm st.bl b,nb:=st.nb+1 }) w') (.sl c xs' .no) (.slice (some ⟨m.bl b,0,none⟩) xs'.length cap):=by
 have hrel1:=hr.write (k :=.dyn c xs') (b:=b) hb hch (λx' nx hw=>Adx (hrow.later nx) (by rw[hw,nx.el];exact hh) (by simpa using hl) hle hm (by simp));have e1:fs { st with bl:=Hw st.bl b (.dyn c xs') }={ fs st with bl:=λq=>if q=b then some (.dyn c xs') else(fs st).bl q }:=by
  refine FS.eq rfl rfl rfl rfl rfl ?_ rfl rfl rfl;funext q;show blk (Hw st.bl b _) q=_;rw[Io];by_cases hq:q=b
  ·subst hq;simp[hb]
  ·simp[hq];rfl
 rw[<-e1] at hrel1;have hb1:blk (Hw st.bl b (.dyn c xs')) b=some (.dyn c xs'):=by rw[Io,if_pos rfl,hb];rfl
 obtain⟨h1,h2⟩:=A15 (st:={ st with bl:=Hw st.bl b (.dyn c xs') }) hrel1 hb1 hh (by simpa using hl) hle hm;have e2:fs { st with bl:=Bm (Hw st.bl b (.dyn c xs')) b }=fs { st with bl:=Bm st.bl b }:=by refine FS.eq rfl rfl rfl rfl rfl ?_ rfl rfl rfl;funext q;show blk (Bm (Hw st.bl b _) b) q=blk (Bm st.bl b) q;rw[Ds,Ds,Io];by_cases hq:q=b<;>simp[hq]
 have h1:Rel cx m a as_ (fs { st with bl:=Bm st.bl b }) w':=by rw[<-e2];exact h1
 have h3:=Rel.raise (st:={ st with bl:=Bm st.bl b }) (nb:=st.nb+1) (nt:=st.nt) (Nat.le_succ _) (Zn1 _) h1;refine⟨m,h3,?_⟩;simp only[Rep] at h2 ⊢;refine⟨?_,trivial⟩;have h4:=h2.1;have hS:(vx cx m (fs { st with bl:=Bm (Hw st.bl b (.dyn c xs')) b }) w').S=(vx cx m (fs { st with bl:=Bm st.bl b,nb:=st.nb+1 }) w').S:=by show(vx cx m (fs { st with bl:=Bm (Hw st.bl b (.dyn c xs')) b }) w').S=(vx cx m (fs { st with bl:=Bm st.bl b }) w').S;rw[e2]
 rw[<-hS];exact h4
theorem A83{m:Mp}{a:Act}{as_:List Act}{st:St}{w w':World}(hr:Rel cx m a as_ (fs st) w){b g cap:Nat}{c:Ck}{xs':List (El c)}{vs':List Value}(hch:Chg Dh w w')(hg1:w.heap.size<=g)(hh:w'.heap[g]? = some (.cells vs'.toArray (cx.el c) (0,0)))(hl:vs'.length=cap*csz c)(hrow:Bf (vx cx m (fs st) w) c xs' (vs'.take (xs'.length*csz c)))(hle:xs'.length<=cap)(hm:cap<=maxLen) :
  ∃m',Rel cx m' a as_ (fs { st with bl:=Bm st.bl b,nb:=st.nb+1 }) w'/\Rep (vx cx m' (fs { st with bl:=Bm st.bl b,nb:=st.nb+1 }) w') (.sl c xs' .no) (.slice (some ⟨g,0,none⟩) xs'.length cap):=by
 obtain⟨m',h1,h2⟩:=hr.newAt (k :=.dyn c xs') (g:=g) hch hg1 (Zg2.1 hh).1 (λx' nx hw=>Adx (hrow.later nx) (by rw[hw,nx.el];exact hh) (by simpa using hl) hle hm (by simp));rw[<-A7v] at h1 h2;simp only[Rep] at h2;have k2:=h2.2;simp only[Value.pointer.injEq,Za1,Addr.mk.injEq,and_true] at k2;have hbl:m'.bl st.nb=g:=k2.symm;have hb1:blk (Gi st (.dyn c xs')).bl st.nb=some (.dyn c xs'):=by show blk ((st.nb,_)::st.bl) st.nb=_;rw[A3,if_pos rfl]
 obtain⟨h3,h4⟩:=A15 (st:=Gi st (.dyn c xs')) h1 hb1 (by rw[hbl];exact hh) (by simpa using hl) hle hm;rw[hbl] at h4;obtain⟨h5,nx⟩:=h3.drop b;have h6:=Rep.later nx _ _ h4;have hnone:blk st.bl st.nb=none:=by cases hk:blk st.bl st.nb with|none=>rfl|some k=>exact absurd (hr.blks st.nb k hk).1 (Nat.lt_irrefl _)
 have e:fs { { Gi st (.dyn c xs') with bl:=Bm (Gi st (.dyn c xs')).bl st.nb } with bl:=Bm (Bm (Gi st (.dyn c xs')).bl st.nb) b }=fs { st with bl:=Bm st.bl b,nb:=st.nb+1 }:=by
  refine FS.eq rfl rfl rfl rfl rfl ?_ rfl rfl rfl;funext q;show blk (Bm (Bm ((st.nb,_)::st.bl) st.nb) b) q=blk (Bm st.bl b) q;rw[Ds,Ds,Ds,A3];by_cases hq:q=b
  ·simp[hq]
  ·rw[if_neg hq,if_neg hq];by_cases hn:q=st.nb
   ·rw[if_pos hn,hn,hnone]
   ·rw[if_neg hn,if_neg hn]
 rw[e] at h5 h6;exact⟨m',h5,h6⟩
theorem Aoj{x:Vx}{c:Ck}{xs:List (El c)}{vs:List Value}(hl:xs.length*csz c<=vs.length)(h:∀i y j d,xs[i]? = some y->(enc c y)[j]? = some d->∃u,vs[i*csz c+j]? = some u/\RF x.S x.w d u):Bf x c xs (vs.take (xs.length*csz c)):=by
 refine⟨by rw[List.length_take];exact Nat.min_eq_left hl,λi y j d hy hd =>?_⟩;obtain⟨u,hu,hf⟩:=h i y j d hy hd;refine⟨u,?_,hf⟩;have hi:i<xs.length:=(Zh2.1 hy).1;have hj:j<csz c:=by rw[<-Bo c y];exact(Zh2.1 hd).1
 have:i*csz c+j<xs.length*csz c:=by have h1:(i+1)*csz c<=xs.length*csz c:=Nat.mul_le_mul_right _ hi;rw[Nat.add_mul] at h1;omega
 rw[List.getElem?_take_of_lt this];exact hu
theorem Bf.take{x:Vx}{c:Ck}{xs:List (El c)}{vs:List Value}(h:Bf x c xs vs)(k:Nat)(hk:k<=xs.length):Bf x c (xs.take k) (vs.take (k*csz c)):=by
 have hkl:(xs.take k).length=k:=by rw[List.length_take];exact Nat.min_eq_left hk
 have:=Aoj (x:=x) (c:=c) (xs:=xs.take k) (vs:=vs) (by rw[hkl,h.1];exact Nat.mul_le_mul_right _ hk) (λi y j d hy hd=>by
  rw[List.getElem?_take] at hy;split at hy
  ·exact h.2 i y j d hy hd
  ·cases hy)
 rwa[hkl] at this
theorem Bf.drop{x:Vx}{c:Ck}{xs:List (El c)}{vs:List Value}(h:Bf x c xs vs)(k:Nat):Bf x c (xs.drop k) (vs.drop (k*csz c)):=by refine⟨by rw[Za2,Za2,h.1,Nat.sub_mul],λi y j d hy hd =>?_⟩;rw[List.getElem?_drop] at hy;obtain⟨u,hu,hf⟩:=h.2 (k+i) y j d hy hd;refine⟨u,?_,hf⟩;rw[List.getElem?_drop,<-hu];congr 1;rw[Nat.add_mul,Nat.add_assoc]
theorem A71{w:World}{d:D}(h:FV w d (.tuple #[])):False:=by cases h
theorem A9a{x:Vx}{c:Ck}{y:El c}{ys:List (El c)}{b o n cap g:Nat}{cs:Array Value}{t:TypeId}(h:RF x.S x.w (.sl c (y::ys) .no) (.slice (some ⟨b,o,none⟩) n cap))(hg:∀i,x.S g i)(hh:x.w.heap[g]? = some (.cells cs t (0,0))):b≠g:=by
 intro e;subst e;have hch:Chg x.S x.w (x.w.setRow b (List.replicate cs.size (.tuple #[])).toArray):=by have hsx:Sx.Chg [b] x.w (x.w.setRow b (List.replicate cs.size (.tuple #[])).toArray):=⟨rfl,rfl,rfl,by simp,λk _ hn=>setRow_other x.w b k _ (by simpa using hn)⟩;refine(It hsx (vs:=cs.toList) (us:=List.replicate cs.size (.tuple #[])) (t:=t) (by rw[Array.toArray_toList];exact hh) (setRow_heap _ b _ _ t (0,0) hh) (by simp)).mono λq i hq =>?_;subst hq;exact hg i
 obtain⟨a',cap',e,hf⟩:=(h _ hch).slice;rcases hf with e0|⟨b',o',rfl,_,hat⟩
 ·cases e0
 ·simp only[Value.slice.injEq,Za1,Addr.mk.injEq,and_true] at e;obtain⟨⟨rfl,rfl⟩,_⟩:=e;have hlt : 0<(enc c y).length:=by rw[Bo];exact Adb c
  obtain⟨u,hu,hfv⟩:=hat 0 y rfl 0 _ (Zo1 hlt);have hh2:=setRow_heap x.w b _ (List.replicate cs.size (Value.tuple #[])).toArray t (0,0) hh;simp only[World.cell?,hh2] at hu;simp only[Option.isSome_none,Zi2,if_false] at hu;have:u = .tuple #[]:=by obtain⟨hq,hu⟩:=Zg2.1 hu;simp at hu;exact hu.symm
  subst this;exact A71 hfv
structure InsOk (P:Program) (f:FuncId) (t:TypeId):Prop where
 enters:Sx.Enters P f
 con:∀(g n i cap vb vo vc:Nat) (cs ys:List Value),0<n->i<=n->n<=cap->cs.length=cap*2->(∀v,v∈cs.take (n*2)->Sx.one v=true)->ys.length=2->(∀v,v∈ys->Sx.one v=true)->vb≠g->n<=1000000 ->
  Sx.Con P f [.slice (some ⟨g,0,none⟩) n cap,.int .i64 i,.slice (some ⟨vb,vo,none⟩) 1 vc] [.blk g cs t] (λw=>∀(j:Nat) v,ys[j]? = some v->w.cell? ⟨vb,vo+j,none⟩=some v) (λv L _ =>
   (∃cs',v = .slice (some ⟨g,0,none⟩) (n+1) cap/\n+1<=cap/\L=[.blk g cs' t]/\cs'.length=cs.length/\cs'.take ((n+1)*2)=cs.take (i*2)++ys++(cs.drop (i*2)).take ((n-i)*2)) \/
   (∃b cap' cs',v = .slice (some ⟨b,0,none⟩) (n+1) cap'/\n+1<=cap'/\cap'<=maxLen/\L=[.blk b cs' t,.blk g cs t]/\cs'.length=cap'*2/\cs'.take ((n+1)*2)=cs.take (i*2)++ys++(cs.drop (i*2)).take ((n-i)*2)))
 con0:∀(a:Option Addr) (vb vo vc:Nat) (ys:List Value),ys.length=2->(∀v,v∈ys->Sx.one v=true) ->
  Sx.Con P f [.slice a 0 0,.int .i64 0,.slice (some ⟨vb,vo,none⟩) 1 vc] [] (λw=>∀(j:Nat) v,ys[j]? = some v->w.cell? ⟨vb,vo+j,none⟩=some v) (λv L _=>∃b cap' cs',v = .slice (some ⟨b,0,none⟩) 1 cap'/\1<=cap'/\cap'<=maxLen/\L=[.blk b cs' t]/\cs'.length=cap'*2/\cs'.take 2=ys)
def Adh(args:List D)(st:St)(K:List D->St->Option R):Option R:=match args with
 |[.osl b .idx p n,.int .i64 i,.sl .idx [y] _]=>match blk st.bl b with
  |some (.dyn .idx xs)=>chk (decide (p=0)&&decide (0<n)&&decide (n=(xs.length:Int))&&decide (0<=i)&&decide (i<=n)&&decide (n<=1000000)) (K [.sl .idx (xs.take i.toNat++y::xs.drop i.toNat) .no] { st with bl:=Bm st.bl b,nb:=st.nb+1 })
  |_=>none
 |[.sl .idx [] .z,.int .i64 i,.sl .idx [y] _]=>chk (decide (i=0)) (K [.sl .idx [y] .no] st)
 |_=>none
theorem Akk{x:Vx}{y:El .idx}{v:Value}(h:RF x.S x.w (.sl .idx [y] .no) v):∃vb vo vc us,v = .slice (some ⟨vb,vo,none⟩) 1 vc/\Bf x .idx [y] us/\us.length=2/\(∀z,z∈us->Sx.one z=true)/\∀(j:Nat) u,us[j]? = some u->x.w.cell? ⟨vb,vo+j,none⟩=some u:=by
 obtain⟨a,cap,us,rfl,hrow,hcell⟩:=H5 h;obtain⟨a',cap',e,hf⟩:=Dj h;simp only[Value.slice.injEq] at e;rcases hf with e0|⟨b,o,e1,_⟩
 ·cases e0
 ·have ha:=e.1.trans e1;subst ha;exact⟨b,o,cap,us,rfl,hrow,by rw[hrow.1];rfl,hrow.one,hcell b o rfl (by simp)⟩
theorem Au6{g:Nat}(h:InsOk cx.P g (cx.el .idx)){args:List D}{st:St}{K:List D->St->Option R}{r:R}(hc:Adh args st K=some r):Jz cx g args st K r:=by
 unfold Adh at hc;split at hc
 ·rename_i b p n i y tk;split at hc
  ·rename_i xs hb;obtain⟨hk,hK⟩:=A4 hc;simp only[Zb1,Zg1] at hk;obtain⟨⟨⟨⟨⟨hp,hn⟩,hnl⟩,hi0⟩,hin⟩,hbig⟩:=hk;subst hp hnl;obtain⟨i,rfl⟩:∃k:Nat,i=k:=⟨i.toNat,by omega⟩;refine⟨h.enters,λm a as_ w vs hr hargs =>?_⟩;simp only[Reps,Rep] at hargs;obtain⟨v1,_,rfl,⟨hb1,_,_,_,ad,cap,rfl,had,hle,hcm,cur,f,hh1,hsz⟩,v2,_,rfl,⟨rfl,_⟩,v3,_,rfl,⟨hrf,_⟩,rfl⟩:=hargs;obtain⟨_,hlen,vs,t,hh2,hvl,hel⟩:=hr.blks b _ hb;have hh1:w.heap[m.bl b]? = some (.cells cur (cx.el .idx) f):=hh1;have hh2:w.heap[m.bl b]? = some (.cells vs.toArray t (0,0)):=hh2;rw[hh1] at hh2;simp only[Za1,Obj.cells.injEq] at hh2;obtain⟨rfl,rfl,rfl⟩:=hh2;obtain rfl:=had.resolve_left (by omega);have hsz2:vs.length=cap*2:=by simpa[csz] using hsz
   simp only[Int.toNat_natCast] at hle;have hrowx:=Aoj (x:=vx cx m (fs st) w) hvl hel;obtain⟨vb,vo,vc,us,rfl,hrow3,hul,hu1,hucell⟩:=Akk hrf;have hbn:(fs st).bl b≠none:=by rw[show(fs st).bl b=some _ from hb];simp
   have hne:vb≠m.bl b:=A9a (x:=vx cx m (fs st) w) hrf (λ_ =>.inr (.inl ⟨b,hbn,rfl⟩)) hh1;have hx1:∀v,v∈vs.take (xs.length*2)->Sx.one v=true:=hrowx.one;have hcon:=h.con (m.bl b) xs.length i cap vb vo vc vs us (by omega) (by omega) hle hsz2 hx1 hul hu1 hne (by omega);have hst:Sx.StOk ⟨cx.P,0,w,Sx.fps [.blk (m.bl b) vs (cx.el .idx)],[]⟩ [.blk (m.bl b) vs (cx.el .idx)] (λw=>∀(j:Nat) v,us[j]? = some v->w.cell? ⟨vb,vo+j,none⟩=some v) w:=by
    refine⟨Sx.Chg.refl _ _,λq hq =>?_,by simp[Sx.fps,Sx.Ent.fp],λq hq =>.inl hq,by simp,λw' hc' j v hj =>?_⟩
    ·simp only[List.mem_singleton] at hq;subst hq;exact hh1
    ·refine hc'.cell (hucell j v hj) ?_;simpa[Sx.fps,Sx.Ent.fp] using hne
   have hargs:([.slice (some ⟨m.bl b,(0:Int).toNat*csz .idx,none⟩) ((xs.length:Nat):Int).toNat cap,.int .i64 (i:Int),.slice (some ⟨vb,vo,none⟩) 1 vc]:List Value)=[.slice (some ⟨m.bl b,0,none⟩) xs.length cap,.int .i64 i,.slice (some ⟨vb,vo,none⟩) 1 vc]:=by simp
   show Calls cx.P g ([.slice (some ⟨m.bl b,(0:Int).toNat*csz .idx,none⟩) ((xs.length:Nat):Int).toNat cap,.int .i64 (i:Int),.slice (some ⟨vb,vo,none⟩) 1 vc]:List Value).toArray w _;rw[hargs];refine(hcon.run w [] hst).mono ?_;rintro en w' ⟨u,L',F',rfl,hpost,hs⟩;have hsc:Sx.Chg [m.bl b] w w':=by simpa[Sx.fps,Sx.Ent.fp] using hs.chg
   have hil:i<=xs.length:=by omega
   have hnew:Bf (vx cx m (fs st) w) .idx (xs.take i++y::xs.drop i) (vs.take (i*2)++us++(vs.drop (i*2)).take ((xs.length-i)*2)):=by
    have e1:=hrowx.take i hil;have e2:=hrowx.drop i;have e3:=(e1.append hrow3).append e2;rw[Zj1,List.singleton_append] at e3;have q1:(vs.take (xs.length*csz .idx)).take (i*csz .idx)=vs.take (i*2):=by rw[List.take_take,Nat.min_eq_left (Nat.mul_le_mul_right _ hil)];rfl
    have q2:(vs.take (xs.length*csz .idx)).drop (i*csz .idx)=(vs.drop (i*2)).take ((xs.length-i)*2):=by rw[List.drop_take];show(vs.drop (i*2)).take (xs.length*2-i*2)=_;rw[<-Nat.sub_mul]
    rw[q1,q2] at e3;exact e3
   have hnl:(xs.take i++y::xs.drop i).length=xs.length+1:=by simp only[Zh1,List.length_take,Zf1,Za2];omega
   simp only[Int.toNat_natCast] at hK;rcases hpost with ⟨cs',rfl,hroom,rfl,hcl,htk⟩|⟨b',cap',cs',rfl,hroom,hcm',rfl,hcl,htk⟩
   ·have hh':w'.heap[m.bl b]? = some (.cells cs'.toArray (cx.el .idx) (0,0)):=hs.ok (.blk (m.bl b) cs' (cx.el .idx)) (by simp);obtain⟨m',k1,k2⟩:=Asy (c :=.idx) (xs':=xs.take i++y::xs.drop i) hr hb (It hsc hh1 hh' hcl) hh' (cap:=cap) (by rw[hcl];exact hsz2) (by rw[hnl];show Bf _ _ _ (cs'.take ((xs.length+1)*2));rw[htk];exact hnew) (by rw[hnl];exact hroom) hcm;rw[hnl] at k2;exact⟨_,rfl,_,_,m',hK,⟨rfl,rfl,rfl,rfl,rfl⟩,k1,k2⟩
   ·have hh':w'.heap[b']? = some (.cells cs'.toArray (cx.el .idx) (0,0)):=hs.ok (.blk b' cs' (cx.el .idx)) (by simp);have hho:w'.heap[m.bl b]? = some (.cells vs.toArray (cx.el .idx) (0,0)):=hs.ok (.blk (m.bl b) vs (cx.el .idx)) (by simp);have hbb:b'≠m.bl b:=by have:=hs.nodup;simpa[Sx.fps,Sx.Ent.fp] using this
    have hg1:w.heap.size<=b':=by
     rcases hs.own b' (by simp[Sx.fps,Sx.Ent.fp]) with h1|h1
     ·exact absurd (by simpa[Sx.fps,Sx.Ent.fp] using h1) hbb
     ·exact h1
    have hch:Chg Dh w w' :=.of_blocks hsc.os hsc.tape hsc.output hsc.size λk hk=>by
     by_cases hkb:k=m.bl b
     ·rw[hkb,hho,hh1]
     ·exact hsc.block k hk (by simpa using hkb)
    obtain⟨m',k1,k2⟩:=A83 (b:=b) (c :=.idx) (xs':=xs.take i++y::xs.drop i) hr hch hg1 hh' (cap:=cap') hcl (by rw[hnl];show Bf _ _ _ (cs'.take ((xs.length+1)*2));rw[htk];exact hnew) (by rw[hnl];exact hroom) hcm';rw[hnl] at k2;exact⟨_,rfl,_,_,m',hK,⟨rfl,rfl,rfl,rfl,rfl⟩,k1,k2⟩
  ·cases hc
 ·rename_i i y tk;obtain⟨hk,hK⟩:=A4 hc;simp only[Zg1] at hk;subst hk;refine⟨h.enters,λm a as_ w vs hr hargs =>?_⟩;simp only[Reps,Rep,TkR] at hargs;obtain⟨v1,_,rfl,⟨_,_,ad,rfl⟩,v2,_,rfl,⟨rfl,_⟩,v3,_,rfl,⟨hrf,_⟩,rfl⟩:=hargs;obtain⟨vb,vo,vc,us,rfl,hrow3,hul,hu1,hucell⟩:=Akk hrf;refine((h.con0 ad vb vo vc us hul hu1).run w [] (A0v λw' hb j v hj =>?_)).mono ?_
  ·have hcv:=hucell j v hj;rw[World.cell?_of_block (a:=⟨vb,vo+j,none⟩) (hb vb (Q1 hcv))];exact hcv
  ·rintro en w' ⟨u,L',F',rfl,⟨b',cap',cs',rfl,hroom,hcm',rfl,hcl,htk⟩,hs⟩;have hch:Chg Dh w w':=Adv (by simpa[Sx.fps] using hs.chg);have hh':w'.heap[b']? = some (.cells cs'.toArray (cx.el .idx) (0,0)):=hs.ok (.blk b' cs' (cx.el .idx)) (by simp);have hg1:w.heap.size<=b':=by
    rcases hs.own b' (by simp[Sx.fps,Sx.Ent.fp]) with h1|h1
    ·cases h1
    ·exact h1
   have nx:Nx (vx cx m (fs st) w) (vx cx m (fs st) w'):=⟨hch.mono (λ_ _ h=>h.elim),λb i hi =>.inl hi,rfl,λ_ _=>rfl,Zn1 _,Zn1 _,λt _ ha=>⟨ha,rfl,λg o hg=>hch.block g (hr.own_t ha hg) (λ_ h=>h)⟩⟩;refine⟨_,rfl,_,st,m,hK,⟨rfl,rfl,rfl,rfl,rfl⟩,hr.quiet hch,?_⟩;simp only[Gj,Rep];refine⟨Agc (x:=vx cx m (fs st) w') (hrow3.later nx) ⟨hroom,hcm'⟩ (λj z hj =>?_) (λi _=>Am8 hr hg1 i),trivial⟩;show w'.cell? _=_;simp only[World.cell?,hh'];rw[<-htk,List.getElem?_take] at hj;split at hj
   ·simpa using hj
   ·cases hj
 ·cases hc
structure DelOk (P:Program) (f:FuncId) (t:TypeId):Prop where
 enters:Sx.Enters P f
 con:∀(g n i j cap:Nat) (cs:List Value),i<j->j<=n->n<=cap->cs.length=cap*2->(∀v,v∈cs.take (n*2)->Sx.one v=true) ->
  Sx.Con P f [.slice (some ⟨g,0,none⟩) n cap,.int .i64 i,.int .i64 j] [.blk g cs t] (λ_=>True) (λv L _=>∃cs',v = .slice (some ⟨g,0,none⟩) (i+(n-j)) cap/\L=[.blk g cs' t]/\cs'.length=cs.length/\cs'.take ((i+(n-j))*2)=cs.take (i*2)++(cs.drop (j*2)).take ((n-j)*2))
def Ads(args:List D)(st:St)(K:List D->St->Option R):Option R:=match args with
 |[.osl b .idx p n,.int .i64 i,.int .i64 j]=>match blk st.bl b with
  |some (.dyn .idx xs)=>chk (decide (p=0)&&decide (n=(xs.length:Int))&&decide (0<=i)&&decide (i<j)&&decide (j<=n)) (K [.sl .idx (xs.take i.toNat++xs.drop j.toNat) .no] { st with bl:=Bm st.bl b,nb:=st.nb+1 })
  |_=>none
 |_=>none
theorem Aw7{g:Nat}(h:DelOk cx.P g (cx.el .idx)){args:List D}{st:St}{K:List D->St->Option R}{r:R}(hc:Ads args st K=some r):Jz cx g args st K r:=by
 unfold Ads at hc;split at hc
 ·rename_i b p n i j;split at hc
  ·rename_i xs hb;obtain⟨hk,hK⟩:=A4 hc;simp only[Zb1,Zg1] at hk;obtain⟨⟨⟨⟨hp,hnl⟩,hi0⟩,hij⟩,hjn⟩:=hk;subst hp hnl;obtain⟨i,rfl⟩:∃k:Nat,i=k:=⟨i.toNat,by omega⟩;obtain⟨j,rfl⟩:∃k:Nat,j=k:=⟨j.toNat,by omega⟩;refine⟨h.enters,λm a as_ w vs hr hargs =>?_⟩;simp only[Reps,Rep] at hargs;obtain⟨v1,_,rfl,⟨hb1,_,_,_,ad,cap,rfl,had,hle,hcm,cur,f,hh1,hsz⟩,v2,_,rfl,⟨rfl,_⟩,v3,_,rfl,⟨rfl,_⟩,rfl⟩:=hargs;obtain⟨_,hlen,vs,t,hh2,hvl,hel⟩:=hr.blks b _ hb;have hh1:w.heap[m.bl b]? = some (.cells cur (cx.el .idx) f):=hh1;have hh2:w.heap[m.bl b]? = some (.cells vs.toArray t (0,0)):=hh2;rw[hh1] at hh2;simp only[Za1,Obj.cells.injEq] at hh2;obtain⟨rfl,rfl,rfl⟩:=hh2;obtain rfl:=had.resolve_left (by omega);have hsz2:vs.length=cap*2:=by simpa[csz] using hsz
   simp only[Int.toNat_natCast] at hle;have hrowx:=Aoj (x:=vx cx m (fs st) w) hvl hel;have hx1:∀v,v∈vs.take (xs.length*2)->Sx.one v=true:=hrowx.one;have hcon:=h.con (m.bl b) xs.length i j cap vs (by omega) (by omega) hle hsz2 hx1;have hst:Sx.StOk ⟨cx.P,0,w,Sx.fps [.blk (m.bl b) vs (cx.el .idx)],[]⟩ [.blk (m.bl b) vs (cx.el .idx)] (λ_=>True) w:=by refine⟨Sx.Chg.refl _ _,λq hq =>?_,by simp[Sx.fps,Sx.Ent.fp],λq hq =>.inl hq,by simp,λ_ _=>trivial⟩;simp only[List.mem_singleton] at hq;subst hq;exact hh1
   have hargs:([.slice (some ⟨m.bl b,(0:Int).toNat*csz .idx,none⟩) ((xs.length:Nat):Int).toNat cap,.int .i64 (i:Int),.int .i64 (j:Int)]:List Value)=[.slice (some ⟨m.bl b,0,none⟩) xs.length cap,.int .i64 i,.int .i64 j]:=by simp
   show Calls cx.P g ([.slice (some ⟨m.bl b,(0:Int).toNat*csz .idx,none⟩) ((xs.length:Nat):Int).toNat cap,.int .i64 (i:Int),.int .i64 (j:Int)]:List Value).toArray w _;rw[hargs];refine(hcon.run w [] hst).mono ?_;rintro en w' ⟨u,L',F',rfl,⟨cs',rfl,rfl,hcl,htk⟩,hs⟩;have hsc:Sx.Chg [m.bl b] w w':=by simpa[Sx.fps,Sx.Ent.fp] using hs.chg
   have hil:i<=xs.length:=by omega
   have hnew:Bf (vx cx m (fs st) w) .idx (xs.take i++xs.drop j) (vs.take (i*2)++(vs.drop (j*2)).take ((xs.length-j)*2)):=by
    have e3:=(hrowx.take i hil).append (hrowx.drop j);have q1:(vs.take (xs.length*csz .idx)).take (i*csz .idx)=vs.take (i*2):=by rw[List.take_take,Nat.min_eq_left (Nat.mul_le_mul_right _ hil)];rfl
    have q2:(vs.take (xs.length*csz .idx)).drop (j*csz .idx)=(vs.drop (j*2)).take ((xs.length-j)*2):=by rw[List.drop_take];show(vs.drop (j*2)).take (xs.length*2-j*2)=_;rw[<-Nat.sub_mul]
    rw[q1,q2] at e3;exact e3
   have hnl:(xs.take i++xs.drop j).length=i+(xs.length-j):=by simp only[Zh1,List.length_take,Za2];omega
   simp only[Int.toNat_natCast] at hK;have hh':w'.heap[m.bl b]? = some (.cells cs'.toArray (cx.el .idx) (0,0)):=hs.ok (.blk (m.bl b) cs' (cx.el .idx)) (by simp);obtain⟨m',k1,k2⟩:=Asy (c :=.idx) (xs':=xs.take i++xs.drop j) hr hb (It hsc hh1 hh' hcl) hh' (cap:=cap) (by rw[hcl];exact hsz2) (by rw[hnl];show Bf _ _ _ (cs'.take ((i+(xs.length-j))*2));rw[htk];exact hnew) (by rw[hnl];omega) hcm;rw[hnl] at k2;exact⟨_,rfl,_,_,m',hK,⟨rfl,rfl,rfl,rfl,rfl⟩,k1,k2⟩
  ·cases hc
 ·cases hc
end
section
variable {R:Type}{P:Program}{el:Ck->TypeId}{gl:Nat->Option Gv}{tt:Nat->Ty}{cx:Cx}
theorem cCl(H:Hx P el gl tt cx){g:Nat}{c:Ck}(h:ClOk P g (el c) (csz c))(h0:Am4 P g):Jj (R:=R) cx g (Zg c):=λ_ _ _ _ hc=>A3f (by rw[H.p,H.e];exact h) (by rw[H.p];exact h0) hc
theorem Bjk(H:Hx P el gl tt cx){g:Nat}{c:Ck}(h:ClOk P g (el c) (csz c))(h0:Am4 P g):Hm (R:=R) cx g (Adr c):=Awn (by rw[H.p,H.e];exact h) (by rw[H.p];exact h0)
theorem Bjm(H:Hx P el gl tt cx){g:Nat}(h:InsOk P g (el .idx)):Jj (R:=R) cx g Adh:=λ_ _ _ _ hc=>Au6 (by rw[H.p,H.e];exact h) hc
theorem Bjq(H:Hx P el gl tt cx){g:Nat}(h:DelOk P g (el .idx)):Jj (R:=R) cx g Ads:=λ_ _ _ _ hc=>Aw7 (by rw[H.p,H.e];exact h) hc
end
end Go.Ax
namespace Go.Sx
open Go.RowKit
section
variable {cx:Cx}{k:List KI}{e:Env}{L:Loc}{F:World->Prop}{Q:Exit->Act->World->Prop}{ops:Array Oper}{l:List Oper}{w:World}
theorem StOk.swap{x y:Ent}(h:StOk cx (x::L) F w)(hfp:y.fp=x.fp)(hok:y.ok w):StOk cx (y::L) F w:=by
 have he:fps (y::L)=fps (x::L):=by simp[fps,hfp]
 refine⟨h.chg,?_,by rw[he];exact h.nodup,by rw[he];exact h.own,h.away,by rw[he];exact h.rob⟩;intro z hz;simp only[List.mem_cons] at hz;rcases hz with rfl|hz
 ·exact hok
 ·exact h.ok z (Zu1 _ hz)
theorem StOk.blkrow{b:Nat}{u:TypeId}(sz:Nat)(h:StOk cx (.blk b [] u::L) F w):StOk cx (.row (.slice (some ⟨b,0,none⟩) 0 0) u sz 0 []::L) F w :=h.swap rfl ⟨by simp,.inr ⟨b,0, #[],rfl,Nat.zero_le _,h.ok _ Zr1,Zn1 _,Nat.zero_le _,by simp,by simp⟩⟩
theorem Wc{b:Nat}{u:TypeId}(sz:Nat)(h:O cx ops l k e (.row (.slice (some ⟨b,0,none⟩) 0 0) u sz 0 []::L) F Q):O cx ops l k e (.blk b [] u::L) F Q :=.mk λa w he hs=>h.run a w he (hs.blkrow sz)
theorem Rp{P:Program}{t t':TypeId}{x y:Operand}{a:Option Addr}{n c:Nat}(sz:Nat)(ht:(elSz P t == some sz)=true)(hx:Env.ev e x=some (.slice a n c))(hy:Env.ev e y=some (.slice none 0 0)):Pure P e (.binOp .eql t x y t') (.bool a.isNone):=by obtain⟨u,hu,_⟩:=Gw (n:=sz) (by simpa using ht);refine p_bin hx hy (λw=>rfl) λw =>?_;have:=run_equal_slice_nil (P:=P) w t u a n c hu;simp[binOp,this]
end
theorem An1{P:Program}(w:World)(dT sT ty elem:TypeId)(i0:TypeInfo)(g o dLen dCap:Nat)(a:Addr)(sLen sCap:Nat)(cur:Array Value)(t:TypeId)(cs:List Value)(hu:P.underlying dT=some (.slice elem))(hi:P.info? elem=some i0)
  (hg:w.heap[g]? = some (.cells cur t (0,0))) (hn:cs.length=Nat.min sLen dLen*i0.size) (hsrc:∀j v,cs[j]? = some v->w.cell? (a.add j)=some v) (hfit:o+cs.length<=cur.size) (h1:∀v∈cs,v.oneCell' = true) :
  (Builtin.copy_ #[dT,sT] ty #[.slice (some ⟨g,o,none⟩) dLen dCap,.slice (some a) sLen sCap]).run P w =
   .ok (goInt (Nat.min sLen dLen)) (w.setRow g (cur.toList.take o++cs++cur.toList.drop (o+cs.length)).toArray):=by
 have hl:=run_firstCells_some (P:=P) w i0.size (Nat.min sLen dLen) a sLen sCap cs hn hsrc;have hst:=run_storeCells_at P g o t cs 0 cur w hg (by simpa using hfit) h1;simp only[Nat.add_zero] at hst;simp[Builtin.copy_,run_underlying hu,Builtin.lenOf,sizeOf,typeInfo,hi,hl,hst]
section
variable {cx:Cx}{k:List KI}{e:Env}{L:Loc}{F:World->Prop}{Q:Exit->Act->World->Prop}{ops:Array Oper}{rest:List Oper}
def X2(cx:Cx)(L:Loc)(F:World->Prop)(b off:Nat)(zs:List Value):Prop:=∀w,StOk cx L F w->∀(j:Nat) v,zs[j]? = some v->w.cell? ⟨b,off+j,none⟩=some v
theorem R2{b off n:Nat}{cs:List Value}{t:TypeId}(i:Nat)(hi:L[i]? = some (.blk b cs t)):X2 cx L F b off ((cs.drop off).take n):=λw hs j v hj=>by
 refine Aff (hs.ok _ (List.mem_of_getElem? hi)) ?_;rw[List.getElem?_take] at hj;split at hj
 ·rwa[List.getElem?_drop] at hj
 ·cases hj
theorem Bfe(w:World)(g:Nat)(cs:Array Value):Chg [g] w (w.setRow g cs) :=⟨rfl,rfl,rfl,by simp,λk _ hn=>setRow_other w g k cs (by simpa using hn)⟩
theorem StOk.setRow{w:World}{g:Nat}{cs cs':List Value}{t:TypeId}(h:StOk cx L F w)(i:Nat)(hi:L[i]? = some (.blk g cs t)):StOk cx (L.set i (.blk g cs' t)) F (w.setRow g cs'.toArray) :=h.updAt i hi (Bfe w g _) (setRow_heap w g _ _ t (0,0) (h.ok _ (List.mem_of_getElem? hi))) (by simp[Ent.fp]) (λb hb =>.inl hb)
theorem Apl{dst:Nat}{d s:Operand}{t t' ty u u':TypeId}{pos:String}{after:Array Edge}{g':Option (Nat×Bool)}{g o dl dc b off sl sc sz by_:Nat}{cs zs:List Value}(i:Nat)(hg:Gd ops e g' = some true)(hd:Nat.blt dst cx.n=true)(hT:ElTy cx.P t u sz by_)
  (hx:Env.ev e d=some (.slice (some ⟨g,o,none⟩) dl dc)) (hy:Env.ev e s=some (.slice (some ⟨b,off,none⟩) sl sc)) (hi:L[i]? = some (.blk g cs u')) (hsrc:X2 cx L F b off zs) (hl:zs.length=Nat.min sl dl*sz) (hfit:o+zs.length<=cs.length) (h1:∀v,v∈zs->one v=true)
  (h:O cx ops rest k ((dst,goInt (Nat.min sl dl))::e) (L.set i (.blk g (cs.take o++zs++cs.drop (o+zs.length)) u')) F Q) :
  O cx ops (⟨some dst,.call ⟨.builtin .copy, #[d,s], #[t,t']⟩,ty,pos,after,g'⟩::rest) k e L F Q:=by
 refine Xp (λr L' F'=>r=goInt (Nat.min sl dl)/\L' = L.set i (.blk g (cs.take o++zs++cs.drop (o+zs.length)) u')/\F' = F) hg hd (λa w he hst =>?_) (λr L' F' ⟨hr,hL,hF⟩=>by rw[hr,hL,hF];exact h);obtain⟨hu,i0,z,hi0,hz,hsz,hby,hzs,hpos⟩:=hT;have hgh:w.heap[g]? = some (.cells cs.toArray u' (0,0)):=hst.ok _ (List.mem_of_getElem? hi);have hrun:=An1 (P:=cx.P) w t t' ty u i0 g o dl dc ⟨b,off,none⟩ sl sc cs.toArray u' zs hu hi0 hgh (by rw[hsz];exact hl) (λj v hj=>by rw[add_mk];exact hsrc w hst j v hj) (by simpa using hfit) (λv hv=>one_oneCell (h1 v hv));refine⟨_,_,_,F,?_,hst.setRow (cs':=cs.take o++zs++cs.drop (o+zs.length)) i hi,rfl,rfl,rfl⟩;simp only[execOp,resolve,invoke,builtin,Sem.run_bind,Sem.run_pure,Result.andThen_ok,List.map_toArray,Zw1,List.map_nil,he.ev hx,he.ev hy,hrun]
theorem Yw{dst:Nat}{d s:Operand}{t ty u u':TypeId}{pos:String}{after:Array Edge}{g':Option (Nat×Bool)}{g n cap b off m sc sz by_:Nat}{cs zs:List Value}(i:Nat)(hg:Gd ops e g' = some true)(hd:Nat.blt dst cx.n=true)(hT:ElTy cx.P t u sz by_)
  (hx:Env.ev e d=some (.slice (some ⟨g,0,none⟩) n cap)) (hy:Env.ev e s=some (.slice (some ⟨b,off,none⟩) m sc)) (hi:L[i]? = some (.blk g cs u)) (hsrc:X2 cx L F b off zs) (hl:zs.length=m*sz) (hroom:n+m<=cap) (hfit:n*sz+zs.length<=cs.length) (h1:∀v,v∈zs->one v=true) (_hu':u' = u)
  (h:O cx ops rest k ((dst,.slice (some ⟨g,0,none⟩) (n+m) cap)::e) (L.set i (.blk g (cs.take (n*sz)++zs++cs.drop (n*sz+zs.length)) u)) F Q) :
  O cx ops (⟨some dst,.call ⟨.builtin .append, #[d,s], #[t,t]⟩,ty,pos,after,g'⟩::rest) k e L F Q:=by
 refine Xp (λr L' F'=>r = .slice (some ⟨g,0,none⟩) (n+m) cap/\L' = L.set i (.blk g (cs.take (n*sz)++zs++cs.drop (n*sz+zs.length)) u)/\F' = F) hg hd (λa w he hst =>?_) (λr L' F' ⟨hr,hL,hF⟩=>by rw[hr,hL,hF];exact h);obtain⟨hu,i0,z,hi0,hz,hsz,hby,hzs,hpos⟩:=hT;have hgh:w.heap[g]? = some (.cells cs.toArray u (0,0)):=hst.ok _ (List.mem_of_getElem? hi);have hrun:=run_append_room (P:=cx.P) w t ty u i0 hu hi0 g n cap cs.toArray hgh ⟨b,off,none⟩ m sc zs (by rw[hsz];exact hl) (λj v hj=>by rw[add_mk];exact hsrc w hst j v hj) (λv hv=>one_oneCell (h1 v hv)) hroom (by rw[hsz];simpa using hfit);rw[hsz] at hrun;refine⟨_,_,_,F,?_,hst.setRow (cs':=cs.take (n*sz)++zs++cs.drop (n*sz+zs.length)) i hi,rfl,rfl,rfl⟩;simp only[execOp,resolve,invoke,builtin,Sem.run_bind,Sem.run_pure,Result.andThen_ok,List.map_toArray,Zw1,List.map_nil,he.ev hx,he.ev hy,hrun]
theorem A3a{dst:Nat}{d s:Operand}{t ty u u':TypeId}{pos:String}{after:Array Edge}{g':Option (Nat×Bool)}{g n cap b off m sc sz by_:Nat}{cs zs:List Value}(i:Nat)(hg:Gd ops e g' = some true)(hd:Nat.blt dst cx.n=true)(hT:ElTy cx.P t u sz by_)
  (hx:Env.ev e d=some (.slice (some ⟨g,0,none⟩) n cap)) (hy:Env.ev e s=some (.slice (some ⟨b,off,none⟩) m sc)) (hi:L[i]? = some (.blk g cs u')) (hsrc:X2 cx L F b off zs) (hl:zs.length=m*sz) (hn:n*sz<=cs.length) (hroom:cap<n+m) (h63:n+m<=maxLen) (hbig:(n+m)*by_<=140737488355328)
  (h:∀b' q tl,n+m<=q->q<=maxLen->tl.length=(q-(n+m))*sz->O cx ops rest k ((dst,.slice (some ⟨b',0,none⟩) (n+m) q)::e) (.blk b' (cs.take (n*sz)++zs++tl) u::L) F Q) :
  O cx ops (⟨some dst,.call ⟨.builtin .append, #[d,s], #[t,t]⟩,ty,pos,after,g'⟩::rest) k e L F Q:=by
 refine Xp (λr L' F'=>∃b' q tl,n+m<=q/\q<=maxLen/\tl.length=(q-(n+m))*sz/\r = .slice (some ⟨b',0,none⟩) (n+m) q/\L' = .blk b' (cs.take (n*sz)++zs++tl) u::L/\F' = F) hg hd (λa w he hst =>?_) (λr L' F' ⟨b',q,tl,a1,a2,a3,hr,hL,hF⟩=>by rw[hr,hL,hF];exact h b' q tl a1 a2 a3);obtain⟨hu,i0,z,hi0,hz,hsz,hby,hzs,hpos⟩:=hT;have hok:(Ent.blk g cs u').ok w:=hst.ok _ (List.mem_of_getElem? hi);have hrun:=run_append_grow (P:=cx.P) w t ty u i0 z hu hi0 hz ⟨g,0,none⟩ n cap (cs.take (n*sz)) (by rw[hsz,List.length_take];exact Nat.min_eq_left hn) (λj v hj=>by
  rw[add_mk,Nat.zero_add];refine Aff hok ?_;rw[List.getElem?_take] at hj;split at hj
  ·exact hj
  ·cases hj) ⟨b,off,none⟩ m sc zs (by rw[hsz];exact hl) (λj v hj=>by rw[add_mk];exact hsrc w hst j v hj) hroom (by simp only[maxLen] at h63;omega) (by rw[hby];exact growslice_fits hroom hbig)
 have hge:=grownCap_ge w (n+m) cap u;refine⟨_,_,_,F,?_,(hst.quiet (Chg.drew [] w)).alloc (cs.take (n*sz)++zs++(Builtin.zeroCells z.cells (grownCap w (n+m) cap u-(n+m))).toList) u,w.heap.size,grownCap w (n+m) cap u,_,hge,grownCap_le_maxLen w _ _ _ h63,?_,rfl,rfl,rfl⟩
 ·simp only[execOp,resolve,invoke,builtin,Sem.run_bind,Sem.run_pure,Result.andThen_ok,List.map_toArray,Zw1,List.map_nil,he.ev hx,he.ev hy,hrun];congr 3;apply Array.ext';simp
 ·simp[Builtin.zeroCells,hzs]
theorem Ay8{dst:Nat}{d s:Operand}{t ty u:TypeId}{pos:String}{after:Array Edge}{g':Option (Nat×Bool)}{a0:Option Addr}{b off m sc sz by_:Nat}{zs:List Value}(hg:Gd ops e g' = some true)(hd:Nat.blt dst cx.n=true)(hT:ElTy cx.P t u sz by_)
  (hx:Env.ev e d=some (.slice a0 0 0)) (hy:Env.ev e s=some (.slice (some ⟨b,off,none⟩) m sc)) (hsrc:X2 cx L F b off zs) (hl:zs.length=m*sz) (hm : 0<m) (h63:m<=maxLen) (hbig:m*by_<=140737488355328) (h1:∀v,v∈zs->one v=true)
  (h:∀b' q tl,m<=q->q<=maxLen->tl.length=(q-m)*sz->O cx ops rest k ((dst,.slice (some ⟨b',0,none⟩) m q)::e) (.blk b' (zs++tl) u::L) F Q) :
  O cx ops (⟨some dst,.call ⟨.builtin .append, #[d,s], #[t,t]⟩,ty,pos,after,g'⟩::rest) k e L F Q:=by
 refine Xp (λr L' F'=>∃b' q tl,m<=q/\q<=maxLen/\tl.length=(q-m)*sz/\r = .slice (some ⟨b',0,none⟩) m q/\L' = .blk b' (zs++tl) u::L/\F' = F) hg hd (λa w he hst =>?_) (λr L' F' ⟨b',q,tl,a1,a2,a3,hr,hL,hF⟩=>by rw[hr,hL,hF];exact h b' q tl a1 a2 a3);obtain⟨hu,i0,z,hi0,hz,hsz,hby,hzs,hpos⟩:=hT;have hsr:Src cx.P i0.size t (.slice (some ⟨b,off,none⟩) m sc) m zs w:=Src.ofSlice w hu ⟨b,off,none⟩ m sc zs (by rw[hsz];exact hl) (λj v hj=>by rw[add_mk];exact hsrc w hst j v hj) (λv hv=>one_oneCell (h1 v hv));have hold:(Builtin.firstCells i0.size 0 (.slice a0 0 0)).run cx.P w.drew = .ok ([]:List Value).toArray w.drew:=by cases a0 with|none=>exact run_firstCells_none w.drew i0.size 0 0 0|some p=>exact run_firstCells_some w.drew i0.size 0 p 0 0 [] (by simp) (by simp)
 have hrun:=run_append_grow_src (P:=cx.P) w t t ty u i0 z hu hi0 hz a0 0 0 [] hold _ m zs hsr (by omega) (by simp only[maxLen] at h63;omega) (by rw[hby];exact growslice_fits (by omega) (by simpa using hbig));rw[Nat.zero_add] at hrun;have hge:=grownCap_ge w m 0 u;refine⟨_,_,_,F,?_,(hst.quiet (Chg.drew [] w)).alloc (zs++(Builtin.zeroCells z.cells (grownCap w m 0 u-m)).toList) u,w.heap.size,grownCap w m 0 u,_,hge,grownCap_le_maxLen w _ _ _ h63,?_,rfl,rfl,rfl⟩
 ·simp only[execOp,resolve,invoke,builtin,Sem.run_bind,Sem.run_pure,Result.andThen_ok,List.map_toArray,Zw1,List.map_nil,he.ev hx,he.ev hy,hrun];congr 3;apply Array.ext';simp
 ·simp[Builtin.zeroCells,hzs]
theorem Al0{P:Program}{x y:Operand}{t u:TypeId}{sz by_:Nat}{g c:Nat}{ad:Option Addr}(hT:ElTy P t u sz by_)(hx:Env.ev e x=some (.slice (some ⟨g,0,none⟩) 0 0))(hy:Env.ev e y=some (.slice ad 0 c)):Pure P e (.call ⟨.builtin .append, #[x,y], #[t,t]⟩) (.slice (some ⟨g,0,none⟩) 0 0):=λn a w o he ho=>by
 obtain⟨hu,i0,z,hi0,hz,hsz,hby,hzs,hpos⟩:=hT;have hr:∀ty,(Builtin.append_ #[t,t] ty #[.slice (some ⟨g,0,none⟩) 0 0,.slice ad 0 c]).run P w = .ok (.slice (some ⟨g,0,none⟩) 0 0) w:=λty=>by cases ad<;>simp[Builtin.append_,run_underlying hu,go_sem,sizeOf,typeInfo,hi0,Builtin.lenOf,Builtin.firstCells,loadCells,loadCellsFrom,storeCells]
 simp only[execOp,ho,resolve,invoke,builtin,Sem.run_bind,Sem.run_pure,Result.andThen_ok,List.map_toArray,Zw1,List.map_nil,he.ev hx,he.ev hy,hr]
theorem Ayg{dst:Nat}{d s:Operand}{t tn ty u u':TypeId}{kn kq:IntKind}{pos:String}{after:Array Edge}{g':Option (Nat×Bool)}{g n cap sz by_:Nat}{m:Int}{cs:List Value}(i:Nat)(hg:Gd ops e g' = some true)(hd:Nat.blt dst cx.n=true)(hT:ElTy cx.P t u sz by_)(htn:(match cx.P.underlying tn with|some (.int k')=>decide (k' = kn)|_=>false)=true)
  (hx:Env.ev e d=some (.slice (some ⟨g,0,none⟩) n cap)) (hy:Env.ev e s=some (.int kq m)) (hi:L[i]? = some (.blk g cs u')) (hm : 0<m) (hn:n*sz<=cs.length) (hroom:cap<n+m.toNat) (h63:n+m.toNat<=maxLen) (hbig:(n+m.toNat)*by_<=140737488355328)
  (h:∀b' q tl,n+m.toNat<=q->q<=maxLen->tl.length=(q-n)*sz->O cx ops rest k ((dst,.slice (some ⟨b',0,none⟩) (n+m.toNat) q)::e) (.blk b' (cs.take (n*sz)++tl) u::L) F Q) :
  O cx ops (⟨some dst,.call ⟨.builtin .append, #[d,s], #[t,tn]⟩,ty,pos,after,g'⟩::rest) k e L F Q:=by
 obtain⟨j,rfl⟩:∃j:Nat,m=j:=⟨m.toNat,by omega⟩;simp only[Int.toNat_natCast] at hroom h63 hbig h;refine Xp (λr L' F'=>∃b' q tl,n+j<=q/\q<=maxLen/\tl.length=(q-n)*sz/\r = .slice (some ⟨b',0,none⟩) (n+j) q/\L' = .blk b' (cs.take (n*sz)++tl) u::L/\F' = F) hg hd (λa w he hst =>?_) (λr L' F' ⟨b',q,tl,a1,a2,a3,hr,hL,hF⟩=>by rw[hr,hL,hF];exact h b' q tl a1 a2 a3);obtain⟨hu,i0,z,hi0,hz,hsz,hby,hzs,hpos⟩:=hT;have htn':cx.P.underlying tn=some (.int kn):=by
  split at htn
  ·rename_i k' hk;rw[hk,of_decide_eq_true htn]
  ·cases htn
 have hok:(Ent.blk g cs u').ok w:=hst.ok _ (List.mem_of_getElem? hi);have hold:(Builtin.firstCells i0.size n (.slice (some ⟨g,0,none⟩) n cap)).run cx.P w.drew = .ok (cs.take (n*sz)).toArray w.drew:=run_firstCells_some (P:=cx.P) w.drew i0.size n ⟨g,0,none⟩ n cap (cs.take (n*sz)) (by rw[hsz,List.length_take];exact Nat.min_eq_left hn) (λj v hj=>by
  rw[add_mk,Nat.zero_add];have hc:w.cell? ⟨g,j,none⟩=some v:=by
   refine Aff hok ?_;rw[List.getElem?_take] at hj;split at hj
   ·exact hj
   ·cases hj
  simpa using hc)
 have hrun:=Lib.run_append_grow_zeros (P:=cx.P) w t tn ty u i0 z kq kn hu htn' hi0 hz (some ⟨g,0,none⟩) n cap (cs.take (n*sz)) hold j (by omega) (by omega) hroom (by simp only[maxLen] at h63;omega) (by rw[hby];have:j*by_<=(n+j)*by_:=Nat.mul_le_mul_right _ (by omega);omega) (by rw[hby];exact growslice_fits hroom hbig)
 have hge:=grownCap_ge w (n+j) cap u;refine⟨_,_,_,F,?_,(hst.quiet (Chg.drew [] w)).alloc (cs.take (n*sz)++((Builtin.zeroCells z.cells j).toList++(Builtin.zeroCells z.cells (grownCap w (n+j) cap u-(n+j))).toList)) u,w.heap.size,grownCap w (n+j) cap u,_,hge,grownCap_le_maxLen w _ _ _ h63,?_,rfl,rfl,rfl⟩
 ·simp only[execOp,resolve,invoke,builtin,Sem.run_bind,Sem.run_pure,Result.andThen_ok,List.map_toArray,Zw1,List.map_nil,he.ev hx,he.ev hy,hrun];congr 3;apply Array.ext';simp
 ·simp only[Zh1,Array.length_toList,Builtin.zeroCells,Array.size_map,Array.size_range,hzs];rw[<-Nat.add_mul];congr 1;omega
theorem Bg1{op:Op}{t:TypeId}{pos:String}{after:Array Edge}{g:Option (Nat×Bool)}(R:Value->Loc->(World->Prop)->Prop)(hg:Gd ops e g=some true)
  (hr:∀a w,EnvOk cx.n e a->StOk cx L F w->∃v w' L' F',(execOp a.eval ⟨none,op,t,pos,after,g⟩).run cx.P w = .ok (.value v) w'/\StOk cx L' F' w'/\R v L' F')
  (h:∀v L' F',R v L' F'->O cx ops rest k e L' F' Q) :
  O cx ops (⟨none,op,t,pos,after,g⟩::rest) k e L F Q :=.mk λa w he hs=>by
 have hw:=Gd.wanted (o:=⟨none,op,t,pos,after,g⟩) he hg;obtain⟨v,w',L',F',hrun,hs',hR⟩:=hr a w he hs;simp only[wpList,hw,if_true,Oper.wp];left;rw[hrun];simp only[Oper.upon,Act.put];exact(h v L' F' hR).run _ w' he hs'
theorem Azp{s:Operand}{t ty u u':TypeId}{pos:String}{after:Array Edge}{g':Option (Nat×Bool)}{g o n cap sz by_:Nat}{cs:List Value}(i:Nat)(hg:Gd ops e g' = some true)(hT:ElTy cx.P t u sz by_)
  (hx:Env.ev e s=some (.slice (some ⟨g,o,none⟩) n cap)) (hi:L[i]? = some (.blk g cs u')) (hfit:o+n*sz<=cs.length) (hz1:(match tyZero cx.P u with|some zs=>zs.all one|none=>false)=true)
  (h:∀tl,tl.length=n*sz->O cx ops rest k e (L.set i (.blk g (cs.take o++tl++cs.drop (o+n*sz)) u')) F Q) :
  O cx ops (⟨none,.call ⟨.builtin .clear, #[s], #[t]⟩,ty,pos,after,g'⟩::rest) k e L F Q:=by
 refine Bg1 (λr L' F'=>∃tl,tl.length=n*sz/\r = .tuple #[]/\L' = L.set i (.blk g (cs.take o++tl++cs.drop (o+n*sz)) u')/\F' = F) hg (λa w he hst =>?_) (λr L' F' ⟨tl,a1,hr,hL,hF⟩=>by rw[hL,hF];exact h tl a1);obtain⟨hu,i0,z,hi0,hz,hsz,hby,hzs,hpos⟩:=hT;have hgh:w.heap[g]? = some (.cells cs.toArray u' (0,0)):=hst.ok _ (List.mem_of_getElem? hi);have hzv:∀w,(zeroValue u).run cx.P w = .ok z w:=λw=>by simp[zeroValue,typeInfo,go_sem,hi0,hz]
 have hzo:∀v,v∈z.cells.toList->one v=true:=by
  have hz2:tyZero cx.P u=some z.cells.toList:=by simp[tyZero,hi0,hz]
  rw[hz2] at hz1;exact Zf2.1 hz1
 have hzl:(Builtin.zeroCells z.cells n).toList.length=n*sz:=by simp[Builtin.zeroCells,hzs]
 have hst1:∀v,v∈(Builtin.zeroCells z.cells n).toList->v.oneCell' = true:=λv hv=>by
  simp only[Builtin.zeroCells,Array.toList_map,List.mem_map] at hv;obtain⟨j,hj,rfl⟩:=hv;refine one_oneCell (hzo _ ?_);have hp : 0<z.cells.size:=by omega
  have hlt:j % z.cells.size<z.cells.size:=Nat.mod_lt _ hp;rw[getElem!_pos z.cells _ hlt];simp
 have hrs:=run_storeCells_at cx.P g o u' (Builtin.zeroCells z.cells n).toList 0 cs.toArray w hgh (by simp only[Nat.add_zero,hzl];simpa using hfit) hst1;simp only[Nat.add_zero] at hrs;rw[hzl] at hrs;by_cases hn0:n=0
 ·subst hn0;refine⟨.tuple #[],w,L.set i (.blk g (cs.take o++[]++cs.drop (o+0*sz)) u'),F,?_,?_,[],by simp,rfl,by simp,rfl⟩
  ·simp[execOp,resolve,invoke,builtin,he.ev hx,Builtin.clear_,run_underlying hu]
  ·have:cs.take o++[]++cs.drop (o+0*sz)=cs:=by simp
   rw[this];have hs:L.set i (.blk g cs u')=L:=by
    apply List.ext_getElem?;intro q;rw[List.getElem?_set];split
    ·rename_i e1;subst e1;rw[hi];split
     ·rfl
     ·rename_i e2;have:=(Zh2.1 hi).1;omega
    ·rfl
   rw[hs];exact hst
 ·refine⟨.tuple #[],_,_,F,?_,hst.setRow (cs':=cs.take o++(Builtin.zeroCells z.cells n).toList++cs.drop (o+n*sz)) i hi,_,hzl,rfl,rfl,rfl⟩;obtain⟨q,rfl⟩:∃q,n=q+1:=⟨n-1,by omega⟩;simp[execOp,resolve,invoke,builtin,he.ev hx,Builtin.clear_,run_underlying hu,hzv,hrs]
theorem Bil{P:Program}{x:Operand}{t:TypeId}{a:Option Addr}{n c:Nat}(sz:Nat)(ht:(elSz P t == some sz)=true)(hx:Env.ev e x=some (.slice a n c)):Pure P e (.call ⟨.builtin .cap, #[x], #[t]⟩) (.int .i64 c):=λm a' w o he ho=>by obtain⟨u,hu,hs⟩:=Gw (n:=sz) (by simpa using ht);simp[execOp,ho,resolve,invoke,builtin,he.ev hx,Builtin.cap_,run_underlying hu,goInt]
theorem Ae8{P:Program}{t:TypeId}{x z:Operand}{a:Option Addr}{n c:Nat}{jk:IntKind}{j:Int}(sz:Nat)(ht:(elSz P t == some sz)=true)(hx:Env.ev e x=some (.slice a n c))(hz:Env.ev e z=some (.int jk j))(h : 0<=j/\j<=n) :
  Pure P e (.slice t x (some z) none none) (.slice (if c=j.toNat then a else a.map (λp=>p.add (j.toNat*sz))) (n-j.toNat) (c-j.toNat)):=λn' a' w o he ho=>by
 obtain⟨u,hu,hs⟩:=Gw (n:=sz) (by simpa using ht);have hr:(Instr.sliceAt t (.slice a n c) (some (.int jk j)) none none).run P w = .ok (.slice (if c=j.toNat then a else a.map (λp=>p.add (j.toNat*sz))) (n-j.toNat) (c-j.toNat)) w:=by simp only[Instr.sliceAt,Instr.slice,Sem.run_bind,run_underlying hu,Result.andThen_ok,Instr.sliceBounds,Instr.sliceBound,asIntOf,Sem.run_pure,if_pos h,run_sizeOf hs]
 simp only[execOp,ho,Sem.run_bind,he.ev hx,he.ev hz,Zk2,Option.map_none,hr,Result.andThen_ok,Sem.run_pure]
theorem Kg{P:Program}{t:TypeId}{x z:Operand}{g off n c:Nat}{jk:IntKind}{j:Int}(sz:Nat)(ht:(elSz P t == some sz)=true)(hx:Env.ev e x=some (.slice (some ⟨g,off,none⟩) n c))(hz:Env.ev e z=some (.int jk j))(h : 0<=j/\j<=n/\j<c) :
  Pure P e (.slice t x (some z) none none) (.slice (some ⟨g,off+j.toNat*sz,none⟩) (n-j.toNat) (c-j.toNat)):=by
 have:=Ae8 (P:=P) sz ht hx hz ⟨h.1,h.2.1⟩;rw[if_neg (by omega),Zk2,add_mk] at this;exact this
theorem Be4{P:Program}{t:TypeId}{x z:Operand}{a:Option Addr}{n c:Nat}{jk:IntKind}{j:Int}(sz:Nat)(ht:(elSz P t == some sz)=true)(hx:Env.ev e x=some (.slice a n c))(hz:Env.ev e z=some (.int jk j))(h : 0<=j/\j<=n/\c=j.toNat) :
  Pure P e (.slice t x (some z) none none) (.slice a (n-j.toNat) (c-j.toNat)):=by
 have:=Ae8 (P:=P) sz ht hx hz ⟨h.1,h.2.1⟩;rw[if_pos h.2.2] at this;exact this
theorem A1e{P:Program}{t:TypeId}{x zi zj:Operand}{g off n c:Nat}{ki kj:IntKind}{i j:Int}(sz:Nat)(ht:(elSz P t == some sz)=true)(hx:Env.ev e x=some (.slice (some ⟨g,off,none⟩) n c))(hi:Env.ev e zi=some (.int ki i))(hj:Env.ev e zj=some (.int kj j))(h : 0<=i/\i<=j/\j<=c/\i<c) :
  Pure P e (.slice t x (some zi) (some zj) none) (.slice (some ⟨g,off+i.toNat*sz,none⟩) (j.toNat-i.toNat) (c-i.toNat)):=λn' a' w o he ho=>by
 obtain⟨u,hu,hs⟩:=Gw (n:=sz) (by simpa using ht);have h2 : 0<=j/\j<=(c:Int):=by omega
 have h3 : 0<=i/\i<=(j.toNat:Int):=by omega
 have hne:¬c=i.toNat:=by omega
 have hr:(Instr.sliceAt t (.slice (some ⟨g,off,none⟩) n c) (some (.int ki i)) (some (.int kj j)) none).run P w = .ok (.slice (some ⟨g,off+i.toNat*sz,none⟩) (j.toNat-i.toNat) (c-i.toNat)) w:=by simp only[Instr.sliceAt,Instr.slice,Sem.run_bind,run_underlying hu,Result.andThen_ok,Instr.sliceBounds,Instr.sliceBound,asIntOf,Sem.run_pure,if_pos h2,if_pos h3,run_sizeOf hs,if_neg hne,Zk2,add_mk]
 simp only[execOp,ho,Sem.run_bind,he.ev hx,he.ev hi,he.ev hj,Zk2,Option.map_none,hr,Result.andThen_ok,Sem.run_pure]
theorem Bir{P:Program}{t:TypeId}{x zi zj zk:Operand}{a:Option Addr}{n c:Nat}{ki kj kk:IntKind}{i j q:Int}(sz:Nat)(ht:(elSz P t == some sz)=true)(hx:Env.ev e x=some (.slice a n c))(hi:Env.ev e zi=some (.int ki i))(hj:Env.ev e zj=some (.int kj j))(hk:Env.ev e zk=some (.int kk q))(h : 0<=i/\i<=j/\j<=q/\q<=c) :
  Pure P e (.slice t x (some zi) (some zj) (some zk)) (.slice (if q.toNat=i.toNat then a else a.map (λp=>p.add (i.toNat*sz))) (j.toNat-i.toNat) (q.toNat-i.toNat)):=λn' a' w o he ho=>by
 obtain⟨u,hu,hs⟩:=Gw (n:=sz) (by simpa using ht);have h1 : 0<=q/\q<=(c:Int):=by omega
 have h2 : 0<=j/\j<=(q.toNat:Int):=by omega
 have h3 : 0<=i/\i<=(j.toNat:Int):=by omega
 have hr:(Instr.sliceAt t (.slice a n c) (some (.int ki i)) (some (.int kj j)) (some (.int kk q))).run P w = .ok (.slice (if q.toNat=i.toNat then a else a.map (λp=>p.add (i.toNat*sz))) (j.toNat-i.toNat) (q.toNat-i.toNat)) w:=by simp only[Instr.sliceAt,Instr.slice,Sem.run_bind,run_underlying hu,Result.andThen_ok,Instr.sliceBounds,Instr.sliceBound,asIntOf,Sem.run_pure,if_pos h1,if_pos h2,if_pos h3,run_sizeOf hs]
 simp only[execOp,ho,Sem.run_bind,he.ev hx,he.ev hi,he.ev hj,he.ev hk,Zk2,hr,Result.andThen_ok,Sem.run_pure]
end
end Go.Sx
namespace Go.Ax
theorem Ct{s:Str}{i:Nat}(h:i<s.length):bat s (i:Int)=((s[i]'h).toNat:Int):=by simp[bat,List.getD_eq_getElem?_getD,h]
theorem A0{c:Ck}{xs:List (El c)}{i:Nat}(h:i<xs.length):at' c xs (i:Int)=xs[i]'h:=by simp[at',List.getD_eq_getElem?_getD,h]
theorem Bb0{n:Nat}(h:ln n):wr .i64 (n:Int)=(n:Int):=Dr (by simp only[ln,inI] at *;omega)
theorem Ay{i n:Nat}(h:i<n)(hn:ln n):wr .i64 ((i:Int)+1)=((i+1:Nat):Int):=by rw[Dr (by simp only[ln,inI] at *;omega)];rfl
theorem Au{α:Type}{l:List α}{i:Nat}(h:i<l.length):l.drop i=l[i]'h::l.drop (i+1):=List.drop_eq_getElem_cons h
theorem A1{i n:Nat}(h:i<n):inb (i:Int) n=true:=by simp[Be3,h]
theorem Bu{V R:Type}{step:(V->Option R)->V->Option R}{k:Nat}{v:V}:Aq step (k+1) v=step (Aq step k) v:=rfl
theorem Ah{α:Type}{a b : α}:cond true a b=a:=rfl
theorem Al{α:Type}{a b : α}:cond false a b=b:=rfl
theorem Az{α:Type}{c:Bool}{a b : α}:cond c (some a) (some b)=some (cond c a b):=by cases c<;>rfl
theorem Ed{V R β:Type}{step:(V->Option R)->V->Option R}(n:Nat)(st:Nat->β->V)(Inv:Nat->β->Prop)(F:Nat->β->Option R)
  (hs:∀i,i<n->∀a,Inv i a->∀rec,(∀a',Inv (i+1) a'->rec (st (i+1) a')=F (i+1) a')->step rec (st i a)=F i a)
  (he:∀a,Inv n a->∀rec,step rec (st n a)=F n a):∀(k i:Nat) (a : β),i<=n->n-i<k->Inv i a->Aq step k (st i a)=F i a
 |0,_,_,_,h,_=>absurd h (Zm1 _)
 |k+1,i,a,hi,h,ha=>by
  rw[Bu];by_cases hl:i<n
  ·exact hs i hl a ha _ λa' ha'=>Ed n st Inv F hs he k (i+1) a' (by omega) (by omega) ha'
  ·obtain rfl:i=n:=by omega
   exact he a ha _
theorem Bh{V R:Type}{step:(V->Option R)->V->Option R}(n:Nat)(st:Nat->V)(F:Nat->Option R)
  (hs:∀i,i<n->∀rec,rec (st (i+1))=F (i+1)->step rec (st i)=F i) (he:∀rec,step rec (st n)=F n):∀(k i:Nat),i<=n->n-i<k->Aq step k (st i)=F i:=λk i hi hk =>
 Ed n (λi (_:Unit)=>st i) (λ_ _=>True) (λi _=>F i) (λi hi _ _ rec h=>hs i hi rec (h () trivial)) (λ_ _ rec=>he rec) k i () hi hk trivial
theorem Dw{i n:Nat}(h:i<n):decide ((i:Int)<(n:Int))=true:=Ze1 (by omega)
theorem Dv(n:Nat):decide ((n:Int)<(n:Int))=false:=Zd1 (by omega)
def H1(e:Xpr):Xpr:=Xpr.mk e.kind ⟨e.v.kind,e.v.n,e.v.s⟩ e.name e.l
theorem G2(e:Xpr):H1 e=e:=by cases e;rfl
end Go.Ax
namespace Go.Proofs.YtbkinkalnmbpjaaGreatDoor
open Go.Ax
def signsL:List (Int×Str):=[(4,[65,78,68]),(5,[79,82]),(6,[61]),(7,[60,62]),(8,[60]),(9,[60,61]),(10,[62]),(11,[62,61]),(12,[43]),(13,[45]),(14,[42])]
def wordsL:List Str:=[[65,68,68],[65,78,68],[65,83,67],[66,79,79,76],[66,89],[66,89,84,69,83],[67,72,69,67,75],[67,82,69,65,84,69],[68,69,76,69,84,69],[68,69,83,67],[68,82,79,80],[70,65,76,83,69],[70,82,79,77],[73,78,68,69,88],[73,78,83,69,82,84],[73,78,84],[73,78,84,79],[73,83],[75,69,89],[76,73,77,73,84],[78,79,84],[78,85,76,76],[79,78],[79,82],[79,82,68,69,82],[80,82,73,77,65,82,89],[82,69,70,69,82,69,78,67,69,83],[83,69,76,69,67,84],[83,69,84],[84,65,66,76,69],[84,69,88,84],[84,82,85,69],[85,78,73,81,85,69],[85,80,68,65,84,69],[86,65,76,85,69,83],[87,72,69,82,69]]
def Ao5:List Str:=[[],[],[66,79,79,76],[73,78,84],[84,69,88,84],[66,89,84,69,83]]
def ttL:List (Nat×Ax.Ty):=[
 (1,.fn),
 (3,.int .i64),
 (4,.bool),
 (5,.int .u8),
 (9,.str),
 (21,.int .i32),
 (22,.sl .col),
 (23,.sl .str),
 (24,.sl .expr),
 (25,.sl .idx),
 (27,.st (some .tbl) [(0,9),(1,22),(2,23),(3,24),(4,25)] [.str [],.sl .col [] .nil,.sl .str [] .nil,.sl .expr [] .nil,.sl .idx [] .nil]),
 (28,.sl .byte),
 (30,.sl .exprs),
 (31,.sl .set),
 (33,.st (some .val) [(0,3),(1,3),(2,9)] [.int .i64 0,.int .i64 0,.str []]),
 (35,.st (some .expr) [(0,3),(1,33),(4,9),(5,24)] [.int .i64 0,.int .i64 0,.int .i64 0,.str [],.str [],.sl .expr [] .nil]),
 (36,.sl .bool),
 (38,.st (some .stmt) [(0,3),(1,9),(2,9),(3,22),(4,23),(5,24),(6,30),(7,31),(8,4),(9,35),(15,23),(16,36),(17,3)] [.int .i64 0,.str [],.str [],.sl .col [] .nil,.sl .str [] .nil,.sl .expr [] .nil,.sl .exprs [] .nil,.sl .set [] .nil,.bool false,.int .i64 0,.int .i64 0,.int .i64 0,.str [],.str [],.sl .expr [] .nil,.sl .str [] .nil,.sl .bool [] .nil,.int .i64 0]),
 (40,.int .i64),
 (52,.sl .val),
 (70,.sl .bytes),
 (72,.st (some .idx) [(0,9),(1,23)] [.str [],.sl .str [] .nil]),
 (92,.st (some .col) [(0,9),(1,3),(2,4),(3,4),(4,9)] [.str [],.int .i64 0,.bool false,.bool false,.str []]),
 (101,.fn),
 (106,.st (some .set) [(0,9),(1,35)] [.str [],.int .i64 0,.int .i64 0,.int .i64 0,.str [],.str [],.sl .expr [] .nil]),
 (108,.ptr),
 (110,.st none [(0,108),(1,28)] [.nilp,.sl .byte [] .nil]),
 (112,.st none [(0,110)] [.nilp,.sl .byte [] .nil]),
 (118,.fn),
 (121,.int .u64),
 (130,.sl .int),
 (132,.st (some .num) [(0,4),(1,130)] [.bool false,.sl .int [] .nil]),
 (138,.ptr),
 (142,.sl .tok),
 (144,.st none [(0,142),(1,3)] [.sl .tok [] .nil,.int .i64 0]),
 (146,.st none [(0,144),(2,4),(3,3)] [.sl .tok [] .nil,.int .i64 0,.bool false,.int .i64 0]),
 (155,.fn),
 (164,.st (some .tok) [(0,3),(1,3),(2,9),(3,3)] [.int .i64 0,.int .i64 0,.str [],.int .i64 0]),
 (166,.st (some .got) [(0,3),(1,4)] [.int .i64 0,.bool false]),
 (174,.fn),
 (176,.fn),
 (184,.fn),
 (189,.fn),
 (193,.ptr),
 (202,.map),
 (203,.ptr),
 (204,.int .u64),
 (212,.ptr),
 (232,.arr 2 .int),
 (240,.fn),
 (247,.fn),
 (249,.fn),
 (251,.arr 6 .str),
 (252,.arr 2 .str),
 (256,.ptr),
 (259,.fn),
 (262,.fn),
 (289,.st (some .pair) [(0,9),(1,3)] [.str [],.int .i64 0]),
 (303,.arr 36 .str),
 (304,.sl .pair),
 (308,.arr 256 .byte),
 (310,.st none [(0,5),(1,5)] [.int .u8 0,.int .u8 0]),
 (312,.int .u32),
 (315,.fn)]
def elT:Ck->TypeId
 |.byte=>5
 |.int=>3
 |.u64=>121
 |.str=>9
 |.bool=>4
 |.val=>33
 |.tok=>164
 |.col=>92
 |.expr=>35
 |.num=>132
 |.set=>106
 |.stmt=>38
 |.got=>166
 |.pair=>289
 |.idx=>72
 |.tbl=>27
 |.vals=>52
 |.exprs=>24
 |.strs=>23
 |.bytes=>28
theorem Ayn:(ttL.all λp=>Cq Tryz.prog elT (Aos ttL) p.1)=true:=by kernel_rfl
def glT:Nat->Option Gv:=tbl [(0,.map signsL),(1,.arr .str Ao5),(2,.num .i64),(3,.arr .str wordsL)]
theorem follows:Tryz.prog.follows .mixedOrders=true:=by kernel_rfl
abbrev FO:=FnOk Tryz.prog elT glT
abbrev FM:=FnLn Tryz.prog elT glT
abbrev HX:=Hx Tryz.prog elT glT (Aos ttL)
def pxO{R:Type}(c:List (Nat×J8 R))(q:List (Nat×I4 R))(l:List (Nat×A78 R))(w:List (Nat×Vo R)):Px R:=⟨Aos ttL,glT,A2b c,Ap0 q,Bi7 l,tbl w⟩
abbrev cA{R:Type}{sa sr:List Sg}(F:FT sa sr):J8 R:=Aab sa sr F
abbrev qA{R:Type}{sa sr:List Sg}(F:FT sa sr):I4 R:=Wm sa sr F
theorem fR{f:FuncId}{fn:Func}{c:Code}{sa sr:List Sg}{px:Px (HV sr)}{F:FT sa sr}{n:Nat}(hf:Tryz.prog.funcs[f]? = some fn)(hb:fn.body=some c)(h:∀cx,HX cx->Lv cx px/\∀i,i<n->B9 cx px (lp fn i))(hF:∀x,Bdd px fn sa sr x some=F x)(hname:(fn.name == "runtime.NumGoroutine")=false:=by kernel_rfl)(hchk:(Od fn&&Nat.ble sa.length fn.ntmps&&D8 (Bg 0 sa) [])=true:=by kernel_rfl)(hn:Kp fn=n:=by kernel_rfl):FO f sa sr F:=fO (A8d Ayn) follows hf hb hname hchk hn h hF
theorem fRL{f:FuncId}{fn:Func}{c:Code}{sg so:Sig}{px:Px (HV so.sgs)}{F:FL sg so}{n:Nat}(hf:Tryz.prog.funcs[f]? = some fn)(hb:fn.body=some c)(h:∀cx,HX cx->Lv cx px/\∀i,i<n->B9 cx px (lp fn i))(hF:∀x,At1 px fn sg so x some=F x)(hname:(fn.name == "runtime.NumGoroutine")=false:=by kernel_rfl)(hchk:(Od fn&&Nat.ble sg.n fn.ntmps)=true:=by kernel_rfl)(hn:Kp fn=n:=by kernel_rfl):FM f sg so F:=fL (A8d Ayn) follows hf hb hname hchk hn h hF
end Go.Proofs.YtbkinkalnmbpjaaGreatDoor
namespace Go.Proofs.YtbkinkalnmbpjaaGreatDoor
open Go.Sx Go.RowKit
theorem Bgm:ElTy Tryz.prog 23 9 1 16:=elTy_of (by kernel_rfl)
theorem Bgf:ElTy Tryz.prog 22 92 5 48:=elTy_of (by kernel_rfl)
theorem A2m:ElTy Tryz.prog 24 35 6 80:=elTy_of (by kernel_rfl)
theorem Hr:ElTy Tryz.prog 25 72 2 40:=elTy_of (by kernel_rfl)
def Fz(t:TypeId)(sz n:Nat)(xs:List Value):Value->Sx.Loc->(World->Prop)->Prop:=λv L _=>L=[.row v t sz n xs]
theorem R5{cx:Sx.Cx}{L:Sx.Loc}{F:World->Prop}{t:TypeId}{sz n:Nat}{xs:List Value}{Φ:Sx.Loc->(World->Prop)->Prop}(hF:∀w,F w->n=0/\xs=[])(h : Φ (.row (.slice none 0 0) t sz n xs::L) F):Rt cx L F Φ :=.mk λw hs=>by obtain⟨h1,h2⟩:=hF w hs.here;subst h1 h2;exact⟨_,_,h,hs.newRow t sz⟩
theorem Adt{a:Option Addr}{n c sz:Nat}{xs:List Value}(ha:a.isNone=true)(w:World)(h:RdS (.slice a n c) sz n xs w):n=0/\xs=[]:=by
 obtain⟨hl,a',c',he,hr⟩:=h;have h0:n=0:=by
  rcases hr with h0|⟨b,off,e,_⟩
  ·exact h0
  ·simp only[Value.slice.injEq] at he;rw[he.1,e] at ha;cases ha
 subst h0;exact⟨rfl,List.eq_nil_of_length_eq_zero (by simpa using hl)⟩
set_option maxRecDepth 20000 in
theorem Aoy(a:Option Addr)(n c:Nat)(xs:List Value)(h1:xs.all one=true)(hbig:n<=1000000):Con Tryz.prog 84 [.slice a n c] [] (RdS (.slice a n c) 1 n xs) (Fz 9 1 n xs):=by
 refine C7 Tryz.func84 Tryz.ntmps84 rfl (by kernel_rfl) rfl λw M =>?_
 repeat' (first|(refine G9 ?_;(first|refine Dm ?_|(apply A8 rfl rfl;(first|exact p_move rfl|exact p_assign rfl|exact p_lensl (by dsimp only;decide +kernel) rfl|exact p_eql rfl rfl|exact p_gtr rfl rfl|exact p_not rfl|exact Ag rfl rfl (by omega)|exact Af rfl rfl (by omega)))|(apply A8 rfl rfl;exact Rp 1 (by dsimp only;decide +kernel) rfl rfl)|(refine Lt rfl rfl Bgm rfl rfl rfl rfl ?_;intro b)|fail))|(refine Hk ?_;(first|refine Dp ?_|refine Be ?_|refine B7 ?_|refine Bq (by dsimp only;decide +kernel) Ak ?_|(refine Bl rfl ?_ ?_<;>intro hc<;>try (first|contradiction|(exfalso;omega)))|(refine B5 rfl ?_ ?_<;>intro hc<;>try contradiction)|refine B8 rfl rfl ?_|fail))|(refine G5 ?_;(first|refine Dk ?_|(refine Bp Ak ?_)|fail)))
 ·exact R5 (Adt (by assumption)) rfl
 ·refine Wc 1 ?_;refine W2 0 rfl rfl Bgm rfl rfl rfl (X5 (λw h=>h)) h1 (by omega) (by omega) ?_;intro v'
  repeat' (first|(refine G9 ?_;(first|refine Dm ?_|(apply A8 rfl rfl;(first|exact p_move rfl|exact p_assign rfl|exact p_lensl (by dsimp only;decide +kernel) rfl|exact p_eql rfl rfl|exact p_gtr rfl rfl|exact p_not rfl|exact Ag rfl rfl (by omega)|exact Af rfl rfl (by omega)))|fail|fail))|(refine Hk ?_;(first|refine Dp ?_|refine Be ?_|refine B7 ?_|refine Bq (by dsimp only;decide +kernel) Ak ?_|(refine Bl rfl ?_ ?_<;>intro hc<;>try (first|contradiction|(exfalso;omega)))|(refine B5 rfl ?_ ?_<;>intro hc<;>try contradiction)|refine B8 rfl rfl ?_|fail))|(refine G5 ?_;(first|refine Dk ?_|(refine Bp Ak ?_)|fail)))
  refine Dz ?_;simp[Fz]
set_option maxRecDepth 20000 in
theorem Ao7(a:Option Addr)(n c:Nat)(xs:List Value)(h1:xs.all one=true)(hbig:n<=1000000):Con Tryz.prog 83 [.slice a n c] [] (RdS (.slice a n c) 5 n xs) (Fz 92 5 n xs):=by
 refine C7 Tryz.func83 Tryz.ntmps83 rfl (by kernel_rfl) rfl λw M =>?_
 repeat' (first|(refine G9 ?_;(first|refine Dm ?_|(apply A8 rfl rfl;(first|exact p_move rfl|exact p_assign rfl|exact p_lensl (by dsimp only;decide +kernel) rfl|exact p_eql rfl rfl|exact p_gtr rfl rfl|exact p_not rfl|exact Ag rfl rfl (by omega)|exact Af rfl rfl (by omega)))|(apply A8 rfl rfl;exact Rp 5 (by dsimp only;decide +kernel) rfl rfl)|(refine Lt rfl rfl Bgf rfl rfl rfl rfl ?_;intro b)|fail))|(refine Hk ?_;(first|refine Dp ?_|refine Be ?_|refine B7 ?_|refine Bq (by dsimp only;decide +kernel) Ak ?_|(refine Bl rfl ?_ ?_<;>intro hc<;>try (first|contradiction|(exfalso;omega)))|(refine B5 rfl ?_ ?_<;>intro hc<;>try contradiction)|refine B8 rfl rfl ?_|fail))|(refine G5 ?_;(first|refine Dk ?_|(refine Bp Ak ?_)|fail)))
 ·exact R5 (Adt (by assumption)) rfl
 ·refine Wc 5 ?_;refine W2 0 rfl rfl Bgf rfl rfl rfl (X5 (λw h=>h)) h1 (by omega) (by omega) ?_;intro v'
  repeat' (first|(refine G9 ?_;(first|refine Dm ?_|(apply A8 rfl rfl;(first|exact p_move rfl|exact p_assign rfl|exact p_lensl (by dsimp only;decide +kernel) rfl|exact p_eql rfl rfl|exact p_gtr rfl rfl|exact p_not rfl|exact Ag rfl rfl (by omega)|exact Af rfl rfl (by omega)))|fail|fail))|(refine Hk ?_;(first|refine Dp ?_|refine Be ?_|refine B7 ?_|refine Bq (by dsimp only;decide +kernel) Ak ?_|(refine Bl rfl ?_ ?_<;>intro hc<;>try (first|contradiction|(exfalso;omega)))|(refine B5 rfl ?_ ?_<;>intro hc<;>try contradiction)|refine B8 rfl rfl ?_|fail))|(refine G5 ?_;(first|refine Dk ?_|(refine Bp Ak ?_)|fail)))
  refine Dz ?_;simp[Fz]
set_option maxRecDepth 20000 in
theorem An2(a:Option Addr)(n c:Nat)(xs:List Value)(h1:xs.all one=true)(hbig:n<=1000000):Con Tryz.prog 153 [.slice a n c] [] (RdS (.slice a n c) 6 n xs) (Fz 35 6 n xs):=by
 refine C7 Tryz.func153 Tryz.ntmps153 rfl (by kernel_rfl) rfl λw M =>?_
 repeat' (first|(refine G9 ?_;(first|refine Dm ?_|(apply A8 rfl rfl;(first|exact p_move rfl|exact p_assign rfl|exact p_lensl (by dsimp only;decide +kernel) rfl|exact p_eql rfl rfl|exact p_gtr rfl rfl|exact p_not rfl|exact Ag rfl rfl (by omega)|exact Af rfl rfl (by omega)))|(apply A8 rfl rfl;exact Rp 6 (by dsimp only;decide +kernel) rfl rfl)|(refine Lt rfl rfl A2m rfl rfl rfl rfl ?_;intro b)|fail))|(refine Hk ?_;(first|refine Dp ?_|refine Be ?_|refine B7 ?_|refine Bq (by dsimp only;decide +kernel) Ak ?_|(refine Bl rfl ?_ ?_<;>intro hc<;>try (first|contradiction|(exfalso;omega)))|(refine B5 rfl ?_ ?_<;>intro hc<;>try contradiction)|refine B8 rfl rfl ?_|fail))|(refine G5 ?_;(first|refine Dk ?_|(refine Bp Ak ?_)|fail)))
 ·exact R5 (Adt (by assumption)) rfl
 ·refine Wc 6 ?_;refine W2 0 rfl rfl A2m rfl rfl rfl (X5 (λw h=>h)) h1 (by omega) (by omega) ?_;intro v'
  repeat' (first|(refine G9 ?_;(first|refine Dm ?_|(apply A8 rfl rfl;(first|exact p_move rfl|exact p_assign rfl|exact p_lensl (by dsimp only;decide +kernel) rfl|exact p_eql rfl rfl|exact p_gtr rfl rfl|exact p_not rfl|exact Ag rfl rfl (by omega)|exact Af rfl rfl (by omega)))|fail|fail))|(refine Hk ?_;(first|refine Dp ?_|refine Be ?_|refine B7 ?_|refine Bq (by dsimp only;decide +kernel) Ak ?_|(refine Bl rfl ?_ ?_<;>intro hc<;>try (first|contradiction|(exfalso;omega)))|(refine B5 rfl ?_ ?_<;>intro hc<;>try contradiction)|refine B8 rfl rfl ?_|fail))|(refine G5 ?_;(first|refine Dk ?_|(refine Bp Ak ?_)|fail)))
  refine Dz ?_;simp[Fz]
set_option maxRecDepth 20000 in
theorem Aoe(a:Option Addr)(n c:Nat)(xs:List Value)(h1:xs.all one=true)(hbig:n<=1000000):Con Tryz.prog 50 [.slice a n c] [] (RdS (.slice a n c) 2 n xs) (Fz 72 2 n xs):=by
 refine C7 Tryz.func50 Tryz.ntmps50 rfl (by kernel_rfl) rfl λw M =>?_
 repeat' (first|(refine G9 ?_;(first|refine Dm ?_|(apply A8 rfl rfl;(first|exact p_move rfl|exact p_assign rfl|exact p_lensl (by dsimp only;decide +kernel) rfl|exact p_eql rfl rfl|exact p_gtr rfl rfl|exact p_not rfl|exact Ag rfl rfl (by omega)|exact Af rfl rfl (by omega)))|(apply A8 rfl rfl;exact Rp 2 (by dsimp only;decide +kernel) rfl rfl)|(refine Lt rfl rfl Hr rfl rfl rfl rfl ?_;intro b)|fail))|(refine Hk ?_;(first|refine Dp ?_|refine Be ?_|refine B7 ?_|refine Bq (by dsimp only;decide +kernel) Ak ?_|(refine Bl rfl ?_ ?_<;>intro hc<;>try (first|contradiction|(exfalso;omega)))|(refine B5 rfl ?_ ?_<;>intro hc<;>try contradiction)|refine B8 rfl rfl ?_|fail))|(refine G5 ?_;(first|refine Dk ?_|(refine Bp Ak ?_)|fail)))
 ·exact R5 (Adt (by assumption)) rfl
 ·refine Wc 2 ?_;refine W2 0 rfl rfl Hr rfl rfl rfl (X5 (λw h=>h)) h1 (by omega) (by omega) ?_;intro v'
  repeat' (first|(refine G9 ?_;(first|refine Dm ?_|(apply A8 rfl rfl;(first|exact p_move rfl|exact p_assign rfl|exact p_lensl (by dsimp only;decide +kernel) rfl|exact p_eql rfl rfl|exact p_gtr rfl rfl|exact p_not rfl|exact Ag rfl rfl (by omega)|exact Af rfl rfl (by omega)))|fail|fail))|(refine Hk ?_;(first|refine Dp ?_|refine Be ?_|refine B7 ?_|refine Bq (by dsimp only;decide +kernel) Ak ?_|(refine Bl rfl ?_ ?_<;>intro hc<;>try (first|contradiction|(exfalso;omega)))|(refine B5 rfl ?_ ?_<;>intro hc<;>try contradiction)|refine B8 rfl rfl ?_|fail))|(refine G5 ?_;(first|refine Dk ?_|(refine Bp Ak ?_)|fail)))
  refine Dz ?_;simp[Fz]
set_option maxRecDepth 20000 in
theorem Ajd(a:Option Addr)(c:Nat):Con Tryz.prog 153 [.slice a 0 c] [] (λ_=>True) (λv _ _=>∃a',v = .slice a' 0 0):=by
 refine C7 Tryz.func153 Tryz.ntmps153 rfl (by kernel_rfl) rfl λw M =>?_
 repeat' (first|(refine G9 ?_;(first|refine Dm ?_|(apply A8 rfl rfl;(first|exact p_move rfl|exact p_assign rfl|exact p_lensl (by dsimp only;decide +kernel) rfl|exact p_eql rfl rfl|exact p_gtr rfl rfl|exact p_not rfl|exact Ag rfl rfl (by omega)|exact Af rfl rfl (by omega)))|(apply A8 rfl rfl;exact Rp 6 (by dsimp only;decide +kernel) rfl rfl)|(refine Lt rfl rfl A2m rfl rfl rfl rfl ?_;intro b)|(apply A8 rfl rfl;exact Al0 A2m rfl rfl)|fail))|(refine Hk ?_;(first|refine Dp ?_|refine Be ?_|refine B7 ?_|refine Bq (by dsimp only;decide +kernel) Ak ?_|(refine Bl rfl ?_ ?_<;>intro hc<;>try (first|contradiction|(exfalso;omega)))|(refine B5 rfl ?_ ?_<;>intro hc<;>try contradiction)|refine B8 rfl rfl ?_|fail))|(refine G5 ?_;(first|refine Dk ?_|(refine Bp Ak ?_)|fail)))
 ·exact Dz ⟨_,rfl⟩
 ·exact Dz ⟨_,rfl⟩
set_option maxRecDepth 20000 in
theorem Aji(a:Option Addr)(c:Nat):Con Tryz.prog 50 [.slice a 0 c] [] (λ_=>True) (λv _ _=>∃a',v = .slice a' 0 0):=by
 refine C7 Tryz.func50 Tryz.ntmps50 rfl (by kernel_rfl) rfl λw M =>?_
 repeat' (first|(refine G9 ?_;(first|refine Dm ?_|(apply A8 rfl rfl;(first|exact p_move rfl|exact p_assign rfl|exact p_lensl (by dsimp only;decide +kernel) rfl|exact p_eql rfl rfl|exact p_gtr rfl rfl|exact p_not rfl|exact Ag rfl rfl (by omega)|exact Af rfl rfl (by omega)))|(apply A8 rfl rfl;exact Rp 2 (by dsimp only;decide +kernel) rfl rfl)|(refine Lt rfl rfl Hr rfl rfl rfl rfl ?_;intro b)|(apply A8 rfl rfl;exact Al0 Hr rfl rfl)|fail))|(refine Hk ?_;(first|refine Dp ?_|refine Be ?_|refine B7 ?_|refine Bq (by dsimp only;decide +kernel) Ak ?_|(refine Bl rfl ?_ ?_<;>intro hc<;>try (first|contradiction|(exfalso;omega)))|(refine B5 rfl ?_ ?_<;>intro hc<;>try contradiction)|refine B8 rfl rfl ?_|fail))|(refine G5 ?_;(first|refine Dk ?_|(refine Bp Ak ?_)|fail)))
 ·exact Dz ⟨_,rfl⟩
 ·exact Dz ⟨_,rfl⟩
theorem Atd(cs tl:List Value)(n i j cap:Nat)(hij:i<j)(hjn:j<=n)(hnc:n<=cap)(hl:cs.length=cap*2)(htl:tl.length=(n-(i+(n-j)))*2)(X:List Value)(hX:X=(cs.drop (j*2)).take ((n-j)*2))(cs1:List Value)(h1:cs1=cs.take (i*2)++X++cs.drop (i*2+X.length)) :
  (cs1.take ((i+(n-j))*2)++tl++cs1.drop ((i+(n-j))*2+(n-(i+(n-j)))*2)).length=cs.length/\(cs1.take ((i+(n-j))*2)++tl++cs1.drop ((i+(n-j))*2+(n-(i+(n-j)))*2)).take ((i+(n-j))*2)=cs.take (i*2)++(cs.drop (j*2)).take ((n-j)*2):=by
 have hA:(cs.take (i*2)).length=i*2:=by simp;omega
 have hXl:X.length=(n-j)*2:=by rw[hX];simp;omega
 have hc1:cs1.length=cs.length:=by rw[h1];simp only[Zh1,hA,hXl,Za2];omega
 have ht:cs1.take ((i+(n-j))*2)=cs.take (i*2)++X:=by rw[h1];exact List.take_left' (by rw[Zh1,hA,hXl];omega)
 refine⟨?_,?_⟩
 ·simp only[Zh1,List.length_take,Za2,htl,hc1];omega
 ·rw[Zj1,List.take_append_of_le_length (by rw[ht,Zh1,hA,hXl];omega),List.take_take,Nat.min_self,ht,hX]
def Bfg(t:TypeId)(sz g n i j cap:Nat)(cs:List Value):Value->Sx.Loc->(World->Prop)->Prop:=λv L _=>∃cs',v = .slice (some ⟨g,0,none⟩) (i+(n-j)) cap/\L=[.blk g cs' t]/\cs'.length=cs.length/\cs'.take ((i+(n-j))*sz)=cs.take (i*sz)++(cs.drop (j*sz)).take ((n-j)*sz)
set_option maxRecDepth 20000 in
theorem Be0(g n i j cap:Nat)(cs:List Value)(hij:i<j)(hjn:j<=n)(hnc:n<=cap)(hl:cs.length=cap*2)(h1:∀v,v∈cs.take (n*2)->one v=true):Con Tryz.prog 51 [.slice (some ⟨g,0,none⟩) n cap,.int .i64 i,.int .i64 j] [.blk g cs 72] (λ_=>True) (Bfg 72 2 g n i j cap cs):=by
 refine C7 Tryz.func51 Tryz.ntmps51 rfl (by kernel_rfl) rfl λw M =>?_
 repeat' (first|(refine G9 ?_;(first|refine Dm ?_|(apply A8 rfl rfl;(first|exact p_move rfl|exact p_assign rfl|exact p_lensl (by dsimp only;decide +kernel) rfl|exact p_eql rfl rfl|exact p_gtr rfl rfl|exact p_not rfl|exact Ag rfl rfl (by omega)|exact Af rfl rfl (by omega)))|(apply A8 rfl rfl;exact Bir 2 (by dsimp only;decide +kernel) rfl rfl rfl rfl (by omega))|(apply A8 rfl rfl;exact Awq 2 (by dsimp only;decide +kernel) rfl rfl (by omega))|(apply A8 rfl rfl;exact Ae8 2 (by dsimp only;decide +kernel) rfl rfl (by omega))|fail))|(refine Hk ?_;(first|refine Dp ?_|refine Be ?_|refine B7 ?_|refine Bq (by dsimp only;decide +kernel) Ak ?_|(refine Bl rfl ?_ ?_<;>intro hc<;>try (first|contradiction|(exfalso;omega)))|(refine B5 rfl ?_ ?_<;>intro hc<;>try contradiction)|refine B8 rfl rfl ?_|fail))|(refine G5 ?_;(first|refine Dk ?_|(refine Bp Ak ?_)|fail))|(refine Sv ?_;(first|(apply Aj 0 rfl rfl rfl (by decide +kernel);(first|exact p_move rfl|exact p_assign rfl|exact p_lensl (by dsimp only;decide +kernel) rfl|exact p_eql rfl rfl|exact p_gtr rfl rfl|exact p_not rfl|exact Ag rfl rfl (by omega)|exact Af rfl rfl (by omega)))|refine d_off 0 rfl rfl rfl (by decide +kernel) ?_|(apply Aj 1 rfl rfl rfl (by decide +kernel);(first|exact p_move rfl|exact p_assign rfl|exact p_lensl (by dsimp only;decide +kernel) rfl|exact p_eql rfl rfl|exact p_gtr rfl rfl|exact p_not rfl|exact Ag rfl rfl (by omega)|exact Af rfl rfl (by omega)))|refine d_off 1 rfl rfl rfl (by decide +kernel) ?_|(apply Aj 2 rfl rfl rfl (by decide +kernel);(first|exact p_move rfl|exact p_assign rfl|exact p_lensl (by dsimp only;decide +kernel) rfl|exact p_eql rfl rfl|exact p_gtr rfl rfl|exact p_not rfl|exact Ag rfl rfl (by omega)|exact Af rfl rfl (by omega)))|refine d_off 2 rfl rfl rfl (by decide +kernel) ?_|(apply Aj 3 rfl rfl rfl (by decide +kernel);(first|exact p_move rfl|exact p_assign rfl|exact p_lensl (by dsimp only;decide +kernel) rfl|exact p_eql rfl rfl|exact p_gtr rfl rfl|exact p_not rfl|exact Ag rfl rfl (by omega)|exact Af rfl rfl (by omega)))|refine d_off 3 rfl rfl rfl (by decide +kernel) ?_|(apply Aj 4 rfl rfl rfl (by decide +kernel);(first|exact p_move rfl|exact p_assign rfl|exact p_lensl (by dsimp only;decide +kernel) rfl|exact p_eql rfl rfl|exact p_gtr rfl rfl|exact p_not rfl|exact Ag rfl rfl (by omega)|exact Af rfl rfl (by omega)))|refine d_off 4 rfl rfl rfl (by decide +kernel) ?_|(apply Aj 5 rfl rfl rfl (by decide +kernel);(first|exact p_move rfl|exact p_assign rfl|exact p_lensl (by dsimp only;decide +kernel) rfl|exact p_eql rfl rfl|exact p_gtr rfl rfl|exact p_not rfl|exact Ag rfl rfl (by omega)|exact Af rfl rfl (by omega)))|refine d_off 5 rfl rfl rfl (by decide +kernel) ?_|(apply Aj 6 rfl rfl rfl (by decide +kernel);(first|exact p_move rfl|exact p_assign rfl|exact p_lensl (by dsimp only;decide +kernel) rfl|exact p_eql rfl rfl|exact p_gtr rfl rfl|exact p_not rfl|exact Ag rfl rfl (by omega)|exact Af rfl rfl (by omega)))|refine d_off 6 rfl rfl rfl (by decide +kernel) ?_|(apply Aj 7 rfl rfl rfl (by decide +kernel);(first|exact p_move rfl|exact p_assign rfl|exact p_lensl (by dsimp only;decide +kernel) rfl|exact p_eql rfl rfl|exact p_gtr rfl rfl|exact p_not rfl|exact Ag rfl rfl (by omega)|exact Af rfl rfl (by omega)))|refine d_off 7 rfl rfl rfl (by decide +kernel) ?_|refine Ht (by decide +kernel) ?_|fail)))
 apply Aj 2 rfl rfl rfl (by decide +kernel) (Awq 2 (by dsimp only;decide +kernel) rfl rfl (by omega));by_cases hjc:j<cap
 ·apply Aj 5 rfl rfl rfl (by decide +kernel) (Kg 2 (by dsimp only;decide +kernel) rfl rfl (by omega));refine Az7 6 rfl (by decide +kernel) ?_;refine Yw 0 rfl rfl Hr rfl rfl rfl (R2 (n:=(n-j)*2) 0 rfl) ?_ ?_ ?_ ?_ rfl ?_
  ·simp only[Int.toNat_natCast,Nat.zero_add,List.length_take,Za2];omega
  ·simp only[Int.toNat_natCast];omega
  ·simp only[Int.toNat_natCast,Nat.zero_add,List.length_take,Za2];omega
  ·intro v hv;refine h1 v ?_;obtain⟨q,hq⟩:=List.getElem?_of_mem hv;rw[List.getElem?_take] at hq;split at hq
   ·rw[List.getElem?_drop] at hq;simp only[Int.toNat_natCast,Nat.zero_add] at hq;exact List.mem_of_getElem? ((List.getElem?_take_of_lt (by omega)).trans hq)
   ·cases hq
  ·repeat' (first|(refine G9 ?_;(first|refine Dm ?_|(apply A8 rfl rfl;(first|exact p_move rfl|exact p_assign rfl|exact p_lensl (by dsimp only;decide +kernel) rfl|exact p_eql rfl rfl|exact p_gtr rfl rfl|exact p_not rfl|exact Ag rfl rfl (by omega)|exact Af rfl rfl (by omega)))|(apply A8 rfl rfl;exact A1e 2 (by dsimp only;decide +kernel) rfl rfl rfl (by simp only[Int.toNat_natCast];omega))|fail))|(refine Hk ?_;(first|refine Dp ?_|refine Be ?_|refine B7 ?_|refine Bq (by dsimp only;decide +kernel) Ak ?_|(refine Bl rfl ?_ ?_<;>intro hc<;>try (first|contradiction|(exfalso;omega)))|(refine B5 rfl ?_ ?_<;>intro hc<;>try contradiction)|refine B8 rfl rfl ?_|fail))|(refine G5 ?_;(first|refine Dk ?_|(refine Bp Ak ?_)|fail))|(refine Sv ?_;(first|(apply Aj 0 rfl rfl rfl (by decide +kernel);(first|exact p_move rfl|exact p_assign rfl|exact p_lensl (by dsimp only;decide +kernel) rfl|exact p_eql rfl rfl|exact p_gtr rfl rfl|exact p_not rfl|exact Ag rfl rfl (by omega)|exact Af rfl rfl (by omega)))|refine d_off 0 rfl rfl rfl (by decide +kernel) ?_|(apply Aj 1 rfl rfl rfl (by decide +kernel);(first|exact p_move rfl|exact p_assign rfl|exact p_lensl (by dsimp only;decide +kernel) rfl|exact p_eql rfl rfl|exact p_gtr rfl rfl|exact p_not rfl|exact Ag rfl rfl (by omega)|exact Af rfl rfl (by omega)))|refine d_off 1 rfl rfl rfl (by decide +kernel) ?_|(apply Aj 2 rfl rfl rfl (by decide +kernel);(first|exact p_move rfl|exact p_assign rfl|exact p_lensl (by dsimp only;decide +kernel) rfl|exact p_eql rfl rfl|exact p_gtr rfl rfl|exact p_not rfl|exact Ag rfl rfl (by omega)|exact Af rfl rfl (by omega)))|refine d_off 2 rfl rfl rfl (by decide +kernel) ?_|(apply Aj 3 rfl rfl rfl (by decide +kernel);(first|exact p_move rfl|exact p_assign rfl|exact p_lensl (by dsimp only;decide +kernel) rfl|exact p_eql rfl rfl|exact p_gtr rfl rfl|exact p_not rfl|exact Ag rfl rfl (by omega)|exact Af rfl rfl (by omega)))|refine d_off 3 rfl rfl rfl (by decide +kernel) ?_|(apply Aj 4 rfl rfl rfl (by decide +kernel);(first|exact p_move rfl|exact p_assign rfl|exact p_lensl (by dsimp only;decide +kernel) rfl|exact p_eql rfl rfl|exact p_gtr rfl rfl|exact p_not rfl|exact Ag rfl rfl (by omega)|exact Af rfl rfl (by omega)))|refine d_off 4 rfl rfl rfl (by decide +kernel) ?_|(apply Aj 5 rfl rfl rfl (by decide +kernel);(first|exact p_move rfl|exact p_assign rfl|exact p_lensl (by dsimp only;decide +kernel) rfl|exact p_eql rfl rfl|exact p_gtr rfl rfl|exact p_not rfl|exact Ag rfl rfl (by omega)|exact Af rfl rfl (by omega)))|refine d_off 5 rfl rfl rfl (by decide +kernel) ?_|(apply Aj 6 rfl rfl rfl (by decide +kernel);(first|exact p_move rfl|exact p_assign rfl|exact p_lensl (by dsimp only;decide +kernel) rfl|exact p_eql rfl rfl|exact p_gtr rfl rfl|exact p_not rfl|exact Ag rfl rfl (by omega)|exact Af rfl rfl (by omega)))|refine d_off 6 rfl rfl rfl (by decide +kernel) ?_|(apply Aj 7 rfl rfl rfl (by decide +kernel);(first|exact p_move rfl|exact p_assign rfl|exact p_lensl (by dsimp only;decide +kernel) rfl|exact p_eql rfl rfl|exact p_gtr rfl rfl|exact p_not rfl|exact Ag rfl rfl (by omega)|exact Af rfl rfl (by omega)))|refine d_off 7 rfl rfl rfl (by decide +kernel) ?_|refine Ht (by decide +kernel) ?_|fail)))
   refine Azp 0 rfl Hr rfl rfl ?_ (by dsimp only;decide +kernel) ?_
   ·simp only[Int.toNat_natCast,Nat.zero_add,Zh1,List.length_take,Za2];omega
   ·intro tl htl
    repeat' (first|(refine G9 ?_;(first|refine Dm ?_|(apply A8 rfl rfl;(first|exact p_move rfl|exact p_assign rfl|exact p_lensl (by dsimp only;decide +kernel) rfl|exact p_eql rfl rfl|exact p_gtr rfl rfl|exact p_not rfl|exact Ag rfl rfl (by omega)|exact Af rfl rfl (by omega)))|fail|fail))|(refine Hk ?_;(first|refine Dp ?_|refine Be ?_|refine B7 ?_|refine Bq (by dsimp only;decide +kernel) Ak ?_|(refine Bl rfl ?_ ?_<;>intro hc<;>try (first|contradiction|(exfalso;omega)))|(refine B5 rfl ?_ ?_<;>intro hc<;>try contradiction)|refine B8 rfl rfl ?_|fail))|(refine G5 ?_;(first|refine Dk ?_|(refine Bp Ak ?_)|fail))|(refine Sv ?_;(first|(apply Aj 0 rfl rfl rfl (by decide +kernel);(first|exact p_move rfl|exact p_assign rfl|exact p_lensl (by dsimp only;decide +kernel) rfl|exact p_eql rfl rfl|exact p_gtr rfl rfl|exact p_not rfl|exact Ag rfl rfl (by omega)|exact Af rfl rfl (by omega)))|refine d_off 0 rfl rfl rfl (by decide +kernel) ?_|(apply Aj 1 rfl rfl rfl (by decide +kernel);(first|exact p_move rfl|exact p_assign rfl|exact p_lensl (by dsimp only;decide +kernel) rfl|exact p_eql rfl rfl|exact p_gtr rfl rfl|exact p_not rfl|exact Ag rfl rfl (by omega)|exact Af rfl rfl (by omega)))|refine d_off 1 rfl rfl rfl (by decide +kernel) ?_|(apply Aj 2 rfl rfl rfl (by decide +kernel);(first|exact p_move rfl|exact p_assign rfl|exact p_lensl (by dsimp only;decide +kernel) rfl|exact p_eql rfl rfl|exact p_gtr rfl rfl|exact p_not rfl|exact Ag rfl rfl (by omega)|exact Af rfl rfl (by omega)))|refine d_off 2 rfl rfl rfl (by decide +kernel) ?_|(apply Aj 3 rfl rfl rfl (by decide +kernel);(first|exact p_move rfl|exact p_assign rfl|exact p_lensl (by dsimp only;decide +kernel) rfl|exact p_eql rfl rfl|exact p_gtr rfl rfl|exact p_not rfl|exact Ag rfl rfl (by omega)|exact Af rfl rfl (by omega)))|refine d_off 3 rfl rfl rfl (by decide +kernel) ?_|(apply Aj 4 rfl rfl rfl (by decide +kernel);(first|exact p_move rfl|exact p_assign rfl|exact p_lensl (by dsimp only;decide +kernel) rfl|exact p_eql rfl rfl|exact p_gtr rfl rfl|exact p_not rfl|exact Ag rfl rfl (by omega)|exact Af rfl rfl (by omega)))|refine d_off 4 rfl rfl rfl (by decide +kernel) ?_|(apply Aj 5 rfl rfl rfl (by decide +kernel);(first|exact p_move rfl|exact p_assign rfl|exact p_lensl (by dsimp only;decide +kernel) rfl|exact p_eql rfl rfl|exact p_gtr rfl rfl|exact p_not rfl|exact Ag rfl rfl (by omega)|exact Af rfl rfl (by omega)))|refine d_off 5 rfl rfl rfl (by decide +kernel) ?_|(apply Aj 6 rfl rfl rfl (by decide +kernel);(first|exact p_move rfl|exact p_assign rfl|exact p_lensl (by dsimp only;decide +kernel) rfl|exact p_eql rfl rfl|exact p_gtr rfl rfl|exact p_not rfl|exact Ag rfl rfl (by omega)|exact Af rfl rfl (by omega)))|refine d_off 6 rfl rfl rfl (by decide +kernel) ?_|(apply Aj 7 rfl rfl rfl (by decide +kernel);(first|exact p_move rfl|exact p_assign rfl|exact p_lensl (by dsimp only;decide +kernel) rfl|exact p_eql rfl rfl|exact p_gtr rfl rfl|exact p_not rfl|exact Ag rfl rfl (by omega)|exact Af rfl rfl (by omega)))|refine d_off 7 rfl rfl rfl (by decide +kernel) ?_|refine Ht (by decide +kernel) ?_|fail)))
    refine Dz ?_;simp only[Int.toNat_natCast,Nat.zero_add] at htl ⊢;have hd:=Atd cs tl n i j cap hij hjn hnc hl htl _ rfl _ rfl;exact⟨_,rfl,rfl,hd.1,hd.2⟩
 ·apply Aj 5 rfl rfl rfl (by decide +kernel) (Be4 2 (by dsimp only;decide +kernel) rfl rfl (by omega));refine Az7 6 rfl (by decide +kernel) ?_;refine Yw 0 rfl rfl Hr rfl rfl rfl (R2 (n:=(n-j)*2) 0 rfl) ?_ ?_ ?_ ?_ rfl ?_
  ·simp only[Int.toNat_natCast,List.length_take,Za2];omega
  ·simp only[Int.toNat_natCast];omega
  ·simp only[Int.toNat_natCast,List.length_take,Za2];omega
  ·intro v hv;refine h1 v ?_;obtain⟨q,hq⟩:=List.getElem?_of_mem hv;rw[List.getElem?_take] at hq;split at hq
   ·rw[List.getElem?_drop] at hq;simp only[Nat.zero_add] at hq;exact List.mem_of_getElem? ((List.getElem?_take_of_lt (by omega)).trans hq)
   ·cases hq
  ·repeat' (first|(refine G9 ?_;(first|refine Dm ?_|(apply A8 rfl rfl;(first|exact p_move rfl|exact p_assign rfl|exact p_lensl (by dsimp only;decide +kernel) rfl|exact p_eql rfl rfl|exact p_gtr rfl rfl|exact p_not rfl|exact Ag rfl rfl (by omega)|exact Af rfl rfl (by omega)))|(apply A8 rfl rfl;exact A1e 2 (by dsimp only;decide +kernel) rfl rfl rfl (by simp only[Int.toNat_natCast];omega))|fail))|(refine Hk ?_;(first|refine Dp ?_|refine Be ?_|refine B7 ?_|refine Bq (by dsimp only;decide +kernel) Ak ?_|(refine Bl rfl ?_ ?_<;>intro hc<;>try (first|contradiction|(exfalso;omega)))|(refine B5 rfl ?_ ?_<;>intro hc<;>try contradiction)|refine B8 rfl rfl ?_|fail))|(refine G5 ?_;(first|refine Dk ?_|(refine Bp Ak ?_)|fail))|(refine Sv ?_;(first|(apply Aj 0 rfl rfl rfl (by decide +kernel);(first|exact p_move rfl|exact p_assign rfl|exact p_lensl (by dsimp only;decide +kernel) rfl|exact p_eql rfl rfl|exact p_gtr rfl rfl|exact p_not rfl|exact Ag rfl rfl (by omega)|exact Af rfl rfl (by omega)))|refine d_off 0 rfl rfl rfl (by decide +kernel) ?_|(apply Aj 1 rfl rfl rfl (by decide +kernel);(first|exact p_move rfl|exact p_assign rfl|exact p_lensl (by dsimp only;decide +kernel) rfl|exact p_eql rfl rfl|exact p_gtr rfl rfl|exact p_not rfl|exact Ag rfl rfl (by omega)|exact Af rfl rfl (by omega)))|refine d_off 1 rfl rfl rfl (by decide +kernel) ?_|(apply Aj 2 rfl rfl rfl (by decide +kernel);(first|exact p_move rfl|exact p_assign rfl|exact p_lensl (by dsimp only;decide +kernel) rfl|exact p_eql rfl rfl|exact p_gtr rfl rfl|exact p_not rfl|exact Ag rfl rfl (by omega)|exact Af rfl rfl (by omega)))|refine d_off 2 rfl rfl rfl (by decide +kernel) ?_|(apply Aj 3 rfl rfl rfl (by decide +kernel);(first|exact p_move rfl|exact p_assign rfl|exact p_lensl (by dsimp only;decide +kernel) rfl|exact p_eql rfl rfl|exact p_gtr rfl rfl|exact p_not rfl|exact Ag rfl rfl (by omega)|exact Af rfl rfl (by omega)))|refine d_off 3 rfl rfl rfl (by decide +kernel) ?_|(apply Aj 4 rfl rfl rfl (by decide +kernel);(first|exact p_move rfl|exact p_assign rfl|exact p_lensl (by dsimp only;decide +kernel) rfl|exact p_eql rfl rfl|exact p_gtr rfl rfl|exact p_not rfl|exact Ag rfl rfl (by omega)|exact Af rfl rfl (by omega)))|refine d_off 4 rfl rfl rfl (by decide +kernel) ?_|(apply Aj 5 rfl rfl rfl (by decide +kernel);(first|exact p_move rfl|exact p_assign rfl|exact p_lensl (by dsimp only;decide +kernel) rfl|exact p_eql rfl rfl|exact p_gtr rfl rfl|exact p_not rfl|exact Ag rfl rfl (by omega)|exact Af rfl rfl (by omega)))|refine d_off 5 rfl rfl rfl (by decide +kernel) ?_|(apply Aj 6 rfl rfl rfl (by decide +kernel);(first|exact p_move rfl|exact p_assign rfl|exact p_lensl (by dsimp only;decide +kernel) rfl|exact p_eql rfl rfl|exact p_gtr rfl rfl|exact p_not rfl|exact Ag rfl rfl (by omega)|exact Af rfl rfl (by omega)))|refine d_off 6 rfl rfl rfl (by decide +kernel) ?_|(apply Aj 7 rfl rfl rfl (by decide +kernel);(first|exact p_move rfl|exact p_assign rfl|exact p_lensl (by dsimp only;decide +kernel) rfl|exact p_eql rfl rfl|exact p_gtr rfl rfl|exact p_not rfl|exact Ag rfl rfl (by omega)|exact Af rfl rfl (by omega)))|refine d_off 7 rfl rfl rfl (by decide +kernel) ?_|refine Ht (by decide +kernel) ?_|fail)))
   refine Azp 0 rfl Hr rfl rfl ?_ (by dsimp only;decide +kernel) ?_
   ·simp only[Int.toNat_natCast,Nat.zero_add,Zh1,List.length_take,Za2];omega
   ·intro tl htl
    repeat' (first|(refine G9 ?_;(first|refine Dm ?_|(apply A8 rfl rfl;(first|exact p_move rfl|exact p_assign rfl|exact p_lensl (by dsimp only;decide +kernel) rfl|exact p_eql rfl rfl|exact p_gtr rfl rfl|exact p_not rfl|exact Ag rfl rfl (by omega)|exact Af rfl rfl (by omega)))|fail|fail))|(refine Hk ?_;(first|refine Dp ?_|refine Be ?_|refine B7 ?_|refine Bq (by dsimp only;decide +kernel) Ak ?_|(refine Bl rfl ?_ ?_<;>intro hc<;>try (first|contradiction|(exfalso;omega)))|(refine B5 rfl ?_ ?_<;>intro hc<;>try contradiction)|refine B8 rfl rfl ?_|fail))|(refine G5 ?_;(first|refine Dk ?_|(refine Bp Ak ?_)|fail))|(refine Sv ?_;(first|(apply Aj 0 rfl rfl rfl (by decide +kernel);(first|exact p_move rfl|exact p_assign rfl|exact p_lensl (by dsimp only;decide +kernel) rfl|exact p_eql rfl rfl|exact p_gtr rfl rfl|exact p_not rfl|exact Ag rfl rfl (by omega)|exact Af rfl rfl (by omega)))|refine d_off 0 rfl rfl rfl (by decide +kernel) ?_|(apply Aj 1 rfl rfl rfl (by decide +kernel);(first|exact p_move rfl|exact p_assign rfl|exact p_lensl (by dsimp only;decide +kernel) rfl|exact p_eql rfl rfl|exact p_gtr rfl rfl|exact p_not rfl|exact Ag rfl rfl (by omega)|exact Af rfl rfl (by omega)))|refine d_off 1 rfl rfl rfl (by decide +kernel) ?_|(apply Aj 2 rfl rfl rfl (by decide +kernel);(first|exact p_move rfl|exact p_assign rfl|exact p_lensl (by dsimp only;decide +kernel) rfl|exact p_eql rfl rfl|exact p_gtr rfl rfl|exact p_not rfl|exact Ag rfl rfl (by omega)|exact Af rfl rfl (by omega)))|refine d_off 2 rfl rfl rfl (by decide +kernel) ?_|(apply Aj 3 rfl rfl rfl (by decide +kernel);(first|exact p_move rfl|exact p_assign rfl|exact p_lensl (by dsimp only;decide +kernel) rfl|exact p_eql rfl rfl|exact p_gtr rfl rfl|exact p_not rfl|exact Ag rfl rfl (by omega)|exact Af rfl rfl (by omega)))|refine d_off 3 rfl rfl rfl (by decide +kernel) ?_|(apply Aj 4 rfl rfl rfl (by decide +kernel);(first|exact p_move rfl|exact p_assign rfl|exact p_lensl (by dsimp only;decide +kernel) rfl|exact p_eql rfl rfl|exact p_gtr rfl rfl|exact p_not rfl|exact Ag rfl rfl (by omega)|exact Af rfl rfl (by omega)))|refine d_off 4 rfl rfl rfl (by decide +kernel) ?_|(apply Aj 5 rfl rfl rfl (by decide +kernel);(first|exact p_move rfl|exact p_assign rfl|exact p_lensl (by dsimp only;decide +kernel) rfl|exact p_eql rfl rfl|exact p_gtr rfl rfl|exact p_not rfl|exact Ag rfl rfl (by omega)|exact Af rfl rfl (by omega)))|refine d_off 5 rfl rfl rfl (by decide +kernel) ?_|(apply Aj 6 rfl rfl rfl (by decide +kernel);(first|exact p_move rfl|exact p_assign rfl|exact p_lensl (by dsimp only;decide +kernel) rfl|exact p_eql rfl rfl|exact p_gtr rfl rfl|exact p_not rfl|exact Ag rfl rfl (by omega)|exact Af rfl rfl (by omega)))|refine d_off 6 rfl rfl rfl (by decide +kernel) ?_|(apply Aj 7 rfl rfl rfl (by decide +kernel);(first|exact p_move rfl|exact p_assign rfl|exact p_lensl (by dsimp only;decide +kernel) rfl|exact p_eql rfl rfl|exact p_gtr rfl rfl|exact p_not rfl|exact Ag rfl rfl (by omega)|exact Af rfl rfl (by omega)))|refine d_off 7 rfl rfl rfl (by decide +kernel) ?_|refine Ht (by decide +kernel) ?_|fail)))
    refine Dz ?_;simp only[Int.toNat_natCast,Nat.zero_add] at htl ⊢;have hd:=Atd cs tl n i j cap hij hjn hnc hl htl ((cs.drop 0).take ((n-j)*2)) (by rw[show n-j=0 by omega];simp) _ rfl;exact⟨_,rfl,rfl,hd.1,hd.2⟩
theorem Zz{P:Program}(w:World)(tS tR e:TypeId)(ht:P.underlying tS=some (.slice e))(size:Nat)(hz:∀w,(Go.sizeOf e).run P w = .ok size w)
  (a b:Addr) (la ca lb cb:Nat) (hne:a.block≠b.block) (c1 c2:Array Value) (t1 t2:TypeId) (f1:Nat×Nat)
  (ha:w.heap[a.block]? = some (.cells c1 t1 f1)) (hb:w.heap[b.block]? = some (.cells c2 t2 (0,0))) (h1:c1.size≠0) :
  (Extern.SlicesOverlaps.overlaps #[tS,tS] #[tR] #[.slice (some a) la ca,.slice (some b) lb cb]).run P w = .ok (.bool false) w:=by
 have hnb:(a.block != b.block)=true:=by simpa using hne
 have hnb':(a.block == b.block)=false:=by simpa using hne
 have hsa:w.shape? a.block=some (t1,c1.size):=by simp[World.shape?,ha]
 have hsb:w.shape? b.block=some (t2,c2.size):=by simp[World.shape?,hb]
 have hfb:∀o sp,w.frozen? ⟨b.block,o,sp⟩=false:=λo sp=>by simp[World.frozen?,hb]
 change Sem.run P (α:=Value) (do
  let some t:=(#[tS,tS]:Array TypeId)[0]? | stuck "slices.overlaps: no parameter types"
  let .slice elem <-underlying t|stuck "slices.overlaps: slice type expected"
  let size <-sizeOf elem;match(some a:Option Addr),(some b:Option Addr) with
  |some a,some b =>
   if la=0\/lb=0\/size=0 then pure (Value.bool false)
   else if a.block != b.block&&(<-frozen a)&&(<-frozen b) then unsupported .addressObserved
   else do
    if a.block != b.block then do
     noView a;noView b
     if <-mayBeOne a b then return Value.bool ((<-choose (.extern "sameAddr.stringBytes" 2)) == 1)
    pure (Value.bool (a.block == b.block&&a.off<b.off+lb*size&&b.off<a.off+la*size))
  |_,_=>pure (Value.bool false)) w=_
 by_cases h0:la=0\/lb=0\/size=0
 ·simp[run_underlying ht,hz,h0]
 ·obtain⟨k1,hk1⟩:∃k1,c1.size=k1+1:=⟨c1.size-1,by omega⟩;cases hf1:w.frozen? a<;>simp[run_underlying ht,hz,h0,hnb,hnb',frozen,noView,viewAt,mayBeOne,stringish,shape,Sem.run,hsa,hsb,hfb,hf1,hk1]
section
variable {cx:Sx.Cx}{k:List KI}{e:Sx.Env}{L:Sx.Loc}{F:World->Prop}{Q:Exit->Act->World->Prop}{ops:Array Oper}{rest:List Oper}
theorem Bfm{dst:Nat}{fo x y:Operand}{ts:Array TypeId}{t tS tR elem u':TypeId}{pos:String}{after:Array Edge}{g':Option (Nat×Bool)}{f:FuncId}{g go lb cb vb vo la ca sz:Nat}{cs:List Value}(i:Nat)(hg:Gd ops e g' = some true)(hd:Nat.blt dst cx.n=true)
  (hf:Env.ev e fo=some (.func (.func f) #[] #[])) (hx:Env.ev e x=some (.slice (some ⟨vb,vo,none⟩) la ca)) (hy:Env.ev e y=some (.slice (some ⟨g,go,none⟩) lb cb)) (hi:L[i]? = some (.blk g cs u')) (hne:vb≠g) (hsrc:∀w,F w->∃u,w.cell? ⟨vb,vo,none⟩=some u)
  (hrun:∀args w,(callFunc f args).run cx.P w=((Extern.SlicesOverlaps.overlaps #[tS,tS] #[tR] args).run cx.P w).andThen λv w' =>.ok (.value v) w') (ht:cx.P.underlying tS=some (.slice elem)) (hz:tySz cx.P elem=some sz)
  (h:O cx ops rest k ((dst,.bool false)::e) L F Q):O cx ops (⟨some dst,.call ⟨.value fo, #[x,y],ts⟩,t,pos,after,g'⟩::rest) k e L F Q:=by
 refine Xp (λr L' F'=>r = .bool false/\L' = L/\F' = F) hg hd (λa w he hst=>⟨.bool false,w,L,F,?_,hst,rfl,rfl,rfl⟩) (λr L' F' ⟨hr,hL,hF⟩=>by rw[hr,hL,hF];exact h);have hgh:w.heap[g]? = some (.cells cs.toArray u' (0,0)):=hst.ok _ (List.mem_of_getElem? hi);obtain⟨u,hu⟩:=hsrc w hst.here;obtain⟨c1,t1,f1,hh,hc1⟩:∃c1 t1 f1,w.heap[vb]? = some (.cells c1 t1 f1)/\c1.size≠0:=by
  unfold World.cell? at hu;split at hu
  ·rename_i c t' f' hh;refine⟨c,t',f',hh,λh0 =>?_⟩;simp only[Option.isSome_none,Zi2,if_false] at hu;have:=(Zg2.1 hu).1;omega
  ·cases hu
 have hov:=Zz (P:=cx.P) w tS tR elem ht sz (λw=>Sx.run_sizeOf hz w) ⟨vb,vo,none⟩ ⟨g,go,none⟩ la ca lb cb hne c1 _ t1 u' f1 hh hgh hc1;simp only[execOp,resolve,he.ev hf,he.ev hx,he.ev hy,Deferred.ofValue,Sem.run_bind,Sem.run_pure,Result.andThen_ok,invoke,List.map_toArray,Zw1,List.map_nil];rw[show(#[] ++ #[Value.slice (some ⟨vb,vo,none⟩) la ca,Value.slice (some ⟨g,go,none⟩) lb cb] ++ #[]:Array Value) = #[Value.slice (some ⟨vb,vo,none⟩) la ca,Value.slice (some ⟨g,go,none⟩) lb cb] by simp,hrun,hov];rfl
end
def put(c z:List Value)(o:Nat):List Value:=c.take o++z++c.drop (o+z.length)
theorem M3{c z:List Value}{o:Nat}(h:o+z.length<=c.length):(put c z o).length=c.length:=by simp only[put,Zh1,List.length_take,Za2];omega
theorem Ade{c z:List Value}{o:Nat}(h:o+z.length<=c.length)(q:Nat):(put c z o)[q]? = if o<=q/\q<o+z.length then z[q-o]? else c[q]? := by
 have ht:(c.take o).length=o:=by simp;omega
 simp only[put,Zj1];by_cases h1:q<o
 ·rw[List.getElem?_append_left (by omega),if_neg (by omega),List.getElem?_take,if_pos h1]
 ·rw[List.getElem?_append_right (by omega),ht];by_cases h2:q<o+z.length
  ·rw[List.getElem?_append_left (by omega),if_pos (by omega)]
  ·rw[List.getElem?_append_right (by omega),if_neg (by omega),List.getElem?_drop];congr 1;omega
def Aqr(cs ys:List Value)(i n:Nat):List Value:=cs.take (i*2)++ys++(cs.drop (i*2)).take ((n-i)*2)
theorem Asx{cs ys:List Value}{i n:Nat}(hin:i<=n)(hl:n*2<=cs.length)(hy:ys.length=2)(q:Nat):(Aqr cs ys i n)[q]? = if q<i*2 then cs[q]? else if q<i*2+2 then ys[q-i*2]? else if q<(n+1)*2 then cs[q-2]? else none:=by
 have ht:(cs.take (i*2)).length=i*2:=by simp;omega
 have hd:((cs.drop (i*2)).take ((n-i)*2)).length=(n-i)*2:=by simp;omega
 simp only[Aqr,Zj1];by_cases h1:q<i*2
 ·rw[List.getElem?_append_left (by omega),if_pos h1,List.getElem?_take,if_pos h1]
 ·rw[List.getElem?_append_right (by omega),ht,if_neg h1];by_cases h2:q<i*2+2
  ·rw[List.getElem?_append_left (by omega),if_pos h2]
  ·rw[List.getElem?_append_right (by omega),if_neg h2,hy,List.getElem?_take,List.getElem?_drop];by_cases h3:q<(n+1)*2
   ·rw[if_pos h3,if_pos (by omega)];congr 1;omega
   ·rw[if_neg h3,if_neg (by omega)]
theorem Bb4{cs ys Z:List Value}{i n:Nat}(hin:i<=n)(hl:(n+1)*2<=cs.length)(hy:ys.length=2)(hZ:Z=(cs.drop (i*2)).take ((n-i)*2)):(put (put cs Z ((i+1)*2)) ys (i*2)).length=cs.length/\(put (put cs Z ((i+1)*2)) ys (i*2)).take ((n+1)*2)=Aqr cs ys i n:=by
 have hZl:Z.length=(n-i)*2:=by rw[hZ];simp;omega
 have h1:(i+1)*2+Z.length<=cs.length:=by omega
 have h2:i*2+ys.length<=(put cs Z ((i+1)*2)).length:=by rw[M3 h1];omega
 refine⟨by rw[M3 h2,M3 h1],List.ext_getElem? λq =>?_⟩;rw[List.getElem?_take,Asx hin (by omega) hy,Ade h2,Ade h1,hZl,hy,hZ,List.getElem?_take,List.getElem?_drop];by_cases a1:q<(n+1)*2
 ·rw[if_pos a1];by_cases a2:q<i*2
  ·rw[if_neg (by omega),if_neg (by omega),if_pos a2]
  ·rw[if_neg a2];by_cases a3:q<i*2+2
   ·rw[if_pos (by omega),if_pos a3]
   ·rw[if_neg (by omega),if_neg a3,if_pos a1,if_pos (by omega),if_pos (by omega)];congr 1;omega
 ·rw[if_neg a1,if_neg (by omega),if_neg (by omega),if_neg a1]
theorem Bdu{cs ys c1 Z:List Value}{i n q:Nat}(hin:i<=n)(hl:n*2<=cs.length)(hy:ys.length=2)(hZ:Z=(cs.drop (i*2)).take ((n-i)*2))(hc1:c1.take (i*2)=cs.take (i*2))(hq:n+1<=q)(hcl:c1.length=q*2):(put (put c1 ys (i*2)) Z ((i+1)*2)).length=q*2/\(put (put c1 ys (i*2)) Z ((i+1)*2)).take ((n+1)*2)=Aqr cs ys i n:=by
 have hZl:Z.length=(n-i)*2:=by rw[hZ];simp;omega
 have h2:i*2+ys.length<=c1.length:=by omega
 have h1:(i+1)*2+Z.length<=(put c1 ys (i*2)).length:=by rw[M3 h2];omega
 refine⟨by rw[M3 h1,M3 h2,hcl],List.ext_getElem? λk =>?_⟩;rw[List.getElem?_take,Asx hin hl hy,Ade h1,Ade h2,hZl,hy,hZ,List.getElem?_take,List.getElem?_drop];have hck:k<i*2->c1[k]? = cs[k]? :=λhk=>by have:=congrArg (·[k]?) hc1;simpa[List.getElem?_take,hk] using this
 by_cases a1:k<(n+1)*2
 ·rw[if_pos a1];by_cases a2:k<i*2
  ·rw[if_neg (by omega),if_neg (by omega),if_pos a2,hck a2]
  ·rw[if_neg a2];by_cases a3:k<i*2+2
   ·rw[if_neg (by omega),if_pos (by omega),if_pos a3]
   ·rw[if_pos (by omega),if_pos (by omega),if_neg a3,if_pos a1];congr 1;omega
 ·rw[if_neg a1,if_neg (by omega),if_neg (by omega),if_neg a1]
def Bd9(t:TypeId)(g n i cap:Nat)(cs ys:List Value):Value->Sx.Loc->(World->Prop)->Prop:=λv L _ =>
 (∃cs',v = .slice (some ⟨g,0,none⟩) (n+1) cap/\n+1<=cap/\L=[.blk g cs' t]/\cs'.length=cs.length/\cs'.take ((n+1)*2)=Aqr cs ys i n) \/
 (∃b cap' cs',v = .slice (some ⟨b,0,none⟩) (n+1) cap'/\n+1<=cap'/\cap'<=maxLen/\L=[.blk b cs' t,.blk g cs t]/\cs'.length=cap'*2/\cs'.take ((n+1)*2)=Aqr cs ys i n)
theorem Bhl(args:Array Value)(w:World):(callFunc 154 args).run Tryz.prog w=((Extern.SlicesOverlaps.overlaps #[25,25] #[4] args).run Tryz.prog w).andThen λv w' =>.ok (.value v) w':=run_callFunc_extern Tryz.func154 (by kernel_rfl) rfl (by kernel_rfl) (e:=Extern.SlicesOverlaps.overlaps #[25,25] #[4]) (by kernel_rfl) args w
theorem Bgk{cs:List Value}{n i:Nat}(h1:∀v,v∈cs.take (n*2)->one v=true)(hin:i<=n){v:Value}(hv:v∈(cs.drop (i*2)).take ((n-i)*2)):one v=true:=by
 refine h1 v ?_;obtain⟨q,hq⟩:=List.getElem?_of_mem hv;rw[List.getElem?_take] at hq;split at hq
 ·rw[List.getElem?_drop] at hq;exact List.mem_of_getElem? ((List.getElem?_take_of_lt (by omega)).trans hq)
 ·cases hq
set_option maxRecDepth 20000 in
theorem Bf2(g n i cap vb vo vc:Nat)(cs ys:List Value)(hn : 0<n)(hin:i<=n)(hnc:n<=cap)(hl:cs.length=cap*2)(h1:∀v,v∈cs.take (n*2)->one v=true)(hy:ys.length=2)(hy1:∀v,v∈ys->one v=true)(hne:vb≠g)(hbig:n<=1000000) :
  Con Tryz.prog 90 [.slice (some ⟨g,0,none⟩) n cap,.int .i64 i,.slice (some ⟨vb,vo,none⟩) 1 vc] [.blk g cs 72] (λw=>∀(j:Nat) v,ys[j]? = some v->w.cell? ⟨vb,vo+j,none⟩=some v) (Bd9 72 g n i cap cs ys):=by
 refine C7 Tryz.func90 Tryz.ntmps90 rfl (by kernel_rfl) rfl λw M =>?_
 repeat' (first|(refine G9 ?_;(first|refine Dm ?_|(apply A8 rfl rfl;(first|exact p_move rfl|exact p_assign rfl|exact p_lensl (by dsimp only;decide +kernel) rfl|exact p_eql rfl rfl|exact p_gtr rfl rfl|exact p_not rfl|exact Ag rfl rfl (by omega)|exact Af rfl rfl (by omega)))|(apply A8 rfl rfl;exact Awq 2 (by dsimp only;decide +kernel) rfl rfl (by omega))|(apply A8 rfl rfl;exact Bil 2 (by dsimp only;decide +kernel) rfl)|(apply A8 rfl rfl;exact Kg 2 (by dsimp only;decide +kernel) rfl rfl (by omega))|(apply A8 rfl rfl;exact Ae8 2 (by dsimp only;decide +kernel) rfl rfl (by omega))|fail))|(refine Hk ?_;(first|refine Dp ?_|refine Be ?_|refine B7 ?_|refine Bq (by dsimp only;decide +kernel) Ak ?_|(refine Bl rfl ?_ ?_<;>intro hc<;>try (first|contradiction|(exfalso;omega)))|(refine B5 rfl ?_ ?_<;>intro hc<;>try contradiction)|refine B8 rfl rfl ?_|fail))|(refine G5 ?_;(first|refine Dk ?_|(refine Bp Ak ?_)|fail))|(refine Sv ?_;(first|(apply Aj 0 rfl rfl rfl (by decide +kernel);(first|exact p_move rfl|exact p_assign rfl|exact p_lensl (by dsimp only;decide +kernel) rfl|exact p_eql rfl rfl|exact p_gtr rfl rfl|exact p_not rfl|exact Ag rfl rfl (by omega)|exact Af rfl rfl (by omega)))|refine d_off 0 rfl rfl rfl (by decide +kernel) ?_|(apply Aj 1 rfl rfl rfl (by decide +kernel);(first|exact p_move rfl|exact p_assign rfl|exact p_lensl (by dsimp only;decide +kernel) rfl|exact p_eql rfl rfl|exact p_gtr rfl rfl|exact p_not rfl|exact Ag rfl rfl (by omega)|exact Af rfl rfl (by omega)))|refine d_off 1 rfl rfl rfl (by decide +kernel) ?_|(apply Aj 2 rfl rfl rfl (by decide +kernel);(first|exact p_move rfl|exact p_assign rfl|exact p_lensl (by dsimp only;decide +kernel) rfl|exact p_eql rfl rfl|exact p_gtr rfl rfl|exact p_not rfl|exact Ag rfl rfl (by omega)|exact Af rfl rfl (by omega)))|refine d_off 2 rfl rfl rfl (by decide +kernel) ?_|(apply Aj 3 rfl rfl rfl (by decide +kernel);(first|exact p_move rfl|exact p_assign rfl|exact p_lensl (by dsimp only;decide +kernel) rfl|exact p_eql rfl rfl|exact p_gtr rfl rfl|exact p_not rfl|exact Ag rfl rfl (by omega)|exact Af rfl rfl (by omega)))|refine d_off 3 rfl rfl rfl (by decide +kernel) ?_|(apply Aj 4 rfl rfl rfl (by decide +kernel);(first|exact p_move rfl|exact p_assign rfl|exact p_lensl (by dsimp only;decide +kernel) rfl|exact p_eql rfl rfl|exact p_gtr rfl rfl|exact p_not rfl|exact Ag rfl rfl (by omega)|exact Af rfl rfl (by omega)))|refine d_off 4 rfl rfl rfl (by decide +kernel) ?_|(apply Aj 5 rfl rfl rfl (by decide +kernel);(first|exact p_move rfl|exact p_assign rfl|exact p_lensl (by dsimp only;decide +kernel) rfl|exact p_eql rfl rfl|exact p_gtr rfl rfl|exact p_not rfl|exact Ag rfl rfl (by omega)|exact Af rfl rfl (by omega)))|refine d_off 5 rfl rfl rfl (by decide +kernel) ?_|(apply Aj 6 rfl rfl rfl (by decide +kernel);(first|exact p_move rfl|exact p_assign rfl|exact p_lensl (by dsimp only;decide +kernel) rfl|exact p_eql rfl rfl|exact p_gtr rfl rfl|exact p_not rfl|exact Ag rfl rfl (by omega)|exact Af rfl rfl (by omega)))|refine d_off 6 rfl rfl rfl (by decide +kernel) ?_|(apply Aj 7 rfl rfl rfl (by decide +kernel);(first|exact p_move rfl|exact p_assign rfl|exact p_lensl (by dsimp only;decide +kernel) rfl|exact p_eql rfl rfl|exact p_gtr rfl rfl|exact p_not rfl|exact Ag rfl rfl (by omega)|exact Af rfl rfl (by omega)))|refine d_off 7 rfl rfl rfl (by decide +kernel) ?_|refine Ht (by decide +kernel) ?_|fail)))
 ·obtain rfl:i=n:=by omega
  have hin':cs.take (i*2)++ys=Aqr cs ys i i:=by simp[Aqr]
  by_cases hr:i+1<=cap
  ·refine Yw (zs:=ys) 0 rfl rfl Hr rfl rfl rfl (λw hs=>hs.here) (by rw[hy]) hr (by omega) hy1 rfl ?_
   repeat' (first|(refine G9 ?_;(first|refine Dm ?_|(apply A8 rfl rfl;(first|exact p_move rfl|exact p_assign rfl|exact p_lensl (by dsimp only;decide +kernel) rfl|exact p_eql rfl rfl|exact p_gtr rfl rfl|exact p_not rfl|exact Ag rfl rfl (by omega)|exact Af rfl rfl (by omega)))|fail|fail))|(refine Hk ?_;(first|refine Dp ?_|refine Be ?_|refine B7 ?_|refine Bq (by dsimp only;decide +kernel) Ak ?_|(refine Bl rfl ?_ ?_<;>intro hc<;>try (first|contradiction|(exfalso;omega)))|(refine B5 rfl ?_ ?_<;>intro hc<;>try contradiction)|refine B8 rfl rfl ?_|fail))|(refine G5 ?_;(first|refine Dk ?_|(refine Bp Ak ?_)|fail))|(refine Sv ?_;(first|(apply Aj 0 rfl rfl rfl (by decide +kernel);(first|exact p_move rfl|exact p_assign rfl|exact p_lensl (by dsimp only;decide +kernel) rfl|exact p_eql rfl rfl|exact p_gtr rfl rfl|exact p_not rfl|exact Ag rfl rfl (by omega)|exact Af rfl rfl (by omega)))|refine d_off 0 rfl rfl rfl (by decide +kernel) ?_|(apply Aj 1 rfl rfl rfl (by decide +kernel);(first|exact p_move rfl|exact p_assign rfl|exact p_lensl (by dsimp only;decide +kernel) rfl|exact p_eql rfl rfl|exact p_gtr rfl rfl|exact p_not rfl|exact Ag rfl rfl (by omega)|exact Af rfl rfl (by omega)))|refine d_off 1 rfl rfl rfl (by decide +kernel) ?_|(apply Aj 2 rfl rfl rfl (by decide +kernel);(first|exact p_move rfl|exact p_assign rfl|exact p_lensl (by dsimp only;decide +kernel) rfl|exact p_eql rfl rfl|exact p_gtr rfl rfl|exact p_not rfl|exact Ag rfl rfl (by omega)|exact Af rfl rfl (by omega)))|refine d_off 2 rfl rfl rfl (by decide +kernel) ?_|(apply Aj 3 rfl rfl rfl (by decide +kernel);(first|exact p_move rfl|exact p_assign rfl|exact p_lensl (by dsimp only;decide +kernel) rfl|exact p_eql rfl rfl|exact p_gtr rfl rfl|exact p_not rfl|exact Ag rfl rfl (by omega)|exact Af rfl rfl (by omega)))|refine d_off 3 rfl rfl rfl (by decide +kernel) ?_|(apply Aj 4 rfl rfl rfl (by decide +kernel);(first|exact p_move rfl|exact p_assign rfl|exact p_lensl (by dsimp only;decide +kernel) rfl|exact p_eql rfl rfl|exact p_gtr rfl rfl|exact p_not rfl|exact Ag rfl rfl (by omega)|exact Af rfl rfl (by omega)))|refine d_off 4 rfl rfl rfl (by decide +kernel) ?_|(apply Aj 5 rfl rfl rfl (by decide +kernel);(first|exact p_move rfl|exact p_assign rfl|exact p_lensl (by dsimp only;decide +kernel) rfl|exact p_eql rfl rfl|exact p_gtr rfl rfl|exact p_not rfl|exact Ag rfl rfl (by omega)|exact Af rfl rfl (by omega)))|refine d_off 5 rfl rfl rfl (by decide +kernel) ?_|(apply Aj 6 rfl rfl rfl (by decide +kernel);(first|exact p_move rfl|exact p_assign rfl|exact p_lensl (by dsimp only;decide +kernel) rfl|exact p_eql rfl rfl|exact p_gtr rfl rfl|exact p_not rfl|exact Ag rfl rfl (by omega)|exact Af rfl rfl (by omega)))|refine d_off 6 rfl rfl rfl (by decide +kernel) ?_|(apply Aj 7 rfl rfl rfl (by decide +kernel);(first|exact p_move rfl|exact p_assign rfl|exact p_lensl (by dsimp only;decide +kernel) rfl|exact p_eql rfl rfl|exact p_gtr rfl rfl|exact p_not rfl|exact Ag rfl rfl (by omega)|exact Af rfl rfl (by omega)))|refine d_off 7 rfl rfl rfl (by decide +kernel) ?_|refine Ht (by decide +kernel) ?_|fail)))
   refine Dz (.inl ⟨_,rfl,hr,rfl,M3 (z:=ys) (o:=i*2) (by omega),?_⟩);rw[<-hin'];exact List.take_left' (by simp;omega)
  ·refine A3a (zs:=ys) 0 rfl rfl Hr rfl rfl rfl (λw hs=>hs.here) (by rw[hy]) (by omega) (by omega) (by simp only[maxLen];omega) (by omega) ?_;intro b' q tl hq1 hq2 htl
   repeat' (first|(refine G9 ?_;(first|refine Dm ?_|(apply A8 rfl rfl;(first|exact p_move rfl|exact p_assign rfl|exact p_lensl (by dsimp only;decide +kernel) rfl|exact p_eql rfl rfl|exact p_gtr rfl rfl|exact p_not rfl|exact Ag rfl rfl (by omega)|exact Af rfl rfl (by omega)))|fail|fail))|(refine Hk ?_;(first|refine Dp ?_|refine Be ?_|refine B7 ?_|refine Bq (by dsimp only;decide +kernel) Ak ?_|(refine Bl rfl ?_ ?_<;>intro hc<;>try (first|contradiction|(exfalso;omega)))|(refine B5 rfl ?_ ?_<;>intro hc<;>try contradiction)|refine B8 rfl rfl ?_|fail))|(refine G5 ?_;(first|refine Dk ?_|(refine Bp Ak ?_)|fail))|(refine Sv ?_;(first|(apply Aj 0 rfl rfl rfl (by decide +kernel);(first|exact p_move rfl|exact p_assign rfl|exact p_lensl (by dsimp only;decide +kernel) rfl|exact p_eql rfl rfl|exact p_gtr rfl rfl|exact p_not rfl|exact Ag rfl rfl (by omega)|exact Af rfl rfl (by omega)))|refine d_off 0 rfl rfl rfl (by decide +kernel) ?_|(apply Aj 1 rfl rfl rfl (by decide +kernel);(first|exact p_move rfl|exact p_assign rfl|exact p_lensl (by dsimp only;decide +kernel) rfl|exact p_eql rfl rfl|exact p_gtr rfl rfl|exact p_not rfl|exact Ag rfl rfl (by omega)|exact Af rfl rfl (by omega)))|refine d_off 1 rfl rfl rfl (by decide +kernel) ?_|(apply Aj 2 rfl rfl rfl (by decide +kernel);(first|exact p_move rfl|exact p_assign rfl|exact p_lensl (by dsimp only;decide +kernel) rfl|exact p_eql rfl rfl|exact p_gtr rfl rfl|exact p_not rfl|exact Ag rfl rfl (by omega)|exact Af rfl rfl (by omega)))|refine d_off 2 rfl rfl rfl (by decide +kernel) ?_|(apply Aj 3 rfl rfl rfl (by decide +kernel);(first|exact p_move rfl|exact p_assign rfl|exact p_lensl (by dsimp only;decide +kernel) rfl|exact p_eql rfl rfl|exact p_gtr rfl rfl|exact p_not rfl|exact Ag rfl rfl (by omega)|exact Af rfl rfl (by omega)))|refine d_off 3 rfl rfl rfl (by decide +kernel) ?_|(apply Aj 4 rfl rfl rfl (by decide +kernel);(first|exact p_move rfl|exact p_assign rfl|exact p_lensl (by dsimp only;decide +kernel) rfl|exact p_eql rfl rfl|exact p_gtr rfl rfl|exact p_not rfl|exact Ag rfl rfl (by omega)|exact Af rfl rfl (by omega)))|refine d_off 4 rfl rfl rfl (by decide +kernel) ?_|(apply Aj 5 rfl rfl rfl (by decide +kernel);(first|exact p_move rfl|exact p_assign rfl|exact p_lensl (by dsimp only;decide +kernel) rfl|exact p_eql rfl rfl|exact p_gtr rfl rfl|exact p_not rfl|exact Ag rfl rfl (by omega)|exact Af rfl rfl (by omega)))|refine d_off 5 rfl rfl rfl (by decide +kernel) ?_|(apply Aj 6 rfl rfl rfl (by decide +kernel);(first|exact p_move rfl|exact p_assign rfl|exact p_lensl (by dsimp only;decide +kernel) rfl|exact p_eql rfl rfl|exact p_gtr rfl rfl|exact p_not rfl|exact Ag rfl rfl (by omega)|exact Af rfl rfl (by omega)))|refine d_off 6 rfl rfl rfl (by decide +kernel) ?_|(apply Aj 7 rfl rfl rfl (by decide +kernel);(first|exact p_move rfl|exact p_assign rfl|exact p_lensl (by dsimp only;decide +kernel) rfl|exact p_eql rfl rfl|exact p_gtr rfl rfl|exact p_not rfl|exact Ag rfl rfl (by omega)|exact Af rfl rfl (by omega)))|refine d_off 7 rfl rfl rfl (by decide +kernel) ?_|refine Ht (by decide +kernel) ?_|fail)))
   refine Dz (.inr ⟨_,_,_,rfl,hq1,hq2,rfl,by simp;omega,?_⟩);rw[<-hin'];exact List.take_left' (by simp;omega)
 ·refine Ayg (kn :=.i64) 0 rfl rfl Hr (by dsimp only;decide +kernel) rfl rfl rfl (by omega) (by omega) (by omega) (by simp only[maxLen];omega) (by omega) ?_;intro b' q tl hq1 hq2 htl
  repeat' (first|(refine G9 ?_;(first|refine Dm ?_|(apply A8 rfl rfl;(first|exact p_move rfl|exact p_assign rfl|exact p_lensl (by dsimp only;decide +kernel) rfl|exact p_eql rfl rfl|exact p_gtr rfl rfl|exact p_not rfl|exact Ag rfl rfl (by omega)|exact Af rfl rfl (by omega)))|(apply A8 rfl rfl;exact Kg 2 (by dsimp only;decide +kernel) rfl rfl (by omega))|fail))|(refine Hk ?_;(first|refine Dp ?_|refine Be ?_|refine B7 ?_|refine Bq (by dsimp only;decide +kernel) Ak ?_|(refine Bl rfl ?_ ?_<;>intro hc<;>try (first|contradiction|(exfalso;omega)))|(refine B5 rfl ?_ ?_<;>intro hc<;>try contradiction)|refine B8 rfl rfl ?_|fail))|(refine G5 ?_;(first|refine Dk ?_|(refine Bp Ak ?_)|fail))|(refine Sv ?_;(first|(apply Aj 0 rfl rfl rfl (by decide +kernel);(first|exact p_move rfl|exact p_assign rfl|exact p_lensl (by dsimp only;decide +kernel) rfl|exact p_eql rfl rfl|exact p_gtr rfl rfl|exact p_not rfl|exact Ag rfl rfl (by omega)|exact Af rfl rfl (by omega)))|refine d_off 0 rfl rfl rfl (by decide +kernel) ?_|(apply Aj 1 rfl rfl rfl (by decide +kernel);(first|exact p_move rfl|exact p_assign rfl|exact p_lensl (by dsimp only;decide +kernel) rfl|exact p_eql rfl rfl|exact p_gtr rfl rfl|exact p_not rfl|exact Ag rfl rfl (by omega)|exact Af rfl rfl (by omega)))|refine d_off 1 rfl rfl rfl (by decide +kernel) ?_|(apply Aj 2 rfl rfl rfl (by decide +kernel);(first|exact p_move rfl|exact p_assign rfl|exact p_lensl (by dsimp only;decide +kernel) rfl|exact p_eql rfl rfl|exact p_gtr rfl rfl|exact p_not rfl|exact Ag rfl rfl (by omega)|exact Af rfl rfl (by omega)))|refine d_off 2 rfl rfl rfl (by decide +kernel) ?_|(apply Aj 3 rfl rfl rfl (by decide +kernel);(first|exact p_move rfl|exact p_assign rfl|exact p_lensl (by dsimp only;decide +kernel) rfl|exact p_eql rfl rfl|exact p_gtr rfl rfl|exact p_not rfl|exact Ag rfl rfl (by omega)|exact Af rfl rfl (by omega)))|refine d_off 3 rfl rfl rfl (by decide +kernel) ?_|(apply Aj 4 rfl rfl rfl (by decide +kernel);(first|exact p_move rfl|exact p_assign rfl|exact p_lensl (by dsimp only;decide +kernel) rfl|exact p_eql rfl rfl|exact p_gtr rfl rfl|exact p_not rfl|exact Ag rfl rfl (by omega)|exact Af rfl rfl (by omega)))|refine d_off 4 rfl rfl rfl (by decide +kernel) ?_|(apply Aj 5 rfl rfl rfl (by decide +kernel);(first|exact p_move rfl|exact p_assign rfl|exact p_lensl (by dsimp only;decide +kernel) rfl|exact p_eql rfl rfl|exact p_gtr rfl rfl|exact p_not rfl|exact Ag rfl rfl (by omega)|exact Af rfl rfl (by omega)))|refine d_off 5 rfl rfl rfl (by decide +kernel) ?_|(apply Aj 6 rfl rfl rfl (by decide +kernel);(first|exact p_move rfl|exact p_assign rfl|exact p_lensl (by dsimp only;decide +kernel) rfl|exact p_eql rfl rfl|exact p_gtr rfl rfl|exact p_not rfl|exact Ag rfl rfl (by omega)|exact Af rfl rfl (by omega)))|refine d_off 6 rfl rfl rfl (by decide +kernel) ?_|(apply Aj 7 rfl rfl rfl (by decide +kernel);(first|exact p_move rfl|exact p_assign rfl|exact p_lensl (by dsimp only;decide +kernel) rfl|exact p_eql rfl rfl|exact p_gtr rfl rfl|exact p_not rfl|exact Ag rfl rfl (by omega)|exact Af rfl rfl (by omega)))|refine d_off 7 rfl rfl rfl (by decide +kernel) ?_|refine Ht (by decide +kernel) ?_|fail)))
  refine Apl (zs:=ys) 0 rfl rfl Hr rfl rfl rfl (λw hs=>hs.here) ?_ ?_ hy1 ?_
  ·rw[hy,show Nat.min 1 _=1 from Nat.min_eq_left (by omega)]
  ·simp only[Zh1,List.length_take];omega
  ·repeat' (first|(refine G9 ?_;(first|refine Dm ?_|(apply A8 rfl rfl;(first|exact p_move rfl|exact p_assign rfl|exact p_lensl (by dsimp only;decide +kernel) rfl|exact p_eql rfl rfl|exact p_gtr rfl rfl|exact p_not rfl|exact Ag rfl rfl (by omega)|exact Af rfl rfl (by omega)))|fail|fail))|(refine Hk ?_;(first|refine Dp ?_|refine Be ?_|refine B7 ?_|refine Bq (by dsimp only;decide +kernel) Ak ?_|(refine Bl rfl ?_ ?_<;>intro hc<;>try (first|contradiction|(exfalso;omega)))|(refine B5 rfl ?_ ?_<;>intro hc<;>try contradiction)|refine B8 rfl rfl ?_|fail))|(refine G5 ?_;(first|refine Dk ?_|(refine Bp Ak ?_)|fail))|(refine Sv ?_;(first|(apply Aj 0 rfl rfl rfl (by decide +kernel);(first|exact p_move rfl|exact p_assign rfl|exact p_lensl (by dsimp only;decide +kernel) rfl|exact p_eql rfl rfl|exact p_gtr rfl rfl|exact p_not rfl|exact Ag rfl rfl (by omega)|exact Af rfl rfl (by omega)))|refine d_off 0 rfl rfl rfl (by decide +kernel) ?_|(apply Aj 1 rfl rfl rfl (by decide +kernel);(first|exact p_move rfl|exact p_assign rfl|exact p_lensl (by dsimp only;decide +kernel) rfl|exact p_eql rfl rfl|exact p_gtr rfl rfl|exact p_not rfl|exact Ag rfl rfl (by omega)|exact Af rfl rfl (by omega)))|refine d_off 1 rfl rfl rfl (by decide +kernel) ?_|(apply Aj 2 rfl rfl rfl (by decide +kernel);(first|exact p_move rfl|exact p_assign rfl|exact p_lensl (by dsimp only;decide +kernel) rfl|exact p_eql rfl rfl|exact p_gtr rfl rfl|exact p_not rfl|exact Ag rfl rfl (by omega)|exact Af rfl rfl (by omega)))|refine d_off 2 rfl rfl rfl (by decide +kernel) ?_|(apply Aj 3 rfl rfl rfl (by decide +kernel);(first|exact p_move rfl|exact p_assign rfl|exact p_lensl (by dsimp only;decide +kernel) rfl|exact p_eql rfl rfl|exact p_gtr rfl rfl|exact p_not rfl|exact Ag rfl rfl (by omega)|exact Af rfl rfl (by omega)))|refine d_off 3 rfl rfl rfl (by decide +kernel) ?_|(apply Aj 4 rfl rfl rfl (by decide +kernel);(first|exact p_move rfl|exact p_assign rfl|exact p_lensl (by dsimp only;decide +kernel) rfl|exact p_eql rfl rfl|exact p_gtr rfl rfl|exact p_not rfl|exact Ag rfl rfl (by omega)|exact Af rfl rfl (by omega)))|refine d_off 4 rfl rfl rfl (by decide +kernel) ?_|(apply Aj 5 rfl rfl rfl (by decide +kernel);(first|exact p_move rfl|exact p_assign rfl|exact p_lensl (by dsimp only;decide +kernel) rfl|exact p_eql rfl rfl|exact p_gtr rfl rfl|exact p_not rfl|exact Ag rfl rfl (by omega)|exact Af rfl rfl (by omega)))|refine d_off 5 rfl rfl rfl (by decide +kernel) ?_|(apply Aj 6 rfl rfl rfl (by decide +kernel);(first|exact p_move rfl|exact p_assign rfl|exact p_lensl (by dsimp only;decide +kernel) rfl|exact p_eql rfl rfl|exact p_gtr rfl rfl|exact p_not rfl|exact Ag rfl rfl (by omega)|exact Af rfl rfl (by omega)))|refine d_off 6 rfl rfl rfl (by decide +kernel) ?_|(apply Aj 7 rfl rfl rfl (by decide +kernel);(first|exact p_move rfl|exact p_assign rfl|exact p_lensl (by dsimp only;decide +kernel) rfl|exact p_eql rfl rfl|exact p_gtr rfl rfl|exact p_not rfl|exact Ag rfl rfl (by omega)|exact Af rfl rfl (by omega)))|refine d_off 7 rfl rfl rfl (by decide +kernel) ?_|refine Ht (by decide +kernel) ?_|fail)))
   apply Aj 4 rfl rfl rfl (by decide +kernel) (Kg 2 (by dsimp only;decide +kernel) rfl rfl (by omega));apply Aj 7 rfl rfl rfl (by decide +kernel) (Kg 2 (by dsimp only;decide +kernel) rfl rfl (by omega));refine Az7 8 rfl (by decide +kernel) ?_;refine Apl 0 rfl rfl Hr rfl rfl rfl (R2 (n:=(n-i)*2) 1 rfl) ?_ ?_ ?_ ?_
   ·have:Nat.min (n-(i:Int).toNat) ((i:Int).toNat+((n:Int)+((1:Nat):Int)-(i:Int)).toNat-((i:Int)+((1:Nat):Int)).toNat)=n-i:=(Nat.min_eq_left (by omega)).trans (by omega);rw[this,List.length_take,Za2];omega
   ·simp only[Zh1,List.length_take,Za2];omega
   ·intro v hv;exact Bgk h1 hin (by simpa using hv)
   ·repeat' (first|(refine G9 ?_;(first|refine Dm ?_|(apply A8 rfl rfl;(first|exact p_move rfl|exact p_assign rfl|exact p_lensl (by dsimp only;decide +kernel) rfl|exact p_eql rfl rfl|exact p_gtr rfl rfl|exact p_not rfl|exact Ag rfl rfl (by omega)|exact Af rfl rfl (by omega)))|fail|fail))|(refine Hk ?_;(first|refine Dp ?_|refine Be ?_|refine B7 ?_|refine Bq (by dsimp only;decide +kernel) Ak ?_|(refine Bl rfl ?_ ?_<;>intro hc<;>try (first|contradiction|(exfalso;omega)))|(refine B5 rfl ?_ ?_<;>intro hc<;>try contradiction)|refine B8 rfl rfl ?_|fail))|(refine G5 ?_;(first|refine Dk ?_|(refine Bp Ak ?_)|fail))|(refine Sv ?_;(first|(apply Aj 0 rfl rfl rfl (by decide +kernel);(first|exact p_move rfl|exact p_assign rfl|exact p_lensl (by dsimp only;decide +kernel) rfl|exact p_eql rfl rfl|exact p_gtr rfl rfl|exact p_not rfl|exact Ag rfl rfl (by omega)|exact Af rfl rfl (by omega)))|refine d_off 0 rfl rfl rfl (by decide +kernel) ?_|(apply Aj 1 rfl rfl rfl (by decide +kernel);(first|exact p_move rfl|exact p_assign rfl|exact p_lensl (by dsimp only;decide +kernel) rfl|exact p_eql rfl rfl|exact p_gtr rfl rfl|exact p_not rfl|exact Ag rfl rfl (by omega)|exact Af rfl rfl (by omega)))|refine d_off 1 rfl rfl rfl (by decide +kernel) ?_|(apply Aj 2 rfl rfl rfl (by decide +kernel);(first|exact p_move rfl|exact p_assign rfl|exact p_lensl (by dsimp only;decide +kernel) rfl|exact p_eql rfl rfl|exact p_gtr rfl rfl|exact p_not rfl|exact Ag rfl rfl (by omega)|exact Af rfl rfl (by omega)))|refine d_off 2 rfl rfl rfl (by decide +kernel) ?_|(apply Aj 3 rfl rfl rfl (by decide +kernel);(first|exact p_move rfl|exact p_assign rfl|exact p_lensl (by dsimp only;decide +kernel) rfl|exact p_eql rfl rfl|exact p_gtr rfl rfl|exact p_not rfl|exact Ag rfl rfl (by omega)|exact Af rfl rfl (by omega)))|refine d_off 3 rfl rfl rfl (by decide +kernel) ?_|(apply Aj 4 rfl rfl rfl (by decide +kernel);(first|exact p_move rfl|exact p_assign rfl|exact p_lensl (by dsimp only;decide +kernel) rfl|exact p_eql rfl rfl|exact p_gtr rfl rfl|exact p_not rfl|exact Ag rfl rfl (by omega)|exact Af rfl rfl (by omega)))|refine d_off 4 rfl rfl rfl (by decide +kernel) ?_|(apply Aj 5 rfl rfl rfl (by decide +kernel);(first|exact p_move rfl|exact p_assign rfl|exact p_lensl (by dsimp only;decide +kernel) rfl|exact p_eql rfl rfl|exact p_gtr rfl rfl|exact p_not rfl|exact Ag rfl rfl (by omega)|exact Af rfl rfl (by omega)))|refine d_off 5 rfl rfl rfl (by decide +kernel) ?_|(apply Aj 6 rfl rfl rfl (by decide +kernel);(first|exact p_move rfl|exact p_assign rfl|exact p_lensl (by dsimp only;decide +kernel) rfl|exact p_eql rfl rfl|exact p_gtr rfl rfl|exact p_not rfl|exact Ag rfl rfl (by omega)|exact Af rfl rfl (by omega)))|refine d_off 6 rfl rfl rfl (by decide +kernel) ?_|(apply Aj 7 rfl rfl rfl (by decide +kernel);(first|exact p_move rfl|exact p_assign rfl|exact p_lensl (by dsimp only;decide +kernel) rfl|exact p_eql rfl rfl|exact p_gtr rfl rfl|exact p_not rfl|exact Ag rfl rfl (by omega)|exact Af rfl rfl (by omega)))|refine d_off 7 rfl rfl rfl (by decide +kernel) ?_|refine Ht (by decide +kernel) ?_|fail)))
    have e1:i+((n:Int)+((1:Nat):Int)-(i:Int)).toNat=n+1:=by omega
    have e2:((i:Int)+((1:Nat):Int)).toNat=i+1:=by omega
    simp only[e1,e2,Int.toNat_natCast,Nat.zero_add] at hq1 htl ⊢;have hd:=Bdu (c1:=cs.take (i*2)++tl) (q:=q) hin (by omega) hy rfl (List.take_left' (by simp;omega)) hq1 (by simp;omega);refine Dz (.inr ⟨_,_,_,rfl,hq1,hq2,rfl,hd.1,hd.2⟩)
 ·refine Bfm 0 rfl rfl rfl rfl rfl rfl hne (λw h=>⟨_,h 0 _ (Zo1 (by omega))⟩) Bhl rfl rfl ?_
  repeat' (first|(refine G9 ?_;(first|refine Dm ?_|(apply A8 rfl rfl;(first|exact p_move rfl|exact p_assign rfl|exact p_lensl (by dsimp only;decide +kernel) rfl|exact p_eql rfl rfl|exact p_gtr rfl rfl|exact p_not rfl|exact Ag rfl rfl (by omega)|exact Af rfl rfl (by omega)))|fail|fail))|(refine Hk ?_;(first|refine Dp ?_|refine Be ?_|refine B7 ?_|refine Bq (by dsimp only;decide +kernel) Ak ?_|(refine Bl rfl ?_ ?_<;>intro hc<;>try (first|contradiction|(exfalso;omega)))|(refine B5 rfl ?_ ?_<;>intro hc<;>try contradiction)|refine B8 rfl rfl ?_|fail))|(refine G5 ?_;(first|refine Dk ?_|(refine Bp Ak ?_)|fail))|(refine Sv ?_;(first|(apply Aj 0 rfl rfl rfl (by decide +kernel);(first|exact p_move rfl|exact p_assign rfl|exact p_lensl (by dsimp only;decide +kernel) rfl|exact p_eql rfl rfl|exact p_gtr rfl rfl|exact p_not rfl|exact Ag rfl rfl (by omega)|exact Af rfl rfl (by omega)))|refine d_off 0 rfl rfl rfl (by decide +kernel) ?_|(apply Aj 1 rfl rfl rfl (by decide +kernel);(first|exact p_move rfl|exact p_assign rfl|exact p_lensl (by dsimp only;decide +kernel) rfl|exact p_eql rfl rfl|exact p_gtr rfl rfl|exact p_not rfl|exact Ag rfl rfl (by omega)|exact Af rfl rfl (by omega)))|refine d_off 1 rfl rfl rfl (by decide +kernel) ?_|(apply Aj 2 rfl rfl rfl (by decide +kernel);(first|exact p_move rfl|exact p_assign rfl|exact p_lensl (by dsimp only;decide +kernel) rfl|exact p_eql rfl rfl|exact p_gtr rfl rfl|exact p_not rfl|exact Ag rfl rfl (by omega)|exact Af rfl rfl (by omega)))|refine d_off 2 rfl rfl rfl (by decide +kernel) ?_|(apply Aj 3 rfl rfl rfl (by decide +kernel);(first|exact p_move rfl|exact p_assign rfl|exact p_lensl (by dsimp only;decide +kernel) rfl|exact p_eql rfl rfl|exact p_gtr rfl rfl|exact p_not rfl|exact Ag rfl rfl (by omega)|exact Af rfl rfl (by omega)))|refine d_off 3 rfl rfl rfl (by decide +kernel) ?_|(apply Aj 4 rfl rfl rfl (by decide +kernel);(first|exact p_move rfl|exact p_assign rfl|exact p_lensl (by dsimp only;decide +kernel) rfl|exact p_eql rfl rfl|exact p_gtr rfl rfl|exact p_not rfl|exact Ag rfl rfl (by omega)|exact Af rfl rfl (by omega)))|refine d_off 4 rfl rfl rfl (by decide +kernel) ?_|(apply Aj 5 rfl rfl rfl (by decide +kernel);(first|exact p_move rfl|exact p_assign rfl|exact p_lensl (by dsimp only;decide +kernel) rfl|exact p_eql rfl rfl|exact p_gtr rfl rfl|exact p_not rfl|exact Ag rfl rfl (by omega)|exact Af rfl rfl (by omega)))|refine d_off 5 rfl rfl rfl (by decide +kernel) ?_|(apply Aj 6 rfl rfl rfl (by decide +kernel);(first|exact p_move rfl|exact p_assign rfl|exact p_lensl (by dsimp only;decide +kernel) rfl|exact p_eql rfl rfl|exact p_gtr rfl rfl|exact p_not rfl|exact Ag rfl rfl (by omega)|exact Af rfl rfl (by omega)))|refine d_off 6 rfl rfl rfl (by decide +kernel) ?_|(apply Aj 7 rfl rfl rfl (by decide +kernel);(first|exact p_move rfl|exact p_assign rfl|exact p_lensl (by dsimp only;decide +kernel) rfl|exact p_eql rfl rfl|exact p_gtr rfl rfl|exact p_not rfl|exact Ag rfl rfl (by omega)|exact Af rfl rfl (by omega)))|refine d_off 7 rfl rfl rfl (by decide +kernel) ?_|refine Ht (by decide +kernel) ?_|fail)))
  apply Aj 4 rfl rfl rfl (by decide +kernel) (Kg 2 (by dsimp only;decide +kernel) rfl rfl (by omega));apply Aj 7 rfl rfl rfl (by decide +kernel) (Kg 2 (by dsimp only;decide +kernel) rfl rfl (by omega));refine Az7 8 rfl (by decide +kernel) ?_;refine Apl 0 rfl rfl Hr rfl rfl rfl (R2 (n:=(n-i)*2) 0 rfl) ?_ ?_ ?_ ?_
  ·have:Nat.min (((n:Int)+((1:Nat):Int)).toNat-(i:Int).toNat) (((n:Int)+((1:Nat):Int)).toNat-((i:Int)+((1:Nat):Int)).toNat)=n-i:=(Nat.min_eq_right (by omega)).trans (by omega);rw[this,List.length_take,Za2];omega
  ·simp only[List.length_take,Za2];omega
  ·intro v hv;exact Bgk h1 hin (by simpa using hv)
  ·repeat' (first|(refine G9 ?_;(first|refine Dm ?_|(apply A8 rfl rfl;(first|exact p_move rfl|exact p_assign rfl|exact p_lensl (by dsimp only;decide +kernel) rfl|exact p_eql rfl rfl|exact p_gtr rfl rfl|exact p_not rfl|exact Ag rfl rfl (by omega)|exact Af rfl rfl (by omega)))|(apply A8 rfl rfl;exact Kg 2 (by dsimp only;decide +kernel) rfl rfl (by omega))|fail))|(refine Hk ?_;(first|refine Dp ?_|refine Be ?_|refine B7 ?_|refine Bq (by dsimp only;decide +kernel) Ak ?_|(refine Bl rfl ?_ ?_<;>intro hc<;>try (first|contradiction|(exfalso;omega)))|(refine B5 rfl ?_ ?_<;>intro hc<;>try contradiction)|refine B8 rfl rfl ?_|fail))|(refine G5 ?_;(first|refine Dk ?_|(refine Bp Ak ?_)|fail))|(refine Sv ?_;(first|(apply Aj 0 rfl rfl rfl (by decide +kernel);(first|exact p_move rfl|exact p_assign rfl|exact p_lensl (by dsimp only;decide +kernel) rfl|exact p_eql rfl rfl|exact p_gtr rfl rfl|exact p_not rfl|exact Ag rfl rfl (by omega)|exact Af rfl rfl (by omega)))|refine d_off 0 rfl rfl rfl (by decide +kernel) ?_|(apply Aj 1 rfl rfl rfl (by decide +kernel);(first|exact p_move rfl|exact p_assign rfl|exact p_lensl (by dsimp only;decide +kernel) rfl|exact p_eql rfl rfl|exact p_gtr rfl rfl|exact p_not rfl|exact Ag rfl rfl (by omega)|exact Af rfl rfl (by omega)))|refine d_off 1 rfl rfl rfl (by decide +kernel) ?_|(apply Aj 2 rfl rfl rfl (by decide +kernel);(first|exact p_move rfl|exact p_assign rfl|exact p_lensl (by dsimp only;decide +kernel) rfl|exact p_eql rfl rfl|exact p_gtr rfl rfl|exact p_not rfl|exact Ag rfl rfl (by omega)|exact Af rfl rfl (by omega)))|refine d_off 2 rfl rfl rfl (by decide +kernel) ?_|(apply Aj 3 rfl rfl rfl (by decide +kernel);(first|exact p_move rfl|exact p_assign rfl|exact p_lensl (by dsimp only;decide +kernel) rfl|exact p_eql rfl rfl|exact p_gtr rfl rfl|exact p_not rfl|exact Ag rfl rfl (by omega)|exact Af rfl rfl (by omega)))|refine d_off 3 rfl rfl rfl (by decide +kernel) ?_|(apply Aj 4 rfl rfl rfl (by decide +kernel);(first|exact p_move rfl|exact p_assign rfl|exact p_lensl (by dsimp only;decide +kernel) rfl|exact p_eql rfl rfl|exact p_gtr rfl rfl|exact p_not rfl|exact Ag rfl rfl (by omega)|exact Af rfl rfl (by omega)))|refine d_off 4 rfl rfl rfl (by decide +kernel) ?_|(apply Aj 5 rfl rfl rfl (by decide +kernel);(first|exact p_move rfl|exact p_assign rfl|exact p_lensl (by dsimp only;decide +kernel) rfl|exact p_eql rfl rfl|exact p_gtr rfl rfl|exact p_not rfl|exact Ag rfl rfl (by omega)|exact Af rfl rfl (by omega)))|refine d_off 5 rfl rfl rfl (by decide +kernel) ?_|(apply Aj 6 rfl rfl rfl (by decide +kernel);(first|exact p_move rfl|exact p_assign rfl|exact p_lensl (by dsimp only;decide +kernel) rfl|exact p_eql rfl rfl|exact p_gtr rfl rfl|exact p_not rfl|exact Ag rfl rfl (by omega)|exact Af rfl rfl (by omega)))|refine d_off 6 rfl rfl rfl (by decide +kernel) ?_|(apply Aj 7 rfl rfl rfl (by decide +kernel);(first|exact p_move rfl|exact p_assign rfl|exact p_lensl (by dsimp only;decide +kernel) rfl|exact p_eql rfl rfl|exact p_gtr rfl rfl|exact p_not rfl|exact Ag rfl rfl (by omega)|exact Af rfl rfl (by omega)))|refine d_off 7 rfl rfl rfl (by decide +kernel) ?_|refine Ht (by decide +kernel) ?_|fail)))
   refine Apl (zs:=ys) 0 rfl rfl Hr rfl rfl rfl (λw hs=>hs.here) ?_ ?_ hy1 ?_
   ·rw[hy,show Nat.min 1 _=1 from Nat.min_eq_left (by omega)]
   ·simp only[Zh1,List.length_take,Za2];omega
   ·repeat' (first|(refine G9 ?_;(first|refine Dm ?_|(apply A8 rfl rfl;(first|exact p_move rfl|exact p_assign rfl|exact p_lensl (by dsimp only;decide +kernel) rfl|exact p_eql rfl rfl|exact p_gtr rfl rfl|exact p_not rfl|exact Ag rfl rfl (by omega)|exact Af rfl rfl (by omega)))|fail|fail))|(refine Hk ?_;(first|refine Dp ?_|refine Be ?_|refine B7 ?_|refine Bq (by dsimp only;decide +kernel) Ak ?_|(refine Bl rfl ?_ ?_<;>intro hc<;>try (first|contradiction|(exfalso;omega)))|(refine B5 rfl ?_ ?_<;>intro hc<;>try contradiction)|refine B8 rfl rfl ?_|fail))|(refine G5 ?_;(first|refine Dk ?_|(refine Bp Ak ?_)|fail))|(refine Sv ?_;(first|(apply Aj 0 rfl rfl rfl (by decide +kernel);(first|exact p_move rfl|exact p_assign rfl|exact p_lensl (by dsimp only;decide +kernel) rfl|exact p_eql rfl rfl|exact p_gtr rfl rfl|exact p_not rfl|exact Ag rfl rfl (by omega)|exact Af rfl rfl (by omega)))|refine d_off 0 rfl rfl rfl (by decide +kernel) ?_|(apply Aj 1 rfl rfl rfl (by decide +kernel);(first|exact p_move rfl|exact p_assign rfl|exact p_lensl (by dsimp only;decide +kernel) rfl|exact p_eql rfl rfl|exact p_gtr rfl rfl|exact p_not rfl|exact Ag rfl rfl (by omega)|exact Af rfl rfl (by omega)))|refine d_off 1 rfl rfl rfl (by decide +kernel) ?_|(apply Aj 2 rfl rfl rfl (by decide +kernel);(first|exact p_move rfl|exact p_assign rfl|exact p_lensl (by dsimp only;decide +kernel) rfl|exact p_eql rfl rfl|exact p_gtr rfl rfl|exact p_not rfl|exact Ag rfl rfl (by omega)|exact Af rfl rfl (by omega)))|refine d_off 2 rfl rfl rfl (by decide +kernel) ?_|(apply Aj 3 rfl rfl rfl (by decide +kernel);(first|exact p_move rfl|exact p_assign rfl|exact p_lensl (by dsimp only;decide +kernel) rfl|exact p_eql rfl rfl|exact p_gtr rfl rfl|exact p_not rfl|exact Ag rfl rfl (by omega)|exact Af rfl rfl (by omega)))|refine d_off 3 rfl rfl rfl (by decide +kernel) ?_|(apply Aj 4 rfl rfl rfl (by decide +kernel);(first|exact p_move rfl|exact p_assign rfl|exact p_lensl (by dsimp only;decide +kernel) rfl|exact p_eql rfl rfl|exact p_gtr rfl rfl|exact p_not rfl|exact Ag rfl rfl (by omega)|exact Af rfl rfl (by omega)))|refine d_off 4 rfl rfl rfl (by decide +kernel) ?_|(apply Aj 5 rfl rfl rfl (by decide +kernel);(first|exact p_move rfl|exact p_assign rfl|exact p_lensl (by dsimp only;decide +kernel) rfl|exact p_eql rfl rfl|exact p_gtr rfl rfl|exact p_not rfl|exact Ag rfl rfl (by omega)|exact Af rfl rfl (by omega)))|refine d_off 5 rfl rfl rfl (by decide +kernel) ?_|(apply Aj 6 rfl rfl rfl (by decide +kernel);(first|exact p_move rfl|exact p_assign rfl|exact p_lensl (by dsimp only;decide +kernel) rfl|exact p_eql rfl rfl|exact p_gtr rfl rfl|exact p_not rfl|exact Ag rfl rfl (by omega)|exact Af rfl rfl (by omega)))|refine d_off 6 rfl rfl rfl (by decide +kernel) ?_|(apply Aj 7 rfl rfl rfl (by decide +kernel);(first|exact p_move rfl|exact p_assign rfl|exact p_lensl (by dsimp only;decide +kernel) rfl|exact p_eql rfl rfl|exact p_gtr rfl rfl|exact p_not rfl|exact Ag rfl rfl (by omega)|exact Af rfl rfl (by omega)))|refine d_off 7 rfl rfl rfl (by decide +kernel) ?_|refine Ht (by decide +kernel) ?_|fail)))
    have e1:((n:Int)+((1:Nat):Int)).toNat=n+1:=by omega
    have e2:((i:Int)+((1:Nat):Int)).toNat=i+1:=by omega
    simp only[e1,e2,Int.toNat_natCast,Nat.zero_add];have hd:=Bb4 (cs:=cs) hin (by omega) hy rfl;exact Dz (.inl ⟨_,rfl,by omega,rfl,hd.1,hd.2⟩)
set_option maxRecDepth 20000 in
theorem A98(a:Option Addr)(vb vo vc:Nat)(ys:List Value)(hy:ys.length=2)(hy1:∀v,v∈ys->one v=true) :
  Con Tryz.prog 90 [.slice a 0 0,.int .i64 0,.slice (some ⟨vb,vo,none⟩) 1 vc] [] (λw=>∀(j:Nat) v,ys[j]? = some v->w.cell? ⟨vb,vo+j,none⟩=some v) (λv L _=>∃b cap' cs',v = .slice (some ⟨b,0,none⟩) 1 cap'/\1<=cap'/\cap'<=maxLen/\L=[.blk b cs' 72]/\cs'.length=cap'*2/\cs'.take 2=ys):=by
 refine C7 Tryz.func90 Tryz.ntmps90 rfl (by kernel_rfl) rfl λw M =>?_
 repeat' (first|(refine G9 ?_;(first|refine Dm ?_|(apply A8 rfl rfl;(first|exact p_move rfl|exact p_assign rfl|exact p_lensl (by dsimp only;decide +kernel) rfl|exact p_eql rfl rfl|exact p_gtr rfl rfl|exact p_not rfl|exact Ag rfl rfl (by omega)|exact Af rfl rfl (by omega)))|(apply A8 rfl rfl;exact Ae8 2 (by dsimp only;decide +kernel) rfl rfl (by omega))|fail))|(refine Hk ?_;(first|refine Dp ?_|refine Be ?_|refine B7 ?_|refine Bq (by dsimp only;decide +kernel) Ak ?_|(refine Bl rfl ?_ ?_<;>intro hc<;>try (first|contradiction|(exfalso;omega)))|(refine B5 rfl ?_ ?_<;>intro hc<;>try contradiction)|refine B8 rfl rfl ?_|fail))|(refine G5 ?_;(first|refine Dk ?_|(refine Bp Ak ?_)|fail))|(refine Sv ?_;(first|(apply Aj 0 rfl rfl rfl (by decide +kernel);(first|exact p_move rfl|exact p_assign rfl|exact p_lensl (by dsimp only;decide +kernel) rfl|exact p_eql rfl rfl|exact p_gtr rfl rfl|exact p_not rfl|exact Ag rfl rfl (by omega)|exact Af rfl rfl (by omega)))|refine d_off 0 rfl rfl rfl (by decide +kernel) ?_|(apply Aj 1 rfl rfl rfl (by decide +kernel);(first|exact p_move rfl|exact p_assign rfl|exact p_lensl (by dsimp only;decide +kernel) rfl|exact p_eql rfl rfl|exact p_gtr rfl rfl|exact p_not rfl|exact Ag rfl rfl (by omega)|exact Af rfl rfl (by omega)))|refine d_off 1 rfl rfl rfl (by decide +kernel) ?_|(apply Aj 2 rfl rfl rfl (by decide +kernel);(first|exact p_move rfl|exact p_assign rfl|exact p_lensl (by dsimp only;decide +kernel) rfl|exact p_eql rfl rfl|exact p_gtr rfl rfl|exact p_not rfl|exact Ag rfl rfl (by omega)|exact Af rfl rfl (by omega)))|refine d_off 2 rfl rfl rfl (by decide +kernel) ?_|(apply Aj 3 rfl rfl rfl (by decide +kernel);(first|exact p_move rfl|exact p_assign rfl|exact p_lensl (by dsimp only;decide +kernel) rfl|exact p_eql rfl rfl|exact p_gtr rfl rfl|exact p_not rfl|exact Ag rfl rfl (by omega)|exact Af rfl rfl (by omega)))|refine d_off 3 rfl rfl rfl (by decide +kernel) ?_|(apply Aj 4 rfl rfl rfl (by decide +kernel);(first|exact p_move rfl|exact p_assign rfl|exact p_lensl (by dsimp only;decide +kernel) rfl|exact p_eql rfl rfl|exact p_gtr rfl rfl|exact p_not rfl|exact Ag rfl rfl (by omega)|exact Af rfl rfl (by omega)))|refine d_off 4 rfl rfl rfl (by decide +kernel) ?_|(apply Aj 5 rfl rfl rfl (by decide +kernel);(first|exact p_move rfl|exact p_assign rfl|exact p_lensl (by dsimp only;decide +kernel) rfl|exact p_eql rfl rfl|exact p_gtr rfl rfl|exact p_not rfl|exact Ag rfl rfl (by omega)|exact Af rfl rfl (by omega)))|refine d_off 5 rfl rfl rfl (by decide +kernel) ?_|(apply Aj 6 rfl rfl rfl (by decide +kernel);(first|exact p_move rfl|exact p_assign rfl|exact p_lensl (by dsimp only;decide +kernel) rfl|exact p_eql rfl rfl|exact p_gtr rfl rfl|exact p_not rfl|exact Ag rfl rfl (by omega)|exact Af rfl rfl (by omega)))|refine d_off 6 rfl rfl rfl (by decide +kernel) ?_|(apply Aj 7 rfl rfl rfl (by decide +kernel);(first|exact p_move rfl|exact p_assign rfl|exact p_lensl (by dsimp only;decide +kernel) rfl|exact p_eql rfl rfl|exact p_gtr rfl rfl|exact p_not rfl|exact Ag rfl rfl (by omega)|exact Af rfl rfl (by omega)))|refine d_off 7 rfl rfl rfl (by decide +kernel) ?_|refine Ht (by decide +kernel) ?_|fail)))
 refine Ay8 (zs:=ys) rfl rfl Hr rfl rfl (λw hs=>hs.here) (by rw[hy]) (by omega) (by simp only[maxLen];omega) (by omega) hy1 ?_;intro b' q tl hq1 hq2 htl
 repeat' (first|(refine G9 ?_;(first|refine Dm ?_|(apply A8 rfl rfl;(first|exact p_move rfl|exact p_assign rfl|exact p_lensl (by dsimp only;decide +kernel) rfl|exact p_eql rfl rfl|exact p_gtr rfl rfl|exact p_not rfl|exact Ag rfl rfl (by omega)|exact Af rfl rfl (by omega)))|fail|fail))|(refine Hk ?_;(first|refine Dp ?_|refine Be ?_|refine B7 ?_|refine Bq (by dsimp only;decide +kernel) Ak ?_|(refine Bl rfl ?_ ?_<;>intro hc<;>try (first|contradiction|(exfalso;omega)))|(refine B5 rfl ?_ ?_<;>intro hc<;>try contradiction)|refine B8 rfl rfl ?_|fail))|(refine G5 ?_;(first|refine Dk ?_|(refine Bp Ak ?_)|fail))|(refine Sv ?_;(first|(apply Aj 0 rfl rfl rfl (by decide +kernel);(first|exact p_move rfl|exact p_assign rfl|exact p_lensl (by dsimp only;decide +kernel) rfl|exact p_eql rfl rfl|exact p_gtr rfl rfl|exact p_not rfl|exact Ag rfl rfl (by omega)|exact Af rfl rfl (by omega)))|refine d_off 0 rfl rfl rfl (by decide +kernel) ?_|(apply Aj 1 rfl rfl rfl (by decide +kernel);(first|exact p_move rfl|exact p_assign rfl|exact p_lensl (by dsimp only;decide +kernel) rfl|exact p_eql rfl rfl|exact p_gtr rfl rfl|exact p_not rfl|exact Ag rfl rfl (by omega)|exact Af rfl rfl (by omega)))|refine d_off 1 rfl rfl rfl (by decide +kernel) ?_|(apply Aj 2 rfl rfl rfl (by decide +kernel);(first|exact p_move rfl|exact p_assign rfl|exact p_lensl (by dsimp only;decide +kernel) rfl|exact p_eql rfl rfl|exact p_gtr rfl rfl|exact p_not rfl|exact Ag rfl rfl (by omega)|exact Af rfl rfl (by omega)))|refine d_off 2 rfl rfl rfl (by decide +kernel) ?_|(apply Aj 3 rfl rfl rfl (by decide +kernel);(first|exact p_move rfl|exact p_assign rfl|exact p_lensl (by dsimp only;decide +kernel) rfl|exact p_eql rfl rfl|exact p_gtr rfl rfl|exact p_not rfl|exact Ag rfl rfl (by omega)|exact Af rfl rfl (by omega)))|refine d_off 3 rfl rfl rfl (by decide +kernel) ?_|(apply Aj 4 rfl rfl rfl (by decide +kernel);(first|exact p_move rfl|exact p_assign rfl|exact p_lensl (by dsimp only;decide +kernel) rfl|exact p_eql rfl rfl|exact p_gtr rfl rfl|exact p_not rfl|exact Ag rfl rfl (by omega)|exact Af rfl rfl (by omega)))|refine d_off 4 rfl rfl rfl (by decide +kernel) ?_|(apply Aj 5 rfl rfl rfl (by decide +kernel);(first|exact p_move rfl|exact p_assign rfl|exact p_lensl (by dsimp only;decide +kernel) rfl|exact p_eql rfl rfl|exact p_gtr rfl rfl|exact p_not rfl|exact Ag rfl rfl (by omega)|exact Af rfl rfl (by omega)))|refine d_off 5 rfl rfl rfl (by decide +kernel) ?_|(apply Aj 6 rfl rfl rfl (by decide +kernel);(first|exact p_move rfl|exact p_assign rfl|exact p_lensl (by dsimp only;decide +kernel) rfl|exact p_eql rfl rfl|exact p_gtr rfl rfl|exact p_not rfl|exact Ag rfl rfl (by omega)|exact Af rfl rfl (by omega)))|refine d_off 6 rfl rfl rfl (by decide +kernel) ?_|(apply Aj 7 rfl rfl rfl (by decide +kernel);(first|exact p_move rfl|exact p_assign rfl|exact p_lensl (by dsimp only;decide +kernel) rfl|exact p_eql rfl rfl|exact p_gtr rfl rfl|exact p_not rfl|exact Ag rfl rfl (by omega)|exact Af rfl rfl (by omega)))|refine d_off 7 rfl rfl rfl (by decide +kernel) ?_|refine Ht (by decide +kernel) ?_|fail)))
 refine Dz ⟨_,_,_,rfl,hq1,hq2,rfl,by simp;omega,?_⟩;exact List.take_left' hy
end Go.Proofs.YtbkinkalnmbpjaaGreatDoor
namespace Go.Proofs.YtbkinkalnmbpjaaGreatDoor
open Go.Ax
theorem Atv:ClOk Tryz.prog 84 (elT .str) (csz .str):=⟨Sx.enters_of Tryz.func84 rfl (by kernel_rfl),Aoy⟩
def Md(l:List (Str)):Option (List (Str)):=cond (decide (l.length<=1000000)) (some l) none
def Ud:FT [.sl .str false] [.sl .str true]:=λx=>Md x
theorem Acz:FO 84 [.sl .str false] [.sl .str true] Ud:=Aqo Atv
theorem Aul:ClOk Tryz.prog 83 (elT .col) (csz .col):=⟨Sx.enters_of Tryz.func83 rfl (by kernel_rfl),Ao7⟩
def Af7(l:List (Col)):Option (List (Col)):=cond (decide (l.length<=1000000)) (some l) none
def Ag4:FT [.sl .col false] [.sl .col true]:=λx=>Af7 x
theorem Auo:FO 83 [.sl .col false] [.sl .col true] Ag4:=Aqo Aul
theorem Ac7:ClOk Tryz.prog 153 (elT .expr) (csz .expr):=⟨Sx.enters_of Tryz.func153 rfl (by kernel_rfl),An2⟩
theorem Ac3:ClOk Tryz.prog 50 (elT .idx) (csz .idx):=⟨Sx.enters_of Tryz.func50 rfl (by kernel_rfl),Aoe⟩
theorem Ym:Am4 Tryz.prog 153:=Ajd
theorem Xt:Am4 Tryz.prog 50:=Aji
theorem Bhr:InsOk Tryz.prog 90 (elT .idx):=⟨Sx.enters_of Tryz.func90 rfl (by kernel_rfl),λ_ _ _ _ _ _ _ _ _ h1 h2 h3 h4 h5 h6 h7 h8 h9=>Bf2 _ _ _ _ _ _ _ _ _ h1 h2 h3 h4 h5 h6 h7 h8 h9,λ_ _ _ _ _ h1 h2=>A98 _ _ _ _ _ h1 h2⟩
theorem Bg4:DelOk Tryz.prog 51 (elT .idx):=⟨Sx.enters_of Tryz.func51 rfl (by kernel_rfl),λ_ _ _ _ _ _ h1 h2 h3 h4 h5=>Be0 _ _ _ _ _ _ h1 h2 h3 h4 h5⟩
end Go.Proofs.YtbkinkalnmbpjaaGreatDoor
namespace Go.Proofs.YtbkinkalnmbpjaaGreatDoor.Lp
open Go.Sx Go.RowKit
abbrev Tok:=Go.Ax.Tok
def pre(l m:List UInt8):Bool:=decide (m.length<=l.length)&&decide (l.take m.length=m)
def inI(n:Int):Prop := -9223372036854775808<=n/\n<=9223372036854775807
instance (n:Int):Decidable (inI n):=by unfold inI;infer_instance
def vis(c:Int):Bool:=decide (32<=c)&&decide (c<=126)
def visF(l:List UInt8):Bool:=l.all λb=>vis b.toNat
def rightF(k n:Int)(s:List UInt8):Bool :=
 if k=1 then n == 0&&decide (s=[]) else if k=2 then(n == 0||n == 1)&&decide (s=[]) else if k=3 then decide (s=[])
 else if k=4 then n == 0&&decide ((s.length:Int)<=1000)&&visF s else if k=5 then n == 0&&decide ((s.length:Int)<=1000) else false
def isUp(c:Int):Bool:=decide (65<=c)&&decide (c<=90)
def isLo(c:Int):Bool:=decide (97<=c)&&decide (c<=122)
def isDi(c:Int):Bool:=decide (48<=c)&&decide (c<=57)
def isIn(c:Int):Bool:=isLo c||isDi c||c == 95
def runTo(p:Int->Bool)(l:List UInt8)(i:Int):Int:=i+((l.drop i.toNat).takeWhile λb=>p b.toNat).length
theorem G3(l:List UInt8)(j:Int)(h : 0<=j/\j<l.length):l.drop j.toNat=l.getD j.toNat 0::l.drop (j+1).toNat:=by
 have h1:j.toNat<l.length:=by omega
 have h2:(j+1).toNat=j.toNat+1:=by omega
 rw[h2,List.drop_eq_getElem_cons h1];simp[List.getD_eq_getElem?_getD,h1]
theorem runTo_yes{p:Int->Bool}{l:List UInt8}{j:Int}(h : 0<=j/\j<l.length)(hp:p (byt l j)=true):runTo p l (j+1)=runTo p l j:=by unfold runTo;rw[G3 l j h];have:p ((l.getD j.toNat 0).toNat:Int)=true:=hp;simp only[List.takeWhile_cons,this,if_true,Zf1];omega
theorem runTo_no{p:Int->Bool}{l:List UInt8}{j:Int}(h : 0<=j/\j<l.length)(hp:p (byt l j)=false):runTo p l j=j:=by unfold runTo;rw[G3 l j h];have:p ((l.getD j.toNat 0).toNat:Int)=false:=hp;simp only[List.takeWhile_cons,this,Zi2,if_false,Zi1];omega
theorem runTo_end{p:Int->Bool}{l:List UInt8}{j:Int}(h:(l.length:Int)<=j):runTo p l j=j:=by unfold runTo;rw[Zk1 (by omega)];simp
def aloneF(l:List UInt8)(i:Int):Bool:=i == l.length || !isIn (byt l i) && !isUp (byt l i)
def dg(c:Int):Int:=IntKind.i64.wrap (IntKind.u8.wrap (c-48))
theorem Bi9(c:Int) : 0<=dg c/\dg c<=255:=by
 have e1:IntKind.u8.wrap (c-48)=(c-48) % 256:=by simp[IntKind.wrap,IntKind.bits,IntKind.signed]
 unfold dg;rw[e1,IntWalk.i64_in _ (by omega)];omega
def numGo:List UInt8->Int->Option Int
 |[],n=>some n
 |c::r,n=>if inI (n*10)/\inI (n*10+dg c.toNat) then numGo r (n*10+dg c.toNat) else none
theorem inI_dg(c:Int):inI (dg c):=by have:=Bi9 c;unfold inI;omega
def qGo:List UInt8->List UInt8->Int->List UInt8×Int
 |[],_,_=>([], -1)
 |[c],acc,i=>if c=39 then(acc,i+1) else([], -1)
 |c::d::r,acc,i=>if c=39 then(if d=39 then qGo r (acc++[39]) (i+2) else(acc,i+1)) else qGo (d::r) (acc++[c]) (i+1)
theorem R8{l:List UInt8}{j:Int}{c:UInt8}:byt l j=(c.toNat:Int)↔l.getD j.toNat 0=c:=by unfold byt;rw[<-UInt8.toNat_inj];omega
theorem q_end{l acc:List UInt8}{j:Int}(h:(l.length:Int)<=j):qGo (l.drop j.toNat) acc j=([], -1):=by rw[Zk1 (by omega)];rfl
theorem q_last{l acc:List UInt8}{j:Int}(h : 0<=j)(hl:j+1=l.length)(hc:byt l j=39):qGo (l.drop j.toNat) acc j=(acc,j+1):=by rw[G3 l j (by omega),(R8 (c:=39)).1 hc,Zk1 (by omega)];rfl
theorem q_close{l acc:List UInt8}{j:Int}(h : 0<=j)(hl:j+1<l.length)(hc:byt l j=39)(hd:byt l (j+1)≠39):qGo (l.drop j.toNat) acc j=(acc,j+1):=by have hd':¬l.getD (j+1).toNat 0=39:=λhh=>hd ((R8 (c:=39)).2 hh);rw[G3 l j (by omega),(R8 (c:=39)).1 hc,G3 l (j+1) (by omega)];simp only[qGo,if_true,if_neg hd']
theorem q_two{l acc:List UInt8}{j:Int}(h : 0<=j)(hl:j+1<l.length)(hc:byt l j=39)(hd:byt l (j+1)=39):qGo (l.drop j.toNat) acc j=qGo (l.drop (j+1+1).toNat) (acc++[39]) (j+1+1):=by rw[G3 l j (by omega),(R8 (c:=39)).1 hc,G3 l (j+1) (by omega),(R8 (c:=39)).1 hd];simp only[qGo,if_true];rw[show j+2=j+1+1 by omega]
theorem q_other{l acc:List UInt8}{j:Int}(h : 0<=j)(hl:j<l.length)(hc:¬byt l j=39):qGo (l.drop j.toNat) acc j=qGo (l.drop (j+1).toNat) (acc++[l.getD j.toNat 0]) (j+1):=by have hc':¬l.getD j.toNat 0=39:=λhh=>hc ((R8 (c:=39)).2 hh);rw[G3 l j (by omega)];cases hd:l.drop (j+1).toNat with|nil=>simp only[qGo,if_neg hc']|cons d r=>simp only[qGo,if_neg hc']
def hexD(c:Int):Option Int:=if 48<=c/\c<=57 then some (c-48) else if 97<=c/\c<=102 then some (c-87) else none
theorem hexD_lt{c n:Int}(h:hexD c=some n) : 0<=n/\n<=15:=by
 unfold hexD at h;split at h
 ·cases h;omega
 ·split at h
  ·cases h;omega
  ·cases h
def unGo:List UInt8->List UInt8->Option (List UInt8)
 |[],acc=>some acc
 |[_],_=>none
 |a::b::r,acc=>match hexD a.toNat,hexD b.toNat with|some x,some y=>unGo r (acc++[UInt8.ofNat (x*16+y).toNat])|_,_=>none
theorem Bep:∀a b:Fin 16,IntKind.u8.wrap (((BitVec.ofInt IntKind.u8.bits (IntKind.u8.wrap ((a.val:Int)*2 ^ min (4:Int).toNat IntKind.u8.bits)) ||| BitVec.ofInt IntKind.u8.bits (b.val:Int)).toNat:Nat):Int)=((a.val*16+b.val:Nat):Int):=by decide +kernel
theorem joinhex'{x y:Int}(hx : 0<=x/\x<=15)(hy : 0<=y/\y<=15):IntKind.u8.wrap (((BitVec.ofInt IntKind.u8.bits (IntKind.u8.wrap (x*2 ^ min (4:Int).toNat IntKind.u8.bits)) ||| BitVec.ofInt IntKind.u8.bits y).toNat:Nat):Int)=((UInt8.ofNat (x*16+y).toNat).toNat:Int):=by obtain⟨a,rfl⟩:=Int.eq_ofNat_of_zero_le hx.1;obtain⟨b,rfl⟩:=Int.eq_ofNat_of_zero_le hy.1;have:=Bep ⟨a,by omega⟩ ⟨b,by omega⟩;simp only at this;rw[this];rw[show((a:Int)*16+(b:Int)).toNat=a*16+b by omega,UInt8.toNat_ofNat'];omega
theorem un_step{l acc:List UInt8}{j:Int}(h : 0<=j)(hl:j+1<l.length):unGo (l.drop j.toNat) acc=match hexD (byt l j),hexD (byt l (j+1)) with
  |some x,some y=>unGo (l.drop (j+2).toNat) (acc++[UInt8.ofNat (x*16+y).toNat])
  |_,_=>none:=by
 rw[G3 l j (by omega),G3 l (j+1) (by omega),show j+1+1=j+2 by omega];rfl
def signs:List UInt8:=[40,41,44,42,61,60,62,43,45,59]
def signF(l:List UInt8):Int:=if pre l [60,62]||pre l [60,61]||pre l [62,61] then 2 else if 0<=Lib.indexByte signs (byt l 0).toNat.toUInt8 then 1 else 0
def idx(x:List UInt8):List (List UInt8)->Int->Int
 |[],_ => -1
 |l::r,i=>if x=l then i else idx x r (i+1)
theorem idx_ge(x:List UInt8):∀(ls:List (List UInt8)) (i:Int),0<=i->(0<=idx x ls i↔x∈ls)
 |[],i,_=>by simp[idx]
 |l::r,i,h=>by
  by_cases hx:x=l
  ·simp[idx,hx,h]
  ·simp[idx,hx,idx_ge x r (i+1) (by omega)]
def wordF(l:List UInt8):Bool:=wordsL.contains l
def nameF(l:List UInt8):Bool := !decide (l=[])&&decide ((l.length:Int)<=30)&&isLo (byt l 0)&&(runTo isIn l 0 == l.length)
def tokF(l:List UInt8)(i:Int):Option (Int×List UInt8×Int×Int) :=
 if pre (l.drop i.toNat) [120,39] then
  let n:=Lib.indexByte (l.drop (i+2).toNat) 39
  if n<0 then none else
  let x:=cut l (i+2) (i+2+n);match(if x.length % 2=0 then unGo x [] else none) with|none=>none|some b=>if 1000<(b.length:Int) then none else some (5,b,0,i+3+n)
 else if isUp (byt l i) then
  if wordF (cut l i (runTo isUp l i))&&aloneF l (runTo isUp l i) then some (1,cut l i (runTo isUp l i),0,runTo isUp l i) else none
 else if isLo (byt l i) then
  if nameF (cut l i (runTo isIn l i))&&aloneF l (runTo isIn l i) then some (2,cut l i (runTo isIn l i),0,runTo isIn l i) else none
 else if isDi (byt l i) then
  match numGo (cut l i (runTo isDi l i)) 0 with|none=>none|some n=>if(decide (cut l i (runTo isDi l i)=[48])||byt (cut l i (runTo isDi l i)) 0 != 48)&&aloneF l (runTo isDi l i) then some (3,cut l i (runTo isDi l i),n,runTo isDi l i) else none
 else if byt l i=39 then
  let q:=qGo (l.drop (i+1).toNat) [] (i+1)
  if rightF 4 0 q.1 then(if q.2<0 then none else some (4,q.1,0,q.2)) else none
 else if signF (l.drop i.toNat)=0 then none else some (6,cut l i (i+signF (l.drop i.toNat)),0,i+signF (l.drop i.toNat))
theorem runTo_range(p:Int->Bool)(l:List UInt8)(i:Int)(h : 0<=i/\i<=l.length):i<=runTo p l i/\runTo p l i<=l.length:=by unfold runTo;have h1:=(List.takeWhile_prefix (λb:UInt8=>p b.toNat) (l:=l.drop i.toNat)).length_le;rw[Za2] at h1;omega
theorem runTo_gt{p:Int->Bool}{l:List UInt8}{i:Int}(h : 0<=i/\i<l.length)(hp:p (byt l i)=true):i+1<=runTo p l i:=by have h1:=runTo_yes h hp;have h2:=runTo_range p l (i+1) (by omega);omega
theorem cut_length(l:List UInt8)(a b:Int)(h : 0<=a/\a<=b/\b<=l.length):((cut l a b).length:Int)=b-a:=by unfold cut;rw[List.length_take,Za2];omega
theorem signF_in(l:List UInt8)(h : 0<l.length):signF l=0\/signF l=1\/(signF l=2/\2<=l.length):=by
 unfold signF;split
 ·rename_i hp;right;right;refine⟨rfl,?_⟩;simp only[pre,Zc2,Zb1,Zg1,Zf1,Zi1] at hp;omega
 ·split
  ·exact .inr (.inl rfl)
  ·exact .inl rfl
theorem qGo_in:∀(n:Nat) (l acc:List UInt8) (i:Int),l.length<=n->0<=i->(qGo l acc i).2 = -1\/(i+1<=(qGo l acc i).2/\(qGo l acc i).2<=i+l.length)
 |n,[],acc,i,_,h=>by left;rfl
 |n,[c],acc,i,_,h=>by
  simp only[qGo];split
  ·right;simp
  ·left;rfl
 |0,_::_::_,_,_,hn,_=>by simp at hn
 |n+1,c::d::r,acc,i,hn,h=>by
  simp only[Zf1] at hn ⊢;simp only[qGo];split
  ·split
   ·rcases qGo_in n r (acc++[39]) (i+2) (by omega) (by omega) with h1|h1
    ·exact .inl h1
    ·right;omega
   ·right;simp;omega
  ·rcases qGo_in n (d::r) (acc++[c]) (i+1) (by simp;omega) (by omega) with h1|h1
   ·exact .inl h1
   ·right;simp at h1;omega
theorem indexByte_in:∀(l:List UInt8) (c:UInt8),Lib.indexByte l c = -1\/(0<=Lib.indexByte l c/\Lib.indexByte l c<l.length)
 |[],c =>.inl rfl
 |b::l,c=>by
  simp only[Lib.indexByte,Zf1];split
  ·right;omega
  ·rcases indexByte_in l c with h|h
   ·left;simp[h]
   ·right;have:¬((Lib.indexByte l c == -1)=true):=by simp;omega
    rw[if_neg this];omega
def blankF(c:Int):Bool:=decide (0<=Lib.indexByte [32,9,10,13] c.toNat.toUInt8)
def allGo:Nat->List UInt8->Int->List Tok->Except Int (List Tok)
 |0,_,_,acc =>.ok acc
 |f+1,l,i,acc =>
  if(l.length:Int)<=i then .ok acc
  else if blankF (byt l i) then allGo f l (i+1) acc
  else match tokF l i with|none =>.error i|some (k,s,n,e)=>allGo f l e (acc++[⟨k,i,s,n⟩])
def allF(l:List UInt8):Except Int (List Tok):=allGo (l.length+1) l 0 []
theorem tok_end{l:List UInt8}{i:Int}(h0 : 0<=i/\i<l.length){k:Int}{s:List UInt8}{n e:Int}(h:tokF l i=some (k,s,n,e)):i<e/\e<=l.length:=by
 unfold tokF at h;split at h
 ·rename_i hx;have hdl:(l.drop i.toNat).length=l.length-i.toNat:=Za2;have h2 : 2<=(l.drop i.toNat).length:=by simp only[pre,Zb1,Zg1,Zf1,Zi1] at hx;omega
  have hdl2:(l.drop (i+2).toNat).length=l.length-(i+2).toNat:=Za2;have hib:=indexByte_in (l.drop (i+2).toNat) 39;simp only at h;split at h
  ·cases h
  ·split at h
   ·cases h
   ·split at h
    ·cases h
    ·cases h;omega
 ·split at h
  ·rename_i hu;have hr:=runTo_range isUp l i (by omega);have hg:=runTo_gt h0 hu;split at h
   ·cases h;omega
   ·cases h
  ·split at h
   ·rename_i hlo;have hr:=runTo_range isIn l i (by omega);have hg:=runTo_gt (p:=isIn) h0 (by simp[isIn,hlo]);split at h
    ·cases h;omega
    ·cases h
   ·split at h
    ·rename_i hd;have hr:=runTo_range isDi l i (by omega);have hg:=runTo_gt h0 hd;split at h
     ·cases h
     ·split at h
      ·cases h;omega
      ·cases h
    ·split at h
     ·have hqi:=qGo_in _ (l.drop (i+1).toNat) [] (i+1) (Zn1 _) (by omega);have hdl:(l.drop (i+1).toNat).length=l.length-(i+1).toNat:=Za2;simp only at h;split at h
      ·split at h
       ·cases h
       ·cases h;omega
      ·cases h
     ·split at h
      ·cases h
      ·have hdl:(l.drop i.toNat).length=l.length-i.toNat:=Za2;have hs:=signF_in (l.drop i.toNat) (by omega);cases h;omega
end Go.Proofs.YtbkinkalnmbpjaaGreatDoor.Lp
namespace Go.Ax
theorem FnOk.ofIs{P:Program}{el:Ck->TypeId}{gl:Nat->Option Gv}{f:FuncId}{sa sr:List Sg}{F:FT sa sr}(he:Sx.Enters P f)(ho:Bg 0 sr=[])(h:∀x r,F x=some r->∃(us:List Value) (v:Value),(∀X vs,Reps X (B3 0 sa x) vs->vs=us)/\Sx.Con P f us [] (λ_=>True) (Sx.Is v)/\∀X,BdL sa x->Rep X (Gj (B3 0 sr r)) v):FnOk P el gl f sa sr F:=by
 refine⟨he,λx r hx w M vs hM hgl hr =>?_⟩;obtain⟨us,v,h1,h2,h3⟩:=h x r hx;obtain rfl:=h1 _ _ hr;refine(h2.calls w (λ_ _=>trivial)).mono ?_;rintro en w' ⟨u,L',F',rfl,⟨rfl,_,_⟩,_,hb⟩;refine⟨u,⟨λ_=>0,λ_=>Option.none⟩,rfl,Chg.of_below hb,λp g o hp =>?_,λp q g o o' hp =>?_,h3 _ (Xz hr)⟩
 ·rw[ho] at hp;cases hp
 ·rw[ho] at hp;cases hp
end Go.Ax
namespace Go.Proofs.YtbkinkalnmbpjaaGreatDoor
open Go.Ax
open Go.Sx (Con S Is C7 Bby)
theorem Asn(a b:Str)(w:World):(callFunc 231 #[S a,S b]).run Tryz.prog w = .ok (.value (.int .i64 (Lib.compareBytes a b))) w:=by rw[run_callFunc_extern Tryz.func231 (by kernel_rfl) rfl (by kernel_rfl) (e:=Extern.BytealgCompare.compare) (by kernel_rfl)];simp[Lib.run_compareString,go_sem,S]
set_option maxRecDepth 20000 in
open Go.Sx in
theorem Acj(a b:Str):Con Tryz.prog 175 [S a,S b] [] (λ_=>True) (Is (.int .i64 (Lib.compareBytes a b))):=by
 refine C7 Tryz.func175 Tryz.ntmps175 rfl (by kernel_rfl) rfl λw M =>?_
 repeat' (first|refine Dp ?_|refine Be ?_|refine Dm ?_|refine Dk ?_|refine n_blk ?_|refine g_block ?_|refine B7 ?_|refine g_exit ?_|refine x_here ?_|refine x_seq ?_|refine x_loop ?_|refine x_blk rfl ?_|refine g_scope ?_|refine n_scope ?_|refine x_scope ?_|refine g_label ?_|(apply A8 rfl rfl;(first|exact p_move rfl|exact p_assign rfl|exact p_lens (by dsimp only;decide +kernel) rfl|exact p_lensl (by dsimp only;decide +kernel) rfl|exact p_extract rfl rfl|exact p_pick_t rfl rfl|exact p_pick_f rfl rfl|exact p_eql rfl rfl|exact p_neq rfl rfl|exact p_lss rfl rfl|exact p_leq rfl rfl|exact p_gtr rfl rfl|exact p_geq rfl rfl|exact p_not rfl|exact p_eqls rfl rfl|exact p_neqs rfl rfl|exact Ag rfl rfl (by omega)|exact Af rfl rfl (by omega)|exact p_index (by dsimp only;decide +kernel) rfl rfl (by omega)|exact p_cut (by dsimp only;decide +kernel) rfl rfl rfl (by omega)|exact p_cutlo (by dsimp only;decide +kernel) rfl rfl (by omega)|exact p_cuthi (by dsimp only;decide +kernel) rfl rfl (by omega)|exact p_fa (fo:=0) (by dsimp only;decide +kernel) rfl|exact p_fa (fo:=1) (by dsimp only;decide +kernel) rfl|exact p_fa (fo:=2) (by dsimp only;decide +kernel) rfl|exact p_fa (fo:=3) (by dsimp only;decide +kernel) rfl|exact p_nil rfl))|refine o_off rfl rfl ?_|refine o_off_none rfl ?_|(apply A8 rfl rfl (A1r rfl rfl (Asn _ _)))|(refine o_gsd rfl rfl ?_ ?_<;>intro hc)|(refine o_gse rfl rfl ?_ ?_<;>intro hc)|(refine o_gsn rfl rfl ?_ ?_<;>intro hc)|(refine o_gsxd rfl rfl ?_ ?_<;>intro hc)|(refine o_gsx rfl rfl ?_ ?_<;>intro hc)|(refine o_gs rfl rfl ?_ ?_<;>intro hc)|refine g_cond_t rfl rfl ?_|refine g_cond_f rfl rfl ?_|refine g_cond_t rfl (Ze1 (by omega)) ?_|refine g_cond_f rfl (Zd1 (by omega)) ?_|(refine Bl rfl ?_ ?_<;>intro hc)|(refine g_conde rfl ?_ ?_<;>intro hc)|(refine g_condn rfl ?_ ?_<;>intro hc)|(refine g_condxd rfl ?_ ?_<;>intro hc)|(refine g_condx rfl ?_ ?_<;>intro hc)|(refine B5 rfl ?_ ?_<;>intro hc)|refine B8 rfl rfl ?_|refine g_ret2 rfl rfl rfl ?_|refine g_ret3 rfl rfl rfl rfl ?_|fail)
 exact Bby rfl
def Vy(a b:Str):Int:=Lib.compareBytes a b
def Avu:FT [.str,.str] [.int .i64]:=λx=>some (Vy x.1 x.2)
theorem Agi:∀(a b:Str),Vy a b = -1\/Vy a b=0\/Vy a b=1
 |[],[]=>by simp[Vy,Lib.compareBytes]
 |[],_::_=>by simp[Vy,Lib.compareBytes]
 |_::_,[]=>by simp[Vy,Lib.compareBytes]
 |a::l,b::m=>by
  have ih:=Agi l m;simp only[Vy,Lib.compareBytes] at ih ⊢;split
  ·simp
  ·split
   ·simp
   ·exact ih
theorem Bfk:FO 175 [.str,.str] [.int .i64] Avu:=by
 refine FnOk.ofIs (Acj [] []).enters rfl λx r hx =>?_;obtain⟨a,b⟩:=x;simp only[Avu,Za1] at hx;subst hx;refine⟨[S a,S b],_,λX vs h =>?_,Acj a b,λX hb =>?_⟩
 ·simp only[B3,Ce,Reps,Rep] at h;obtain⟨u,us,rfl,⟨rfl,_⟩,u2,us2,rfl,⟨rfl,_⟩,rfl⟩:=h;rfl
 ·simp only[Gj,B3,Ce];have h:=Agi a b;refine Cl (Aq6 ?_);simp only[IntKind.min,IntKind.max,IntKind.signed,IntKind.bits];simp only[if_true];omega
end Go.Proofs.YtbkinkalnmbpjaaGreatDoor
namespace Go.Proofs.YtbkinkalnmbpjaaGreatDoor
open Go.Ax
def Wo:Sig:=⟨20,[(0,.str),(2,.bool),(5,.int .i64),(6,.int .i64)],[],[],0,0,0,[],[]⟩
abbrev J5:=Str×Bool×Int×Int
def Ig{R:Type}(rec:J5->Option R)(kx:Ex->J5->Option R)(v:J5):Option R:=match v with
 |(v,v1,v2,v3) =>
 cond (decide (v3<v2)) (
  chk (inb v3 v.length) (
  cond (decide ((bat v v3)<32)) (
   kx .ret (v,false,v2,v3)) (
   chk (inb v3 v.length) (
   cond (decide (126<(bat v v3))) (
    kx .ret (v,false,v2,v3)) (
    rec (v,v1,v2,(wr .i64 (v3+1)))))))) (
  kx (.exit 0) (v,v1,v2,v3))
def Agl(R:Type)(k:Nat):Px R:=pxO [] [] [(2,Ao k Wo (Ig))] []
def Ap5(k:Nat)(x:HV [.str]):Option (HV [.bool]):=match x with
 |s =>
 Aq (λrec=>Ig rec (λe vz=>match vz with|(_,v5,_,_)=>match e with
  |.ret =>
  some v5
  |.exit 0 =>
  some true
  |_=>none)) k (s,false,(s.length:Int),0)
theorem Ars(k:Nat):FO 225 [.str] [.bool] (Ap5 k):=fR (px:=Agl _ k) (n:=1) Tryz.func225 rfl (λcx H=>by have h0:Lv cx (Agl (HV [.bool]) k):=lv H Ae Aa Ab;have hlvisible_0:=lO H h0 (b:=lp Tryz.f225 0) (k:=k) (n:=0) (s:=Wo) (step:=Ig) (λ_ _ _ (_,_,_,_)=>by kernel_rfl) Ai;exact⟨h0,(Bc Ai hlvisible_0)⟩) λ_=>by kernel_rfl
def vis(b:UInt8):Bool:=decide (32<=b.toNat)&&decide (b.toNat<=126)
def Ml(s:Str):Bool:=s.all vis
def Zw:FT [.str] [.bool]:=λx=>some (Ml x)
theorem X9{R:Type}{kx:Ex->J5->Option R}{s:Str}{a b:Option R}(hs:ln s.length)(h1:∀r j,kx .ret (s,false,r,j)=a)(h2:∀q r j,kx (.exit 0) (s,q,r,j)=b):∀(k i:Nat) q,i<=s.length->s.length-i<k->Aq (λrec=>Ig rec kx) k (s,q,(s.length:Int),(i:Int))=cond ((s.drop i).all vis) b a
 |0,i,q,_,h=>by omega
 |k+1,i,q,hi,h=>by
  rw[Bu];by_cases hl:i<s.length
  ·have ih:=X9 hs h1 h2 k (i+1) q (by omega) (by omega);simp only[Ig,Ay hl hs,ih,h1,Au hl,Ct hl,A1 hl,Zv1,chk,Ah,Bool.cond_decide];rw[if_pos (by omega)];simp only[vis];split
   ·rw[Zd1 (by omega)];rfl
   ·split
    ·rw[Ze1 (by omega),Zd1 (by omega)];rfl
    ·rw[Ze1 (by omega),Ze1 (by omega)];rfl
  ·simp only[Ig,h2,Bool.cond_decide];rw[if_neg (by omega),Zk1 (by omega)];rfl
theorem Avm:FO 225 [.str] [.bool] Zw :=.fin 0 Ars λx r hb hx=>⟨x.length+1,by simp only[Zw,Za1] at hx;have:=X9 (a:=some false) (b:=some true) hb (kx:=λe v=>match v with|(_,v5,_,_)=>match e with|.ret=>some v5|.exit 0=>some true|_=>none) (λ_ _=>rfl) (λ_ _ _=>rfl) (x.length+1) 0 false (Nat.zero_le _) (by omega);refine Eq.trans this ?_;rw[<-hx,Zq1,Ml];cases x.all vis<;>rfl⟩
def A6a(R:Type):Px R:=pxO [(225,cA Zw)] [] [] []
def Pv(x:HV [.sv .val]):Option (HV [.bool]):=match x with
 |v =>
 cond (decide (v.kind=1)) (
  cond (decide (v.n=0)) (
  some (decide (v.s=[]))) (
  some false)) (
  cond (decide (v.kind=2)) (
  cond (decide (v.n=0)) (
   some (decide (v.s=[]))) (
   cond (decide (v.n=1)) (
   some (decide (v.s=[]))) (
   some false))) (
  cond (decide (v.kind=3)) (
   some (decide (v.s=[]))) (
   cond (decide (v.kind=4)) (
   cond (decide (v.n=0)) (
    cond (decide ((v.s.length:Int)<=1000)) (
    some (Ml v.s)) (
    some false)) (
    some false)) (
   cond (decide (v.kind=5)) (
    cond (decide (v.n=0)) (
    some (decide ((v.s.length:Int)<=1000))) (
    some false)) (
    some false)))))
theorem Aw5:FO 167 [.sv .val] [.bool] (Pv):=fR (px:=A6a _) (n:=0) Tryz.func167 rfl (λ_ H=>⟨lv H (c1 H Avm Ae) Aa Ab,Ai⟩) λ_=>by kernel_rfl
def Eu(v:Val):Bool :=
 cond (decide (v.kind=1)) (
  cond (decide (v.n=0)) (
  (decide (v.s=[]))) (
  false)) (
  cond (decide (v.kind=2)) (
  cond (decide (v.n=0)) (
   (decide (v.s=[]))) (
   cond (decide (v.n=1)) (
   (decide (v.s=[]))) (
   false))) (
  cond (decide (v.kind=3)) (
   (decide (v.s=[]))) (
   cond (decide (v.kind=4)) (
   cond (decide (v.n=0)) (
    cond (decide ((v.s.length:Int)<=1000)) (
    (Ml v.s)) (
    false)) (
    false)) (
   cond (decide (v.kind=5)) (
    cond (decide (v.n=0)) (
    (decide ((v.s.length:Int)<=1000))) (
    false)) (
    false)))))
theorem Ayq(x:HV [.sv .val]):Pv x=some (Eu x):=by
 first
  |exact rfl
  |simp only[Pv,Eu,Az]
def V8:FT [.sv .val] [.bool]:=λx=>some (Eu x)
theorem Z6:FO 167 [.sv .val] [.bool] V8 :=.fin0 Aw5 λx _ _ hx=>(Ayq x).trans hx
def A23(R:Type):Px R:=pxO [(167,cA V8)] [] [] []
def O6(x:HV [.sv .val]):Option (HV [.int .i64]):=match x with
 |v =>
 cond (!(Eu v)) (
  some 2) (
  some 0)
theorem Avs:FO 226 [.sv .val] [.int .i64] (O6):=fR (px:=A23 _) (n:=0) Tryz.func226 rfl (λ_ H=>⟨lv H (c1 H Z6 Ae) Aa Ab,Ai⟩) λ_=>by kernel_rfl
def Of(v:Val):Int :=
 cond (!(Eu v)) (
  2) (
  0)
theorem Axs(x:HV [.sv .val]):O6 x=some (Of x):=by
 first
  |exact rfl
  |simp only[O6,Of,Az]
def Ahv:FT [.sv .val] [.int .i64]:=λx=>some (Of x)
theorem Amp:FO 226 [.sv .val] [.int .i64] Ahv :=.fin0 Avs λx _ _ hx=>(Axs x).trans hx
def A82(R:Type):Px R:=pxO [(167,cA V8)] [] [] []
def T7(x:HV [.sv .val,.int .i64]):Option (HV [.bool]):=match x with
 |(v,kind) =>
 cond ((Eu v)) (
  cond (decide (v.kind=1)) (
  some true) (
  some (decide (v.kind=kind)))) (
  some false)
theorem A6e:FO 102 [.sv .val,.int .i64] [.bool] (T7):=fR (px:=A82 _) (n:=0) Tryz.func102 rfl (λ_ H=>⟨lv H (c1 H Z6 Ae) Aa Ab,Ai⟩) λ(_,_)=>by kernel_rfl
def Alq(v:Val)(kind:Int):Bool :=
 cond ((Eu v)) (
  cond (decide (v.kind=1)) (
  true) (
  (decide (v.kind=kind)))) (
  false)
theorem A40(x:HV [.sv .val,.int .i64]):T7 x=some (Alq x.1 x.2):=by
 first
  |exact rfl
  |simp only[T7,Alq,Az]
def Azz:FT [.sv .val,.int .i64] [.bool]:=λx=>some (Alq x.1 x.2)
theorem Bay:FO 102 [.sv .val,.int .i64] [.bool] Azz :=.fin0 A6e λx _ _ hx=>(A40 x).trans hx
def A87(R:Type):Px R:=pxO [] [] [] []
def Uj(x:HV [.int .i64,.int .i64]):Option (HV [.int .i64]):=match x with
 |(a,b) =>
 cond (decide (a<b)) (
  some (-1)) (
  cond (decide (b<a)) (
  some 1) (
  some 0))
theorem A54:FO 107 [.int .i64,.int .i64] [.int .i64] (Uj):=fR (px:=A87 _) (n:=0) Tryz.func107 rfl (λ_ H=>⟨lv H Ae Aa Ab,Ai⟩) λ(_,_)=>by kernel_rfl
def Hq(a:Int)(b:Int):Int :=
 cond (decide (a<b)) (
  (-1)) (
  cond (decide (b<a)) (
  1) (
  0))
theorem A5v(x:HV [.int .i64,.int .i64]):Uj x=some (Hq x.1 x.2):=by
 first
  |exact rfl
  |simp only[Uj,Hq,Az]
def A0r:FT [.int .i64,.int .i64] [.int .i64]:=λx=>some (Hq x.1 x.2)
theorem Bcf:FO 107 [.int .i64,.int .i64] [.int .i64] A0r :=.fin0 A54 λx _ _ hx=>(A5v x).trans hx
def Bes(R:Type):Px R:=pxO [] [] [] []
def Aaq(x:HV [.int .i64,.int .i64]):Option (HV [.int .i64,.int .i64]):=match x with
 |(a,b) =>
 cond (!decide ((decide (a<(wr .i64 (a+b))))=(decide (0<b)))) (
  some (0,20)) (
  some ((wr .i64 (a+b)),0))
theorem Bb5:FO 228 [.int .i64,.int .i64] [.int .i64,.int .i64] (Aaq):=fR (px:=Bes _) (n:=0) Tryz.func228 rfl (λ_ H=>⟨lv H Ae Aa Ab,Ai⟩) λ(_,_)=>by kernel_rfl
def Za(a:Int)(b:Int):Int×Int :=
 cond (!decide ((decide (a<(wr .i64 (a+b))))=(decide (0<b)))) (
  (0,20)) (
  ((wr .i64 (a+b)),0))
theorem A7y(x:HV [.int .i64,.int .i64]):Aaq x=some (Za x.1 x.2):=by
 first
  |exact rfl
  |simp only[Aaq,Za,Az]
def Av4:FT [.int .i64,.int .i64] [.int .i64,.int .i64]:=λx=>some (Za x.1 x.2)
theorem Azk:FO 228 [.int .i64,.int .i64] [.int .i64,.int .i64] Av4 :=.fin0 Bb5 λx _ _ hx=>(A7y x).trans hx
def Bf3(R:Type):Px R:=pxO [] [] [] []
def Aag(x:HV [.int .i64,.int .i64]):Option (HV [.int .i64,.int .i64]):=match x with
 |(a,b) =>
 cond (!decide ((decide ((wr .i64 (a-b))<a))=(decide (0<b)))) (
  some (0,20)) (
  some ((wr .i64 (a-b)),0))
theorem A7g:FO 229 [.int .i64,.int .i64] [.int .i64,.int .i64] (Aag):=fR (px:=Bf3 _) (n:=0) Tryz.func229 rfl (λ_ H=>⟨lv H Ae Aa Ab,Ai⟩) λ(_,_)=>by kernel_rfl
def Vu(a:Int)(b:Int):Int×Int :=
 cond (!decide ((decide ((wr .i64 (a-b))<a))=(decide (0<b)))) (
  (0,20)) (
  ((wr .i64 (a-b)),0))
theorem Bcl(x:HV [.int .i64,.int .i64]):Aag x=some (Vu x.1 x.2):=by
 first
  |exact rfl
  |simp only[Aag,Vu,Az]
def A8x:FT [.int .i64,.int .i64] [.int .i64,.int .i64]:=λx=>some (Vu x.1 x.2)
theorem Beu:FO 229 [.int .i64,.int .i64] [.int .i64,.int .i64] A8x :=.fin0 A7g λx _ _ hx=>(Bcl x).trans hx
def Bak(R:Type):Px R:=pxO [] [] [] []
def T9(x:HV [.int .i64]):Option (HV [.int .u64]):=match x with
 |n =>
 cond (decide (n<0)) (
  some (wr .u64 (0-(wr .u64 n)))) (
  some (wr .u64 n))
theorem A5b:FO 241 [.int .i64] [.int .u64] (T9):=fR (px:=Bak _) (n:=0) Tryz.func241 rfl (λ_ H=>⟨lv H Ae Aa Ab,Ai⟩) λ_=>by kernel_rfl
def Dl(n:Int):Int :=
 cond (decide (n<0)) (
  (wr .u64 (0-(wr .u64 n)))) (
  (wr .u64 n))
theorem A6o(x:HV [.int .i64]):T9 x=some (Dl x):=by
 first
  |exact rfl
  |simp only[T9,Dl,Az]
def Aox:FT [.int .i64] [.int .u64]:=λx=>some (Dl x)
theorem Au4:FO 241 [.int .i64] [.int .u64] Aox :=.fin0 A5b λx _ _ hx=>(A6o x).trans hx
def As3(R:Type):Px R:=pxO [(175,cA Avu)] [] [] []
def Ko(x:HV [.str,.str]):Option (HV [.int .i64]):=match x with
 |(a,b) =>
 some (Vy a b)
theorem Anw:FO 108 [.str,.str] [.int .i64] (Ko):=fR (px:=As3 _) (n:=0) Tryz.func108 rfl (λ_ H=>⟨lv H (c1 H Bfk Ae) Aa Ab,Ai⟩) λ(_,_)=>by kernel_rfl
def Iy(a:Str)(b:Str):Int :=(Vy a b)
theorem Anu(x:HV [.str,.str]):Ko x=some (Iy x.1 x.2):=by
 first
  |exact rfl
  |simp only[Ko,Iy,Az]
def Ut:FT [.str,.str] [.int .i64]:=λx=>some (Iy x.1 x.2)
theorem Abq:FO 108 [.str,.str] [.int .i64] Ut :=.fin0 Anw λx _ _ hx=>(Anu x).trans hx
def Bdm(R:Type):Px R:=pxO [(107,cA A0r),(108,cA Ut)] [] [] []
def Zx(x:HV [.sv .val,.sv .val]):Option (HV [.int .i64]):=match x with
 |(a,b) =>
 cond (!decide ((Hq a.kind b.kind)=0)) (
  some (Hq a.kind b.kind)) (
  cond (!decide ((Hq a.n b.n)=0)) (
  some (Hq a.n b.n)) (
  some (Iy a.s b.s)))
theorem Bc3:FO 43 [.sv .val,.sv .val] [.int .i64] (Zx):=fR (px:=Bdm _) (n:=0) Tryz.func43 rfl (λ_ H=>⟨lv H (c1 H Bcf (c1 H Abq Ae)) Aa Ab,Ai⟩) λ(_,_)=>by kernel_rfl
def A60(a:Val)(b:Val):Int :=
 cond (!decide ((Hq a.kind b.kind)=0)) (
  (Hq a.kind b.kind)) (
  cond (!decide ((Hq a.n b.n)=0)) (
  (Hq a.n b.n)) (
  (Iy a.s b.s)))
theorem Bae(x:HV [.sv .val,.sv .val]):Zx x=some (A60 x.1 x.2):=by
 first
  |exact rfl
  |simp only[Zx,A60,Az]
def Axw:FT [.sv .val,.sv .val] [.int .i64]:=λx=>some (A60 x.1 x.2)
theorem A1w:FO 43 [.sv .val,.sv .val] [.int .i64] Axw :=.fin0 Bc3 λx _ _ hx=>(Bae x).trans hx
def Bbt(R:Type):Px R:=pxO [] [] [] []
def T8(x:HV [.int .u64,.int .u64]):Option (HV [.int .u64,.int .u64]):=match x with
 |(a,b) =>
 some ((wr .u64 ((wr .u64 ((wr .u64 ((Eo .u64 a 32)*(Eo .u64 b 32)))+(Eo .u64 (wr .u64 ((wr .u64 ((Eo .u64 a 32)*(Gp .u64 b 4294967295)))+(Eo .u64 (wr .u64 ((Gp .u64 a 4294967295)*(Gp .u64 b 4294967295))) 32))) 32)))+(Eo .u64 (wr .u64 ((Gp .u64 (wr .u64 ((wr .u64 ((Eo .u64 a 32)*(Gp .u64 b 4294967295)))+(Eo .u64 (wr .u64 ((Gp .u64 a 4294967295)*(Gp .u64 b 4294967295))) 32))) 4294967295)+(wr .u64 ((Gp .u64 a 4294967295)*(Eo .u64 b 32))))) 32))),(wr .u64 (a*b)))
theorem A2v:FO 261 [.int .u64,.int .u64] [.int .u64,.int .u64] (T8):=fR (px:=Bbt _) (n:=0) Tryz.func261 rfl (λ_ H=>⟨lv H Ae Aa Ab,Ai⟩) λ(_,_)=>by kernel_rfl
def Iq(a:Int)(b:Int):Int×Int :=((wr .u64 ((wr .u64 ((wr .u64 ((Eo .u64 a 32)*(Eo .u64 b 32)))+(Eo .u64 (wr .u64 ((wr .u64 ((Eo .u64 a 32)*(Gp .u64 b 4294967295)))+(Eo .u64 (wr .u64 ((Gp .u64 a 4294967295)*(Gp .u64 b 4294967295))) 32))) 32)))+(Eo .u64 (wr .u64 ((Gp .u64 (wr .u64 ((wr .u64 ((Eo .u64 a 32)*(Gp .u64 b 4294967295)))+(Eo .u64 (wr .u64 ((Gp .u64 a 4294967295)*(Gp .u64 b 4294967295))) 32))) 4294967295)+(wr .u64 ((Gp .u64 a 4294967295)*(Eo .u64 b 32))))) 32))),(wr .u64 (a*b)))
theorem A5r(x:HV [.int .u64,.int .u64]):T8 x=some (Iq x.1 x.2):=by
 first
  |exact rfl
  |simp only[T8,Iq,Az]
def A2c:FT [.int .u64,.int .u64] [.int .u64,.int .u64]:=λx=>some (Iq x.1 x.2)
theorem A84:FO 261 [.int .u64,.int .u64] [.int .u64,.int .u64] A2c :=.fin0 A2v λx _ _ hx=>(A5r x).trans hx
def Bfu(R:Type):Px R:=pxO [(241,cA Aox),(261,cA A2c)] [] [] []
def Zl(x:HV [.int .i64,.int .i64]):Option (HV [.int .i64,.int .i64]):=match x with
 |(a,b) =>
 let j1:=λ(p3:Bool) =>
  cond (p3) (
  some (0,20)) (
  cond (!decide ((decide (a<0))=(decide (b<0)))) (
   some ((wr .i64 (wr .u64 (0-(Iq (Dl a) (Dl b)).2))),0)) (
   some ((wr .i64 ((Iq (Dl a) (Dl b)).2)),0)))
 let j:=λ(p:Bool) =>
  cond (p) (
  j1 true) (
  cond (decide ((Iq (Dl a) (Dl b)).2=9223372036854775808)) (
   j1 (!(!decide ((decide (a<0))=(decide (b<0)))))) (
   j1 false))
 cond (decide (0<(Iq (Dl a) (Dl b)).1)) (
  j true) (
  j (decide (9223372036854775808<(Iq (Dl a) (Dl b)).2)))
theorem A89:FO 230 [.int .i64,.int .i64] [.int .i64,.int .i64] (Zl):=fR (px:=Bfu _) (n:=0) Tryz.func230 rfl (λ_ H=>⟨lv H (c1 H Au4 (c1 H A84 Ae)) Aa Ab,Ai⟩) λ(_,_)=>by kernel_rfl
def We(a:Int)(b:Int):Int×Int :=
 let j1:=λ(p3:Bool) =>
  cond (p3) (
  (0,20)) (
  cond (!decide ((decide (a<0))=(decide (b<0)))) (
   ((wr .i64 (wr .u64 (0-(Iq (Dl a) (Dl b)).2))),0)) (
   ((wr .i64 ((Iq (Dl a) (Dl b)).2)),0)))
 let j:=λ(p:Bool) =>
  cond (p) (
  j1 true) (
  cond (decide ((Iq (Dl a) (Dl b)).2=9223372036854775808)) (
   j1 (!(!decide ((decide (a<0))=(decide (b<0)))))) (
   j1 false))
 cond (decide (0<(Iq (Dl a) (Dl b)).1)) (
  j true) (
  j (decide (9223372036854775808<(Iq (Dl a) (Dl b)).2)))
theorem A8k(x:HV [.int .i64,.int .i64]):Zl x=some (We x.1 x.2):=by
 first
  |exact rfl
  |simp only[Zl,We,Az]
def Ax1:FT [.int .i64,.int .i64] [.int .i64,.int .i64]:=λx=>some (We x.1 x.2)
theorem Azm:FO 230 [.int .i64,.int .i64] [.int .i64,.int .i64] Ax1 :=.fin0 A89 λx _ _ hx=>(A8k x).trans hx
theorem Arz{i:Int}{n:Nat}(h : 0<=i/\i<n):inb i n=true:=by simp[inb,h]
def A9f(R:Type):Px R:=pxO [] [] [] []
def Vk(x:HV [.int .u8]):Option (HV [.bool]):=match x with
 |c =>
 cond (decide (97<=c)) (
  some (decide (c<=122))) (
  some false)
theorem A41:FO 181 [.int .u8] [.bool] (Vk):=fR (px:=A9f _) (n:=0) Tryz.func181 rfl (λ_ H=>⟨lv H Ae Aa Ab,Ai⟩) λ_=>by kernel_rfl
def V9(c:Int):Bool :=
 cond (decide (97<=c)) (
  (decide (c<=122))) (
  false)
theorem A58(x:HV [.int .u8]):Vk x=some (V9 x):=by
 first
  |exact rfl
  |simp only[Vk,V9,Az]
def Adk:FT [.int .u8] [.bool]:=λx=>some (V9 x)
theorem Aeg:FO 181 [.int .u8] [.bool] Adk :=.fin0 A41 λx _ _ hx=>(A58 x).trans hx
def Bce(R:Type):Px R:=pxO [] [] [] []
def Va(x:HV [.int .u8]):Option (HV [.bool]):=match x with
 |c =>
 cond (decide (48<=c)) (
  some (decide (c<=57))) (
  some false)
theorem A5o:FO 236 [.int .u8] [.bool] (Va):=fR (px:=Bce _) (n:=0) Tryz.func236 rfl (λ_ H=>⟨lv H Ae Aa Ab,Ai⟩) λ_=>by kernel_rfl
def V3(c:Int):Bool :=
 cond (decide (48<=c)) (
  (decide (c<=57))) (
  false)
theorem A3z(x:HV [.int .u8]):Va x=some (V3 x):=by
 first
  |exact rfl
  |simp only[Va,V3,Az]
def Ad0:FT [.int .u8] [.bool]:=λx=>some (V3 x)
theorem Ae1:FO 236 [.int .u8] [.bool] Ad0 :=.fin0 A5o λx _ _ hx=>(A3z x).trans hx
def A9k(R:Type):Px R:=pxO [(181,cA Adk),(236,cA Ad0)] [] [] []
def Ui(x:HV [.int .u8]):Option (HV [.bool]):=match x with
 |c =>
 cond ((V9 c)) (
  some true) (
  cond ((V3 c)) (
  some true) (
  some (decide (c=95))))
theorem A4h:FO 183 [.int .u8] [.bool] (Ui):=fR (px:=A9k _) (n:=0) Tryz.func183 rfl (λ_ H=>⟨lv H (c1 H Aeg (c1 H Ae1 Ae)) Aa Ab,Ai⟩) λ_=>by kernel_rfl
def Aas(c:Int):Bool :=
 cond ((V9 c)) (
  true) (
  cond ((V3 c)) (
  true) (
  (decide (c=95))))
theorem A28(x:HV [.int .u8]):Ui x=some (Aas x):=by
 first
  |exact rfl
  |simp only[Ui,Aas,Az]
def Adi:FT [.int .u8] [.bool]:=λx=>some (Aas x)
theorem Afo:FO 183 [.int .u8] [.bool] Adi :=.fin0 A4h λx _ _ hx=>(A28 x).trans hx
theorem Ahz(c:Int):V9 c=Lp.isLo c:=by simp only[V9,Lp.isLo];cases decide (97<=c)<;>rfl
theorem Ags(c:Int):V3 c=Lp.isDi c:=by simp only[V3,Lp.isDi];cases decide (48<=c)<;>rfl
theorem Ahl(c:Int):Aas c=Lp.isIn c:=by simp only[Aas,Lp.isIn,Ahz,Ags];cases Lp.isLo c<;>cases Lp.isDi c<;>rfl
def Ah6:Sig:=⟨21,[(0,.str),(1,.int .i64)],[(2,.fn 183 [])],[],40,40,200,[],[]⟩
abbrev R4:=Str×Int
def Rc{R:Type}(rec:R4->Option R)(kx:Ex->R4->Option R)(v:R4):Option R:=match v with
 |(v,v1) =>
 cond (decide (v1<(v.length:Int))) (
  chk (inb v1 v.length) (
  cond ((Aas (bat v v1))) (
   rec (v,(wr .i64 (v1+1)))) (
   kx (.exit 0) (v,v1)))) (
  kx (.exit 0) (v,v1))
def Aed(R:Type)(k:Nat):Px R:=pxO [(183,cA Adi)] [] [(1,Ao k Ah6 (Rc))] []
noncomputable def Arb(R:Type)(k:Nat):Px R:=pxO [(181,cA Adk),(182,Aw 40 200 (Aed R k) Tryz.f182)] [] [] []
def Ahc(k:Nat)(x:HV [.str]):Option (HV [.bool]):=match x with
 |s =>
 let j1:=λ(p:Bool) =>
  let j:=λ(p1:Bool) =>
  cond (p1) (
   Aq (λrec=>Rc rec (λe vz=>match vz with|(_,v3)=>match e with
   |.exit 0 =>some (decide (v3=(s.length:Int)))
   |_=>none)) k (s,0)) (
   some false)
  cond (p) (
  chk (inb 0 s.length) (
   j (V9 (bat s 0)))) (
  j false)
 cond (!decide (s=[])) (
  j1 (decide ((s.length:Int)<=30))) (
  j1 false)
theorem A2r(k:Nat):FO 113 [.str] [.bool] (Ahc k):=fR (px:=Arb _ k) (n:=0) Tryz.func113 rfl (λcx H=>by have h1:Lv cx (Aed (HV [.bool]) k):=lv H (c1 H Afo Ae) Aa Ab;have hllname_0:=lO H h1 (b:=lp Tryz.f182 0) (k:=k) (n:=0) (s:=Ah6) (step:=Rc) (λ_ _ _ (_,_)=>by kernel_rfl) Ai;have h0:Lv cx (Arb (HV [.bool]) k):=lv H (c1 H Aeg (An (cR H h1 Tryz.func182 rfl (n:=1) ((Bc Ai hllname_0))) Ae)) Aa Ab;exact⟨h0,Ai⟩) λ_=>by kernel_rfl
abbrev F2(s:Str):Bool:=Lp.nameF s
def Mv:FT [.str] [.bool]:=λx=>some (F2 x)
theorem W0{R:Type}{kx:Ex->R4->Option R}{s:Str}  {a:Int->Option R}(hs:ln s.length) (h1:∀j,kx (.exit 0) (s,j)=a j):∀(k i:Nat),i<=s.length->s.length-i<k->Aq (λrec=>Rc rec kx) k (s,(i:Int))=a (Lp.runTo Lp.isIn s i)
 |0,i,_,h=>absurd h (Zm1 _)
 |k+1,i,hi,h=>by
  rw[Bu];by_cases hl:i<s.length
  ·have ih:=W0  hs h1 k (i+1) (by omega) (by omega);have eb:Sx.byt s (i:Int)=(s[i].toNat:Int):=Ct hl;simp only[Rc,Ay hl hs,ih,h1,Ct hl,A1 hl,Ahl];rw[Ze1 (show(i:Int)<(s.length:Int) by omega)];cases hp:Lp.isIn (s[i].toNat:Int) with|true =>have:=Lp.runTo_yes (p:=Lp.isIn) (l:=s) (j:=i) (by omega) (by rw[eb];exact hp);rw[<-this];rfl|false =>have:=Lp.runTo_no (p:=Lp.isIn) (l:=s) (j:=i) (by omega) (by rw[eb];exact hp);rw[this];rfl
  ·have:=Lp.runTo_end (p:=Lp.isIn) (l:=s) (j:=i) (by omega);simp only[Rc,h1];rw[Zd1 (by omega),this];rfl
theorem P5:FO 113 [.str] [.bool] Mv :=.fin 0 A2r λs r hb hx=>⟨s.length+1,by
 simp only[Mv,Za1] at hx;rw[<-hx];simp only[Ahc,F2,Lp.nameF];by_cases he:s=[]
 ·rw[Ze1 he];rfl
 ·rw[Zd1 he];simp only[Zs1,Ah,Bool.true_and];by_cases h30:(s.length:Int)<=30
  ·have hp : 0<s.length:=List.length_pos_iff.2 he;rw[Ze1 h30,Arz (by omega),Ahz];simp only[chk,Ah,Bool.true_and];have eb:bat s 0=Sx.byt s 0:=rfl;rw[eb];cases Lp.isLo (Sx.byt s 0) with|false=>rfl|true =>simp only[Ah,Bool.true_and];exact W0 (s:=s) (a:=λj=>some (decide (j=(s.length:Int)))) hb (λ_=>rfl) (s.length+1) 0 (Nat.zero_le _) (by omega)
  ·rw[Zd1 h30];rfl⟩
theorem wru(n:Int):wr .u64 n=n % 18446744073709551616:=by simp[wr,IntKind.wrap,IntKind.bits,IntKind.signed]
theorem wri(n:Int):wr .i64 n=if 9223372036854775808<=n % 18446744073709551616 then n % 18446744073709551616-18446744073709551616 else n % 18446744073709551616:=by simp[wr,IntKind.wrap,IntKind.bits,IntKind.signed]
theorem Ho{n:Int}(h : 0<=n/\n<=18446744073709551615):wr .u64 n=n:=by rw[wru];omega
theorem Api{a:Int}(h : 0<=a/\a<=18446744073709551615):Gp .u64 a 4294967295=a % 4294967296:=by
 obtain⟨n,rfl⟩:=Int.eq_ofNat_of_zero_le h.1;have hn:n<18446744073709551616:=by omega
 have e2:(BitVec.ofInt IntKind.u64.bits (n:Int) &&& BitVec.ofInt IntKind.u64.bits 4294967295).toNat=n % 4294967296:=by show(BitVec.ofInt 64 (n:Int) &&& BitVec.ofInt 64 ((4294967295:Nat):Int)).toNat=n % 4294967296;rw[BitVec.toNat_and,BitVec.ofInt_natCast,BitVec.ofInt_natCast,BitVec.toNat_ofNat,BitVec.toNat_ofNat];rw[Nat.mod_eq_of_lt hn,Nat.mod_eq_of_lt (by decide)];exact Nat.and_two_pow_sub_one_eq_mod n 32
 show wr .u64 _=_;simp only[e2];rw[Ho (by omega)];omega
theorem Bef{a:Int}:Eo .u64 a 32=a / 4294967296:=by show a.fdiv (2 ^ min (32:Int).toNat IntKind.u64.bits)=_;rw[show(2:Int) ^ min (32:Int).toNat IntKind.u64.bits=4294967296 from by decide];exact Int.fdiv_eq_ediv_of_nonneg _ (by omega)
theorem Aic(a b c d:Int)(h : 0<=a/\a<=c)(h' : 0<=b/\b<=d) : 0<=a*b/\a*b<=c*d :=⟨Int.mul_nonneg h.1 h'.1,Int.mul_le_mul h.2 h'.2 h'.1 (by omega)⟩
theorem As6(x y:Int):x*y=(x / 4294967296)*(y / 4294967296)*18446744073709551616+((x / 4294967296)*(y % 4294967296)+(x % 4294967296)*(y / 4294967296))*4294967296+(x % 4294967296)*(y % 4294967296):=by
 have hx:=Int.mul_ediv_add_emod x 4294967296;have hy:=Int.mul_ediv_add_emod y 4294967296;generalize x / 4294967296=p at *;generalize x % 4294967296=q at *;generalize y / 4294967296=r at *;generalize y % 4294967296=s at *;rw[<-hx,<-hy];simp only[Int.add_mul,Int.mul_add];have e1 : 4294967296*p*(4294967296*r)=p*r*18446744073709551616:=by rw[Int.mul_assoc,Int.mul_left_comm p,<-Int.mul_assoc];omega
 have e2 : 4294967296*p*s=p*s*4294967296:=by rw[Int.mul_assoc];omega
 have e3:q*(4294967296*r)=q*r*4294967296:=by rw[Int.mul_left_comm];omega
 omega
theorem Bez(x y:Int)(hx : 0<=x/\x<=18446744073709551615)(hy : 0<=y/\y<=18446744073709551615):Iq x y=(x*y / 18446744073709551616,x*y % 18446744073709551616):=by have b00:=Aic (x % 4294967296) (y % 4294967296) 4294967295 4294967295 (by omega) (by omega);have b10:=Aic (x / 4294967296) (y % 4294967296) 4294967295 4294967295 (by omega) (by omega);have b01:=Aic (x % 4294967296) (y / 4294967296) 4294967295 4294967295 (by omega) (by omega);have b11:=Aic (x / 4294967296) (y / 4294967296) 4294967295 4294967295 (by omega) (by omega);have sp:=As6 x y;simp only[Iq,Bef,Api hx,Api hy];generalize (x % 4294967296)*(y % 4294967296)=a at *;generalize (x / 4294967296)*(y % 4294967296)=b at *;generalize (x % 4294967296)*(y / 4294967296)=c at *;generalize (x / 4294967296)*(y / 4294967296)=d at *;rw[Ho (n:=a) (by omega),Ho (n:=b) (by omega),Ho (n:=d) (by omega),Ho (n:=c) (by omega)];rw[Ho (n:=b+a / 4294967296) (by omega)];rw[Api (by omega)];rw[Ho (n:=(b+a / 4294967296) % 4294967296+c) (by omega)];rw[Ho (n:=d+(b+a / 4294967296) / 4294967296) (by omega)];rw[Ho (n:=d+(b+a / 4294967296) / 4294967296+((b+a / 4294967296) % 4294967296+c) / 4294967296) (by omega),wru];rw[Zp1];constructor<;>omega
def Uw(n:Int):Int×Int:=if -9223372036854775808<=n/\n<=9223372036854775807 then(n,0) else(0,20)
def Lg(n:Int):Int:=if n<0 then -n else n
theorem Aor{n:Int}(h:inI n):Dl n=Lg n:=by simp only[inI] at h;simp only[Dl,Lg,Bool.cond_decide,wru];split<;>omega
theorem An0{q r:Int}(h:inI q)(hr:r=q):(r,(0:Int))=Uw q:=by simp only[inI] at h;rw[hr,Uw,if_pos h]
theorem Apa{q:Int}(h:¬inI q):((0:Int),(20:Int))=Uw q:=by simp only[inI] at h;rw[Uw,if_neg h]
theorem Bg5{a b:Int}(ha:inI a)(hb:inI b):Za a b=Uw (a+b):=by
 simp only[inI] at ha hb;simp only[Za,wri];by_cases h1 : 0<b
 ·rw[Ze1 h1];by_cases h2:a+b<=9223372036854775807
  ·have e:(a+b) % 18446744073709551616<9223372036854775808\/9223372036854775808<=(a+b) % 18446744073709551616:=by omega
   rw[<-An0 (q:=a+b) (r:=if 9223372036854775808<=(a+b) % 18446744073709551616 then(a+b) % 18446744073709551616-18446744073709551616 else(a+b) % 18446744073709551616) (by simp only[inI];omega) (by split<;>omega)];rw[Ze1 (p:=a<_) (by split<;>omega)];rfl
  ·rw[<-Apa (q:=a+b) (by simp only[inI];omega)];rw[Zd1 (p:=a<_) (by split<;>omega)];rfl
 ·rw[Zd1 h1];by_cases h2 : -9223372036854775808<=a+b
  ·rw[<-An0 (q:=a+b) (r:=if 9223372036854775808<=(a+b) % 18446744073709551616 then(a+b) % 18446744073709551616-18446744073709551616 else(a+b) % 18446744073709551616) (by simp only[inI];omega) (by split<;>omega)];rw[Zd1 (p:=a<_) (by split<;>omega)];rfl
  ·rw[<-Apa (q:=a+b) (by simp only[inI];omega)];rw[Ze1 (p:=a<_) (by split<;>omega)];rfl
theorem Bhq{a b:Int}(ha:inI a)(hb:inI b):We a b=Uw (a*b):=by
 have ha':=ha;have hb':=hb;simp only[inI] at ha' hb';have hA : 0<=Lg a/\Lg a<=9223372036854775808:=by unfold Lg;split<;>omega
 have hB : 0<=Lg b/\Lg b<=9223372036854775808:=by unfold Lg;split<;>omega
 have hbd:=Aic _ _ _ _ hA hB;have hsg:a*b=if decide (a<0)=decide (b<0) then Lg a*Lg b else -(Lg a*Lg b):=by unfold Lg;by_cases h1:a<0<;>by_cases h2:b<0<;>simp[h1,h2,Int.neg_mul,Int.mul_neg]
 simp only[We,Aor ha,Aor hb,Bez _ _ (show 0<=Lg a/\Lg a<=18446744073709551615 by omega) (show 0<=Lg b/\Lg b<=18446744073709551615 by omega)];clear ha hb ha' hb' hA hB;generalize Lg a*Lg b=p at *;generalize a*b=q at *;by_cases hs:decide (a<0)=decide (b<0)
 ·rw[if_pos hs] at hsg;rw[Ze1 hs];by_cases h1:p<9223372036854775808
  ·rw[Zd1 (show ¬ 0<p / 18446744073709551616 by omega),Zd1 (show ¬ 9223372036854775808<p % 18446744073709551616 by omega),Zd1 (show ¬p % 18446744073709551616=9223372036854775808 by omega)];refine(show _=(wr .i64 (p % 18446744073709551616),(0:Int)) from rfl).trans (An0 (by simp only[inI];omega) ?_);rw[wri];split<;>omega
  ·rw[<-Apa (q:=q) (by simp only[inI];omega)];by_cases h2 : 0<p / 18446744073709551616
   ·rw[Ze1 h2];rfl
   ·rw[Zd1 h2];by_cases h3 : 9223372036854775808<p % 18446744073709551616
    ·rw[Ze1 h3];rfl
    ·rw[Zd1 h3,Ze1 (show p % 18446744073709551616=9223372036854775808 by omega)];rfl
 ·rw[if_neg hs] at hsg;rw[Zd1 hs];by_cases h1:p<=9223372036854775808
  ·rw[Zd1 (show ¬ 0<p / 18446744073709551616 by omega),Zd1 (show ¬ 9223372036854775808<p % 18446744073709551616 by omega)];have:Uw q=(wr .i64 (wr .u64 (0-p % 18446744073709551616)),(0:Int)):=by refine(An0 (by simp only[inI];omega) ?_).symm;rw[wri,wru];split<;>omega
   rw[this];cases decide (p % 18446744073709551616=9223372036854775808)<;>rfl
  ·rw[<-Apa (q:=q) (by simp only[inI];omega)];by_cases h2 : 0<p / 18446744073709551616
   ·rw[Ze1 h2];rfl
   ·rw[Zd1 h2,Ze1 (show 9223372036854775808<p % 18446744073709551616 by omega)];rfl
end Go.Proofs.YtbkinkalnmbpjaaGreatDoor
namespace Go.Proofs
open Go.Shelf
def Tryz.laysRA_ren:Go.Shelf.Ren:=⟨λ|155=>201|154=>242|138=>266|165=>199|143=>267|166=>126|197=>268|169=>64|195=>275|218=>276|240=>198|241=>240|219=>277|260=>278|276=>239|277=>265|217=>243|225=>281|224=>282|267=>283|266=>269|314=>285|n=>n,λ|9=>9|3=>3|4=>4|72=>110|0=>0|76=>198|105=>299|21=>21|5=>5|70=>108|20=>20|37=>28|75=>197|127=>203|164=>278|46=>204|119=>308|139=>311|138=>310|146=>313|51=>312|80=>119|n=>n,λ|1=>2|3=>4|4=>5|n=>n⟩
theorem Tryz.laysRA:Go.Proofs.Lays.n155 Tryz.prog Tryz.laysRA_ren:={
 mixed:=by kernel_rfl
 f138:=Tryz.func266.trans (congrArg some (by kernel_rfl))
 f143:=Tryz.func267.trans (congrArg some (by kernel_rfl))
 f154:=Tryz.func242.trans (congrArg some (by kernel_rfl))
 f155:=Tryz.func201.trans (congrArg some (by kernel_rfl))
 f165:=Tryz.func199.trans (congrArg some (by kernel_rfl))
 f166:=Tryz.func126.trans (congrArg some (by kernel_rfl))
 f169:=Tryz.func64.trans (congrArg some (by kernel_rfl))
 f195:=Tryz.func275.trans (congrArg some (by kernel_rfl))
 f197:=Tryz.func268.trans (congrArg some (by kernel_rfl))
 f217:=Tryz.func243.trans (congrArg some (by kernel_rfl))
 f218:=Tryz.func276.trans (congrArg some (by kernel_rfl))
 f219:=Tryz.func277.trans (congrArg some (by kernel_rfl))
 f224:=Tryz.func282.trans (congrArg some (by kernel_rfl))
 f225:=Tryz.func281.trans (congrArg some (by kernel_rfl))
 f240:=Tryz.func198.trans (congrArg some (by kernel_rfl))
 f241:=Tryz.func240.trans (congrArg some (by kernel_rfl))
 f260:=Tryz.func278.trans (congrArg some (by kernel_rfl))
 f266:=Tryz.func269.trans (congrArg some (by kernel_rfl))
 f267:=Tryz.func283.trans (congrArg some (by kernel_rfl))
 f276:=Tryz.func239.trans (congrArg some (by kernel_rfl))
 f277:=Tryz.func265.trans (congrArg some (by kernel_rfl))
 f314:=Tryz.func285.trans (congrArg some (by kernel_rfl))
 t0:=Tryz.underlying0
 a0:=Tryz.isAgg0
 z0:=Tryz.sizeOf0
 v0:=Tryz.zeroValue0
 t3:=Tryz.underlying3
 a3:=Tryz.isAgg3
 z3:=Tryz.sizeOf3
 v3:=Tryz.zeroValue3
 t4:=Tryz.underlying4
 a4:=Tryz.isAgg4
 z4:=Tryz.sizeOf4
 v4:=Tryz.zeroValue4
 t5:=Tryz.underlying5
 a5:=Tryz.isAgg5
 z5:=Tryz.sizeOf5
 v5:=Tryz.zeroValue5
 t9:=Tryz.underlying9
 a9:=Tryz.isAgg9
 z9:=Tryz.sizeOf9
 v9:=Tryz.zeroValue9
 t20:=Tryz.underlying20
 a20:=Tryz.isAgg20
 z20:=Tryz.sizeOf20
 v20:=Tryz.zeroValue20
 t21:=Tryz.underlying21
 a21:=Tryz.isAgg21
 z21:=Tryz.sizeOf21
 v21:=Tryz.zeroValue21
 t37:=Tryz.underlying28
 a37:=Tryz.isAgg28
 z37:=Tryz.sizeOf28
 v37:=Tryz.zeroValue28
 t46:=Tryz.underlying204
 a46:=Tryz.isAgg204
 z46:=Tryz.sizeOf204
 v46:=Tryz.zeroValue204
 t51:=Tryz.underlying312
 a51:=Tryz.isAgg312
 z51:=Tryz.sizeOf312
 v51:=Tryz.zeroValue312
 t70:=Tryz.underlying108
 a70:=Tryz.isAgg108
 z70:=Tryz.sizeOf108
 v70:=Tryz.zeroValue108
 t72:=Tryz.underlying110
 a72:=Tryz.isAgg110
 z72:=Tryz.sizeOf110
 v72:=Tryz.zeroValue110
 t75:=Tryz.underlying197
 a75:=Tryz.isAgg197
 z75:=Tryz.sizeOf197
 v75:=Tryz.zeroValue197
 t76:=Tryz.underlying198
 a76:=Tryz.isAgg198
 z76:=Tryz.sizeOf198
 v76:=Tryz.zeroValue198
 t105:=Tryz.underlying299
 a105:=Tryz.isAgg299
 z105:=Tryz.sizeOf299
 v105:=Tryz.zeroValue299
 t119:=Tryz.underlying308
 a119:=Tryz.isAgg308
 z119:=Tryz.sizeOf308
 t127:=Tryz.underlying203
 a127:=Tryz.isAgg203
 z127:=Tryz.sizeOf203
 v127:=Tryz.zeroValue203
 t138:=Tryz.underlying310
 a138:=Tryz.isAgg310
 z138:=Tryz.sizeOf310
 v138:=Tryz.zeroValue310
 t139:=Tryz.underlying311
 a139:=Tryz.isAgg311
 z139:=Tryz.sizeOf311
 v139:=Tryz.zeroValue311
 t146:=Tryz.underlying313
 a146:=Tryz.isAgg313
 z146:=Tryz.sizeOf313
 v146:=Tryz.zeroValue313
 t164:=Tryz.underlying278
 a164:=Tryz.isAgg278
 z164:=Tryz.sizeOf278
 v164:=Tryz.zeroValue278
 g1:=by kernel_rfl
 g3:=by kernel_rfl
 g4:=by kernel_rfl }
theorem Tryz.extraRA:Builder.Extra Tryz.prog Tryz.laysRA_ren:={
 sizeBuilder:=by kernel_rfl
 liesBuilder:=by kernel_rfl
 t5:=Tryz.laysRA.t5
 a5:=Tryz.laysRA.a5
 z5:=Tryz.laysRA.z5
 v5:=Tryz.laysRA.v5
 infoByte:=by kernel_rfl
 cellsByte:=by kernel_rfl
 sizeByte:=by kernel_rfl
 neB5:=by decide }
end Go.Proofs
namespace Go.Proofs.YtbkinkalnmbpjaaGreatDoor
open Go.Ax
def Agt(s old new:Str):Option Str:=cond (decide (s.length<4294967281)&&decide (1<=old.length)&&decide (s.length+Lib.count s old*new.length<=140737488355328)&&decide ((Lib.replaceAll s old new).length<=maxLen)) (some (Lib.replaceAll s old new)) none
def Ah9:FT [.str,.str,.str] [.str]:=λx=>Agt x.1 x.2.1 x.2.2
theorem A6m:FO 201 [.str,.str,.str] [.str] Ah9:=by
 refine⟨Sx.enters_of Tryz.func201 rfl (by kernel_rfl),λx r hx w M vs hM hgl hr =>?_⟩;obtain⟨s,old,new⟩:=x;simp only[Ah9,Agt] at hx;cases hc:decide (s.length<4294967281)&&decide (1<=old.length)&&decide (s.length+Lib.count s old*new.length<=140737488355328)&&decide ((Lib.replaceAll s old new).length<=maxLen) with
 |false=>rw[hc] at hx;cases hx
 |true =>rw[hc] at hx;have hx:some (Lib.replaceAll s old new)=some r:=hx;simp only[Za1] at hx;subst hx;simp only[Zb1,Zg1] at hc;obtain⟨⟨⟨h1,h2⟩,h3⟩,h4⟩:=hc;simp only[B3,Ce,Reps,Rep] at hr;obtain⟨u,us,rfl,⟨rfl,_⟩,u2,us2,rfl,⟨rfl,_⟩,u3,us3,rfl,⟨rfl,_⟩,rfl⟩:=hr;obtain⟨m,hm⟩:=hgl.2.2 2 .i64 rfl;have c:=Any.strings_ReplaceAll Tryz.laysRA Tryz.extraRA ⟨s.toArray⟩ ⟨old.toArray⟩ ⟨new.toArray⟩ m w (by simpa[ByteArray.size] using h1) (hm w (Chg.refl _ _)) (by simpa[ByteArray.size] using h2) (by simpa[ByteArray.size,Lib.countB] using h3);refine Calls.mono (show Calls Tryz.prog 201 _ w _ from c) ?_;rintro en w' ⟨rfl,hb⟩;refine⟨_,⟨λ_=>0,λ_=>Option.none⟩,rfl,Chg.of_below hb,λp g o hp=>(by simp[Bg] at hp),λp q g o o2 hp=>(by simp[Bg] at hp),?_⟩;simp only[Gj,B3,Ce,Rep];exact⟨by simp,h4⟩
def pw:Nat->Int
 |0=>1
 |n+1=>10*pw n
def val:List Int->Int
 |[]=>0
 |x::l=>x+10*val l
def Su(n:Nat):List Int:=if h:n=0 then [] else((n % 10:Nat):Int)::Su (n / 10)
termination_by n
decreasing_by omega
theorem Rl:Su 0=[]:=by rw[Su];simp
theorem Ae4{n:Nat}(h:¬n=0):Su n=((n % 10:Nat):Int)::Su (n / 10):=by rw[Su];simp[h]
theorem At7:∀(k n:Nat),(n:Int)<pw k->(Su n).length<=k
 |0,n,h=>by
  have:n=0:=by simp only[pw] at h;omega
  subst this;rw[Rl];exact Zn1 _
 |k+1,n,h=>by
  by_cases h0:n=0
  ·subst h0;rw[Rl];simp
  ·have:=At7 k (n / 10) (by simp only[pw] at h;omega);rw[Ae4 h0];simp only[Zf1];omega
abbrev hexL:Str:=[48,49,50,51,52,53,54,55,56,57,97,98,99,100,101,102]
def A5t(n:Nat):Str:=[hexL.getD (n / 16) 0,hexL.getD (n % 16) 0]
def Aql(s:Str):Str:=s.flatMap λb=>A5t b.toNat
def Biu(n:Nat):Bool:=inb (Eo .u8 (n:Int) 4) 16&&inb (Gp .u8 (n:Int) 15) 16&&decide ([(UInt8.ofNat ((bat hexL (Eo .u8 (n:Int) 4)):Int).toNat),(UInt8.ofNat ((bat hexL (Gp .u8 (n:Int) 15)):Int).toNat)]=A5t n)
theorem Bho:((List.range 256).all Biu)=true:=by kernel_rfl
theorem hx(b:UInt8):inb (Eo .u8 (b.toNat:Int) 4) 16=true/\inb (Gp .u8 (b.toNat:Int) 15) 16=true/\[(UInt8.ofNat ((bat hexL (Eo .u8 (b.toNat:Int) 4)):Int).toNat),(UInt8.ofNat ((bat hexL (Gp .u8 (b.toNat:Int) 15)):Int).toNat)]=A5t b.toNat:=by have h:=Zf2.1 Bho b.toNat (List.mem_range.2 b.toNat_lt);simp only[Biu,Zb1,Zg1] at h;exact⟨h.1.1,h.1.2,h.2⟩
theorem A8g(s:Str):(Aql s).length=2*s.length:=by induction s with|nil=>rfl|cons b l ih=>simp only[Aql,List.flatMap_cons,A5t,Zh1,Zf1,Zi1] at ih ⊢;omega
def Amn:Sig:=⟨26,[(0,.str),(3,.sl .byte true),(6,.int .i64),(7,.int .i64)],[],[],0,0,0,[],[]⟩
abbrev Xd:=Str×List UInt8×Int×Int
def Zj{R:Type}(rec:Xd->Option R)(kx:Ex->Xd->Option R)(v:Xd):Option R:=match v with
 |(v,v1,v2,v3) =>
 cond (decide (v3<v2)) (
  chk (inb v3 v.length) (
  chk (inb (Eo .u8 (bat v v3) 4) 16) (
   chk (inb v3 v.length) (
   chk (inb (Gp .u8 (bat v v3) 15) 16) (
    chk (decide (v1.length+2<=Av)) (
    rec (v,(v1++[(UInt8.ofNat ((bat [48,49,50,51,52,53,54,55,56,57,97,98,99,100,101,102] (Eo .u8 (bat v v3) 4)):Int).toNat),(UInt8.ofNat ((bat [48,49,50,51,52,53,54,55,56,57,97,98,99,100,101,102] (Gp .u8 (bat v v3) 15)):Int).toNat)]),v2,(wr .i64 (v3+1))))))))) (
  kx (.exit 0) (v,v1,v2,v3))
def A1d(R:Type)(k:Nat):Px R:=pxO [] [] [(3,Ao k Amn (Zj))] []
def Alw(k:Nat)(x:HV [.str]):Option (HV [.str]):=match x with
 |s =>
 Aq (λrec=>Zj rec (λe vz=>match vz with|(_,v5,_,_)=>match e with
  |.exit 0 =>
  some v5
  |_=>none)) k (s,[],(s.length:Int),0)
theorem A8l(k:Nat):FO 202 [.str] [.str] (Alw k):=fR (px:=A1d _ k) (n:=1) Tryz.func202 rfl (λcx H=>by have h0:Lv cx (A1d (HV [.str]) k):=lv H Ae Aa Ab;have hlvhex_0:=lO H h0 (b:=lp Tryz.f202 0) (k:=k) (n:=0) (s:=Amn) (step:=Zj) (λ_ _ _ (_,_,_,_)=>by kernel_rfl) Ai;exact⟨h0,(Bc Ai hlvhex_0)⟩) λ_=>by kernel_rfl
def A73(s:Str):Option Str:=cond (decide (s.length<=3000)) (some (Aql s)) none
def Awm:FT [.str] [.str]:=λx=>A73 x
theorem Ak2{R:Type}{kx:Ex->Xd->Option R}{s:Str}{b:Str->Option R}(hs:s.length<=3000)(h2:∀out j,kx (.exit 0) (s,out,(s.length:Int),j)=b out):∀(k i:Nat) (out:Str),i<=s.length->s.length-i<k->out.length<=2*i->Aq (λrec=>Zj rec kx) k (s,out,(s.length:Int),(i:Int))=b (out++Aql (s.drop i))
 |0,i,_,_,h,_=>absurd h (Zm1 _)
 |k+1,i,out,hi,h,ho=>by
  rw[Bu];by_cases hl:i<s.length
  ·obtain⟨h3,h4,h5⟩:=hx (s[i]'hl);have hn:ln s.length:=by simp only[ln];omega
   have ih:=Ak2 hs h2 k (i+1) (out++A5t (s[i]'hl).toNat) (by omega) (by omega) (by simp only[Zh1,A5t,Zf1,Zi1];omega);simp only[Zj,Ay hl hn,Ct hl,A1 hl,h3,h4,h5,ih,h2];rw[Ze1 (show(i:Int)<(s.length:Int) by omega),Ze1 (show out.length+2<=Av by simp only[Av];omega),Au hl];simp only[chk,Ah,Aql,List.flatMap_cons,Zj1]
  ·simp only[Zj,h2];rw[Zd1 (show ¬(i:Int)<(s.length:Int) by omega),Zk1 (by omega)];simp[Aql]
theorem Bd4:FO 202 [.str] [.str] Awm :=.fin 0 A8l λs r hb hx=>⟨3001,by
 simp only[Awm,A73] at hx;by_cases hs:s.length<=3000
 ·rw[Ze1 hs] at hx;simp only[Alw];exact(Ak2 (b:=some) hs (λ_ _=>rfl) 3001 0 [] (Nat.zero_le _) (by omega) (by simp)).trans hx
 ·rw[Zd1 hs] at hx;cases hx⟩
def dch(d:Int):UInt8:=UInt8.ofNat (48+d).toNat
def txt(l:List Int):Str:=(l.map dch).reverse
def Bhh(n:Int):Str:=let t:=if n=0 then [48] else txt (Su n.natAbs)
 if n<0 then 45::t else t
theorem Aqs(d:Int)(l:List Int):txt (d::l)=txt l++[dch d]:=by simp[txt]
theorem Bgt{d:Int}(h : 0<=d/\d<=9):UInt8.ofNat ((wr .u8 (wr .u64 (48+d))):Int).toNat=dch d:=by
 have e:wr .u8 (wr .u64 (48+d))=48+d:=by rw[Ho (by omega)];simp only[wr,IntKind.wrap,IntKind.bits,IntKind.signed];simp;omega
 rw[e];rfl
theorem Bdj(l:List Int):(txt l).length=l.length:=by simp[txt]
theorem A93(n:Int):txt (Su (n.natAbs / 10))++[dch ((n.natAbs % 10:Nat):Int)]=if n=0 then [48] else txt (Su n.natAbs):=by
 by_cases h0:n=0
 ·subst h0;rw[if_pos rfl,show(0:Int).natAbs / 10=0 from rfl,Rl];rfl
 ·rw[if_neg h0,Ae4 (n:=n.natAbs) (by omega),Aqs]
def Xk:Sig:=⟨32,[(0,.int .i64),(3,.sl .byte true),(4,.int .u64)],[],[],0,0,0,[],[]⟩
abbrev J0:=Int×List UInt8×Int
def Ia{R:Type}(rec:J0->Option R)(kx:Ex->J0->Option R)(v:J0):Option R:=match v with
 |(v,v1,v2) =>
 cond (decide (0<v2)) (
  chk (decide (1+v1.length<=Av)) (
  rec (v,([(UInt8.ofNat ((wr .u8 (wr .u64 (48+(Int.tmod v2 10)))):Int).toNat)]++v1),(wr .u64 (Int.tdiv v2 10))))) (
  kx (.exit 0) (v,v1,v2))
def Ai2(R:Type)(k:Nat):Px R:=pxO [(241,cA Aox)] [] [(3,Ao k Xk (Ia))] []
def X3(k:Nat)(x:HV [.int .i64]):Option (HV [.str]):=match x with
 |n =>
 Aq (λrec=>Ia rec (λe vz=>match vz with|(v3,v4,_)=>match e with
  |.exit 0 =>
  cond (decide (v3<0)) (
   chk (decide ([45].length+v4.length<=Fo)) (
   some ([45]++v4))) (
   some v4)
  |_=>none)) k (n,[(UInt8.ofNat ((wr .u8 (wr .u64 (48+(Int.tmod (Dl n) 10)))):Int).toNat)],(wr .u64 (Int.tdiv (Dl n) 10)))
theorem Arj(k:Nat):FO 200 [.int .i64] [.str] (X3 k):=fR (px:=Ai2 _ k) (n:=1) Tryz.func200 rfl (λcx H=>by have h0:Lv cx (Ai2 (HV [.str]) k):=lv H (c1 H Au4 Ae) Aa Ab;have hlvdigits_0:=lO H h0 (b:=lp Tryz.f200 0) (k:=k) (n:=0) (s:=Xk) (step:=Ia) (λ_ _ _ (_,_,_)=>by kernel_rfl) Ai;exact⟨h0,(Bc Ai hlvdigits_0)⟩) λ_=>by kernel_rfl
abbrev Anx(n:Int):Str:=Bhh n
def Zn:FT [.int .i64] [.str]:=λx=>some (Anx x)
theorem Bjp{n:Int}(h:inI n):Dl n=(n.natAbs:Int):=by rw[Aor h];simp only[Lg];split<;>omega
theorem Yi{R:Type}{kx:Ex->J0->Option R}{n:Int}{b:Str->Option R}(h2:∀out x,kx (.exit 0) (n,out,x)=b out):∀(k a:Nat) (out:Str),(a:Int)<=18446744073709551615->(Su a).length<k->out.length+(Su a).length<=1000->Aq (λrec=>Ia rec kx) k (n,out,(a:Int))=b (txt (Su a)++out)
 |0,a,out,_,h,_=>absurd h (Zm1 _)
 |k+1,a,out,ha,h,ho=>by
  rw[Bu];by_cases h0:a=0
  ·subst h0;simp only[Ia,h2];rw[Zd1 (by omega),Rl];rfl
  ·have hd:=Ae4 h0;rw[hd,Zf1] at h ho;have e1:Int.tmod (a:Int) 10=((a % 10:Nat):Int):=rfl;have e2:wr .u64 (Int.tdiv (a:Int) 10)=((a / 10:Nat):Int):=by have:Int.tdiv (a:Int) 10=((a / 10:Nat):Int):=rfl;rw[this,Ho (by omega)]
   have ih:=Yi h2 k (a / 10) ([dch ((a % 10:Nat):Int)]++out) (by omega) (by omega) (by simp only[Zh1,Zf1,Zi1];omega);simp only[Ia,e1,e2,Bgt (show 0<=((a % 10:Nat):Int)/\((a % 10:Nat):Int)<=9 by omega),ih];rw[Ze1 (show(0:Int)<(a:Int) by omega),Ze1 (show 1+out.length<=Av by simp only[Av];omega),hd,Aqs];simp[chk]
theorem Ay3:FO 200 [.int .i64] [.str] Zn :=.fin 0 Arj λn r hb hx=>⟨30,by
 have hb:=Cg hb;simp only[Zn,Za1] at hx;subst hx;have hl:(Su (n.natAbs / 10)).length<=20:=At7 20 _ (by
  simp only[inI] at hb;have:pw 20=100000000000000000000:=by kernel_rfl
  omega)
 have e1:Int.tmod (n.natAbs:Int) 10=((n.natAbs % 10:Nat):Int):=rfl;have e2:wr .u64 (Int.tdiv (n.natAbs:Int) 10)=((n.natAbs / 10:Nat):Int):=by have:Int.tdiv (n.natAbs:Int) 10=((n.natAbs / 10:Nat):Int):=rfl;simp only[inI] at hb;rw[this,Ho (by omega)]
 simp only[X3,Bjp hb,e1,e2,Bgt (show 0<=((n.natAbs % 10:Nat):Int)/\((n.natAbs % 10:Nat):Int)<=9 by omega)];refine(Yi (b:=λout=>cond (decide (n<0)) (chk (decide ([45].length+out.length<=Fo)) (some ([45]++out))) (some out)) (λ_ _=>rfl) 30 (n.natAbs / 10) [dch ((n.natAbs % 10:Nat):Int)] (by simp only[inI] at hb;omega) (by omega) (by simp only[Zf1,Zi1];omega)).trans ?_;have et:=A93 n;have hlen:(txt (Su (n.natAbs / 10))++[dch ((n.natAbs % 10:Nat):Int)]).length<=21:=by rw[Zh1,Bdj];simp only[Zf1,Zi1];omega
 have hc:decide ([45].length+(txt (Su (n.natAbs / 10))++[dch ((n.natAbs % 10:Nat):Int)]).length<=Fo)=true:=Ze1 (by simp only[Zf1,Zi1,Fo];omega);simp only[hc,chk,Ah];rw[et];simp only[Anx,Bhh];by_cases h:n<0
 ·rw[Ze1 h,if_pos h];rfl
 ·rw[Zd1 h,if_neg h];rfl⟩
def quo:Str->Str
 |[]=>[]
 |b::l=>if b=39 then 39::39::quo l else b::quo l
theorem A1m(s:Str):(quo s).length<=2*s.length:=by induction s with|nil=>simp[quo]|cons b l ih =>simp only[quo];split<;>simp only[Zf1]<;>omega
theorem Amf:∀s:Str,(Lib.index s [39] = -1/\quo s=s)\/∃i:Nat,Lib.index s [39]=(i:Int)/\i<s.length/\quo s=s.take i++[39,39]++quo (s.drop (i+1))
 |[] =>.inl ⟨rfl,rfl⟩
 |b::l=>by
  by_cases h:b=39
  ·subst h;refine .inr ⟨0,rfl,by simp,by simp[quo]⟩
  ·have hp:List.isPrefixOf [39] (b::l)=false:=by simp only[List.isPrefixOf,Bool.and_true];exact beq_eq_false_iff_ne.2 (Ne.symm h)
   rcases Amf l with ⟨h1,h2⟩|⟨i,h1,h2,h3⟩
   ·left;refine⟨?_,by simp only[quo,if_neg h,h2]⟩;unfold Lib.index;rw[hp,h1];rfl
   ·right;refine⟨i+1,?_,by simpa using h2,?_⟩
    ·unfold Lib.index;rw[hp,h1];have:((i:Int) == -1)=false:=beq_eq_false_iff_ne.2 (by omega);simp[this]
    ·simp only[quo,if_neg h,h3,List.take_succ_cons,List.drop_succ_cons,Zb2]
theorem Ajw:∀(f:Nat) (s:Str),s.length<f->Lib.replaceK [39] [39,39] (Lib.countFrom [39] f s) s=quo s
 |0,s,h=>absurd h (Zm1 _)
 |f+1,s,h=>by
  rcases Amf s with ⟨h1,h2⟩|⟨i,h1,h2,h3⟩
  ·simp only[Lib.countFrom,h1];exact h2.symm
  ·have hn:((i:Int) == -1)=false:=beq_eq_false_iff_ne.2 (by omega);have ih:=Ajw f (s.drop (i+1)) (by rw[Za2];omega);have e:Lib.countFrom [39] (f+1) s=Lib.countFrom [39] f (s.drop (i+1))+1:=by simp only[Lib.countFrom,h1,hn,Int.toNat_natCast,Zf1,Zi1];simp[Nat.add_comm]
   rw[e,Lib.replaceK_hit _ _ _ _ i h1];simp only[Zf1,Zi1,Nat.zero_add];rw[ih,h3]
theorem Bea(s:Str):Lib.replaceAll s [39] [39,39]=quo s:=by
 have e:Lib.replaceNum s [39] (-1)=Lib.countFrom [39] (s.length+1) s:=by unfold Lib.replaceNum;rw[if_pos (.inl (by decide))];rfl
 have hc:=Ajw (s.length+1) s (by omega);rw[<-e] at hc;exact hc
theorem Avw{s:Str}(h:s.length<=3000):Agt s [39] [39,39]=some (quo s):=by have h1:=Lib.countB_mul_le ⟨#[39]⟩ (by decide) s.length ⟨s.toArray⟩ (Zn1 _);have h2:Lib.count s [39]*1<=s.length:=h1;have h3:=A1m s;simp only[Agt,Bea];rw[Ze1 (show s.length<4294967281 by omega),Ze1 (show 1<=([39]:Str).length by decide),Ze1 (show s.length+Lib.count s [39]*([39,39]:Str).length<=140737488355328 by simp only[Zf1,Zi1];omega),Ze1 (show(quo s).length<=maxLen by simp only[maxLen];omega)];rfl
def A36(R:Type):Px R:=pxO [(167,cA V8),(200,cA Zn),(201,cA Ah9),(202,cA Awm)] [] [] []
def Aco(x:HV [.sv .val]):Option (HV [.str]):=match x with
 |v =>
 cond (!(Eu v)) (
  some []) (
  cond (decide (v.kind=2)) (
  chk (inb v.n 2) (
   some (at' .str [[70,65,76,83,69],[84,82,85,69]] v.n))) (
  cond (decide (v.kind=3)) (
   some (Anx v.n)) (
   cond (decide (v.kind=4)) (
   (Agt v.s [39] [39,39]).bind λx =>
    chk (decide ([39].length+x.length<=Fo)) (
    chk (decide (([39]++x).length+[39].length<=Fo)) (
     some (([39]++x)++[39])))) (
   cond (decide (v.kind=5)) (
    (A73 v.s).bind λx1 =>
    chk (decide ([120,39].length+x1.length<=Fo)) (
     chk (decide (([120,39]++x1).length+[39].length<=Fo)) (
     some (([120,39]++x1)++[39])))) (
    some [78,85,76,76])))))
theorem Avg:FO 128 [.sv .val] [.str] (Aco):=fR (px:=A36 _) (n:=0) Tryz.func128 rfl (λ_ H=>⟨lv H (c1 H Z6 (c1 H Ay3 (c1 H A6m (c1 H Bd4 Ae)))) Aa Ab,Ai⟩) λ_=>by kernel_rfl
def Jf(v:Val):Str:=cond (Eu v) (if v.kind=2 then(if v.n=0 then [70,65,76,83,69] else [84,82,85,69]) else if v.kind=3 then Bhh v.n else if v.kind=4 then 39::(quo v.s++[39]) else if v.kind=5 then 120::39::(Aql v.s++[39]) else [78,85,76,76]) []
def Ww:FT [.sv .val] [.str]:=λx=>some (Jf x)
theorem Al9{v:Val}(h:Eu v=true)(hk:v.kind=4\/v.kind=5):v.s.length<=1000:=by
 rcases hk with h4|h5
 ·simp[Eu,h4] at h;omega
 ·simp[Eu,h5] at h;omega
theorem Axu{v:Val}(h:Eu v=true)(hk:v.kind=2):v.n=0\/v.n=1:=by
 by_cases h0:v.n=0
 ·exact .inl h0
 ·by_cases h1:v.n=1
  ·exact .inr h1
  ·simp[Eu,hk,h0,h1] at h
theorem Amr:FO 128 [.sv .val] [.str] Ww :=.fin0 Avg λv r _ hx=>by
 simp only[Ww,Za1] at hx;subst hx;simp only[Aco,Jf];cases hr:Eu v with
 |false=>rfl
 |true =>
  simp only[Zt1,Al,Ah];by_cases k2:v.kind=2
  ·rw[Ze1 k2,if_pos k2];rcases Axu hr k2 with h|h<;>rw[h]<;>rfl
  ·rw[Zd1 k2,if_neg k2];by_cases k3:v.kind=3
   ·rw[Ze1 k3,if_pos k3];rfl
   ·rw[Zd1 k3,if_neg k3];by_cases k4:v.kind=4
    ·have hl:=Al9 hr (.inl k4);have hq:=A1m v.s;rw[Ze1 k4,if_pos k4];simp only[Ah,Al,Avw (show v.s.length<=3000 by omega),Zc1];refine(Ash (Ze1 ?_)).trans ((Ash (Ze1 ?_)).trans rfl)
     ·simp only[Zf1,Zi1,Fo];omega
     ·simp only[Zh1,Zf1,Zi1,Fo];omega
    ·rw[Zd1 k4,if_neg k4];by_cases k5:v.kind=5
     ·have hl:=Al9 hr (.inr k5);have hh:=A8g v.s;have hv:A73 v.s=some (Aql v.s):=by simp only[A73];rw[Ze1 (by omega)];rfl
      rw[Ze1 k5,if_pos k5];simp only[Ah,Al,hv,Zc1];refine(Ash (Ze1 ?_)).trans ((Ash (Ze1 ?_)).trans rfl)
      ·simp only[Zf1,Zi1,Fo];omega
      ·simp only[Zh1,Zf1,Zi1,Fo];omega
     ·rw[Zd1 k5,if_neg k5];rfl
def A81(R:Type):Px R:=pxO [] [] [] []
def Vd(x:HV [.int .i64]):Option (HV [.int .i64]):=match x with
 |kind =>
 let j1:=λ(p1:Bool) =>
  cond (p1) (
  some 0) (
  let j:=λ(p5:Bool) =>
   cond (p5) (
   some 1) (
   cond (!decide ((O1 signsL kind)=[])) (
    some 2) (
    some (-1)))
  cond (decide (kind=3)) (
   j true) (
   cond (decide (kind=15)) (
   j true) (
   j (decide (kind=16)))))
 cond (decide (kind=1)) (
  j1 true) (
  j1 (decide (kind=2)))
theorem A3y:FO 125 [.int .i64] [.int .i64] (Vd):=fR (px:=A81 _) (n:=0) Tryz.func125 rfl (λ_ H=>⟨lv H Ae Aa Ab,Ai⟩) λ_=>by kernel_rfl
def parts(kind:Int):Int :=
 let j1:=λ(p1:Bool) =>
  cond (p1) (
  0) (
  let j:=λ(p5:Bool) =>
   cond (p5) (
   1) (
   cond (!decide ((O1 signsL kind)=[])) (
    2) (
    (-1)))
  cond (decide (kind=3)) (
   j true) (
   cond (decide (kind=15)) (
   j true) (
   j (decide (kind=16)))))
 cond (decide (kind=1)) (
  j1 true) (
  j1 (decide (kind=2)))
theorem A68(x:HV [.int .i64]):Vd x=some (parts x):=by
 first
  |exact rfl
  |simp only[Vd,parts,Az]
def Aom:FT [.int .i64] [.int .i64]:=λx=>some (parts x)
theorem At5:FO 125 [.int .i64] [.int .i64] Aom :=.fin0 A3y λx _ _ hx=>(A68 x).trans hx
end Go.Proofs.YtbkinkalnmbpjaaGreatDoor
