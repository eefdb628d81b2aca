/- Texts of the proof,one behind the other: AxRn,AxIn,SxL,SxM,Pf,Lo,AxTh,Cg,AxOw,AxYl,Co,Cp,AxMe,Tw,Si,Sk,Pa,Lc,Na,Lm,Ar,Dg,Eb,Fc,Fk. -/
import Derived.Test.YtcoaaebppfbbnaaGreatDoorJ4
import Derived.KernelRfl
import Derived.Laws.Cover3
import Derived.Lib.Overlaps
import Derived.Lib.AppendZerosOnto
import Derived.Test.YtcoaaebppfbbnaaGreatDoorProg
import Derived.Lib.Bytealg
set_option linter.all false
namespace Go.Ax
structure Hx (P:Program) (el:Ck->TypeId) (gl:Nat->Option Gv) (tt:Nat->Ty) (cx:Cx):Prop where
 p:cx.P=P
 e:cx.el=el
 g:cx.gl=gl
 t:∀t,Cs P el tt t=true
 m:P.follows .mixedOrders=true
structure Lv {R:Type}(cx:Cx) (px:Px R):Prop where
 p:PxOk cx px
 c:Df cx px
 q:CallQOk cx px
section
variable {R:Type}{P:Program}{el:Ck->TypeId}{gl:Nat->Option Gv}{tt:Nat->Ty}{cx:Cx}
theorem lv{px:Px R}{l:List (Nat×E7 R)}{lq:List (Nat×E4 R)}{lw:List (Nat×Hn R)}(H:Hx P el gl tt cx)(h:∀g f,(g,f)∈l->Gn cx g f)(hq:∀g f,(g,f)∈lq->Pg cx g f)(hw:∀g f,(g,f)∈lw->Ff cx g f)(h1:px.tt=tt:=by rfl)(h2:px.gl=gl:=by rfl)(h3:px.call=Au6 l:=by rfl)(h4:px.callQ=Akq lq:=by rfl)(h5:px.callW=tbl lw:=by rfl)(h6:noY px:=by exactλ_ _ _ _=>rfl):Lv cx px :=⟨⟨λt=>by rw[h1,H.p,H.e];exact H.t t,by rw[h2,H.g],h6.ok⟩,Bj4 h3 h,Bcv h4 h5 hq hw⟩
theorem cO(H:Hx P el gl tt cx){g:Nat}{sa sr:List Sg}{F:HV sa->Option (HV sr)}(h:FnOk P el gl g sa sr F)(hsa:C8 (Be 0 sa) []=true:=by kernel_rfl):Gn (R:=R) cx g (La sa sr F):=But (by rw[H.p,H.e,H.g];exact h) hsa
theorem cL(H:Hx P el gl tt cx){g:Nat}{sg so:Sig}{F:FL sg so}(h:FnLn P el gl g sg so F)(hok:lnB sg so=true:=by kernel_rfl):Gn (R:=R) cx g (Gl sg so F):=Bvf (by rw[H.p,H.e,H.g];exact h) hok
theorem cT(H:Hx P el gl tt cx){g:Nat}{sa:List Sg}{c:Ck}{F:HV sa->Option (HV [.sl c true])}(h:FnOk P el gl g sa [.sl c true] F)(hsa:C8 (Be 0 sa) []=true:=by kernel_rfl)(hfl:A3b c=true:=by rfl):Gn (R:=R) cx g (Li sa c F):=Bqb (by rw[H.p,H.e,H.g];exact h) hsa hfl
theorem cR(H:Hx P el gl tt cx){nb nt:Nat}{pc:Px R}{g:Nat}{fn:Func}{c:Code}{n:Nat}(h:Lv cx pc)(hf:P.funcs[g]? = some fn)(hb:fn.body=some c)(hl:∀i,i<n->B8 cx pc (lp fn i))(hname:(fn.name == "runtime.NumGoroutine")=false:=by kernel_rfl)(hcode:Alo fn=true:=by kernel_rfl)(hn:Vk fn=n:=by kernel_rfl):Gn cx g (Bi nb nt pc fn):=Bum h.p h.c h.q (by rw[H.p];exact H.m) (by rw[H.p];exact hf) hb hname hcode hn hl
theorem c1(H:Hx P el gl tt cx){g:Nat}{sa sr:List Sg}{F:HV sa->Option (HV sr)}{l:List (Nat×E7 R)}(h:FnOk P el gl g sa sr F)(hl:∀g f,(g,f)∈l->Gn cx g f)(hsa:C8 (Be 0 sa) []=true:=by kernel_rfl):∀g' f',(g',f')∈(g,La sa sr F)::l->Gn cx g' f':=A2 (cO H h hsa) hl
theorem l1(H:Hx P el gl tt cx){g:Nat}{sg so:Sig}{F:FL sg so}{l:List (Nat×E7 R)}(h:FnLn P el gl g sg so F)(hl:∀g f,(g,f)∈l->Gn cx g f)(hok:lnB sg so=true:=by kernel_rfl):∀g' f',(g',f')∈(g,Gl sg so F)::l->Gn cx g' f':=A2 (cL H h hok) hl
theorem q1(H:Hx P el gl tt cx){g:Nat}{sa sr:List Sg}{F:HV sa->Option (HV sr)}{l:List (Nat×E4 R)}(h:FnOk P el gl g sa sr F)(hl:∀g f,(g,f)∈l->Pg cx g f)(hsa:C8 (Be 0 sa) []=true:=by kernel_rfl):∀g' f',(g',f')∈(g,I0 sa sr F)::l->Pg cx g' f':=Bdo (Bsz (by rw[H.p,H.e,H.g];exact h) hsa) hl
theorem w1(H:Hx P el gl tt cx){g:Nat}{sg so:Sig}{F:HV sg.sgs->Option (HV so.sgs)}{l:List (Nat×Hn R)}(h:FnLn P el gl g sg so F)(hl:∀g f,(g,f)∈l->Ff cx g f)(hok:lnB sg so=true:=by kernel_rfl):∀g' f',(g',f')∈(g,Kx sg so F)::l->Ff cx g' f':=Aph (Brf (by rw[H.p,H.e,H.g];exact h) hok) hl
theorem lO{px:Px R}(H:Hx P el gl tt cx)(h:Lv cx px){b:Code}{k n:Nat}{s:Sig}{step:A2k (HV s.sgs) R}(hround:∀fr rec kx v,round px s b fr rec kx v=step rec kx v)(hin:∀i,i<n->B8 cx px (lpC b i))(hpx:∀st K,px.loop b st K=Am k s step st K:=by exactλ_ _=>by kernel_rfl)(hs:Yp s=true:=by kernel_rfl)(hn:(Ba b).length=n:=by kernel_rfl):B8 cx px b:=Bpy h.p h.c h.q (by rw[H.p];exact H.m) hpx hs hround (Ag1 hn hin)
theorem fO{f:FuncId}{fn:Func}{c:Code}{sa sr:List Sg}{px:Px (HV sr)}{F:FT sa sr}{n:Nat}(ht:∀t,Cs P el tt t=true)(hm:P.follows .mixedOrders=true)(hf:P.funcs[f]? = some fn)(hb:fn.body=some c)(hname:(fn.name == "runtime.NumGoroutine")=false)(hchk:(Alo fn&&Nat.ble sa.length fn.ntmps&&C8 (Be 0 sa) [])=true)(hn:Vk fn=n)
  (h:∀cx,Hx P el gl tt cx->Lv cx px/\∀i,i<n->B8 cx px (lp fn i)) (hF:∀x,Zj px fn sa sr x some=F x):FnOk P el gl f sa sr F :=
 Aw5 hf hb hname hm hchk hn (λcx a b c _=>by obtain⟨h1,h2⟩:=h cx ⟨a,b,c,ht,hm⟩;exact⟨h1.p,h1.c,h1.q,h2⟩) hF
end
open Go.RowKit
structure ClOk (P:Program) (f:FuncId) (t:TypeId) (sz:Nat):Prop where
 enters:Sx.Enters P f
 con:∀(a:Option Addr) (n c:Nat) (xs:List Value),xs.all Sx.one=true->n<=2000000->Sx.Con P f [.slice a n c] [] (Sx.RdS (.slice a n c) sz n xs) (λv L _=>L=[.row v t sz n xs])
def Ah2(P:Program)(f:FuncId):Prop:=∀(a:Option Addr) (c:Nat),Sx.Con P f [.slice a 0 c] [] (λ_=>True) (λv _ _=>∃a',v = .slice a' 0 0)
theorem Btd{x:Vx}{c:Ck}{ys:List (El c)}{v:Value}(h:RF x.S x.w (.sl c ys .no) v):∃a cap vs,v = .slice a ys.length cap/\Bf x c ys vs/\∀w':World,(∀k,k<x.w.heap.size->w'.heap[k]? = x.w.heap[k]?)->Sx.RdS v (csz c) ys.length vs w':=by
 obtain⟨a,cap,vs,rfl,hrow,hcell⟩:=Fa h;refine⟨a,cap,vs,rfl,hrow,λw' hb=>⟨hrow.1,a,cap,rfl,?_⟩⟩;obtain⟨a',cap',he,hf⟩:=Bw h;simp only[Value.slice.injEq] at he;rcases hf with rfl|⟨b,o,e,hle,_⟩
 ·exact .inl rfl
 ·by_cases h0:ys=[]
  ·grind
  ·refine .inr ⟨b,o,he.1.trans e,by rw[he.2.2];exact hle.1,λj u hj =>?_⟩;have hc:=hcell b o (he.1.trans e) h0 j u hj;rw[World.cell?_of_block (a:=⟨b,o+j,none⟩) (hb b (Ye hc))];exact hc
theorem Ap0{P:Program}{Pre:World->Prop}{w:World}(h:∀w':World,(∀k,k<w.heap.size->w'.heap[k]? = w.heap[k]?)->Pre w'):Sx.StOk ⟨P,0,w,Sx.fps [],[]⟩ [] Pre w :=⟨Sx.Chg.refl _ _,by simp,by simp[Sx.fps],by simp[Sx.fps],by simp,λw' hc=>h w' λk hk=>hc.block k hk (by simp[Sx.fps])⟩
theorem Td{w w':World}(h:Sx.Chg [] w w'):Chg C1 w w' :=.of_blocks h.os h.tape h.output h.size λk hk=>h.block k hk (by simp)
theorem Ql{P:Program}{f:FuncId}{x:Vx}{c:Ck}{ys:List (El c)}{v:Value}(h:ClOk P f (x.el c) (csz c))(hrf:RF x.S x.w (.sl c ys .no) v)(hn:ys.length<=2000000) :
  ∃vs,Bf x c ys vs/\Calls P f #[v] x.w λen w'=>∃u,en = .returned u/\Chg C1 x.w w'/\((u = .slice none 0 0/\ys=[])\/∃g cap cur,u = .slice (some ⟨g,0,none⟩) ys.length cap/\(x.w.heap.size<=g/\g<w'.heap.size)/\w'.heap[g]? = some (.cells cur (x.el c) (0,0))/\cur.size=cap*csz c/\ys.length<=cap/\cap<=maxLen/\cur.toList.take (ys.length*csz c)=vs):=by
 obtain⟨a,cap,vs,rfl,hrow,hrd⟩:=Btd hrf;refine⟨vs,hrow,((h.con a ys.length cap vs (Zg2.2 hrow.one) hn).run x.w [] (Ap0 hrd)).mono ?_⟩;rintro en w' ⟨u,L',F',rfl,rfl,hs⟩;refine⟨u,rfl,Td (by simpa[Sx.fps] using hs.chg),?_⟩;have hok:w'.ownsRow 0 (x.el c) (csz c) u ys.length vs:=hs.ok (.row u (x.el c) (csz c) ys.length vs) (by simp);rcases hok.2 with ⟨rfl,h0⟩|⟨g,cap',cur,rfl,_,hh,hle,hm,hsz,htk⟩
 ·grind
 ·refine .inr ⟨g,cap',cur,rfl,⟨?_,(Zh2.1 hh).1⟩,hh,hsz,hle,hm,htk⟩;rcases hs.own g (by simp[Sx.fps,Sx.Ent.fp]) with h1|h1
  ·cases h1
  ·exact h1
def A29(c:Ck):FT [.sl c false] [.sl c true]:=λ(ys:List (El c))=>cond (decide (ys.length<=2000000)) (some ys) none
theorem Aah{P:Program}{el:Ck->TypeId}{gl:Nat->Option Gv}{f:FuncId}{c:Ck}(h:ClOk P f (el c) (csz c)):FnOk P el gl f [.sl c false] [.sl c true] (A29 c):=by
 refine⟨h.enters,λx r hx w M vs hM _ hr =>?_⟩;have hx:cond (decide (List.length (α:=El c) x<=2000000)) (some x) none=some r:=hx;cases hd:decide (List.length (α:=El c) x<=2000000) with
 |false=>rw[hd] at hx;cases hx
 |true =>
  rw[hd] at hx;simp at hx;subst hx;simp at hd;simp[B3,C4] at hr;obtain⟨v,_,rfl,hv,rfl⟩:=hr;obtain⟨us,hrow,hc⟩:=Ql (x:=v0 el M w) h hv.1 hd;refine hc.mono ?_;rintro en w' ⟨u,rfl,hch,hu⟩;rcases hu with ⟨rfl,h0⟩|⟨g,cap,cur,rfl,⟨hg1,hg2⟩,hh,hsz,hle,hm,htk⟩
  ·refine⟨_,⟨λ_=>0,λ_=>none⟩,rfl,hch,λp g o _ hg=>by simp at hg,λp q g o o' _ _ hg=>by simp at hg,?_⟩;subst h0;exact⟨λ_ _ =>.nil _ _ _ _ trivial,by simp[vr],λ_ =>.inl ⟨rfl,rfl,rfl⟩⟩
  ·let m:Mp:=⟨λ_=>0,λp=>if p=0 then some (g,List.length (α:=El c) x*csz c) else none⟩;have hmt:∀p b o,m.tk p=some (b,o)->p=0/\b=g/\o=List.length (α:=El c) x*csz c:=λp b o hp=>by grind
   refine⟨_,m,rfl,hch,λp b o _ hp =>?_,λp q b o o' _ _ hp hq=>by rw[(hmt p b o hp).1,(hmt q b o' hq).1],?_⟩
   ·obtain⟨_,rfl,_⟩:=hmt p b o hp;exact⟨hg1,hg2⟩
   ·simp[Ge,Rep];have hrow2:Bf (vr el M m [.sl c true] w') c x us:=⟨hrow.1,λi y j d hy hd=>by
     obtain⟨z,hz,hf⟩:=hrow.2 i y j d hy hd;refine⟨z,hz,RF.later hf (hch.mono λ_ _ h=>h.elim) λb i hi =>?_⟩;rcases hi with hi|⟨p,o,_,hp,_⟩
     ·exact .inl hi
     ·obtain⟨_,rfl,_⟩:=hmt p b o hp;exact .inr hg1⟩
    refine⟨Alj hrow2 ⟨hle,hm⟩ (λj z hj =>?_) (λi hi =>?_),by simp[vr],λ_ =>.inr ⟨g,cap,cur,rfl,by simp[vr,m],hh,hsz,hle,hm⟩⟩
    ·show w'.cell? _=_;simp[World.cell?,hh]
     grind
    ·rintro(hMi|⟨p,o,_,hp,ho⟩)
     ·have:=hM g i hMi;have hg1:w.heap.size<=g:=hg1;omega
     ·grind
section
variable {R:Type}{cx:Cx}
def Aap(c:Ck)(args:List D)(st:St)(K:List D->St->Option R):Option R:=match args with
 |[.sl c' xs _]=>match decide (c' = c)&&decide (xs.length<=2000000) with|true=>cond (List.isEmpty xs) (K [.sl c' [] .z] st) (K [.osl st.nb c' 0 ((xs.length:Nat):Int)] (G3 st (.dyn c' xs)))|false=>none
 |_=>none
theorem Ae4{x:Vx}{c:Ck}{ys:List (El c)}{vs:List Value}{g cap:Nat}{cur:Array Value}(hrow:Bf x c ys vs)(hh:x.w.heap[g]? = some (.cells cur (x.el c) (0,0)))(hsz:cur.size=cap*csz c)(hle:ys.length<=cap)(hm:cap<=maxLen)(htk:cur.toList.take (ys.length*csz c)=vs):G7 x g (.dyn c ys):=by
 refine⟨Nat.le_trans hle hm,cur.toList,x.el c,by rw[Array.toArray_toList];exact hh,(by have hq:=Nat.mul_le_mul_right (csz c) hle;rw[<-hsz] at hq;simpa using hq),λi y j d hy hd =>?_⟩;obtain⟨u,hu,hf⟩:=hrow.2 i y j d hy hd;refine⟨u,?_,hf⟩;rw[<-htk,List.getElem?_take] at hu;split at hu
 ·exact hu
 ·cases hu
theorem Bdr{g:Nat}{c:Ck}(h:ClOk cx.P g (cx.el c) (csz c))(h0:Ah2 cx.P g){args:List D}{st:St}{K:List D->St->Option R}{r:R}(hc:Aap c args st K=some r):Hz cx g args st K r:=by
 unfold Aap at hc;split at hc
 ·rename_i c' xs tk;split at hc
  ·rename_i hcc;simp at hcc;obtain⟨rfl,hn⟩:=hcc;refine⟨h.enters,λm a as_ w vs hr hargs =>?_⟩;simp only[Reps] at hargs;obtain⟨v,_,rfl,⟨hrf,_⟩,rfl⟩:=hargs;by_cases he:xs=[]
   ·subst he;obtain⟨ad,cap,rfl,_⟩:=hrf.here.slice;refine((h0 ad cap).run w [] (Ap0 λ_ _=>trivial)).mono ?_;rintro en w' ⟨u,L',F',rfl,⟨a',rfl⟩,hs⟩;have hch:Chg C1 w w':=Td (by simpa[Sx.fps] using hs.chg);refine⟨_,rfl,_,st,m,hc,⟨rfl,rfl,rfl,rfl,rfl⟩,hr.quiet hch,?_⟩;simp[Ge];exact⟨λ_ _ =>.nil _ _ _ _ trivial,rfl,a',rfl⟩
   ·have hie:List.isEmpty xs=false:=by cases xs with|nil=>exact absurd rfl he|cons _ _=>rfl
    rw[hie] at hc;obtain⟨us,hrow,hcl⟩:=Ql (x:=vx cx m (fs st) w) h hrf hn;refine hcl.mono ?_;rintro en w' ⟨u,rfl,hch,hu⟩;rcases hu with ⟨_,e⟩|⟨g2,cap,cur,rfl,⟨hg1,hg2⟩,hh,hsz,hle,hm,htk⟩
    ·exact absurd e he
    ·obtain⟨m',h1,h2⟩:=hr.newAt (k :=.dyn c' xs) (g:=g2) hch hg1 hg2 (λx' nx hw=>Ae4 (hrow.later nx) (by rw[hw,nx.el];exact hh) hsz hle hm htk);rw[<-A3t] at h1 h2;refine⟨_,rfl,_,_,m',hc,⟨rfl,rfl,rfl,rfl,rfl⟩,h1,?_⟩;simp only[Rep] at h2;simp[Ge];obtain⟨k1,k2⟩:=h2;simp at k2;have hbl:(vx cx m' (fs (G3 st (.dyn c' xs))) w').m.bl st.nb=g2:=k2.symm;refine⟨k1,Int.le_refl _,Int.natCast_nonneg _,by have:=Nat.le_trans hle hm;omega,some ⟨g2,0,none⟩,cap,by simp,.inr (by rw[hbl];simp),by simpa using hle,hm,cur,(0,0),by rw[hbl];exact hh,by simpa using hsz⟩
  ·cases hc
 ·cases hc
def Aes(c:Ck)(args:List D)(st:St)(K:D->List Nat->St->Option R):Option R:=match args with
 |[.sl c' xs _]=>match decide (c' = c)&&decide (xs.length<=2000000) with
  |true=>cond (List.isEmpty xs) (K (.sl c' [] .z) [] st) (match blk st.bl st.nb with
   |none=>K (.osl st.nb c' 0 ((xs.length:Nat):Int)) [] (G3 st (.dyn c' xs))
   |some _=>none)
  |false=>none
 |_=>none
theorem A89{st:St}(k:Blk)(h:blk st.bl st.nb=none):∀b,b∉([]:List Nat)->E5 (fs st) (fs (G3 st k)) b:=λb _=>by
 have e:∀q,(fs (G3 st k)).bl q=if q=st.nb then some k else(fs st).bl q:=λq=>Az st.bl st.nb q k
 refine⟨λq hq =>?_,λq hq hlt =>?_⟩
 ·rw[e];by_cases hb:b=st.nb
  ·subst hb;have hq:blk st.bl st.nb=some q:=hq;rw[h] at hq;cases hq
  ·rw[if_neg hb];exact hq
 ·have hlt:b<st.nb:=hlt;rw[e,if_neg (by omega)] at hq;exact hq
theorem A0p{g:Nat}{c:Ck}(h:ClOk cx.P g (cx.el c) (csz c))(h0:Ah2 cx.P g):Ff (R:=R) cx g (Aes c):=by
 intro args st K r hc;unfold Aes at hc;split at hc
 ·rename_i c' xs tk;split at hc
  ·rename_i hcc;simp at hcc;obtain⟨rfl,hn⟩:=hcc;by_cases he:xs=[]
   ·subst he;refine⟨_,[],st,hc,⟨rfl,rfl,rfl,rfl,rfl⟩,Zn1 _,λb _=>E5.of_bl rfl b,h.enters,λs m a as_ w vs hW hr hargs =>?_⟩;simp only[Reps] at hargs;obtain⟨v,_,rfl,⟨hrf,_⟩,rfl⟩:=hargs;obtain⟨ad,cap,rfl,_⟩:=hrf.here.slice;refine((h0 ad cap).run w [] (Ap0 λ_ _=>trivial)).mono ?_;rintro en w' ⟨u,L',F',rfl,⟨a',rfl⟩,hs⟩;have hch:Chg C1 w w':=Td (by simpa[Sx.fps] using hs.chg);rw[Jc hW];refine⟨_,rfl,m,hr.quiet hch,?_⟩;simp[Rep];exact⟨λ_ _ =>.nil _ _ _ _ trivial,rfl,a',rfl⟩
   ·have hie:List.isEmpty xs=false:=by cases xs with|nil=>exact absurd rfl he|cons _ _=>rfl
    rw[hie] at hc;cases hfr:blk st.bl st.nb with
    |some k=>rw[hfr] at hc;cases hc
    |none =>
    rw[hfr] at hc;refine⟨_,[],G3 st (.dyn c' xs),hc,⟨rfl,rfl,rfl,rfl,rfl⟩,Nat.le_succ _,A89 _ hfr,h.enters,λs m a as_ w vs hW hr hargs =>?_⟩;simp only[Reps] at hargs;obtain⟨v,_,rfl,⟨hrf,_⟩,rfl⟩:=hargs;obtain⟨us,hrow,hcl⟩:=Ql (x:=vx cx m s w) h hrf hn;refine hcl.mono ?_;rintro en w' ⟨u,rfl,hch,hu⟩;rcases hu with ⟨_,e⟩|⟨g2,cap,cur,rfl,⟨hg1,hg2⟩,hh,hsz,hle,hm,htk⟩
    ·exact absurd e he
    ·obtain⟨m',h1,h2⟩:=hr.newAt (k :=.dyn c' xs) (g:=g2) hch hg1 hg2 (λx' nx hw=>Ae4 (hrow.later nx) (by rw[hw,nx.el];exact hh) hsz hle hm htk);rw[Of st _ s hW];refine⟨_,rfl,m',h1,?_⟩;simp only[Rep] at h2 ⊢;obtain⟨k1,k2⟩:=h2;simp at k2;have hnb:st.nb=s.nb:=hW.2.1.symm;rw[hnb];have hbl:(vx cx m' { s with bl:=λb=>if b=s.nb then some (.dyn c' xs) else s.bl b,nb:=s.nb+1 } w').m.bl s.nb=g2:=k2.symm;refine⟨k1,Int.le_refl _,Int.natCast_nonneg _,by have:=Nat.le_trans hle hm;omega,some ⟨g2,0,none⟩,cap,by simp,.inr (by rw[hbl];simp),by simpa using hle,hm,cur,(0,0),by rw[hbl];exact hh,by simpa using hsz⟩
  ·cases hc
 ·cases hc
theorem A77{α:Type}(l:List α):cut l 0 (0+((l.length:Nat):Int))=l:=by simp[cut]
theorem A4y{m:Mp}{a:Act}{as_:List Act}{st:St}{w:World}(hr:Rel cx m a as_ (fs st) w){b cap:Nat}{c:Ck}{xs:List (El c)}(hb:blk st.bl b=some (.dyn c xs)){cur:Array Value}(hh:w.heap[m.bl b]? = some (.cells cur (cx.el c) (0,0)))(hsz:cur.size=cap*csz c)(hle:xs.length<=cap)(hm:cap<=maxLen) :
  Rel cx m a as_ (fs { st with bl:=Bp st.bl b }) w/\Rep (vx cx m (fs { st with bl:=Bp st.bl b }) w) (.sl c xs .no) (.slice (some ⟨m.bl b,0,none⟩) xs.length cap):=by
 have hd:Rep (vx cx m (fs st) w) (.osl b c 0 ((xs.length:Nat):Int)) (.slice (some ⟨m.bl b,0,none⟩) xs.length cap):=by simp only[Rep];exact⟨(hr.blks b _ hb).1,Int.le_refl _,Int.natCast_nonneg _,by have:=Nat.le_trans hle hm;omega,some ⟨m.bl b,0,none⟩,cap,by simp,.inr (by simp[vx]),by simpa using hle,hm,cur,(0,0),hh,by simpa using hsz⟩
 have hf:A9m st.bl (.osl b c 0 ((xs.length:Nat):Int)) (λd bl=>some (d,bl))=some (.sl c xs .no,Bp st.bl b):=by simp only[A9m,hb];rw[A77];refine(Bjj ?_);simp
 obtain⟨d',bl',hk,hrel,_,hrep,_⟩:=Arz hr hd hf;simp at hk;obtain⟨rfl,rfl⟩:=hk;exact⟨hrel,hrep⟩
theorem Bgs{m:Mp}{a:Act}{as_:List Act}{st:St}{w w':World}(hr:Rel cx m a as_ (fs st) w){b cap:Nat}{c:Ck}{xs xs':List (El c)}{vs':List Value}(hb:blk st.bl b=some (.dyn c xs))(hch:Chg (λq _=>q=m.bl b) w w')(hh:w'.heap[m.bl b]? = some (.cells vs'.toArray (cx.el c) (0,0)))(hl:vs'.length=cap*csz c)(hrow:Bf (vx cx m (fs st) w) c xs' (vs'.take (xs'.length*csz c)))(hle:xs'.length<=cap)(hm:cap<=maxLen) :
  ∃m',Rel cx m' a as_ (fs { st with bl:=Bp st.bl b,nb:=st.nb+1 }) w'/\Rep (vx cx m' (fs { st with bl:=Bp st.bl b,nb:=st.nb+1 }) w') (.sl c xs' .no) (.slice (some ⟨m.bl b,0,none⟩) xs'.length cap):=by
 have hrel1:=hr.write (k :=.dyn c xs') (b:=b) hb hch (λx' nx hw=>Ae4 (hrow.later nx) (by rw[hw,nx.el];exact hh) (by simpa using hl) hle hm (by simp));have e1:fs { st with bl:=Dz st.bl b (.dyn c xs') }={ fs st with bl:=λq=>if q=b then some (.dyn c xs') else(fs st).bl q }:=by
  refine FS.eq rfl rfl rfl rfl rfl ?_ rfl rfl rfl;funext q;show blk (Dz st.bl b _) q=_;rw[Gy];by_cases hq:q=b
  ·subst hq;simp[hb]
  ·simp[hq];rfl
 rw[<-e1] at hrel1;have hb1:blk (Dz st.bl b (.dyn c xs')) b=some (.dyn c xs'):=by rw[Gy,if_pos rfl,hb];rfl
 obtain⟨h1,h2⟩:=A4y (st:={ st with bl:=Dz st.bl b (.dyn c xs') }) hrel1 hb1 hh (by simpa using hl) hle hm;have e2:fs { st with bl:=Bp (Dz st.bl b (.dyn c xs')) b }=fs { st with bl:=Bp st.bl b }:=by refine FS.eq rfl rfl rfl rfl rfl ?_ rfl rfl rfl;funext q;show blk (Bp (Dz st.bl b _) b) q=blk (Bp st.bl b) q;rw[D2,D2,Gy];by_cases hq:q=b<;>simp[hq]
 have h1:Rel cx m a as_ (fs { st with bl:=Bp st.bl b }) w':=by rw[<-e2];exact h1
 have h3:=Rel.raise (st:={ st with bl:=Bp st.bl b }) (nb:=st.nb+1) (nt:=st.nt) (Nat.le_succ _) (Zn1 _) h1;refine⟨m,h3,?_⟩;simp at h2 ⊢;refine⟨?_,trivial⟩;have hS:(vx cx m (fs { st with bl:=Bp (Dz st.bl b (.dyn c xs')) b }) w').S=(vx cx m (fs { st with bl:=Bp st.bl b,nb:=st.nb+1 }) w').S:=by show(vx cx m (fs { st with bl:=Bp (Dz st.bl b (.dyn c xs')) b }) w').S=(vx cx m (fs { st with bl:=Bp st.bl b }) w').S;rw[e2]
 rw[<-hS];exact h2.1
theorem Bfg{m:Mp}{a:Act}{as_:List Act}{st:St}{w w':World}(hr:Rel cx m a as_ (fs st) w){b g cap:Nat}{c:Ck}{xs':List (El c)}{vs':List Value}(hch:Chg C1 w w')(hg1:w.heap.size<=g)(hh:w'.heap[g]? = some (.cells vs'.toArray (cx.el c) (0,0)))(hl:vs'.length=cap*csz c)(hrow:Bf (vx cx m (fs st) w) c xs' (vs'.take (xs'.length*csz c)))(hle:xs'.length<=cap)(hm:cap<=maxLen) :
  ∃m',Rel cx m' a as_ (fs { st with bl:=Bp st.bl b,nb:=st.nb+1 }) w'/\Rep (vx cx m' (fs { st with bl:=Bp st.bl b,nb:=st.nb+1 }) w') (.sl c xs' .no) (.slice (some ⟨g,0,none⟩) xs'.length cap):=by
 obtain⟨m',h1,h2⟩:=hr.newAt (k :=.dyn c xs') (g:=g) hch hg1 (Zh2.1 hh).1 (λx' nx hw=>Ae4 (hrow.later nx) (by rw[hw,nx.el];exact hh) (by simpa using hl) hle hm (by simp));rw[<-A3t] at h1 h2;simp only[Rep] at h2;have k2:=h2.2;simp at k2;have hbl:m'.bl st.nb=g:=k2.symm;have hb1:blk (G3 st (.dyn c xs')).bl st.nb=some (.dyn c xs'):=by show blk ((st.nb,_)::st.bl) st.nb=_;rw[Az,if_pos rfl]
 obtain⟨h3,h4⟩:=A4y (st:=G3 st (.dyn c xs')) h1 hb1 (by rw[hbl];exact hh) (by simpa using hl) hle hm;rw[hbl] at h4;obtain⟨h5,nx⟩:=h3.drop b;have h6:=Rep.later nx _ _ h4;have hnone:blk st.bl st.nb=none:=by cases hk:blk st.bl st.nb with|none=>rfl|some k=>exact absurd (hr.blks st.nb k hk).1 (Nat.lt_irrefl _)
 have e:fs { { G3 st (.dyn c xs') with bl:=Bp (G3 st (.dyn c xs')).bl st.nb } with bl:=Bp (Bp (G3 st (.dyn c xs')).bl st.nb) b }=fs { st with bl:=Bp st.bl b,nb:=st.nb+1 }:=by
  refine FS.eq rfl rfl rfl rfl rfl ?_ rfl rfl rfl;funext q;show blk (Bp (Bp ((st.nb,_)::st.bl) st.nb) b) q=blk (Bp st.bl b) q;rw[D2,D2,D2,Az];by_cases hq:q=b
  ·simp[hq]
  ·rw[if_neg hq,if_neg hq];by_cases hn:q=st.nb
   ·rw[if_pos hn,hn,hnone]
   ·rw[if_neg hn,if_neg hn]
 rw[e] at h5 h6;exact⟨m',h5,h6⟩
theorem A6m{x:Vx}{c:Ck}{xs:List (El c)}{vs:List Value}(hl:xs.length*csz c<=vs.length)(h:∀i y j d,xs[i]? = some y->(enc c y)[j]? = some d->∃u,vs[i*csz c+j]? = some u/\RF x.S x.w d u):Bf x c xs (vs.take (xs.length*csz c)):=by
 refine⟨by rw[List.length_take];exact Nat.min_eq_left hl,λi y j d hy hd =>?_⟩;obtain⟨u,hu,hf⟩:=h i y j d hy hd;refine⟨u,?_,hf⟩;have hi:i<xs.length:=(Zi2.1 hy).1;have hj:j<csz c:=by rw[<-B0 c y];exact(Zi2.1 hd).1
 have:i*csz c+j<xs.length*csz c:=by have h1:(i+1)*csz c<=xs.length*csz c:=Nat.mul_le_mul_right _ hi;rw[Nat.add_mul] at h1;omega
 rw[List.getElem?_take_of_lt this];exact hu
theorem Bf.take{x:Vx}{c:Ck}{xs:List (El c)}{vs:List Value}(h:Bf x c xs vs)(k:Nat)(hk:k<=xs.length):Bf x c (xs.take k) (vs.take (k*csz c)):=by
 have hkl:(xs.take k).length=k:=by rw[List.length_take];exact Nat.min_eq_left hk
 have:=A6m (x:=x) (c:=c) (xs:=xs.take k) (vs:=vs) (by rw[hkl,h.1];exact Nat.mul_le_mul_right _ hk) (λi y j d hy hd=>by
  rw[List.getElem?_take] at hy;split at hy
  ·exact h.2 i y j d hy hd
  ·cases hy)
 rwa[hkl] at this
theorem Bf.drop{x:Vx}{c:Ck}{xs:List (El c)}{vs:List Value}(h:Bf x c xs vs)(k:Nat):Bf x c (xs.drop k) (vs.drop (k*csz c)):=by refine⟨by rw[Za2,Za2,h.1,Nat.sub_mul],λi y j d hy hd =>?_⟩;rw[List.getElem?_drop] at hy;obtain⟨u,hu,hf⟩:=h.2 (k+i) y j d hy hd;refine⟨u,?_,hf⟩;rw[List.getElem?_drop,<-hu];congr 1;rw[Nat.add_mul,Nat.add_assoc]
theorem Bk8{w:World}{d:D}(h:FV w d (.tuple #[])):False:=by cases h
theorem Beo{x:Vx}{c:Ck}{y:El c}{ys:List (El c)}{b o n cap g:Nat}{cs:Array Value}{t:TypeId}(h:RF x.S x.w (.sl c (y::ys) .no) (.slice (some ⟨b,o,none⟩) n cap))(hg:∀i,x.S g i)(hh:x.w.heap[g]? = some (.cells cs t (0,0))):b≠g:=by
 intro e;subst e;have hch:Chg x.S x.w (x.w.setRow b (List.replicate cs.size (.tuple #[])).toArray):=by have hsx:Sx.Chg [b] x.w (x.w.setRow b (List.replicate cs.size (.tuple #[])).toArray):=⟨rfl,rfl,rfl,by simp,λk _ hn=>setRow_other x.w b k _ (by simpa using hn)⟩;refine(Mx hsx (vs:=cs.toList) (us:=List.replicate cs.size (.tuple #[])) (t:=t) (by rw[Array.toArray_toList];exact hh) (setRow_heap _ b _ _ t (0,0) hh) (by simp)).mono λq i hq =>?_;subst hq;exact hg i
 obtain⟨a',cap',e,hf⟩:=(h _ hch).slice;rcases hf with e0|⟨b',o',rfl,_,hat⟩
 ·cases e0
 ·simp at e;obtain⟨⟨rfl,rfl⟩,_⟩:=e;have hlt : 0<(enc c y).length:=by rw[B0];exact Ae9 c
  obtain⟨u,hu,hfv⟩:=hat 0 y rfl 0 _ (Zo1 hlt);simp only[World.cell?,(setRow_heap x.w b _ (List.replicate cs.size (Value.tuple #[])).toArray t (0,0) hh)] at hu;simp at hu;have:u = .tuple #[]:=by obtain⟨hq,hu⟩:=Zh2.1 hu;simp at hu;exact hu.symm
  subst this;exact Bk8 hfv
structure InsOk (P:Program) (f:FuncId) (t:TypeId):Prop where
 enters:Sx.Enters P f
 con:∀(g n i cap vb vo vc:Nat) (cs ys:List Value),0<n->i<=n->n<=cap->cs.length=cap*2->(∀v,v∈cs.take (n*2)->Sx.one v=true)->ys.length=2->(∀v,v∈ys->Sx.one v=true)->vb≠g->n<=2000000 ->
  Sx.Con P f [.slice (some ⟨g,0,none⟩) n cap,.int .i64 i,.slice (some ⟨vb,vo,none⟩) 1 vc] [.blk g cs t] (λw=>∀(j:Nat) v,ys[j]? = some v->w.cell? ⟨vb,vo+j,none⟩=some v) (λv L _ =>
   (∃cs',v = .slice (some ⟨g,0,none⟩) (n+1) cap/\n+1<=cap/\L=[.blk g cs' t]/\cs'.length=cs.length/\cs'.take ((n+1)*2)=cs.take (i*2)++ys++(cs.drop (i*2)).take ((n-i)*2)) \/
   (∃b cap' cs',v = .slice (some ⟨b,0,none⟩) (n+1) cap'/\n+1<=cap'/\cap'<=maxLen/\L=[.blk b cs' t,.blk g cs t]/\cs'.length=cap'*2/\cs'.take ((n+1)*2)=cs.take (i*2)++ys++(cs.drop (i*2)).take ((n-i)*2)))
 con0:∀(a:Option Addr) (vb vo vc:Nat) (ys:List Value),ys.length=2->(∀v,v∈ys->Sx.one v=true) ->
  Sx.Con P f [.slice a 0 0,.int .i64 0,.slice (some ⟨vb,vo,none⟩) 1 vc] [] (λw=>∀(j:Nat) v,ys[j]? = some v->w.cell? ⟨vb,vo+j,none⟩=some v) (λv L _=>∃b cap' cs',v = .slice (some ⟨b,0,none⟩) 1 cap'/\1<=cap'/\cap'<=maxLen/\L=[.blk b cs' t]/\cs'.length=cap'*2/\cs'.take 2=ys)
def Afj(args:List D)(st:St)(K:List D->St->Option R):Option R:=match args with
 |[.osl b .idx p n,.int .i64 i,.sl .idx [y] _]=>match blk st.bl b with
  |some (.dyn .idx xs)=>chk (decide (p=0)&&decide (0<n)&&decide (n=(xs.length:Int))&&decide (0<=i)&&decide (i<=n)&&decide (n<=2000000)) (K [.sl .idx (xs.take i.toNat++y::xs.drop i.toNat) .no] { st with bl:=Bp st.bl b,nb:=st.nb+1 })
  |_=>none
 |[.sl .idx [] .z,.int .i64 i,.sl .idx [y] _]=>chk (decide (i=0)) (K [.sl .idx [y] .no] st)
 |_=>none
theorem Aqt{x:Vx}{y:El .idx}{v:Value}(h:RF x.S x.w (.sl .idx [y] .no) v):∃vb vo vc us,v = .slice (some ⟨vb,vo,none⟩) 1 vc/\Bf x .idx [y] us/\us.length=2/\(∀z,z∈us->Sx.one z=true)/\∀(j:Nat) u,us[j]? = some u->x.w.cell? ⟨vb,vo+j,none⟩=some u:=by
 obtain⟨a,cap,us,rfl,hrow,hcell⟩:=Fa h;obtain⟨a',cap',e,hf⟩:=Bw h;simp at e;rcases hf with e0|⟨b,o,e1,_⟩
 ·cases e0
 ·have ha:=e.1.trans e1;subst ha;exact⟨b,o,cap,us,rfl,hrow,by rw[hrow.1];rfl,hrow.one,hcell b o rfl (by simp)⟩
theorem A3p{g:Nat}(h:InsOk cx.P g (cx.el .idx)){args:List D}{st:St}{K:List D->St->Option R}{r:R}(hc:Afj args st K=some r):Hz cx g args st K r:=by
 unfold Afj at hc;split at hc
 ·rename_i b p n i y tk;split at hc
  ·rename_i xs hb;obtain⟨hk,hK⟩:=A1 hc;simp at hk;obtain⟨⟨⟨⟨⟨hp,hn⟩,hnl⟩,hi0⟩,hin⟩,hbig⟩:=hk;subst hp hnl;obtain⟨i,rfl⟩:∃k:Nat,i=k:=⟨i.toNat,by omega⟩;refine⟨h.enters,λm a as_ w vs hr hargs =>?_⟩;simp only[Reps] at hargs;obtain⟨v1,_,rfl,⟨hb1,_,_,_,ad,cap,rfl,had,hle,hcm,cur,f,hh1,hsz⟩,v2,_,rfl,⟨rfl,_⟩,v3,_,rfl,⟨hrf,_⟩,rfl⟩:=hargs;obtain⟨_,hlen,vs,t,hh2,hvl,hel⟩:=hr.blks b _ hb;have hh1:w.heap[m.bl b]? = some (.cells cur (cx.el .idx) f):=hh1;have hh2:w.heap[m.bl b]? = some (.cells vs.toArray t (0,0)):=hh2;rw[hh1] at hh2;simp at hh2;obtain⟨rfl,rfl,rfl⟩:=hh2;obtain rfl:=had.resolve_left (by omega);have hsz2:vs.length=cap*2:=by simpa[csz] using hsz
   simp at hle;have hrowx:=A6m (x:=vx cx m (fs st) w) hvl hel;obtain⟨vb,vo,vc,us,rfl,hrow3,hul,hu1,hucell⟩:=Aqt hrf;have hbn:(fs st).bl b≠none:=by rw[show(fs st).bl b=some _ from hb];simp
   have hne:vb≠m.bl b:=Beo (x:=vx cx m (fs st) w) hrf (λ_ =>.inr (.inl ⟨b,hbn,rfl⟩)) hh1;have hx1:∀v,v∈vs.take (xs.length*2)->Sx.one v=true:=hrowx.one;have hst:Sx.StOk ⟨cx.P,0,w,Sx.fps [.blk (m.bl b) vs (cx.el .idx)],[]⟩ [.blk (m.bl b) vs (cx.el .idx)] (λw=>∀(j:Nat) v,us[j]? = some v->w.cell? ⟨vb,vo+j,none⟩=some v) w:=by
    refine⟨Sx.Chg.refl _ _,λq hq =>?_,by simp[Sx.fps,Sx.Ent.fp],λq hq =>.inl hq,by simp,λw' hc' j v hj =>?_⟩
    ·simp at hq;subst hq;exact hh1
    ·refine hc'.cell (hucell j v hj) ?_;simpa[Sx.fps,Sx.Ent.fp] using hne
   have hargs:([.slice (some ⟨m.bl b,(0:Int).toNat*csz .idx,none⟩) ((xs.length:Nat):Int).toNat cap,.int .i64 (i:Int),.slice (some ⟨vb,vo,none⟩) 1 vc]:List Value)=[.slice (some ⟨m.bl b,0,none⟩) xs.length cap,.int .i64 i,.slice (some ⟨vb,vo,none⟩) 1 vc]:=by simp
   show Calls cx.P g ([.slice (some ⟨m.bl b,(0:Int).toNat*csz .idx,none⟩) ((xs.length:Nat):Int).toNat cap,.int .i64 (i:Int),.slice (some ⟨vb,vo,none⟩) 1 vc]:List Value).toArray w _;rw[hargs];refine((h.con (m.bl b) xs.length i cap vb vo vc vs us (by omega) (by omega) hle hsz2 hx1 hul hu1 hne (by omega)).run w [] hst).mono ?_;rintro en w' ⟨u,L',F',rfl,hpost,hs⟩;have hsc:Sx.Chg [m.bl b] w w':=by simpa[Sx.fps,Sx.Ent.fp] using hs.chg
   have hil:i<=xs.length:=by omega
   have hnew:Bf (vx cx m (fs st) w) .idx (xs.take i++y::xs.drop i) (vs.take (i*2)++us++(vs.drop (i*2)).take ((xs.length-i)*2)):=by
    have e3:=((hrowx.take i hil).append hrow3).append (hrowx.drop i);rw[Zj1,List.singleton_append] at e3;have q1:(vs.take (xs.length*csz .idx)).take (i*csz .idx)=vs.take (i*2):=by rw[List.take_take,Nat.min_eq_left (Nat.mul_le_mul_right _ hil)];rfl
    have q2:(vs.take (xs.length*csz .idx)).drop (i*csz .idx)=(vs.drop (i*2)).take ((xs.length-i)*2):=by rw[List.drop_take];show(vs.drop (i*2)).take (xs.length*2-i*2)=_;rw[<-Nat.sub_mul]
    rw[q1,q2] at e3;exact e3
   have hnl:(xs.take i++y::xs.drop i).length=xs.length+1:=by simp;omega
   simp at hK;rcases hpost with ⟨cs',rfl,hroom,rfl,hcl,htk⟩|⟨b',cap',cs',rfl,hroom,hcm',rfl,hcl,htk⟩
   ·have hh':w'.heap[m.bl b]? = some (.cells cs'.toArray (cx.el .idx) (0,0)):=hs.ok (.blk (m.bl b) cs' (cx.el .idx)) (by simp);obtain⟨m',k1,k2⟩:=Bgs (c :=.idx) (xs':=xs.take i++y::xs.drop i) hr hb (Mx hsc hh1 hh' hcl) hh' (cap:=cap) (by rw[hcl];exact hsz2) (by rw[hnl];show Bf _ _ _ (cs'.take ((xs.length+1)*2));rw[htk];exact hnew) (by rw[hnl];exact hroom) hcm;rw[hnl] at k2;exact⟨_,rfl,_,_,m',hK,⟨rfl,rfl,rfl,rfl,rfl⟩,k1,k2⟩
   ·have hh':w'.heap[b']? = some (.cells cs'.toArray (cx.el .idx) (0,0)):=hs.ok (.blk b' cs' (cx.el .idx)) (by simp);have hho:w'.heap[m.bl b]? = some (.cells vs.toArray (cx.el .idx) (0,0)):=hs.ok (.blk (m.bl b) vs (cx.el .idx)) (by simp);have hbb:b'≠m.bl b:=by have:=hs.nodup;simpa[Sx.fps,Sx.Ent.fp] using this
    have hg1:w.heap.size<=b':=by
     rcases hs.own b' (by simp[Sx.fps,Sx.Ent.fp]) with h1|h1
     ·exact absurd (by simpa[Sx.fps,Sx.Ent.fp] using h1) hbb
     ·exact h1
    have hch:Chg C1 w w' :=.of_blocks hsc.os hsc.tape hsc.output hsc.size λk hk=>by
     by_cases hkb:k=m.bl b
     ·rw[hkb,hho,hh1]
     ·exact hsc.block k hk (by simpa using hkb)
    obtain⟨m',k1,k2⟩:=Bfg (b:=b) (c :=.idx) (xs':=xs.take i++y::xs.drop i) hr hch hg1 hh' (cap:=cap') hcl (by rw[hnl];show Bf _ _ _ (cs'.take ((xs.length+1)*2));rw[htk];exact hnew) (by rw[hnl];exact hroom) hcm';rw[hnl] at k2;exact⟨_,rfl,_,_,m',hK,⟨rfl,rfl,rfl,rfl,rfl⟩,k1,k2⟩
  ·cases hc
 ·rename_i i y tk;obtain⟨hk,hK⟩:=A1 hc;simp at hk;subst hk;refine⟨h.enters,λm a as_ w vs hr hargs =>?_⟩;simp only[Reps] at hargs;obtain⟨v1,_,rfl,⟨_,_,ad,rfl⟩,v2,_,rfl,⟨rfl,_⟩,v3,_,rfl,⟨hrf,_⟩,rfl⟩:=hargs;obtain⟨vb,vo,vc,us,rfl,hrow3,hul,hu1,hucell⟩:=Aqt hrf;refine((h.con0 ad vb vo vc us hul hu1).run w [] (Ap0 λw' hb j v hj =>?_)).mono ?_
  ·have hcv:=hucell j v hj;rw[World.cell?_of_block (a:=⟨vb,vo+j,none⟩) (hb vb (Ye hcv))];exact hcv
  ·rintro en w' ⟨u,L',F',rfl,⟨b',cap',cs',rfl,hroom,hcm',rfl,hcl,htk⟩,hs⟩;have hch:Chg C1 w w':=Td (by simpa[Sx.fps] using hs.chg);have hh':w'.heap[b']? = some (.cells cs'.toArray (cx.el .idx) (0,0)):=hs.ok (.blk b' cs' (cx.el .idx)) (by simp);have hg1:w.heap.size<=b':=by
    rcases hs.own b' (by simp[Sx.fps,Sx.Ent.fp]) with h1|h1
    ·cases h1
    ·exact h1
   have nx:Nx (vx cx m (fs st) w) (vx cx m (fs st) w'):=⟨hch.mono (λ_ _ h=>h.elim),λb i hi =>.inl hi,rfl,λ_ _=>rfl,Zn1 _,Zn1 _,λt _ ha=>⟨ha,rfl,λg o hg=>hch.block g (hr.own_t ha hg) (λ_ h=>h)⟩⟩;refine⟨_,rfl,_,st,m,hK,⟨rfl,rfl,rfl,rfl,rfl⟩,hr.quiet hch,?_⟩;simp[Ge];refine⟨Alj (x:=vx cx m (fs st) w') (hrow3.later nx) ⟨hroom,hcm'⟩ (λj z hj =>?_) (λi _=>Ap7 hr hg1 i),trivial⟩;show w'.cell? _=_;simp[World.cell?,hh'];rw[<-htk,List.getElem?_take] at hj;split at hj
   ·simpa using hj
   ·cases hj
 ·cases hc
end
section
variable {R:Type}{P:Program}{el:Ck->TypeId}{gl:Nat->Option Gv}{tt:Nat->Ty}{cx:Cx}
theorem cCl(H:Hx P el gl tt cx){g:Nat}{c:Ck}(h:ClOk P g (el c) (csz c))(h0:Ah2 P g):Gn (R:=R) cx g (Aap c):=λ_ _ _ _ hc=>Bdr (by rw[H.p,H.e];exact h) (by rw[H.p];exact h0) hc
theorem Bwl(H:Hx P el gl tt cx){g:Nat}{c:Ck}(h:ClOk P g (el c) (csz c))(h0:Ah2 P g):Ff (R:=R) cx g (Aes c):=A0p (by rw[H.p,H.e];exact h) (by rw[H.p];exact h0)
theorem Bv5(H:Hx P el gl tt cx){g:Nat}(h:InsOk P g (el .idx)):Gn (R:=R) cx g Afj:=λ_ _ _ _ hc=>A3p (by rw[H.p,H.e];exact h) hc
end
end Go.Ax
namespace Go.Sx
open Go.RowKit
section
variable {cx:Cx}{k:List KI}{e:Env}{L:Loc}{F:World->Prop}{Q:Exit->Act->World->Prop}{ops:Array Oper}{l:List Oper}{w:World}
theorem StOk.swap{x y:Ent}(h:StOk cx (x::L) F w)(hfp:y.fp=x.fp)(hok:y.ok w):StOk cx (y::L) F w:=by
 have he:fps (y::L)=fps (x::L):=by simp[fps,hfp]
 refine⟨h.chg,?_,by rw[he];exact h.nodup,by rw[he];exact h.own,h.away,by rw[he];exact h.rob⟩;intro z hz;simp at hz;rcases hz with rfl|hz
 ·exact hok
 ·exact h.ok z (Zu1 _ hz)
theorem StOk.blkrow{b:Nat}{u:TypeId}(sz:Nat)(h:StOk cx (.blk b [] u::L) F w):StOk cx (.row (.slice (some ⟨b,0,none⟩) 0 0) u sz 0 []::L) F w :=h.swap rfl ⟨by simp,.inr ⟨b,0, #[],rfl,Nat.zero_le _,h.ok _ Zr1,Zn1 _,Nat.zero_le _,by simp,by simp⟩⟩
theorem Ji{b:Nat}{u:TypeId}(sz:Nat)(h:O cx ops l k e (.row (.slice (some ⟨b,0,none⟩) 0 0) u sz 0 []::L) F Q):O cx ops l k e (.blk b [] u::L) F Q :=.mk λa w he hs=>h.run a w he (hs.blkrow sz)
theorem Hy{P:Program}{t t':TypeId}{x y:Operand}{a:Option Addr}{n c:Nat}(sz:Nat)(ht:(elSz P t == some sz)=true)(hx:Env.ev e x=some (.slice a n c))(hy:Env.ev e y=some (.slice none 0 0)):Pure P e (.binOp .eql t x y t') (.bool a.isNone):=by obtain⟨u,hu,_⟩:=Mi (n:=sz) (by simpa using ht);refine p_bin hx hy (λw=>rfl) λw =>?_;have:=run_equal_slice_nil (P:=P) w t u a n c hu;simp[binOp,this]
end
theorem Aub{P:Program}(w:World)(dT sT ty elem:TypeId)(i0:TypeInfo)(g o dLen dCap:Nat)(a:Addr)(sLen sCap:Nat)(cur:Array Value)(t:TypeId)(cs:List Value)(hu:P.underlying dT=some (.slice elem))(hi:P.info? elem=some i0)
  (hg:w.heap[g]? = some (.cells cur t (0,0))) (hn:cs.length=Nat.min sLen dLen*i0.size) (hsrc:∀j v,cs[j]? = some v->w.cell? (a.add j)=some v) (hfit:o+cs.length<=cur.size) (h1:∀v∈cs,v.oneCell' = true) :
  (Builtin.copy_ #[dT,sT] ty #[.slice (some ⟨g,o,none⟩) dLen dCap,.slice (some a) sLen sCap]).run P w =
   .ok (goInt (Nat.min sLen dLen)) (w.setRow g (cur.toList.take o++cs++cur.toList.drop (o+cs.length)).toArray):=by
 have hl:=run_firstCells_some (P:=P) w i0.size (Nat.min sLen dLen) a sLen sCap cs hn hsrc;have hst:=run_storeCells_at P g o t cs 0 cur w hg (by simpa using hfit) h1;simp at hst;simp[Builtin.copy_,run_underlying hu,Builtin.lenOf,sizeOf,typeInfo,hi,hl,hst]
section
variable {cx:Cx}{k:List KI}{e:Env}{L:Loc}{F:World->Prop}{Q:Exit->Act->World->Prop}{ops:Array Oper}{rest:List Oper}
def Zh(cx:Cx)(L:Loc)(F:World->Prop)(b off:Nat)(zs:List Value):Prop:=∀w,StOk cx L F w->∀(j:Nat) v,zs[j]? = some v->w.cell? ⟨b,off+j,none⟩=some v
theorem An8{b off n:Nat}{cs:List Value}{t:TypeId}(i:Nat)(hi:L[i]? = some (.blk b cs t)):Zh cx L F b off ((cs.drop off).take n):=λw hs j v hj=>by
 refine Al0 (hs.ok _ (List.mem_of_getElem? hi)) ?_;rw[List.getElem?_take] at hj;split at hj
 ·grind
 ·cases hj
theorem Bq0(w:World)(g:Nat)(cs:Array Value):Chg [g] w (w.setRow g cs) :=⟨rfl,rfl,rfl,by simp,λk _ hn=>setRow_other w g k cs (by simpa using hn)⟩
theorem StOk.setRow{w:World}{g:Nat}{cs cs':List Value}{t:TypeId}(h:StOk cx L F w)(i:Nat)(hi:L[i]? = some (.blk g cs t)):StOk cx (L.set i (.blk g cs' t)) F (w.setRow g cs'.toArray) :=h.updAt i hi (Bq0 w g _) (setRow_heap w g _ _ t (0,0) (h.ok _ (List.mem_of_getElem? hi))) (by simp[Ent.fp]) (λb hb =>.inl hb)
theorem Arn{dst:Nat}{d s:Operand}{t t' ty u u':TypeId}{pos:String}{after:Array Edge}{g':Option (Nat×Bool)}{g o dl dc b off sl sc sz by_:Nat}{cs zs:List Value}(i:Nat)(hg:Gd ops e g' = some true)(hd:Nat.blt dst cx.n=true)(hT:ElTy cx.P t u sz by_)
  (hx:Env.ev e d=some (.slice (some ⟨g,o,none⟩) dl dc)) (hy:Env.ev e s=some (.slice (some ⟨b,off,none⟩) sl sc)) (hi:L[i]? = some (.blk g cs u')) (hsrc:Zh cx L F b off zs) (hl:zs.length=Nat.min sl dl*sz) (hfit:o+zs.length<=cs.length) (h1:∀v,v∈zs->one v=true)
  (h:O cx ops rest k ((dst,goInt (Nat.min sl dl))::e) (L.set i (.blk g (cs.take o++zs++cs.drop (o+zs.length)) u')) F Q) :
  O cx ops (⟨some dst,.call ⟨.builtin .copy, #[d,s], #[t,t']⟩,ty,pos,after,g'⟩::rest) k e L F Q:=by
 refine Us (λr L' F'=>r=goInt (Nat.min sl dl)/\L' = L.set i (.blk g (cs.take o++zs++cs.drop (o+zs.length)) u')/\F' = F) hg hd (λa w he hst =>?_) (λr L' F' ⟨hr,hL,hF⟩=>by rw[hr,hL,hF];exact h);obtain⟨hu,i0,z,hi0,hz,hsz,hby,hzs,hpos⟩:=hT;have hgh:w.heap[g]? = some (.cells cs.toArray u' (0,0)):=hst.ok _ (List.mem_of_getElem? hi);have hrun:=Aub (P:=cx.P) w t t' ty u i0 g o dl dc ⟨b,off,none⟩ sl sc cs.toArray u' zs hu hi0 hgh (by rw[hsz];exact hl) (λj v hj=>by rw[add_mk];exact hsrc w hst j v hj) (by simpa using hfit) (λv hv=>one_oneCell (h1 v hv));refine⟨_,_,_,F,?_,hst.setRow (cs':=cs.take o++zs++cs.drop (o+zs.length)) i hi,rfl,rfl,rfl⟩;simp[execOp,resolve,invoke,builtin,he.ev hx,he.ev hy,hrun]
theorem Bam{dst:Nat}{d s:Operand}{t ty u u':TypeId}{pos:String}{after:Array Edge}{g':Option (Nat×Bool)}{g n cap b off m sc sz by_:Nat}{cs zs:List Value}(i:Nat)(hg:Gd ops e g' = some true)(hd:Nat.blt dst cx.n=true)(hT:ElTy cx.P t u sz by_)
  (hx:Env.ev e d=some (.slice (some ⟨g,0,none⟩) n cap)) (hy:Env.ev e s=some (.slice (some ⟨b,off,none⟩) m sc)) (hi:L[i]? = some (.blk g cs u)) (hsrc:Zh cx L F b off zs) (hl:zs.length=m*sz) (hroom:n+m<=cap) (hfit:n*sz+zs.length<=cs.length) (h1:∀v,v∈zs->one v=true) (_hu':u' = u)
  (h:O cx ops rest k ((dst,.slice (some ⟨g,0,none⟩) (n+m) cap)::e) (L.set i (.blk g (cs.take (n*sz)++zs++cs.drop (n*sz+zs.length)) u)) F Q) :
  O cx ops (⟨some dst,.call ⟨.builtin .append, #[d,s], #[t,t]⟩,ty,pos,after,g'⟩::rest) k e L F Q:=by
 refine Us (λr L' F'=>r = .slice (some ⟨g,0,none⟩) (n+m) cap/\L' = L.set i (.blk g (cs.take (n*sz)++zs++cs.drop (n*sz+zs.length)) u)/\F' = F) hg hd (λa w he hst =>?_) (λr L' F' ⟨hr,hL,hF⟩=>by rw[hr,hL,hF];exact h);obtain⟨hu,i0,z,hi0,hz,hsz,hby,hzs,hpos⟩:=hT;have hgh:w.heap[g]? = some (.cells cs.toArray u (0,0)):=hst.ok _ (List.mem_of_getElem? hi);have hrun:=run_append_room (P:=cx.P) w t ty u i0 hu hi0 g n cap cs.toArray hgh ⟨b,off,none⟩ m sc zs (by rw[hsz];exact hl) (λj v hj=>by rw[add_mk];exact hsrc w hst j v hj) (λv hv=>one_oneCell (h1 v hv)) hroom (by rw[hsz];simpa using hfit);rw[hsz] at hrun;refine⟨_,_,_,F,?_,hst.setRow (cs':=cs.take (n*sz)++zs++cs.drop (n*sz+zs.length)) i hi,rfl,rfl,rfl⟩;simp[execOp,resolve,invoke,builtin,he.ev hx,he.ev hy,hrun]
theorem Bay{dst:Nat}{d s:Operand}{t ty u u':TypeId}{pos:String}{after:Array Edge}{g':Option (Nat×Bool)}{g n cap b off m sc sz by_:Nat}{cs zs:List Value}(i:Nat)(hg:Gd ops e g' = some true)(hd:Nat.blt dst cx.n=true)(hT:ElTy cx.P t u sz by_)
  (hx:Env.ev e d=some (.slice (some ⟨g,0,none⟩) n cap)) (hy:Env.ev e s=some (.slice (some ⟨b,off,none⟩) m sc)) (hi:L[i]? = some (.blk g cs u')) (hsrc:Zh cx L F b off zs) (hl:zs.length=m*sz) (hn:n*sz<=cs.length) (hroom:cap<n+m) (h63:n+m<=maxLen) (hbig:(n+m)*by_<=140737488355328)
  (h:∀b' q tl,n+m<=q->q<=maxLen->tl.length=(q-(n+m))*sz->O cx ops rest k ((dst,.slice (some ⟨b',0,none⟩) (n+m) q)::e) (.blk b' (cs.take (n*sz)++zs++tl) u::L) F Q) :
  O cx ops (⟨some dst,.call ⟨.builtin .append, #[d,s], #[t,t]⟩,ty,pos,after,g'⟩::rest) k e L F Q:=by
 refine Us (λr L' F'=>∃b' q tl,n+m<=q/\q<=maxLen/\tl.length=(q-(n+m))*sz/\r = .slice (some ⟨b',0,none⟩) (n+m) q/\L' = .blk b' (cs.take (n*sz)++zs++tl) u::L/\F' = F) hg hd (λa w he hst =>?_) (λr L' F' ⟨b',q,tl,a1,a2,a3,hr,hL,hF⟩=>by rw[hr,hL,hF];exact h b' q tl a1 a2 a3);obtain⟨hu,i0,z,hi0,hz,hsz,hby,hzs,hpos⟩:=hT;have hok:(Ent.blk g cs u').ok w:=hst.ok _ (List.mem_of_getElem? hi);have hrun:=run_append_grow (P:=cx.P) w t ty u i0 z hu hi0 hz ⟨g,0,none⟩ n cap (cs.take (n*sz)) (by rw[hsz,List.length_take];exact Nat.min_eq_left hn) (λj v hj=>by
  rw[add_mk,Nat.zero_add];refine Al0 hok ?_;rw[List.getElem?_take] at hj;split at hj
  ·exact hj
  ·cases hj) ⟨b,off,none⟩ m sc zs (by rw[hsz];exact hl) (λj v hj=>by rw[add_mk];exact hsrc w hst j v hj) hroom (by simp[maxLen] at h63;omega) (by rw[hby];exact growslice_fits hroom hbig)
 refine⟨_,_,_,F,?_,(hst.quiet (Chg.drew [] w)).alloc (cs.take (n*sz)++zs++(Builtin.zeroCells z.cells (grownCap w (n+m) cap u-(n+m))).toList) u,w.heap.size,grownCap w (n+m) cap u,_,(grownCap_ge w (n+m) cap u),grownCap_le_maxLen w _ _ _ h63,?_,rfl,rfl,rfl⟩
 ·simp[execOp,resolve,invoke,builtin,he.ev hx,he.ev hy,hrun];congr 3;apply Array.ext';simp
 ·simp[Builtin.zeroCells,hzs]
theorem A0r{dst:Nat}{d s:Operand}{t ty u:TypeId}{pos:String}{after:Array Edge}{g':Option (Nat×Bool)}{a0:Option Addr}{b off m sc sz by_:Nat}{zs:List Value}(hg:Gd ops e g' = some true)(hd:Nat.blt dst cx.n=true)(hT:ElTy cx.P t u sz by_)
  (hx:Env.ev e d=some (.slice a0 0 0)) (hy:Env.ev e s=some (.slice (some ⟨b,off,none⟩) m sc)) (hsrc:Zh cx L F b off zs) (hl:zs.length=m*sz) (hm : 0<m) (h63:m<=maxLen) (hbig:m*by_<=140737488355328) (h1:∀v,v∈zs->one v=true)
  (h:∀b' q tl,m<=q->q<=maxLen->tl.length=(q-m)*sz->O cx ops rest k ((dst,.slice (some ⟨b',0,none⟩) m q)::e) (.blk b' (zs++tl) u::L) F Q) :
  O cx ops (⟨some dst,.call ⟨.builtin .append, #[d,s], #[t,t]⟩,ty,pos,after,g'⟩::rest) k e L F Q:=by
 refine Us (λr L' F'=>∃b' q tl,m<=q/\q<=maxLen/\tl.length=(q-m)*sz/\r = .slice (some ⟨b',0,none⟩) m q/\L' = .blk b' (zs++tl) u::L/\F' = F) hg hd (λa w he hst =>?_) (λr L' F' ⟨b',q,tl,a1,a2,a3,hr,hL,hF⟩=>by rw[hr,hL,hF];exact h b' q tl a1 a2 a3);obtain⟨hu,i0,z,hi0,hz,hsz,hby,hzs,hpos⟩:=hT;have hsr:Src cx.P i0.size t (.slice (some ⟨b,off,none⟩) m sc) m zs w:=Src.ofSlice w hu ⟨b,off,none⟩ m sc zs (by rw[hsz];exact hl) (λj v hj=>by rw[add_mk];exact hsrc w hst j v hj) (λv hv=>one_oneCell (h1 v hv));have hold:(Builtin.firstCells i0.size 0 (.slice a0 0 0)).run cx.P w.drew = .ok ([]:List Value).toArray w.drew:=by cases a0 with|none=>exact run_firstCells_none w.drew i0.size 0 0 0|some p=>exact run_firstCells_some w.drew i0.size 0 p 0 0 [] (by simp) (by simp)
 have hrun:=run_append_grow_src (P:=cx.P) w t t ty u i0 z hu hi0 hz a0 0 0 [] hold _ m zs hsr (by omega) (by simp[maxLen] at h63;omega) (by rw[hby];exact growslice_fits (by omega) (by simpa using hbig));rw[Nat.zero_add] at hrun;refine⟨_,_,_,F,?_,(hst.quiet (Chg.drew [] w)).alloc (zs++(Builtin.zeroCells z.cells (grownCap w m 0 u-m)).toList) u,w.heap.size,grownCap w m 0 u,_,(grownCap_ge w m 0 u),grownCap_le_maxLen w _ _ _ h63,?_,rfl,rfl,rfl⟩
 ·simp[execOp,resolve,invoke,builtin,he.ev hx,he.ev hy,hrun];congr 3;apply Array.ext';simp
 ·simp[Builtin.zeroCells,hzs]
theorem Abb{P:Program}{x y:Operand}{t u:TypeId}{sz by_:Nat}{g c:Nat}{ad:Option Addr}(hT:ElTy P t u sz by_)(hx:Env.ev e x=some (.slice (some ⟨g,0,none⟩) 0 0))(hy:Env.ev e y=some (.slice ad 0 c)):Pure P e (.call ⟨.builtin .append, #[x,y], #[t,t]⟩) (.slice (some ⟨g,0,none⟩) 0 0):=λn a w o he ho=>by
 obtain⟨hu,i0,z,hi0,hz,hsz,hby,hzs,hpos⟩:=hT;have hr:∀ty,(Builtin.append_ #[t,t] ty #[.slice (some ⟨g,0,none⟩) 0 0,.slice ad 0 c]).run P w = .ok (.slice (some ⟨g,0,none⟩) 0 0) w:=λty=>by cases ad<;>simp[ run_underlying hu,go_sem,sizeOf,typeInfo,hi0,loadCells]
 simp[execOp,ho,resolve,invoke,builtin,he.ev hx,he.ev hy,hr]
theorem A2i{dst:Nat}{d s:Operand}{t tn ty u u':TypeId}{kn kq:IntKind}{pos:String}{after:Array Edge}{g':Option (Nat×Bool)}{g n cap sz by_:Nat}{m:Int}{cs:List Value}(i:Nat)(hg:Gd ops e g' = some true)(hd:Nat.blt dst cx.n=true)(hT:ElTy cx.P t u sz by_)(htn:(match cx.P.underlying tn with|some (.int k')=>decide (k' = kn)|_=>false)=true)
  (hx:Env.ev e d=some (.slice (some ⟨g,0,none⟩) n cap)) (hy:Env.ev e s=some (.int kq m)) (hi:L[i]? = some (.blk g cs u')) (hm : 0<m) (hn:n*sz<=cs.length) (hroom:cap<n+m.toNat) (h63:n+m.toNat<=maxLen) (hbig:(n+m.toNat)*by_<=140737488355328)
  (h:∀b' q tl,n+m.toNat<=q->q<=maxLen->tl.length=(q-n)*sz->O cx ops rest k ((dst,.slice (some ⟨b',0,none⟩) (n+m.toNat) q)::e) (.blk b' (cs.take (n*sz)++tl) u::L) F Q) :
  O cx ops (⟨some dst,.call ⟨.builtin .append, #[d,s], #[t,tn]⟩,ty,pos,after,g'⟩::rest) k e L F Q:=by
 obtain⟨j,rfl⟩:∃j:Nat,m=j:=⟨m.toNat,by omega⟩;simp at hroom h63 hbig h;refine Us (λr L' F'=>∃b' q tl,n+j<=q/\q<=maxLen/\tl.length=(q-n)*sz/\r = .slice (some ⟨b',0,none⟩) (n+j) q/\L' = .blk b' (cs.take (n*sz)++tl) u::L/\F' = F) hg hd (λa w he hst =>?_) (λr L' F' ⟨b',q,tl,a1,a2,a3,hr,hL,hF⟩=>by rw[hr,hL,hF];exact h b' q tl a1 a2 a3);obtain⟨hu,i0,z,hi0,hz,hsz,hby,hzs,hpos⟩:=hT;have htn':cx.P.underlying tn=some (.int kn):=by grind
 have hok:(Ent.blk g cs u').ok w:=hst.ok _ (List.mem_of_getElem? hi);have hold:(Builtin.firstCells i0.size n (.slice (some ⟨g,0,none⟩) n cap)).run cx.P w.drew = .ok (cs.take (n*sz)).toArray w.drew:=run_firstCells_some (P:=cx.P) w.drew i0.size n ⟨g,0,none⟩ n cap (cs.take (n*sz)) (by rw[hsz,List.length_take];exact Nat.min_eq_left hn) (λj v hj=>by
  rw[add_mk,Nat.zero_add];have hc:w.cell? ⟨g,j,none⟩=some v:=by
   refine Al0 hok ?_;rw[List.getElem?_take] at hj;split at hj
   ·exact hj
   ·cases hj
  simpa using hc)
 have hrun:=Lib.run_append_grow_zeros (P:=cx.P) w t tn ty u i0 z kq kn hu htn' hi0 hz (some ⟨g,0,none⟩) n cap (cs.take (n*sz)) hold j (by omega) (by omega) hroom (by simp[maxLen] at h63;omega) (by rw[hby];have:j*by_<=(n+j)*by_:=Nat.mul_le_mul_right _ (by omega);omega) (by rw[hby];exact growslice_fits hroom hbig)
 have hge:=grownCap_ge w (n+j) cap u;refine⟨_,_,_,F,?_,(hst.quiet (Chg.drew [] w)).alloc (cs.take (n*sz)++((Builtin.zeroCells z.cells j).toList++(Builtin.zeroCells z.cells (grownCap w (n+j) cap u-(n+j))).toList)) u,w.heap.size,grownCap w (n+j) cap u,_,hge,grownCap_le_maxLen w _ _ _ h63,?_,rfl,rfl,rfl⟩
 ·simp[execOp,resolve,invoke,builtin,he.ev hx,he.ev hy,hrun];congr 3;apply Array.ext';simp
 ·simp[ Builtin.zeroCells];rw[<-Nat.add_mul];congr 1;omega
theorem Ah5{P:Program}{x:Operand}{t:TypeId}{a:Option Addr}{n c:Nat}(sz:Nat)(ht:(elSz P t == some sz)=true)(hx:Env.ev e x=some (.slice a n c)):Pure P e (.call ⟨.builtin .cap, #[x], #[t]⟩) (.int .i64 c):=λm a' w o he ho=>by obtain⟨u,hu,hs⟩:=Mi (n:=sz) (by simpa using ht);simp[execOp,ho,resolve,invoke,builtin,he.ev hx,Builtin.cap_,run_underlying hu,goInt]
theorem A3z{P:Program}{t:TypeId}{x z:Operand}{a:Option Addr}{n c:Nat}{jk:IntKind}{j:Int}(sz:Nat)(ht:(elSz P t == some sz)=true)(hx:Env.ev e x=some (.slice a n c))(hz:Env.ev e z=some (.int jk j))(h : 0<=j/\j<=n) :
  Pure P e (.slice t x (some z) none none) (.slice (if c=j.toNat then a else a.map (λp=>p.add (j.toNat*sz))) (n-j.toNat) (c-j.toNat)):=λn' a' w o he ho=>by
 obtain⟨u,hu,hs⟩:=Mi (n:=sz) (by simpa using ht);have hr:(Instr.sliceAt t (.slice a n c) (some (.int jk j)) none none).run P w = .ok (.slice (if c=j.toNat then a else a.map (λp=>p.add (j.toNat*sz))) (n-j.toNat) (c-j.toNat)) w:=by simp[Instr.sliceAt,Instr.slice,Sem.run_bind,run_underlying hu,Result.andThen_ok,Instr.sliceBounds,Instr.sliceBound,asIntOf,Sem.run_pure,if_pos h,run_sizeOf hs]
 simp[execOp,ho,Sem.run_bind,he.ev hx,he.ev hz,Zl2,Option.map_none,hr,Result.andThen_ok,Sem.run_pure]
theorem O6{P:Program}{t:TypeId}{x z:Operand}{g off n c:Nat}{jk:IntKind}{j:Int}(sz:Nat)(ht:(elSz P t == some sz)=true)(hx:Env.ev e x=some (.slice (some ⟨g,off,none⟩) n c))(hz:Env.ev e z=some (.int jk j))(h : 0<=j/\j<=n/\j<c) :
  Pure P e (.slice t x (some z) none none) (.slice (some ⟨g,off+j.toNat*sz,none⟩) (n-j.toNat) (c-j.toNat)):=by
 have:=A3z (P:=P) sz ht hx hz ⟨h.1,h.2.1⟩;rw[if_neg (by omega),Zl2,add_mk] at this;exact this
end
end Go.Sx
namespace Go.Ax
theorem Rp{s:Str}{i:Nat}(h:i<s.length):bat s (i:Int)=((s[i]'h).toNat:Int):=by simp[bat,List.getD_eq_getElem?_getD,h]
theorem Al{c:Ck}{xs:List (El c)}{i:Nat}(h:i<xs.length):at' c xs (i:Int)=xs[i]'h:=by simp[at',List.getD_eq_getElem?_getD,h]
theorem Bgv{n:Nat}(h:ln n):wr .i64 (n:Int)=(n:Int):=Bd (by simp only[ln,inI] at *;omega)
theorem An{i n:Nat}(h:i<n)(hn:ln n):wr .i64 ((i:Int)+1)=((i+1:Nat):Int):=by rw[Bd (by simp only[ln,inI] at *;omega)];rfl
theorem Ah{α:Type}{l:List α}{i:Nat}(h:i<l.length):l.drop i=l[i]'h::l.drop (i+1):=List.drop_eq_getElem_cons h
theorem Ao{i n:Nat}(h:i<n):inb (i:Int) n=true:=by simp[Bnz,h]
theorem A0{V R:Type}{step:(V->Option R)->V->Option R}{k:Nat}{v:V}:Ak step (k+1) v=step (Ak step k) v:=rfl
theorem Ag{α:Type}{a b : α}:cond true a b=a:=rfl
theorem Ai{α:Type}{a b : α}:cond false a b=b:=rfl
theorem As{α:Type}{c:Bool}{a b : α}:cond c (some a) (some b)=some (cond c a b):=by cases c<;>rfl
theorem Aoh{R:Type}{px:Px R}{cx:Cx}{b:Code}(h:∀st K,px.loop b st K=none):B8 cx px b:=λst K r hk=>by rw[h] at hk;cases hk
theorem Bo{V R β:Type}{step:(V->Option R)->V->Option R}(n:Nat)(st:Nat->β->V)(Inv:Nat->β->Prop)(F:Nat->β->Option R)
  (hs:∀i,i<n->∀a,Inv i a->∀rec,(∀a',Inv (i+1) a'->rec (st (i+1) a')=F (i+1) a')->step rec (st i a)=F i a)
  (he:∀a,Inv n a->∀rec,step rec (st n a)=F n a):∀(k i:Nat) (a : β),i<=n->n-i<k->Inv i a->Ak step k (st i a)=F i a
 |0,_,_,_,h,_=>absurd h (Zm1 _)
 |k+1,i,a,hi,h,ha=>by
  rw[A0];by_cases hl:i<n
  ·exact hs i hl a ha _ λa' ha'=>Bo n st Inv F hs he k (i+1) a' (by omega) (by omega) ha'
  ·obtain rfl:i=n:=by omega
   exact he a ha _
theorem Ay{V R:Type}{step:(V->Option R)->V->Option R}(n:Nat)(st:Nat->V)(F:Nat->Option R)
  (hs:∀i,i<n->∀rec,rec (st (i+1))=F (i+1)->step rec (st i)=F i) (he:∀rec,step rec (st n)=F n):∀(k i:Nat),i<=n->n-i<k->Ak step k (st i)=F i:=λk i hi hk =>
 Bo n (λi (_:Unit)=>st i) (λ_ _=>True) (λi _=>F i) (λi hi _ _ rec h=>hs i hi rec (h () trivial)) (λ_ _ rec=>he rec) k i () hi hk trivial
theorem Br{i n:Nat}(h:i<n):decide ((i:Int)<(n:Int))=true:=Ze1 (by omega)
theorem Bu(n:Nat):decide ((n:Int)<(n:Int))=false:=Zd1 (by omega)
def Hk(e:Xpr):Xpr:=Xpr.mk e.kind ⟨e.v.kind,e.v.n,e.v.s⟩ e.name e.l
theorem Gp(e:Xpr):Hk e=e:=by cases e;rfl
open Go.RowKit
def scD:D->Bool
 |.int _ _|.bool _|.str _=>true
 |_=>false
def V4(st:St)(sl:Nat)(c:Ck)(xs:List (El c)):St:={ st with env:=(sl,.osl st.nb c 0 (xs.length:Int))::st.env,bl:=[(st.nb,.dyn c xs)],nb:=st.nb+1,tk:=[] }
def Bjn{R:Type}(sl:Nat)(st:St)(K:St->Option R):Option R:=match get st.env sl,st.bl,st.fr,st.tk with
 |some (.sl c xs (.id t)),[],[],[t']=>match A3b c&&Nat.beq t' t&&List.isEmpty st.df&&st.env.all λp=>Nat.beq p.1 sl||scD p.2 with|true=>chk (!xs.isEmpty) (K (V4 st sl c xs))|false=>none
 |_,_,_,_=>none
theorem A6j:∀{e:Env}{k:Nat}{d:D},get e k=some d->(k,d)∈e
 |[],_,_,h=>by cases h
 |(j,v)::e,k,d,h=>by
  rw[Bj] at h;split at h
  ·grind
  ·exact .tail _ (A6j h)
section
variable {R:Type}{px px2:Px R}{cx:Cx}
theorem Rel.thaw(hI:cx.I=C1)(hg:∀g,cx.gl g=none){m:Mp}{a:Act}{as_:List Act}{st:St}{w:World}{sl t:Nat}{c:Ck}{xs:List (El c)}(hs:get st.env sl=some (.sl c xs (.id t)))(hf:st.fr=[])(hdf:st.df=[])(ht:st.tk=[t])(hfl:A3b c=true)(he:xs≠[])(hsc:∀k d,k≠sl->get st.env k=some d->scD d=true)(hr:Rel cx m a as_ (fs st) w):∃m',Rel cx m' a as_ (fs (V4 st sl c xs)) w:=by
 obtain⟨v,hv,hrep⟩:=hr.env.get sl _ hs;simp[Rep] at hrep;obtain⟨hrf,_,htok⟩:=hrep;have hal:(fs st).al t:=by simp[fs,ht]
 rcases htok hal with ⟨_,_,e⟩|⟨g,cap,cur,rfl,hm,hh,hsz,hle,hcm⟩
 ·exact absurd e he
 have hh:w.heap[g]? = some (.cells cur (cx.el c) (0,0)):=hh;obtain⟨o1,o2⟩:=hr.own g _ (.inr ⟨t,_,hal,hm,Zn1 _⟩);rw[hI] at o2;have o2:=o2.resolve_left id;have hcl:cur.toList.length=cap*csz c:=by simpa using hsz
 have hlm:xs.length<=maxLen:=Nat.le_trans hle hcm;have no:∀t,¬(fs (V4 st sl c xs)).al t:=λt h=>by cases h
 have own:∀b,(fs (V4 st sl c xs)).bl b≠none->b=st.nb:=λb h=>by
  by_cases hb:st.nb=b
  ·exact hb.symm
  ·exact absurd (by simp[fs,V4,blk,Fj hb]) h
 refine⟨⟨λ_=>g,λ_=>none⟩,hr.chg,⟨(by rw[hr.noDf hdf,show(fs (V4 st sl c xs)).df=[] from hdf];rfl),hr.env.size,λk d hk =>?_⟩,?_,Nat.le_succ_of_le hr.lb,hr.lt,λb k hk =>?_,λt h=>absurd h (no t),λb b' h h' _=>(own b h).trans (own b' h').symm,λt _ _ _ _ h=>absurd h (no t),λ_ t _ _ _ h=>absurd h (no t),?_,hr.away,?_⟩
 ·have h2:get ((sl,.osl st.nb c 0 (xs.length:Int))::st.env) k=some d:=hk;rw[Bj] at h2;split at h2
  ·rename_i e;subst e;obtain rfl:=Option.some.inj h2;refine⟨_,hv,?_⟩;simp only[Rep];exact⟨Nat.lt_succ_self _,Int.le_refl _,Int.natCast_nonneg _,by simpa using hlm,some ⟨g,0,none⟩,cap,by simp,.inr (by simp[vx]),by simpa using hle,hcm,cur,(0,0),hh,by simpa using hsz⟩
  ·rename_i e;obtain⟨u,hu,hd⟩:=hr.env.get k d h2;refine⟨u,hu,?_⟩;have h1:=hsc k d e h2;cases d<;>simp[scD] at h1<;>simpa only[Rep] using hd
 ·have:=hr.frs;simp[fs,hf] at this;simp[ V4,hf];exact this
 ·have hk:blk [(st.nb,Blk.dyn c xs)] b=some k:=hk;by_cases hb:st.nb=b
  ·subst hb;simp[blk] at hk;subst hk;refine⟨Nat.lt_succ_self _,hlm,cur.toList,cx.el c,by simp[vx];exact hh,hcl.symm▸Nat.mul_le_mul_right _ hle,λi y j d hy hd =>?_⟩;obtain⟨ad,cap',hva,hrest⟩:=hrf.here.slice;simp at hva;rcases hrest with e|⟨b,o,e,_,hat⟩
   ·exact absurd e he
   ·rw[e] at hva;simp at hva;obtain⟨⟨rfl,rfl⟩,_⟩:=hva;obtain⟨u,hu,hf⟩:=hat i y hy j d hd;refine⟨u,?_,A5s hfl hd hf⟩;rw[Nat.zero_add] at hu;have hu:w.cell? ⟨g,i*csz c+j,none⟩=some u:=hu;simp[World.cell?,hh] at hu;simpa using hu
  ·grind
 ·rintro b i (⟨k,_,hb⟩|⟨t,_,h,_⟩)
  ·grind
  ·exact absurd h (no t)
 ·exact⟨λg _ _ h=>(by rw[hg] at h;cases h),λg _ h=>(by rw[hg] at h;cases h),λg _ h=>(by rw[hg] at h;cases h)⟩
theorem A8s{b:Code}{sl:Nat}(hI:cx.I=C1)(hg:∀g,cx.gl g=none)(h:B8 cx px2 b)(hpx:∀st K,px.loop b st K=Bjn sl st λst'=>px2.loop b st' K):B8 cx px b:=by
 intro st K r hk Q m a as_ w hc hr hQ;rw[hpx] at hk;unfold Bjn at hk;split at hk
 ·rename_i c xs t t' e1 e2 e3 e4;split at hk
  ·rename_i e5;simp only[Zb1,Zg2,Zd2] at e5;obtain⟨⟨⟨e5,e6⟩,e8⟩,e7⟩:=e5;obtain rfl:=Zl1 e6;cases he:xs.isEmpty with
   |true=>rw[he] at hk;cases hk
   |false =>
    rw[he] at hk;obtain⟨m',hr'⟩:=hr.thaw hI hg e1 e3 (List.isEmpty_iff.1 e8) e4 e5 (λe=>by rw[e] at he;cases he) (λk d hne hd=>by
     rcases e7 _ (A6j hd) with h1|h1
     ·simp_all
     ·exact h1)
    exact h _ K r hk Q m' a as_ w hc hr' hQ
  ·cases hk
 ·cases hk
end
end Go.Ax
namespace Go.Sx
open Go.RowKit
section
variable {cx:Cx}{k:List KI}{e:Env}{L:Loc}{F:World->Prop}{Q:Exit->Act->World->Prop}{ops:Array Oper}{rest:List Oper}
theorem Aun{dst:Nat}{d s:Operand}{t tn ty u:TypeId}{kn kq:IntKind}{pos:String}{after:Array Edge}{g':Option (Nat×Bool)}{sz by_:Nat}{m:Int}(hg:Gd ops e g' = some true)(hd:Nat.blt dst cx.n=true)(hT:ElTy cx.P t u sz by_)(htn:(match cx.P.underlying tn with|some (.int k')=>decide (k' = kn)|_=>false)=true)
  (hx:Env.ev e d=some (.slice none 0 0)) (hy:Env.ev e s=some (.int kq m)) (hm : 0<m) (h63:m.toNat<=maxLen) (hbig:m.toNat*by_<=140737488355328)
  (h:∀b' q cs,m.toNat<=q->q<=maxLen->List.length cs=q*sz->O cx ops rest k ((dst,.slice (some ⟨b',0,none⟩) m.toNat q)::e) (.blk b' cs u::L) F Q) :
  O cx ops (⟨some dst,.call ⟨.builtin .append, #[d,s], #[t,tn]⟩,ty,pos,after,g'⟩::rest) k e L F Q:=by
 obtain⟨j,rfl⟩:∃j:Nat,m=j:=⟨m.toNat,by omega⟩;simp at h63 hbig h;refine Us (λr L' F'=>∃b' q cs,j<=q/\q<=maxLen/\List.length cs=q*sz/\r = .slice (some ⟨b',0,none⟩) j q/\L' = .blk b' cs u::L/\F' = F) hg hd (λa w he hst =>?_) (λr L' F' ⟨b',q,cs,a1,a2,a3,hr,hL,hF⟩=>by rw[hr,hL,hF];exact h b' q cs a1 a2 a3);obtain⟨hu,i0,z,hi0,hz,hsz,hby,hzs,hpos⟩:=hT;have htn':cx.P.underlying tn=some (.int kn):=by grind
 have hold:(Builtin.firstCells i0.size 0 (.slice none 0 0)).run cx.P w.drew = .ok ([]:List Value).toArray w.drew:=by simp[Builtin.firstCells,Sem.run_pure]
 have hrun:=Lib.run_append_grow_zeros (P:=cx.P) w t tn ty u i0 z kq kn hu htn' hi0 hz none 0 0 [] hold j (by omega) (by omega) (by omega) (by simp[maxLen] at h63;omega) (by rw[hby];omega) (by rw[hby];exact growslice_fits (by omega) (by simpa using hbig))
 have hge:=grownCap_ge w (0+j) 0 u;have hq2:=grownCap_le_maxLen w (0+j) 0 u (by simpa using h63);rw[Nat.zero_add] at hge hq2 hrun;refine⟨_,_,_,F,?_,(hst.quiet (Chg.drew [] w)).alloc ((Builtin.zeroCells z.cells j).toList++(Builtin.zeroCells z.cells (grownCap w j 0 u-j)).toList) u,w.heap.size,grownCap w j 0 u,_,hge,hq2,?_,rfl,rfl,rfl⟩
 ·simp[execOp,resolve,invoke,builtin,he.ev hx,he.ev hy,hrun];congr 3;apply Array.ext';simp
 ·simp[Builtin.zeroCells];rw[<-Nat.add_mul];congr 1;omega
end
end Go.Sx
namespace Go.Ax
open Go.RowKit
structure GrOk (P:Program) (f:FuncId) (t:TypeId) (sz:Nat):Prop where
 enters:Sx.Enters P f
 con:∀n:Int,0<n->n<=2000000->Sx.Con P f [.slice none 0 0,.int .i64 n] [] (λ_=>True) (λv L _=>∃b q cs,v = .slice (some ⟨b,0,none⟩) 0 q/\q<=maxLen/\List.length cs=q*sz/\L=[.blk b cs t])
 con0:Sx.Con P f [.slice none 0 0,.int .i64 0] [] (λ_=>True) (λv _ _=>v = .slice none 0 0)
section
variable {R:Type}{cx:Cx}
def Akf(c:Ck)(args:List D)(st:St)(K:List D->St->Option R):Option R:=match args with
 |[.sl c' [] .nil,.int .i64 n]=>match decide (c' = c)&&decide (0<=n)&&decide (n<=2000000) with|true=>K [.sl c' [] (.id st.nt)] (Dy st)|false=>none
 |_=>none
theorem Br0(st:St):fs (Dy st)={ fs st with al:=λt=>((fs st).al t/\(none:Option Nat)≠some t)\/t=(fs st).nt,nt:=(fs st).nt+1 }:=by refine FS.eq rfl rfl rfl rfl rfl rfl rfl ?_ rfl;funext t;simp[fs,Dy];exact or_comm
theorem Bf9{g:Nat}{c:Ck}(h:GrOk cx.P g (cx.el c) (csz c)){args:List D}{st:St}{K:List D->St->Option R}{r:R}(hc:Akf c args st K=some r):Hz cx g args st K r:=by
 unfold Akf at hc;split at hc
 ·rename_i c' n;split at hc
  ·rename_i hcc;simp at hcc;obtain⟨⟨rfl,hn0⟩,hn⟩:=hcc;refine⟨h.enters,λm a as_ w vs hr hargs =>?_⟩;simp only[Reps] at hargs;obtain⟨v1,_,rfl,⟨hb1,hb2⟩,v2,_,rfl,hb3,rfl⟩:=hargs;obtain⟨rfl,_⟩:=hb2;simp only[Rep] at hb3;obtain⟨rfl,_⟩:=hb3;obtain rfl|hpos:n=0\/0<n:=by omega
   ·refine(h.con0.run w [] (Ap0 λ_ _=>trivial)).mono ?_;rintro en w' ⟨u,L',F',rfl,rfl,hs⟩;have hch:Chg C1 w w':=Td (by simpa[Sx.fps] using hs.chg);obtain⟨hrel,nx⟩:=hr.right (t0:=none) (p:=none) (hch.mono (λ_ _ h=>h.elim)) (λg o hg=>by simp at hg);rw[<-Br0 st] at hrel nx;refine⟨_,rfl,_,_,_,hc,⟨rfl,rfl,rfl,rfl,rfl⟩,hrel,?_⟩;simp[Ge,Rep];exact⟨λ_ _ =>.nil _ _ _ _ trivial,by simp[vx,fs,Dy],λ_ =>.inl ⟨rfl,by simp[vx,fs],rfl⟩⟩
   ·refine((h.con n hpos hn).run w [] (Ap0 λ_ _=>trivial)).mono ?_;rintro en w' ⟨u,L',F',rfl,⟨b,q,cs,rfl,hq,hl,rfl⟩,hs⟩;have hch:Chg C1 w w':=Td (by simpa[Sx.fps] using hs.chg);have hh:w'.heap[b]? = some (.cells cs.toArray (cx.el c') (0,0)):=hs.ok (.blk b cs (cx.el c')) (by simp);have hbw:w.heap.size<=b:=by
     rcases hs.own b (by simp[Sx.fps,Sx.Ent.fp]) with h1|h1
     ·cases h1
     ·exact h1
    obtain⟨hrel,nx⟩:=hr.right (t0:=none) (p:=some (b,0)) (hch.mono (λ_ _ h=>h.elim)) (λg o hg=>by simp at hg;obtain⟨rfl,rfl⟩:=hg;exact⟨(Zh2.1 hh).1,.inl hbw⟩)
    rw[<-Br0 st] at hrel nx;refine⟨_,rfl,_,_,_,hc,⟨rfl,rfl,rfl,rfl,rfl⟩,hrel,?_⟩;simp[Ge,Rep];exact⟨λ_ _ =>.nil _ _ _ _ trivial,by simp[vx,fs,Dy],λ_ =>.inr ⟨b,q,cs.toArray,rfl,by simp[vx,fs],hh,by simpa using hl,by simp,hq⟩⟩
  ·cases hc
 ·cases hc
theorem A7h{P:Program}{el:Ck->TypeId}{gl:Nat->Option Gv}{tt:Nat->Ty}(H:Hx P el gl tt cx){g:Nat}{c:Ck}(h:GrOk P g (el c) (csz c)):Gn (R:=R) cx g (Akf c):=λ_ _ _ _ hc=>Bf9 (by rw[H.p,H.e];exact h) hc
end
end Go.Ax
namespace Go.Ax
section
variable {R:Type}{cx:Cx}
end
section
variable {R:Type}{P:Program}{el:Ck->TypeId}{gl:Nat->Option Gv}{tt:Nat->Ty}{cx:Cx}
end
open Go.RowKit
section
variable {R:Type}{cx:Cx}
theorem Ao9{k:Nat}{d:D}:∀{ps:List Nat}{ds:List D}{e e':Env},Qk ps ds e=some e'->get e' k=some d->(∃i,ps[i]? = some k/\ds[i]? = some d/\∀j:Nat,i<j->ps[j]? ≠ some k)\/(k∉ps/\get e k=some d)
 |[],[],e,e',h,hd=>by simp only[Qk,Za1] at h;subst h;exact .inr ⟨by simp,hd⟩
 |p::ps,x::ds,e,e',h,hd=>by
  simp only[Qk] at h;rcases Ao9 h hd with ⟨i,h1,h2,h3⟩|⟨h1,h2⟩
  ·refine .inl ⟨i+1,by simpa using h1,by simpa using h2,λj hj =>?_⟩;cases j with|zero=>omega|succ j=>simpa using h3 j (by omega)
  ·rw[Bj] at h2;by_cases hk:k=p
   ·rw[if_pos hk] at h2;subst hk;refine .inl ⟨0,by simp,by simpa using h2,λj hj =>?_⟩;cases j with|zero=>omega|succ j=>simpa using λh=>h1 (List.mem_of_getElem? h)
   ·rw[if_neg hk] at h2;exact .inr ⟨by simp[hk,h1],h2⟩
 |[],_::_,_,_,h,_=>by simp[Qk] at h
 |_::_,[],_,_,h,_=>by simp[Qk] at h
theorem An4:∀{ps:List Nat}{ds:List D}{e e':Env},Qk ps ds e=some e'->ps.length=ds.length
 |[],[],_,_,_=>rfl
 |p::ps,x::ds,e,e',h=>by simp only[Qk] at h;simp[An4 h]
 |[],_::_,_,_,h=>by simp[Qk] at h
 |_::_,[],_,_,h=>by simp[Qk] at h
theorem Ayj:∀(ps:List Nat) (vs:List Value) (tm:Array Value),ps.length=vs.length->((ps.zip vs).foldl (λt (p:Nat×Value)=>t.setIfInBounds p.1 p.2) tm).size=tm.size/\∀k,(k∉ps->((ps.zip vs).foldl (λt (p:Nat×Value)=>t.setIfInBounds p.1 p.2) tm)[k]? = tm[k]?)/\∀i v,ps[i]? = some k->vs[i]? = some v->(∀j:Nat,i<j->ps[j]? ≠ some k)->k<tm.size->((ps.zip vs).foldl (λt (p:Nat×Value)=>t.setIfInBounds p.1 p.2) tm)[k]? = some v
 |[],[],tm,_=>⟨rfl,λk=>⟨λ_=>rfl,λi v h=>by simp at h⟩⟩
 |p::ps,x::vs,tm,h=>by
  simp only[Zf1,Nat.add_right_cancel_iff] at h;obtain⟨h1,h2⟩:=Ayj ps vs (tm.setIfInBounds p x) h;simp only[List.zip_cons_cons,List.foldl_cons];refine⟨by rw[h1];simp,λk=>⟨λhk =>?_,λi v hi hv hj hlt =>?_⟩⟩
  ·simp only[List.mem_cons,not_or] at hk;rw[(h2 k).1 hk.2,Array.getElem?_setIfInBounds_ne (Ne.symm hk.1)]
  ·cases i with
   |zero =>
    simp only[List.getElem?_cons_zero,Za1] at hi hv;subst hi;subst hv;have hn:p∉ps:=λhm=>by obtain⟨j,hj1,hj2⟩:=List.getElem_of_mem hm;exact hj (j+1) (by omega) (by simp[hj1,hj2])
    rw[(h2 p).1 hn];simp[hlt]
   |succ i =>refine(h2 k).2 i v (by simpa using hi) (by simpa using hv) (λj hij =>?_) (by simpa using hlt);have:=hj (j+1) (by omega);simpa using this
 |[],_::_,_,h=>by simp at h
 |_::_,[],_,h=>by simp at h
theorem Reps.at{x:Vx}{i:Nat}{d:D}:∀{ds:List D}{vs:List Value},Reps x ds vs->ds[i]? = some d->∃v,vs[i]? = some v/\Rep x d v
 |[],vs,_,h=>by simp at h
 |e::ds,vs,hr,h=>by simp only[Reps] at hr;obtain⟨u,us,rfl,h1,h2⟩:=hr;cases i with|zero=>simp at h;subst h;exact⟨u,by simp,h1⟩|succ i =>obtain⟨v,h3,h4⟩:=Reps.at (i:=i) h2 (by simpa using h);exact⟨v,by simpa using h3,h4⟩
theorem Rel.setBlk{m:Mp}{a:Act}{as_:List Act}{st:St}{w:World}(h:Rel cx m a as_ (fs st) w){b:Nat}{k0 k:Blk}{o o':Obj}(hb:blk st.bl b=some k0)(ho:w.heap[m.bl b]? = some o)(hc:∀cs t f,o ≠ .cells cs t f)(hk:∀x',Nx (vx cx m (fs st) w) x'->x'.w=w.putObj (m.bl b) o'->G7 x' (m.bl b) k):Rel cx m a as_ (fs { st with bl:=Dz st.bl b k }) (w.putObj (m.bl b) o'):=by
 have h1:=h.write (k:=k) (b:=b) hb (w':=w.putObj (m.bl b) o') (Chg.putObj (λ_=>rfl) ho hc) hk;have e:fs { st with bl:=Dz st.bl b k }={ fs st with bl:=λc=>if c=b then some k else(fs st).bl c }:=by refine FS.eq rfl rfl rfl rfl rfl ?_ rfl rfl rfl;funext c;simp[fs,Gy,hb]
 rw[e];exact h1
theorem Rel.pinned{m:Mp}{a:Act}{as_:List Act}{st:St}{w:World}{g b nb nt:Nat}{fr:List Fr}(h:Rel cx m a ({ tmps := #[.pointer (some ⟨g,0,none⟩)],defers:=[] }::as_) (fs st) w)(hf:st.fr=⟨1,[(0,.ptr b 0)],nb,nt,[]⟩::fr):m.bl b=g:=by have hfrs:=h.frs;rw[show(fs st).fr=⟨1,[(0,.ptr b 0)],nb,nt,[]⟩::fr from hf] at hfrs;obtain⟨a0,r0,he,_,_,h1,_⟩:=hfrs;simp only[Ze2] at he;obtain⟨rfl,rfl⟩:=he;obtain⟨v,v1,v2⟩:=h1.get 0 (.ptr b 0) rfl;simp only[Rep] at v2;obtain⟨_,v2⟩:=v2;simp at v1;rw[<-v1] at v2;simp at v2;exact v2.symm
theorem Blz{pc:Px R}(hp:PxOk cx pc)(hcl:Df cx pc)(hcq:CallQOk cx pc)(hm:cx.P.follows .mixedOrders=true){P:Code->Code->Nat->Prop}(hP:∀asg body n,P asg body n->Cq n asg=true/\Cq n body=true/\(∀l,Cm (some l) asg=true/\Cm (some l) body=true)/\(∀b,b∈Ba asg->B8 cx pc b)/\∀b,b∈Ba body->B8 cx pc b){b:Nat}{ds:List D}{st:St}{K:D->St->Option R}{r:R}(hblk:∀s n ps asg body env,blk st.bl b=some (.lr s n ps asg body env)->P asg body n)(h:Bhh pc b ds st K=some r)(m:Mp)(a:Act)(as_:List Act)(w:World)(vs:List Value)(hr:Rel cx m a as_ (fs st) w)(hvs:Reps (vx cx m (fs st) w) ds vs) :
  ∃fn tmps asg body,(Instr.yield (m.bl b) vs.toArray).run cx.P w = .ok (.round (m.bl b) fn tmps asg body) w/\RoundIn Fence.wide 0 cx.P (m.bl b) fn tmps asg body w λen w'=>∃v,en = .returned v/\∃d st' m',K d st' = some r/\Aeq st st'/\Rel cx m' a as_ (fs st') w'/\Rep (vx cx m' (fs st') w') d v:=by
 unfold Bhh at h;split at h
 ·rename_i n ps asg body env hb;obtain⟨c1,c2,c3,c4,c5⟩:=hP _ _ _ (hblk _ _ _ _ _ _ hb);split at h
  ·rename_i env' hps hall;obtain⟨rc,g1,g2,g3,g4,g5,g6⟩:=(hr.blks b _ hb).2;obtain⟨q1,q2⟩:=g6 rfl;have hlen:=An4 hps;have hvl:=hvs.len;have g1:w.heap[m.bl b]? = some (.loop rc):=g1;refine⟨_,_,_,_,run_yield g1 (by rw[g2];simp;omega),?_⟩;have hfold:((rc.params.zip vs.toArray).foldl (λtmps (x:Tmp×Value)=>tmps.setIfInBounds x.1 x.2) rc.tmps)=((ps.zip vs).foldl (λt (p:Nat×Value)=>t.setIfInBounds p.1 p.2) rc.tmps):=by rw[g2];simp
   obtain⟨f1,f2⟩:=Ayj ps vs rc.tmps (by omega);have hsz:rc.tmps.size=n:=g5.size;have hbn:b<st.nb:=(hr.blks b _ hb).1;have hrel:Rel cx m { tmps:=(ps.zip vs).foldl (λt (p:Nat×Value)=>t.setIfInBounds p.1 p.2) rc.tmps,defers:=[] } ({ tmps := #[.pointer (some ⟨m.bl b,0,none⟩)],defers:=[] }::a::as_) (fs { st with n:=n,env:=env',lb:=st.nb,lt:=st.nt,fr:=⟨1,[(0,.ptr b 0)],st.nb,st.nt,[]⟩::⟨st.n,st.env,st.lb,st.lt,st.df⟩::st.fr,df:=[] }) w:=by
    refine⟨hr.chg,⟨rfl,by rw[f1];exact hsz,λk d hk =>?_⟩,⟨_,_,rfl,Zn1 _,Zn1 _,⟨rfl,rfl,λk d hk =>?_⟩,⟨a,as_,rfl,hr.lb,hr.lt,hr.env,hr.frs⟩⟩,Zn1 _,Zn1 _,hr.blks,hr.als,hr.inj,hr.injt,hr.injbt,hr.own,hr.away,hr.glb⟩
    rotate_left
    ·rw[Bj] at hk;split at hk
     ·rename_i hk0;simp only[Za1] at hk;subst hk;subst hk0;exact⟨_,rfl,by simp only[Rep];exact⟨hbn,rfl⟩⟩
     ·simp[get] at hk
    rcases Ao9 hps hk with ⟨i,i1,i2,i3⟩|⟨i1,i2⟩
    ·obtain⟨v,v1,v2⟩:=Reps.at hvs i2;have hlt:k<rc.tmps.size:=by have:=Zg2.1 hall k (List.mem_of_getElem? i1);rw[hsz];simpa[Nat.blt_eq] using this
     exact⟨v,(f2 k).2 i v i1 v1 i3 hlt,v2⟩
    ·obtain⟨v,v1,v2⟩:=g5.get k d i2;exact⟨v,by rw[(f2 k).1 i1];exact v1,v2⟩
   rw[hfold,g3,g4];refine roundIn_of_wpIn (F:=Fence.wide) trivial (Dn (ro:=some (m.bl b)) hp hcl hcq hm asg _ _ r c1 (c3 _).1 c4 h _ m _ _ w hrel ?_);intro e st1 m1 a1 w1 hk1 hs1 hrel1;split at hk1
   ·rename_i n1 ps1 asg1 body1 env1 hb1;have e1:m1.bl b=m.bl b:=hrel1.pinned hs1.2;obtain⟨rc1,k1,k2,k3,k4,k5,k6⟩:=(hrel1.blks b _ hb1).2;have k1:w1.heap[m1.bl b]? = some (.loop rc1):=k1;obtain⟨q3,q4⟩:=k6 rfl;refine⟨_,run_beginRound (by rw[<-e1];exact k1) q3,?_⟩;rw[<-e1];have hrel2:=hrel1.setBlk (k :=.lr 1 n1 ps1 asg1 body1 env1) (o' :=.loop { rc1 with state :=.busy }) hb1 k1 (by simp) (λx' hx hw=>⟨{ rc1 with state :=.busy },by rw[hw];exact World.putObj_heap_same (Zh2.1 k1).1,k2,k3,k4,k5.later hx,nofun⟩);have hn1:st1.n=n:=hs1.1;refine Dn (ro:=some (m1.bl b)) hp hcl hcq hm body _ _ r (by rw[show(St.mk st1.n st1.env st1.lb st1.lt st1.fr (Dz st1.bl b (.lr 1 n1 ps1 asg1 body1 env1)) st1.nb st1.tk st1.nt st1.df).n=n from hn1];exact c2) (c3 _).2 c5 hk1 _ m1 _ _ _ hrel2 ?_;intro e2 st2 m2 a2 w2 hk2 hs2 hrel3;have hfr2:st2.fr=⟨1,[(0,.ptr b 0)],st.nb,st.nt,[]⟩::⟨st.n,st.env,st.lb,st.lt,st.df⟩::st.fr:=hs2.2.trans hs1.2;have e2':m2.bl b=m1.bl b:=(hrel3.pinned hfr2).trans e1.symm;split at hk2
    ·rename_i pin f fr n2 ps2 asg2 body2 env2 hdf hfr hb2;rw[hfr2] at hfr;simp only[Ze2] at hfr;obtain⟨rfl,rfl,rfl⟩:=hfr;obtain⟨rc2,j1,j2,j3,j4,j5,_⟩:=(hrel3.blks b _ hb2).2;have j1:w2.heap[m2.bl b]? = some (.loop rc2):=j1;have fin:∀(kb:Blk) (o':Obj),(∀x',Nx (vx cx m2 (fs st2) w2) x'->x'.w=w2.putObj (m2.bl b) o'->G7 x' (m2.bl b) kb)->Rel cx m2 a as_ (fs { st2 with n:=st.n,env:=st.env,lb:=st.lb,lt:=st.lt,fr:=st.fr,df:=st.df,bl:=Dz st2.bl b kb }) (w2.putObj (m2.bl b) o'):=λkb o' hkb=>by have h9:=hrel3.setBlk (k:=kb) (o':=o') hb2 j1 (by simp) hkb;have hfrs:=h9.frs;rw[show(fs { st2 with bl:=Dz st2.bl b kb }).fr=⟨1,[(0,.ptr b 0)],st.nb,st.nt,[]⟩::⟨st.n,st.env,st.lb,st.lt,st.df⟩::st.fr from hfr2] at hfrs;obtain⟨a0,r0,he0,p1,p2,_,⟨a3,r3,he3,p3,p4,p5,p6⟩⟩:=hfrs;simp only[Ze2] at he0;obtain⟨_,rfl⟩:=he0;simp only[Ze2] at he3;obtain⟨rfl,rfl⟩:=he3;have l1:st.nb<=st2.nb:=Nat.le_trans p1 h9.lb;have l2:st.nt<=st2.nt:=Nat.le_trans p2 h9.lt;have hx:Nx { vx cx m2 (fs { st2 with bl:=Dz st2.bl b kb }) (w2.putObj (m2.bl b) o') with nb:=st.nb,nt:=st.nt } (vx cx m2 (fs { st2 with bl:=Dz st2.bl b kb }) (w2.putObj (m2.bl b) o')):=⟨Chg.refl _ _,λ_ _ h =>.inl h,rfl,λ_ _=>rfl,l1,l2,λt _ ha=>⟨ha,rfl,λ_ _ _=>rfl⟩⟩;exact⟨h9.chg,p5.later hx,p6,Nat.le_trans p3 l1,Nat.le_trans p4 l2,h9.blks,h9.als,h9.inj,h9.injt,h9.injbt,h9.own,h9.away,h9.glb⟩
     split at hk2
     ·refine⟨_,_,run_endRound none (by rw[<-e2'];exact j1),_,rfl,_,_,m2,hk2,⟨rfl,rfl,rfl,rfl,rfl⟩,?_,by simp[Rep]⟩;rw[<-e2'];exact fin _ _ λx' hx hw=>⟨{ rc2 with state :=.ready,pending:=none },by rw[hw];exact World.putObj_heap_same (Zh2.1 j1).1,j2,j3,j4,j5.later hx,λ_=>⟨rfl,rfl⟩⟩
     ·rename_i hne;have hjump:∀c,Q4 e2=Q4 e2->c=Bha e2->∃v w',(Instr.endRound (m1.bl b) (some c)).run cx.P w2 = .ok v w'/\∃u,Ending.returned v = .returned u/\∃d st' m',K d st' = some r/\Aeq st st'/\Rel cx m' a as_ (fs st') w'/\Rep (vx cx m' (fs st') w') d u:=λc _ hc=>by refine⟨_,_,run_endRound (some c) (by rw[<-e2'];exact j1),_,rfl,_,_,m2,hk2,⟨rfl,rfl,rfl,rfl,rfl⟩,?_,by simp[Rep]⟩;rw[<-e2'];exact fin _ _ λx' hx hw=>⟨{ rc2 with state :=.done,pending:=some c },by rw[hw];exact World.putObj_heap_same (Zh2.1 j1).1,rfl,by rw[hc]⟩
      cases e2 with|normal=>exact absurd rfl hne|exit id=>exact hjump _ rfl rfl|ret=>exact hjump _ rfl rfl
    ·cases hk2
   ·cases hk1
  ·cases h
 ·cases h
theorem Hv(l:Nat):∀c:Code,Cm (some l) c=Cm (some 0) c
 |.region _ os _=>by
  have h:∀o,Aen (some l) o=Aen (some 0) o:=λo=>by unfold Aen;cases o.op<;>rfl
  simp only[Cm,h]
 |.seq a b=>by simp only[Cm,Hv l a,Hv l b]
 |.cond _ a b=>by simp only[Cm,Hv l a,Hv l b]
 |.block _ b=>by simp only[Cm,Hv l b]
 |.loop _|.scope _|.rangeFunc _ _ _ _|.skip|.ret|.exit _|.label _|.goto _|.refuse _=>by simp only[Cm]
theorem Ez:∀c:Code,Cm (some 0) c=true->Ba c=[]
 |.seq a b,h=>by simp only[Cm,Zb1] at h;simp[Ba,Ez a h.1,Ez b h.2]
 |.cond _ a b,h=>by simp only[Cm,Zb1] at h;simp[Ba,Ez a h.1,Ez b h.2]
 |.block _ b,h=>by simp only[Cm] at h;simp[Ba,Ez b h]
 |.loop _,h|.scope _,h|.rangeFunc _ _ _ _,h=>by cases h
 |.region _ _ _,_|.skip,_|.ret,_|.exit _,_|.label _,_|.goto _,_|.refuse _,_=>rfl
def A4r(pc:Px R)(b:Nat)(ds:List D)(st:St)(K:D->St->Option R):Option R:=match blk st.bl b with
 |some (.lr _ n _ asg body _)=>match Cq n asg&&Cq n body&&Cm (some 0) asg&&Cm (some 0) body with|true=>Bhh pc b ds st K|false=>none
 |_=>none
theorem Bdy{px pc:Px R}(hp:PxOk cx pc)(hcl:Df cx pc)(hcq:CallQOk cx pc)(hm:cx.P.follows .mixedOrders=true)(hy:px.yld=A4r pc):Bep cx px:=by
 intro b ds st K r h m a as_ w vs hr hvs;rw[hy] at h;unfold A4r at h;split at h
 ·rename_i s n ps asg body env hb;split at h
  ·rename_i hc;simp only[Zb1] at hc;refine Blz hp hcl hcq hm (P:=λasg body n=>Cq n asg=true/\Cq n body=true/\Cm (some 0) asg=true/\Cm (some 0) body=true) (λasg body n ⟨h1,h2,h3,h4⟩=>⟨h1,h2,λl=>⟨by rw[Hv];exact h3,by rw[Hv];exact h4⟩,(λb hb=>by rw[Ez _ h3] at hb;cases hb),(λb hb=>by rw[Ez _ h4] at hb;cases hb)⟩) (λs' n' ps' asg' body' env' hb' =>?_) h m a as_ w vs hr hvs;rw[hb] at hb';simp only[Za1,Blk.lr.injEq] at hb';obtain⟨rfl,rfl,rfl,rfl,rfl,rfl⟩:=hb';exact⟨hc.1.1.1,hc.1.1.2,hc.1.2,hc.2⟩
  ·cases h
 ·cases h
end
def trim(n:Nat)(e:Env):Env:=(List.range n).filterMap λk=>match get e k with|some d=>some (k,d)|none=>none
section
variable {R:Type}
def Alq(fns:Nat->Option Func)(px:Px R):List D->St->(St->Option R)->Option R
 |[],st,K=>K st
 |.ptr b _::l,st,K=>match blk st.bl b with
  |some (.ob 0)=>Alq fns px l { st with bl:=Dz st.bl b (.ob 2),df:=l } K
  |_=>none
 |.fn f caps::l,st,K=>match fns f with
  |some fn=>match fn.body with
   |some c=>match Nat.ble caps.length fn.ntmps with
    |true=>G8 px c { st with n:=fn.ntmps,env:=Bl 0 caps,lb:=st.nb,lt:=st.nt,fr:=⟨st.n,st.env,st.lb,st.lt,l⟩::st.fr,df:=[] } λe st'=>match e with
     |.exit _=>none
     |_=>match st'.df,results px st' fn.results.toList,st'.fr with
      |[],some _,fr0::fr=>Alq fns px l { st' with n:=fr0.n,env:=fr0.env,lb:=fr0.lb,lt:=fr0.lt,fr:=fr,df:=fr0.df } K
      |_,_,_=>none
    |false=>none
   |none=>none
  |none=>none
 |_,_,_=>none
def Azk(bl:List (Nat×Blk)):List D->(List D->List (Nat×Blk)->Option R)->Option R
 |[],K=>K [] bl
 |.agg ds::l,K=>Bju bl ds λds' bl'=>Azk bl' l λl' bl2=>K (.agg ds'::l') bl2
 |d::l,K=>Azk bl l λl' bl2=>K (d::l') bl2
def A3o(fns:Nat->Option Func)(px:Px R)(fn:Func)(args:List D)(st:St)(K:List D->St->Option R):Option R:=match fn.body,Nat.ble args.length fn.ntmps with
 |some c,true=>Azk st.bl args λargs' bl'=>G8 px c { st with n:=fn.ntmps,env:=Bl 0 args',lb:=st.nb,lt:=st.nt,fr:=⟨st.n,st.env,st.lb,st.lt,st.df⟩::st.fr,bl:=bl',df:=[] } λe st'=>match e with
  |.exit _=>none
  |_=>Alq fns px st'.df st' λst2=>match results px st2 fn.results.toList,st2.fr with
   |some rs,f::fr=>Azk st2.bl rs λrs' bl2=>K rs' { st2 with n:=f.n,env:=f.env,lb:=f.lb,lt:=f.lt,fr:=fr,bl:=bl2,df:=f.df }
   |_,_=>none
 |_,_=>none
def A74:D->Bool
 |.bool _|.int _ _|.str _|.nilp|.gp _|.nilfn|.ep _ _ _=>true
 |.sl _ _ t=>match t with|.id _=>false|_=>true
 |_=>false
def A79:D->Bool
 |.sv _ _|.undef=>true
 |.agg ds=>ds.all A74
 |d=>A74 d
def Hr:D->D
 |.agg ds =>.agg (ds.map Gr)
 |d=>Gr d
def Btk(fns:Nat->Option Func)(px:Px (List D))(fn:Func)(args:List D):Option (List D):=match fn.body,(args.map Hr).all A79&&Nat.ble args.length fn.ntmps with
 |some c,true=>G8 px c ⟨fn.ntmps,Bl 0 (args.map Hr),0,0,[],[],0,[],0,[]⟩ λe st=>match e with
  |.exit _=>none
  |_=>Alq fns px st.df st λst2=>match results px st2 fn.results.toList with
   |some rs=>Bbb st2.bl rs λrs' _=>match(rs'.map Hr).all A79 with|true=>some (rs'.map Hr)|false=>none
   |none=>none
 |_,_=>none
end
def co(tt:Nat->Ty)(gl:Nat->Option Gv)(fns:Nat->Option Func)(tb:(R:Type)->Nat->Option (E7 R))(tq:(R:Type)->Nat->Option (E4 R))(sw:Nat->Option (Sig×Sig)):Nat->(R:Type)->Px R
 |0,_=>⟨tt,gl,λ_ _ _ _=>none,λ_ _ _=>none,λ_ _ _=>none,λ_=>none,λ_ _ _ _=>none⟩
 |n+1,R=>⟨tt,gl,
  λg args st K=>match tb R g with
   |some f=>f args st K
   |none=>match fns g with
    |some fn=>A3o fns (co tt gl fns tb tq sw n R) fn args st K
    |none=>none,
  λg args K=>match tq R g with
   |some f=>f args K
   |none=>match fns g with
    |some fn=>match Btk fns (co tt gl fns tb tq sw n (List D)) fn args with|some rs=>K rs|none=>none
    |none=>none,
  λb st K=>G8 (co tt gl fns tb tq sw n R) b { st with env:=trim st.n st.env } λe st'=>match e with
   |.normal=>(co tt gl fns tb tq sw n R).loop b st' K
   |e=>K e st',
  λg=>match sw g,fns g with
   |some (si,so),some fn=>match Nat.ble si.n fn.ntmps with|true=>some (Kx si so (λx=>Jl (co tt gl fns tb tq sw n (HV so.sgs)) fn si so x some))|false=>none
   |_,_=>none,
  A4r (co tt gl fns tb tq sw n R)⟩
theorem Bkp{e:Env}{n k:Nat}{d:D}(h:get (trim n e) k=some d):get e k=some d:=by
 have key:∀l:Env,(∀p,p∈l->get e p.1=some p.2)->get l k=some d->get e k=some d:=by
  intro l;induction l with
  |nil=>intro _ h;simp[get] at h
  |cons p l ih =>
   intro hp h;obtain⟨k0,v0⟩:=p;rw[Bj] at h;by_cases hk:k=k0
   ·subst hk;simp at h;subst h;exact hp _ Zr1
   ·rw[if_neg hk] at h;exact ih (λp hp'=>hp p (Zu1 _ hp')) h
 refine key _ (λp hp =>?_) h;unfold trim at hp;obtain⟨q,_,hq⟩:=List.mem_filterMap.1 hp;cases hg:get e q with|none=>rw[hg] at hq;cases hq|some v=>rw[hg] at hq;simp at hq;subst hq;exact hg
section
variable {R:Type}{cx:Cx}
theorem Rel.trim{m:Mp}{a:Act}{as_:List Act}{st:St}{w:World}(hr:Rel cx m a as_ (fs st) w):Rel cx m a as_ (fs { st with env:=trim st.n st.env }) w :=⟨hr.chg,⟨hr.env.defers,hr.env.size,λk d hk=>hr.env.get k d (Bkp hk)⟩,hr.frs,hr.lb,hr.lt,hr.blks,hr.als,hr.inj,hr.injt,hr.injbt,hr.own,hr.away,hr.glb⟩
theorem Aoe{x x':Vx}(hS:∀b j,x'.S b j->x.S b j)(hw:x'.w=x.w){d:D}{v:Value}(hb:A74 d=true)(h:Rep x d v):Rep x' d v:=by
 have hrf:∀{d:D}{v:Value},RF x.S x.w d v->RF x'.S x'.w d v:=λh=>by rw[hw];exact h.later (Chg.refl _ _) (λk j hk =>.inl (hS k j hk))
 cases d with
 |sl c xs t =>simp only[Rep] at h ⊢;refine⟨hrf h.1,?_⟩;cases t with|id t=>cases hb|_=>exact h.2
 |ep c y off =>simp only[Rep] at h ⊢;obtain⟨b,o,hv,hr⟩:=h;exact⟨b,o,hv,λw' hc=>hr w' (by rw[<-hw];exact hc.mono hS)⟩
 |bool b=>simpa only[Rep] using h
 |int k n=>simpa only[Rep] using h
 |str l=>simpa only[Rep] using h
 |nilp=>simpa only[Rep] using h
 |gp g=>simpa only[Rep] using h
 |nilfn=>simpa only[Rep] using h
 |_=>cases hb
theorem Ahz{x x':Vx}(hS:∀b j,x'.S b j->x.S b j)(hw:x'.w=x.w):∀{ds:List D}{vs:List Value},ds.all A74=true->Reps x ds vs->Reps x' ds vs
 |[],_,_,h=>by simpa[Reps] using h
 |d::ds,vs,hb,h=>by simp only[Zv1,Zb1] at hb;obtain⟨u,us,e,h1,h2⟩:=h;exact⟨u,us,e,Aoe hS hw hb.1 h1,Ahz hS hw hb.2 h2⟩
theorem Bdh{x x':Vx}(hS:∀b j,x'.S b j->x.S b j)(hw:x'.w=x.w){d:D}{v:Value}(hb:A79 d=true)(h:Rep x d v):Rep x' d v:=by
 have hrf:∀{d:D}{v:Value},RF x.S x.w d v->RF x'.S x'.w d v:=λh=>by rw[hw];exact h.later (Chg.refl _ _) (λk j hk =>.inl (hS k j hk))
 cases d with|sv c y =>simp only[Rep] at h ⊢;obtain⟨ha,vs,hv,hl,hr⟩:=h;exact⟨ha,vs,hv,hl,λj d hd=>by obtain⟨u,hu,hf⟩:=hr j d hd;exact⟨u,hu,hrf hf⟩⟩|undef=>simpa only[Rep] using h|agg ds =>simp only[Rep] at h ⊢;obtain⟨h1,vs,hv,h2⟩:=h;exact⟨h1,vs,hv,Ahz hS hw hb h2⟩|_=>exact Aoe hS hw hb h
theorem Vz{x x':Vx}(hS:∀b j,x'.S b j->x.S b j)(hw:x'.w=x.w):∀{ds:List D}{vs:List Value},ds.all A79=true->Reps x ds vs->Reps x' ds vs
 |[],_,_,h=>by simpa[Reps] using h
 |d::ds,vs,hb,h=>by simp only[Zv1,Zb1] at hb;obtain⟨u,us,e,h1,h2⟩:=h;exact⟨u,us,e,Bdh hS hw hb.1 h1,Vz hS hw hb.2 h2⟩
theorem Aot{x:Vx}{d:D}{v:Value}(h:Rep x d v):Rep x (Gr d) v:=by cases d<;>first|exact h|exact A0c h
theorem Ahg{x:Vx}:∀{ds:List D}{vs:List Value},Reps x ds vs->Reps x (ds.map Gr) vs
 |[],_,h=>h
 |_::_,_,⟨u,us,e,h1,h2⟩=>⟨u,us,e,Aot h1,Ahg h2⟩
theorem A22{x:Vx}{d:D}{v:Value}(h:Rep x d v):Rep x (Hr d) v:=by
 cases d with
 |agg ds =>simp only[Hr,Rep] at h ⊢;obtain⟨h1,vs,e,h2⟩:=h;refine⟨?_,vs,e,Ahg h2⟩;rw[List.all_map];refine Zg2.2 λd hd =>?_;have:=Zg2.1 h1 d hd;cases d<;>first|rfl|exact this
 |_=>exact Aot h
theorem Pt{x:Vx}:∀{ds:List D}{vs:List Value},Reps x ds vs->Reps x (ds.map Hr) vs
 |[],_,h=>h
 |_::_,_,⟨u,us,e,h1,h2⟩=>⟨u,us,e,A22 h1,Pt h2⟩
theorem As8(d:D):Gr (Hr d)=Hr d:=by cases d with|sl c xs t=>cases t<;>rfl|_=>rfl
theorem Ahm{x:Vx}{n:Nat}{ds:List D}{vs:List Value}(hr:Reps x ds vs)(hl:vs.length<=n):∀k d,get (Bl 0 ds) k=some d->∃v,(vs.toArray++Array.replicate (n-vs.toArray.size) undef)[k]? = some v/\Rep x d v:=λk d hk=>by obtain⟨v,_,h2,h3⟩:=Hf 0 k d hr hk;rw[Nat.sub_zero] at h2;refine⟨v,?_,h3⟩;have hlt:k<vs.length:=(Zi2.1 h2).1;simp only[Array.getElem?_append,List.size_toArray,hlt];simpa using h2
theorem Acg{n:Nat}{vs:List Value}(hl:vs.length<=n):(vs.toArray++Array.replicate (n-vs.toArray.size) undef).size=n:=by simp;omega
theorem Asn{fn:Func}{tmps:Array Value}{us:List Value}{w:World}(hrun:Sem.run cx.P (fn.results.toList.mapM (Sx.rdv tmps)) w=Result.ok us w):(_root_.Go.results fn tmps).run cx.P w = .ok (Sx.resv us) w:=by obtain⟨rl⟩:∃rl,fn.results=List.toArray rl:=⟨fn.results.toList,by simp⟩;rename_i hrl;rw[Sx.results_eq,hrl];rw[hrl] at hrun;simp only[List.mapM_toArray,Sem.run_bind,map_eq_pure_bind,hrun];congr 1;match us with|[]=>rfl|[v]=>rfl|_::_::_=>simp[Sx.resv]
theorem Rel.pop{m:Mp}{a a0:Act}{as_:List Act}{st:St}{f:Fr}{fr:List Fr}{w:World}(hr:Rel cx m a (a0::as_) (fs st) w)(hfr:st.fr=f::fr):Rel cx m a0 as_ (fs { st with n:=f.n,env:=f.env,lb:=f.lb,lt:=f.lt,fr:=fr,df:=f.df }) w:=by have hfrs:=hr.frs;rw[show(fs st).fr=f::fr from hfr] at hfrs;obtain⟨a1,r1,he0,h1,h2,h3,h4⟩:=hfrs;simp at he0;obtain⟨rfl,rfl⟩:=he0;have hx:Nx { vx cx m (fs st) w with nb:=(fs st).lb,nt:=(fs st).lt } (vx cx m (fs st) w):=⟨Chg.refl _ _,λ_ _ h =>.inl h,rfl,λ_ _=>rfl,hr.lb,hr.lt,λt _ ha=>⟨ha,rfl,λ_ _ _=>rfl⟩⟩;exact⟨hr.chg,h3.later hx,h4,Nat.le_trans h1 hr.lb,Nat.le_trans h2 hr.lt,hr.blks,hr.als,hr.inj,hr.injt,hr.injbt,hr.own,hr.away,hr.glb⟩
def Lv1(cx:Cx)(px:Px R):Prop:=PxOk cx px/\Df cx px/\CallQOk cx px/\∀b,B8 cx px b
def Aju(P:Program)(fns:Nat->Option Func):Prop:=∀g fn,fns g=some fn->P.funcs[g]? = some fn/\(fn.name == "runtime.NumGoroutine")=false/\∃c,fn.body=some c/\Cq fn.ntmps c=true
theorem Aju.all{P:Program}{fns:Nat->Option Func}(h:Aju P fns)(g:Nat)(fn:Func)(hg:fns g=some fn):P.funcs[g]? = some fn/\(fn.name == "runtime.NumGoroutine")=false/\∀c,fn.body=some c->Cq fn.ntmps c=true:=by obtain⟨h1,h2,c0,h3,h4⟩:=h g fn hg;exact⟨h1,h2,λc hc=>by rw[h3] at hc;simp only[Za1] at hc;rw[<-hc];exact h4⟩
theorem Yz{fns:Nat->Option Func}(hfns:Aju cx.P fns){px:Px R}(hpx:Lv1 cx px)(hm:cx.P.follows .mixedOrders=true){fn:Func}{as_:List Act}{K:St->Option R}{r:R}{Rr:Ending->World->Prop}{tmps:Array Value} :
  ∀(df:List D) (st:St),st.df=df->Alq fns px df st K=some r->∀(m:Mp) (dds:List Deferred) (w:World),Rel cx m ⟨tmps,dds⟩ as_ (fs st) w ->
   (∀st2 m2 w2,K st2=some r->(st2.n=st.n/\st2.fr=st.fr)->Rel cx m2 ⟨tmps,[]⟩ as_ (fs st2) w2->∃v,(_root_.Go.results fn tmps).run cx.P w2 = .ok v w2/\Rr (.returned v) w2) ->
   LeavesInM Fence.wide 0 cx.P fn tmps Rr dds .returning w
 |[],st,hdf,h,m,dds,w,hr,hfin=>by have hd:dds=[]:=hr.noDf hdf;subst hd;exact hfin st m w h ⟨rfl,rfl⟩ hr
 |d::l,st,hdf,h,m,dds,w,hr,hfin=>by
  have hd:=hr.env.defers;rw[show(fs st).df=d::l from hdf] at hd;obtain⟨dd,rest,e,h1,h2⟩:=hd;simp only at e;subst e;refine⟨by simp,?_⟩;cases d with
  |ptr b c =>
   left;simp only[Alq] at h;split at h
   ·rename_i hb;obtain⟨_,_,_,rfl⟩:=h1;have hblk:=(hr.blks b (.ob 0) hb).2 rfl;have hblk:w.heap[m.bl b]? = some (.deferred (some [])):=hblk;have hr1:=hr.served (o' :=.deferred none) hb hblk (by simp);have hr2:Rel cx m ⟨tmps,rest⟩ as_ (fs { st with bl:=Dz st.bl b (.ob 2),df:=l }) (w.putObj (m.bl b) (.deferred none)):=by have hd2:=hr1.env.defers;rw[show(fs { st with bl:=Dz st.bl b (.ob 2) }).df = .ptr b c::l from hdf] at hd2;obtain⟨_,_,e2,_,h4⟩:=hd2;simp only[Ze2] at e2;obtain⟨_,rfl⟩:=e2;exact⟨hr1.chg,⟨h4,hr1.env.size,hr1.env.get⟩,hr1.frs,hr1.lb,hr1.lt,hr1.blks,hr1.als,hr1.inj,hr1.injt,hr1.injbt,hr1.own,hr1.away,hr1.glb⟩
    exact⟨m.bl b,_,rfl,run_takeDeferred hblk,Yz hfns hpx hm l _ rfl h m rest _ hr2 (λst2 m2 w2 k1 k2 k3=>hfin st2 m2 w2 k1 k2 k3)⟩
   ·cases h
  |fn f caps =>
   right;simp only[Alq] at h;split at h
   ·rename_i fn' hfn;split at h
    ·rename_i c hb;obtain⟨cvs,rfl,hcaps⟩:=h1;obtain⟨f1,f2,f3⟩:=hfns.all f fn' hfn;have hent:=Sx.enters_of f1 (by rw[hb];rfl) f2;split at h
     ·rename_i hle;have hle:cvs.length<=fn'.ntmps:=by rw[hcaps.len];simpa using hle
      have hr1:Rel cx m ⟨tmps,rest⟩ as_ (fs { st with df:=l }) w:=⟨hr.chg,⟨h2,hr.env.size,hr.env.get⟩,hr.frs,hr.lb,hr.lt,hr.blks,hr.als,hr.inj,hr.injt,hr.injbt,hr.own,hr.away,hr.glb⟩;have hrel:Rel cx m { tmps:=cvs.toArray++Array.replicate (fn'.ntmps-cvs.toArray.size) undef,defers:=[] } (⟨tmps,rest⟩::as_) (fs { st with n:=fn'.ntmps,env:=Bl 0 caps,lb:=st.nb,lt:=st.nt,fr:=⟨st.n,st.env,st.lb,st.lt,l⟩::st.fr,df:=[] }) w :=⟨hr.chg,⟨rfl,Acg hle,Ahm hcaps hle⟩,⟨_,as_,rfl,hr1.lb,hr1.lt,hr1.env,hr1.frs⟩,Zn1 _,Zn1 _,hr.blks,hr.als,hr.inj,hr.injt,hr.injbt,hr.own,hr.away,hr.glb⟩
      refine⟨(λe=>nomatch e),.func f,cvs.toArray,f,cvs.toArray,rfl,?_,λ_ _=>trivial,?_⟩
      ·have h9:=hent cvs.toArray w;simp[invoke,go_sem];simpa using h9
      ·refine CallsDIn.mono (callsDIn_of_wp (R:=λe w'=>∃v,e = .returned v/\LeavesInM Fence.wide 0 cx.P fn tmps Rr rest .returning w') f1 hb trivial (wpIn_wide.2 (Ef hpx.1 hpx.2.1 hpx.2.2.1 hm c _ _ r (f3 c hb) (λb _=>hpx.2.2.2 b) h _ m _ _ w hrel ?_))) ?_
       ·intro e st' m' a' w' hk hsame hrel';cases e
        case exit=>cases hk
        all_goals
         simp only at hk;split at hk
         ·rename_i rs0 fr0 fr hd0 hrs hfr;have hfr2:st'.fr=⟨st.n,st.env,st.lb,st.lt,l⟩::st.fr:=hsame.2;obtain⟨us,hrun,_⟩:=D9 hpx.1 hrel' hrs;have hpop:=hrel'.pop hfr;rw[hfr2] at hfr;simp only[Ze2] at hfr;obtain⟨rfl,rfl⟩:=hfr;exact⟨hrel'.noDf hd0,_,Asn hrun,_,rfl,Yz hfns hpx hm l _ rfl hk m' rest w' hpop (λst2 m2 w2 k1 k2 k3=>hfin st2 m2 w2 k1 k2 k3)⟩
         ·cases hk
       ·rintro e u' w' ⟨rfl,v,rfl,hl⟩;exact hl
     ·cases h
    ·cases h
   ·cases h
  |_=>exact h1.elim
theorem Afb{m:Mp}{a:Act}{as_:List Act}{w:World}{r:R}:∀{ds:List D}{st:St}{vs:List Value}{K:List D->List (Nat×Blk)->Option R},Rel cx m a as_ (fs st) w->Reps (vx cx m (fs st) w) ds vs->Azk st.bl ds K=some r->∃ds' bl',K ds' bl' = some r/\Rel cx m a as_ (fs { st with bl:=bl' }) w/\Nx (vx cx m (fs st) w) (vx cx m (fs { st with bl:=bl' }) w)/\Reps (vx cx m (fs { st with bl:=bl' }) w) ds' vs
 |[],st,vs,K,hr,hd,h=>⟨[],st.bl,h,hr,⟨Chg.refl _ _,λ_ _ h =>.inl h,rfl,λ_ _=>rfl,Zn1 _,Zn1 _,λt _ ha=>⟨ha,rfl,λ_ _ _=>rfl⟩⟩,by simpa using hd⟩
 |d::ds,st,vs,K,hr,hd,h=>by
  obtain⟨u,us,rfl,h1,h2⟩:=hd;by_cases hag:∃es,d = .agg es
  ·obtain⟨es,rfl⟩:=hag;simp only[Azk] at h;simp only[Rep] at h1;obtain⟨hl,vs1,rfl,h3⟩:=h1;obtain⟨es',bl1,hk,hr1,nx1,hd1,hl1⟩:=Auf hr h3 h;obtain⟨ds',bl2,hk2,hr2,nx2,hds⟩:=Afb (st:={ st with bl:=bl1 }) hr1 (Reps.later nx1 _ _ h2) hk;exact⟨.agg es'::ds',bl2,hk2,hr2,nx1.trans nx2,⟨_,us,rfl,by simp only[Rep];exact⟨hl1 hl,vs1,rfl,Reps.later nx2 _ _ hd1⟩,hds⟩⟩
  ·have e:Azk st.bl (d::ds) K=Azk st.bl ds λl' bl2=>K (d::l') bl2:=by cases d<;>first|rfl|exact absurd ⟨_,rfl⟩ hag
   rw[e] at h;obtain⟨ds',bl2,hk2,hr2,nx2,hds⟩:=Afb hr h2 h;exact⟨d::ds',bl2,hk2,hr2,nx2,⟨u,us,rfl,Rep.later nx2 _ _ h1,hds⟩⟩
theorem A94{fns:Nat->Option Func}(hfns:Aju cx.P fns){px:Px R}(hpx:Lv1 cx px)(hm:cx.P.follows .mixedOrders=true){g:Nat}{fn:Func}(hfn:fns g=some fn){args:List D}{st:St}{K:List D->St->Option R}{r:R}(hc:A3o fns px fn args st K=some r):Hz cx g args st K r:=by
 obtain⟨f1,f2,f3⟩:=hfns.all g fn hfn;unfold A3o at hc;split at hc
 ·rename_i c hb hle;refine⟨Sx.enters_of f1 (by rw[hb];rfl) f2,λm a as_ w vs hr hreps =>?_⟩;have hlen:vs.length<=fn.ntmps:=by rw[hreps.len];simpa using hle
  obtain⟨args',bl',hc,hr1,_,hreps1⟩:=Afb hr hreps hc;have hrel:Rel cx m { tmps:=vs.toArray++Array.replicate (fn.ntmps-vs.toArray.size) undef,defers:=[] } (a::as_) (fs { st with n:=fn.ntmps,env:=Bl 0 args',lb:=st.nb,lt:=st.nt,fr:=⟨st.n,st.env,st.lb,st.lt,st.df⟩::st.fr,bl:=bl',df:=[] }) w :=⟨hr1.chg,⟨rfl,Acg hlen,Ahm hreps1 hlen⟩,⟨a,as_,rfl,hr1.lb,hr1.lt,hr1.env,hr1.frs⟩,Zn1 _,Zn1 _,hr1.blks,hr1.als,hr1.inj,hr1.injt,hr1.injbt,hr1.own,hr1.away,hr1.glb⟩
  refine callsIn_wide.1 (callsIn_of_wp_marks (n:=0) f1 hb trivial (wpIn_wide.2 (Ef hpx.1 hpx.2.1 hpx.2.2.1 hm c _ _ r (f3 c hb) (λb _=>hpx.2.2.2 b) hc _ m _ (a::as_) w hrel ?_)));intro e st' m' a' w' hk hsame hrel';cases e
  case exit=>cases hk
  all_goals
   simp only at hk;have hfr0:st'.fr=⟨st.n,st.env,st.lb,st.lt,st.df⟩::st.fr:=hsame.2;refine Yz hfns hpx hm (tmps:=a'.tmps) st'.df st' rfl hk m' a'.defers w' hrel' (λst2 m2 w2 k1 k2 k3 =>?_);split at k1
   ·rename_i rs f fr hrs hfr;obtain⟨us,hrun,hres⟩:=D9 hpx.1 k3 hrs;have hpop:=k3.pop hfr;rw[k2.2,hfr0] at hfr;simp only[Ze2] at hfr;obtain⟨rfl,rfl⟩:=hfr;obtain⟨rs',bl2,k4,k5,_,k6⟩:=Afb hpop hres k1;exact⟨_,Asn hrun,_,rfl,rs',_,m2,k4,⟨rfl,rfl,rfl,rfl,rfl⟩,k5,H1 k6⟩
   ·cases k1
 ·cases hc
theorem Bqi{fns:Nat->Option Func}(hfns:Aju cx.P fns){px:Px (List D)}(hpx:∀cx0:Cx,cx0.P=cx.P->cx0.el=cx.el->cx0.gl=cx.gl->Lv1 cx0 px)(hm:cx.P.follows .mixedOrders=true){g:Nat}{fn:Func}(hfn:fns g=some fn){args rs:List D}(h:Btk fns px fn args=some rs):Sx.Enters cx.P g/\∀(s:FS) (m:Mp) (a:Act) (as_:List Act) (w:World) (vs:List Value),Rel cx m a as_ s w->Reps (vx cx m s w) args vs->Calls cx.P g vs.toArray w λen w'=>∃v,en = .returned v/\Rel cx m a as_ s w'/\Rep (vx cx m s w') (Ge (rs.map Gr)) v:=by
 obtain⟨f1,f2,f3⟩:=hfns.all g fn hfn;unfold Btk at h;split at h
 ·rename_i c hb hcond;simp only[Zb1] at hcond;refine⟨Sx.enters_of f1 (by rw[hb];rfl) f2,λs m a as_ w vs hr hargs =>?_⟩;have hlen:vs.length<=fn.ntmps:=by rw[hargs.len];simpa using hcond.2
  obtain⟨hM,hgl⟩:=Jr hr;have base:=A7d (P:=cx.P) (el:=cx.el) (gl:=cx.gl) (sa:=[]) rfl (x:=()) (n:=fn.ntmps) (Nat.zero_le _) hM hgl (vs:=[]) (by simp[B3,Reps]);have hargs0:Reps (vx ⟨cx.P,w,C1,(vx cx m s w).S,cx.el,cx.gl⟩ ⟨λ_=>0,λ_=>none⟩ (fs (st0 fn.ntmps [] ())) w) (args.map Hr) vs:=by
   refine Vz (x:=vx cx m s w) (x':=vx ⟨cx.P,w,C1,(vx cx m s w).S,cx.el,cx.gl⟩ ⟨λ_=>0,λ_=>none⟩ (fs (st0 fn.ntmps [] ())) w) (λb j hS =>?_) rfl hcond.1 (Pt hargs);rcases hS with hS|⟨k,hk,_⟩|⟨t,o,ht,_⟩
   ·exact hS
   ·exact absurd rfl hk
   ·cases ht
  have hrel:Rel ⟨cx.P,w,C1,(vx cx m s w).S,cx.el,cx.gl⟩ ⟨λ_=>0,λ_=>none⟩ { tmps:=vs.toArray++Array.replicate (fn.ntmps-vs.toArray.size) undef,defers:=[] } [] (fs ⟨fn.ntmps,Bl 0 (args.map Hr),0,0,[],[],0,[],0,[]⟩) w :=⟨base.chg,⟨rfl,Acg hlen,Ahm hargs0 hlen⟩,base.frs,base.lb,base.lt,base.blks,base.als,base.inj,base.injt,base.injbt,base.own,base.away,base.glb⟩
  obtain⟨p1,p2,p3,p4⟩:=hpx ⟨cx.P,w,C1,(vx cx m s w).S,cx.el,cx.gl⟩ rfl rfl rfl;refine callsIn_wide.1 (callsIn_of_wp_marks (n:=0) f1 hb trivial (wpIn_wide.2 (Ef p1 p2 p3 hm c _ _ rs (f3 c hb) (λb _=>p4 b) h _ _ _ [] w hrel ?_)));intro e st' m' a' w' hk hsame hrel';cases e
  case exit=>cases hk
  all_goals
   simp only at hk;refine Yz (cx:=⟨cx.P,w,C1,(vx cx m s w).S,cx.el,cx.gl⟩) hfns ⟨p1,p2,p3,p4⟩ hm (tmps:=a'.tmps) st'.df st' rfl hk m' a'.defers w' hrel' (λst2 m2 w2 k1 k2 k3 =>?_);split at k1
   ·rename_i rs1 hrs;obtain⟨us,hrun,hres⟩:=D9 p1 k3 hrs;obtain⟨ds',bl',hk2,hrel1,_,hreps⟩:=Ae5 k3 hres k1;split at hk2
    ·rename_i hbare;simp only[Za1] at hk2;subst hk2;refine⟨_,Asn (cx:=cx) hrun,_,rfl,hr.quiet hrel1.chg,?_⟩;have h9:=Vz (x:=vx ⟨cx.P,w,C1,(vx cx m s w).S,cx.el,cx.gl⟩ m2 (fs { st2 with bl:=bl' }) w2) (x':=vx cx m s w2) (λb j hS =>.inl hS) rfl hbare (Pt hreps);rw[List.map_map,show Gr∘Hr=Hr from funext As8];exact H1 h9
    ·cases hk2
   ·cases k1
 ·cases h
def Bv3(cx:Cx)(px:Px R)(b:Code):Prop:=∀(st:St) (K:Ex->St->Option R) (r:R),px.loop b st K=some r->∀(Q:Exit->Act->World->Prop) (m:Mp) (a:Act) (as_:List Act) (w:World),Cq st.n b=true->Rel cx m a as_ (fs st) w->(∀e st' m' a' w',K e st' = some r->(st'.n=st.n/\st'.fr=st.fr)->Rel cx m' a' as_ (fs st') w'->Q (Q4 e) a' w')->Sx.LW cx.P b Q a w
def Lv2(cx:Cx)(px:Px R):Prop:=PxOk cx px/\Df cx px/\CallQOk cx px/\∀b,Bv3 cx px b
theorem Lv2.to1{px:Px R}(h:Lv2 cx px):Lv1 cx px:=⟨h.1,h.2.1,h.2.2.1,λb st K r h1 Q m a as_ w h2 h3 h4=>Sx.wp_of_LW (h.2.2.2 b st K r h1 Q m a as_ w h2 h3 h4)⟩
end
theorem Axd{P:Program}{el:Ck->TypeId}(hm:P.follows .mixedOrders=true){tt:Nat->Ty}{gl:Nat->Option Gv}{fns:Nat->Option Func}{tb:(R:Type)->Nat->Option (E7 R)}{tq:(R:Type)->Nat->Option (E4 R)}(htt:∀t,Cs P el tt t=true)(hfns:Aju P fns)
  (htb:∀(R:Type) (cx:Cx),cx.P=P->cx.el=el->cx.gl=gl->∀g f,tb R g=some f->Gn cx g f) (htq:∀(R:Type) (cx:Cx),cx.P=P->cx.el=el->cx.gl=gl->∀g f,tq R g=some f->Pg cx g f) {sw:Nat->Option (Sig×Sig)}(hsw:∀g p,sw g=some p->lnB p.1 p.2=true) :
  ∀(n:Nat) (R:Type) (cx:Cx),cx.P=P->cx.el=el->cx.gl=gl->Lv2 cx (co tt gl fns tb tq sw n R)
 |0,R,cx,e1,e2,e3=>by subst e1 e2 e3;exact⟨⟨htt,rfl,noY.ok λ_ _ _ _=>rfl⟩,(λ_ _ _ _ _ h=>nomatch h),⟨(λ_ _ _ _ h=>nomatch h),(λ_ _ h=>nomatch h)⟩,(λ_ _ _ _ h=>nomatch h)⟩
 |n+1,R,cx,e1,e2,e3=>by
  have ih:=Axd hm htt hfns htb htq hsw n R cx e1 e2 e3;have ihD:∀cx0:Cx,cx0.P=cx.P->cx0.el=cx.el->cx0.gl=cx.gl->Lv1 cx0 (co tt gl fns tb tq sw n (List D)):=λcx0 h1 h2 h3=>(Axd hm htt hfns htb htq hsw n (List D) cx0 (h1.trans e1) (h2.trans e2) (h3.trans e3)).to1;have htb1:=htb R cx e1 e2 e3;have htq1:=htq R cx e1 e2 e3;subst e1 e2 e3;have ih1:=ih.to1;refine⟨⟨htt,rfl,Bdy ih1.1 ih1.2.1 ih1.2.2.1 hm rfl⟩,λg args st K r hk =>?_,⟨λg args K r hk =>?_,λg F hF =>?_⟩,λb st K r hk Q m a as_ w hcb hr hQ =>?_⟩
  ·simp only[co] at hk;split at hk
   ·rename_i f hf;exact htb1 g f hf args st K r hk
   ·split at hk
    ·rename_i fn hfn;exact A94 hfns ih1 hm hfn hk
    ·cases hk
  ·simp only[co] at hk;split at hk
   ·rename_i f hf;exact htq1 g f hf args K r hk
   ·split at hk
    ·rename_i fn hfn;split at hk
     ·rename_i rs hrs;exact⟨rs,hk,Bqi hfns ihD hm hfn hrs⟩
     ·cases hk
    ·cases hk
  ·simp only[co] at hF;split at hF
   ·rename_i si so fn hsi hfn;split at hF
    ·rename_i hle;simp only[Za1] at hF;subst hF;obtain⟨f1,f2,c,hb,f3⟩:=hfns g fn hfn;exact Brf (Ae8 f1 hb f2 hm (by rw[f3];simpa using hle) (λcx0 h1 h2 h3=>by obtain⟨q1,q2,q3,q4⟩:=(Axd hm htt hfns htb htq hsw n (HV so.sgs) cx0 h1 h2 h3).to1;exact⟨q1,q2,q3,λb _=>q4 b⟩) (λ_=>rfl)) (hsw g (si,so) hsi)
    ·cases hF
   ·cases hF
  ·simp only[co] at hk;refine Sx.LW_round (Ef ih1.1 ih1.2.1 ih1.2.2.1 hm b { st with env:=trim st.n st.env } _ r hcb (λb' _=>ih1.2.2.2 b') hk _ m a as_ w hr.trim ?_);intro e st' m' a' w' hk2 hsame hrel';cases e with|normal=>exact ih.2.2.2 b st' K r hk2 Q m' a' as_ w' (by rw[hsame.1];exact hcb) hrel' (λe2 st2 m2 a2 w2 k1 k2 k3=>hQ e2 st2 m2 a2 w2 k1 ⟨k2.1.trans hsame.1,k2.2.trans hsame.2⟩ k3)|exit id=>exact hQ (.exit id) st' m' a' w' hk2 hsame hrel'|ret=>exact hQ .ret st' m' a' w' hk2 hsame hrel'
end Go.Ax
namespace Go.Ax
def sameI:List Idx->List Idx->Bool
 |[],[]=>true
 |a::l,b::m=>decide (a.name=b.name)&&decide (a.cols=b.cols)&&sameI l m
 |_,_=>false
theorem Aw4:∀{l m:List Idx},sameI l m=true->l=m
 |[],[],_=>rfl
 |⟨_,_⟩::l,⟨_,_⟩::m,h=>by simp only[sameI,Zb1,Zg1] at h;have h1:=Aw4 h.2;have h2:=h.1.1;have h3:=h.1.2;subst h1 h2 h3;rfl
 |[],_::_,h=>by cases h
 |_::_,[],h=>by cases h
def Bkn(a b:Tbl):Bool:=decide (a.name=b.name)&&decide (a.cols=b.cols)&&decide (a.key=b.key)&&sameI a.idx b.idx&&a.checks.isEmpty&&b.checks.isEmpty
theorem Bkg{a b:Tbl}(h:Bkn a b=true):a=b:=by obtain⟨n,c,k,x,i⟩:=a;obtain⟨n',c',k',x',i'⟩:=b;simp only[Bkn,Zb1,Zg1] at h;obtain⟨⟨⟨⟨⟨h1,h2⟩,h3⟩,h4⟩,h5⟩,h6⟩:=h;subst h1 h2 h3;rw[Aw4 h4];rw[List.isEmpty_iff.1 h5,List.isEmpty_iff.1 h6]
mutual
def Awq:NodeS->NodeS->Bool
 |.mk k p h v l s,.mk k' p' h' v' l' s'=>decide (k=k')&&decide (p=p')&&decide (h=h')&&decide (v=v')&&decide (s=s')&&sameNl l l'
def sameNl:List NodeS->List NodeS->Bool
 |[],[]=>true
 |a::l,b::m=>Awq a b&&sameNl l m
 |_,_=>false
end
mutual
theorem Ali:∀{a b:NodeS},Awq a b=true->a=b
 |.mk k p h v l s,.mk k' p' h' v' l' s',e=>by simp only[Awq,Zb1,Zg1] at e;obtain⟨⟨⟨⟨⟨h1,h2⟩,h3⟩,h4⟩,h5⟩,h6⟩:=e;have h7:=sameNl_eq h6;subst h1 h2 h3 h4 h5 h7;rfl
theorem sameNl_eq:∀{l m:List NodeS},sameNl l m=true->l=m
 |[],[],_=>rfl
 |a::l,b::m,h=>by simp only[sameNl,Zb1] at h;rw[Ali h.1,sameNl_eq h.2]
 |[],_::_,h=>by simp[sameNl] at h
 |_::_,[],h=>by simp[sameNl] at h
end
def Ay3:(c:Ck)->El c->El c->Bool
 |.byte,a,b=>decide (a=b)
 |.int,a,b=>decide (a=b)
 |.u64,a,b=>decide (a=b)
 |.str,a,b=>decide (a=b)
 |.bool,a,b=>decide (a=b)
 |.val,a,b=>decide (a=b)
 |.tok,a,b=>decide (a=b)
 |.col,a,b=>decide (a=b)
 |.vals,a,b=>decide (a=b)
 |.strs,a,b=>decide (a=b)
 |.bytes,a,b=>decide (a=b)
 |.idx,a,b=>decide (a.name=b.name)&&decide (a.cols=b.cols)
 |.tbl,a,b=>Bkn a b
 |.node,a,b=>Awq a b
 |.stt,a,b=>Awq a b
 |.kv,a,b=>decide (a.key=b.key)&&decide (a.val=b.val)
 |_,_,_=>false
theorem Ayc:∀{c:Ck}{a b:El c},Ay3 c a b=true->a=b:=by
 intro c a b h;cases c
 case idx=>cases a;cases b;simp only[Ay3,Zb1,Zg1] at h;simp only[h.1,h.2]
 case kv=>cases a;cases b;simp only[Ay3,Zb1,Zg1] at h;simp only[h.1,h.2]
 case tbl=>exact Bkg h
 case node=>exact Ali h
 case stt=>exact Ali h
 all_goals first
  |exact of_decide_eq_true h
  |exact absurd h Bool.false_ne_true
def Abc(c:Ck):List (El c)->List (El c)->Bool
 |[],[]=>true
 |a::l,b::m=>Ay3 c a b&&Abc c l m
 |_,_=>false
theorem Aq2{c:Ck}:∀{l m:List (El c)},Abc c l m=true->l=m
 |[],[],_=>rfl
 |a::l,b::m,h=>by simp only[Abc,Zb1] at h;rw[Ayc h.1,Aq2 h.2]
 |[],_::_,h=>by cases h
 |_::_,[],h=>by cases h
def Bkf:(s:Sg)->den s->den s->Bool
 |.int _,a,b=>decide (a=b)
 |.bool,a,b=>decide (a=b)
 |.str,a,b=>decide (a=b)
 |.sl c _,a,b=>Abc c a b
 |.sv c,a,b=>Ay3 c a b
 |.rw c _,a,b=>Abc c a b
 |.dn c,a,b=>Abc c a b
theorem Avy:∀{s:Sg}{a b:den s},Bkf s a b=true->a=b:=by
 intro s a b h;cases s<;>first
  |exact of_decide_eq_true h
  |exact Aq2 h
  |exact Ayc h
def Asl:(l:List Sg)->HV l->HV l->Bool
 |[],_,_=>true
 |[a],x,y=>Bkf a x y
 |a::b::l,x,y=>Bkf a x.1 y.1&&Asl (b::l) x.2 y.2
theorem Aq6:∀{l:List Sg}{x y:HV l},Asl l x y=true->x=y
 |[],_,_,_=>rfl
 |[a],_,_,h=>Avy h
 |a::b::l,x,y,h=>by simp only[Asl,Zb1] at h;exact Prod.ext (Avy h.1) (Aq6 (l:=b::l) h.2)
def Gz(sa sr:List Sg):List (HV sa×HV sr)->HV sa->Option (HV sr)
 |[],_=>none
 |(a,r)::l,x=>match Asl sa x a with|true=>some r|false=>Gz sa sr l x
theorem Yh{sa sr:List Sg}{F:HV sa->Option (HV sr)}:∀{l:List (HV sa×HV sr)}(_:∀q,q∈l->F q.1=some q.2) (x:HV sa) (r:HV sr),Gz sa sr l x=some r->F x=some r
 |[],_,_,_,h=>by cases h
 |(a,r')::l,hl,x,r,h=>by
  unfold Gz at h;split at h
  ·rename_i e;injection h with h;subst h;rw[Aq6 e];exact hl _ (Zr1 ..)
  ·exact Yh (λq hq=>hl q (Zu1 _ hq)) x r h
theorem FnOk.le{P:Program}{el:Ck->TypeId}{gl:Nat->Option Gv}{f:FuncId}{sa sr:List Sg}{F G:HV sa->Option (HV sr)}(h:FnOk P el gl f sa sr F)(hg:∀x r,G x=some r->F x=some r):FnOk P el gl f sa sr G :=⟨h.enters,λx r hx=>h.run x r (hg x r hx)⟩
theorem FnLn.le{P:Program}{el:Ck->TypeId}{gl:Nat->Option Gv}{f:FuncId}{sg so:Sig}{F G:HV sg.sgs->Option (HV so.sgs)}(h:FnLn P el gl f sg so F)(hg:∀x r,G x=some r->F x=some r):FnLn P el gl f sg so G :=⟨h.enters,λx r hx=>h.run x r (hg x r hx)⟩
def Bdw{R:Type}(px:Px R)(w:Nat->Option (Hn R)):Px R:=⟨px.tt,px.gl,px.call,px.callQ,px.loop,λg=>match w g with
 |some f=>some f
 |none=>px.callW g,px.yld⟩
theorem Bm9{R:Type}{cx:Cx}{px:Px R}{w:Nat->Option (Hn R)}(h:Lv2 cx px)(hw:∀g f,w g=some f->Ff cx g f):Lv2 cx (Bdw px w):=by
 refine⟨⟨h.1.1,h.1.2,h.1.3⟩,λg args st K r hk=>h.2.1 g args st K r hk,⟨λg args K r hk=>h.2.2.1.1 g args K r hk,λg f hf =>?_⟩,λb st K r hk=>h.2.2.2 b st K r hk⟩;simp only[Bdw] at hf;split at hf
 ·rename_i f' hf';cases hf;exact hw g _ hf'
 ·exact h.2.2.1.2 g f hf
def Bly{R:Type}(px:Px R)(c:Nat->Option (E7 R))(w:Nat->Option (Hn R)):Px R:=⟨px.tt,px.gl,λg=>match c g with
 |some f=>f
 |none=>px.call g,px.callQ,px.loop,λg=>match w g with
 |some f=>some f
 |none=>px.callW g,px.yld⟩
theorem Bm4{R:Type}{cx:Cx}{px:Px R}{c:Nat->Option (E7 R)}{w:Nat->Option (Hn R)}(h:Lv2 cx px)(hc:∀g f,c g=some f->Gn cx g f)(hw:∀g f,w g=some f->Ff cx g f):Lv2 cx (Bly px c w):=by
 refine⟨⟨h.1.1,h.1.2,h.1.3⟩,λg args st K r hk =>?_,⟨λg args K r hk=>h.2.2.1.1 g args K r hk,λg f hf =>?_⟩,λb st K r hk=>h.2.2.2 b st K r hk⟩
 ·have hk:(match c g with|some f=>f|none=>px.call g) args st K=some r:=hk;cases hg:c g with|none =>rw[hg] at hk;exact h.2.1 g args st K r hk|some f =>rw[hg] at hk;exact hc g f hg args st K r hk
 ·simp only[Bly] at hf;split at hf
  ·rename_i f' hf';cases hf;exact hw g _ hf'
  ·exact h.2.2.1.2 g f hf
end Go.Ax
namespace Go.Proofs.YtcoaaebppfbbnaaGreatDoor
open Go.Ax
def signsL:List (Int×Str):=[(4,[65,78,68]),(5,[79,82]),(6,[61]),(7,[60,62]),(8,[60]),(9,[60,61]),(10,[62]),(11,[62,61]),(12,[43]),(13,[45]),(14,[42])]
def ttL:List (Nat×Ax.Ty):=[
 (3,.int .i64),
 (4,.bool),
 (5,.int .u8),
 (9,.str),
 (21,.int .i32),
 (22,.sl .col),
 (23,.sl .str),
 (24,.sl .expr),
 (25,.sl .idx),
 (27,.st (some .tbl) [(0,9),(1,22),(2,23),(3,24),(4,25)] [.str [],.sl .col [] .nil,.sl .str [] .nil,.sl .expr [] .nil,.sl .idx [] .nil]),
 (28,.sl .val),
 (30,.sl .vals),
 (31,.fn),
 (32,.sl .kv),
 (33,.int .i64),
 (40,.ptr),
 (43,.sl .byte),
 (44,.sl .node),
 (46,.st (some .node) [(0,3),(1,43),(2,4),(3,43),(4,44),(5,43)] [.int .i64 0,.sl .byte [] .nil,.bool false,.sl .byte [] .nil,.sl .node [] .nil,.sl .byte [] .nil]),
 (54,.st (some .col) [(0,9),(1,3),(2,4),(3,4),(4,9)] [.str [],.int .i64 0,.bool false,.bool false,.str []]),
 (56,.st (some .val) [(0,3),(1,3),(2,9)] [.int .i64 0,.int .i64 0,.str []]),
 (59,.st (some .idx) [(0,9),(1,23)] [.str [],.sl .str [] .nil]),
 (60,.int .u64),
 (72,.st (some .lay) [(0,32),(1,33)] [.sl .kv [] .nil,.int .i64 0]),
 (75,.sl .lay),
 (77,.sl .ent),
 (80,.st (some .kv) [(0,43),(1,43)] [.sl .byte [] .nil,.sl .byte [] .nil]),
 (82,.st (some .ent) [(0,3),(1,80)] [.int .i64 0,.sl .byte [] .nil,.sl .byte [] .nil]),
 (86,.st (some .stt) [(0,46)] [.int .i64 0,.sl .byte [] .nil,.bool false,.sl .byte [] .nil,.sl .node [] .nil,.sl .byte [] .nil]),
 (87,.sl .stt),
 (89,.st none [(0,86),(6,87),(7,43)] [.int .i64 0,.sl .byte [] .nil,.bool false,.sl .byte [] .nil,.sl .node [] .nil,.sl .byte [] .nil,.sl .stt [] .nil,.sl .byte [] .nil]),
 (106,.sl .exprs),
 (107,.sl .set),
 (109,.st (some .expr) [(0,3),(1,56),(4,9),(5,24)] [.int .i64 0,.int .i64 0,.int .i64 0,.str [],.str [],.sl .expr [] .nil]),
 (110,.sl .bool),
 (112,.st (some .stmt) [(0,3),(1,9),(2,9),(3,22),(4,23),(5,24),(6,106),(7,107),(8,4),(9,109),(15,23),(16,110),(17,3)] [.int .i64 0,.str [],.str [],.sl .col [] .nil,.sl .str [] .nil,.sl .expr [] .nil,.sl .exprs [] .nil,.sl .set [] .nil,.bool false,.int .i64 0,.int .i64 0,.int .i64 0,.str [],.str [],.sl .expr [] .nil,.sl .str [] .nil,.sl .bool [] .nil,.int .i64 0]),
 (117,.fn),
 (140,.sl .kvs),
 (154,.int .u64),
 (161,.st (some .set) [(0,9),(1,109)] [.str [],.int .i64 0,.int .i64 0,.int .i64 0,.str [],.str [],.sl .expr [] .nil]),
 (173,.ptr),
 (189,.st none [(0,43),(1,43),(2,4)] [.sl .byte [] .nil,.sl .byte [] .nil,.bool false]),
 (193,.ptr),
 (195,.st none [(0,43),(1,3),(2,33)] [.sl .byte [] .nil,.int .i64 0,.int .i64 0]),
 (197,.fn),
 (212,.arr 2 .int),
 (221,.fn),
 (225,.fn),
 (228,.st none [(0,80),(2,43)] [.sl .byte [] .nil,.sl .byte [] .nil,.sl .byte [] .nil]),
 (234,.fn),
 (236,.fn),
 (238,.sl .bytes),
 (239,.ptr),
 (253,.fn),
 (258,.fn),
 (266,.ptr),
 (267,.fn),
 (275,.int .u32),
 (283,.fn),
 (292,.map),
 (299,.sl .int),
 (301,.st (some .num) [(0,4),(1,299)] [.bool false,.sl .int [] .nil]),
 (315,.fn),
 (319,.fn),
 (326,.arr 256 .byte),
 (328,.st none [(0,5),(1,5)] [.int .u8 0,.int .u8 0])]
def elT:Ck->TypeId
 |.byte=>5
 |.int=>3
 |.u64=>154
 |.str=>9
 |.bool=>4
 |.val=>56
 |.col=>54
 |.expr=>109
 |.num=>301
 |.set=>161
 |.stmt=>112
 |.idx=>59
 |.tbl=>27
 |.node=>46
 |.stt=>86
 |.kv=>80
 |.kvs=>32
 |.lay=>72
 |.ent=>82
 |.vals=>28
 |.exprs=>24
 |.strs=>23
 |.bytes=>43
 |_=>0
theorem Ab7:(ttL.all λp=>Cs Tryz.prog elT (Aal ttL) p.1)=true:=by kernel_rfl
def glT:Nat->Option Gv:=tbl [(0,.num .i64),(2,.map signsL)]
theorem follows:Tryz.prog.follows .mixedOrders=true:=by kernel_rfl
abbrev FO:=FnOk Tryz.prog elT glT
abbrev FM:=FnLn Tryz.prog elT glT
abbrev HX:=Hx Tryz.prog elT glT (Aal ttL)
def pxO{R:Type}(c:List (Nat×E7 R))(q:List (Nat×E4 R))(l:List (Nat×Bl5 R))(w:List (Nat×Hn R)):Px R:=⟨Aal ttL,glT,Au6 c,Akq q,Bre l,tbl w,λ_ _ _ _=>none⟩
abbrev cA{R:Type}{sa sr:List Sg}(F:FT sa sr):E7 R:=La sa sr F
abbrev qA{R:Type}{sa sr:List Sg}(F:FT sa sr):E4 R:=I0 sa sr F
theorem fR{f:FuncId}{fn:Func}{c:Code}{sa sr:List Sg}{px:Px (HV sr)}{F:FT sa sr}{n:Nat}(hf:Tryz.prog.funcs[f]? = some fn)(hb:fn.body=some c)(h:∀cx,HX cx->Lv cx px/\∀i,i<n->B8 cx px (lp fn i))(hF:∀x,Zj px fn sa sr x some=F x)(hname:(fn.name == "runtime.NumGoroutine")=false:=by kernel_rfl)(hchk:(Alo fn&&Nat.ble sa.length fn.ntmps&&C8 (Be 0 sa) [])=true:=by kernel_rfl)(hn:Vk fn=n:=by kernel_rfl):FO f sa sr F:=fO (Apo Ab7) follows hf hb hname hchk hn h hF
end Go.Proofs.YtcoaaebppfbbnaaGreatDoor
namespace Go.Proofs.YtcoaaebppfbbnaaGreatDoor
open Go.Sx Go.RowKit
theorem Brs:ElTy Tryz.prog 23 9 1 16:=elTy_of (by kernel_rfl)
theorem Bsc:ElTy Tryz.prog 22 54 5 48:=elTy_of (by kernel_rfl)
theorem A65:ElTy Tryz.prog 24 109 6 80:=elTy_of (by kernel_rfl)
theorem Pb:ElTy Tryz.prog 25 59 2 40:=elTy_of (by kernel_rfl)
def C2(t:TypeId)(sz n:Nat)(xs:List Value):Value->Sx.Loc->(World->Prop)->Prop:=λv L _=>L=[.row v t sz n xs]
theorem Hm{cx:Sx.Cx}{L:Sx.Loc}{F:World->Prop}{t:TypeId}{sz n:Nat}{xs:List Value}{Φ:Sx.Loc->(World->Prop)->Prop}(hF:∀w,F w->n=0/\xs=[])(h : Φ (.row (.slice none 0 0) t sz n xs::L) F):Rt cx L F Φ :=.mk λw hs=>by obtain⟨h1,h2⟩:=hF w hs.here;subst h1 h2;exact⟨_,_,h,hs.newRow t sz⟩
theorem M5{a:Option Addr}{n c sz:Nat}{xs:List Value}(ha:a.isNone=true)(w:World)(h:RdS (.slice a n c) sz n xs w):n=0/\xs=[]:=by
 obtain⟨hl,a',c',he,hr⟩:=h;have h0:n=0:=by
  rcases hr with h0|⟨b,off,e,_⟩
  ·exact h0
  ·simp only[Value.slice.injEq] at he;rw[he.1,e] at ha;cases ha
 subst h0;exact⟨rfl,List.eq_nil_of_length_eq_zero (by simpa using hl)⟩
set_option maxRecDepth 20000 in
theorem Ar3(a:Option Addr)(n c:Nat)(xs:List Value)(h1:xs.all one=true)(hbig:n<=2000000):Con Tryz.prog 178 [.slice a n c] [] (RdS (.slice a n c) 1 n xs) (C2 9 1 n xs):=by
 refine Bn Tryz.func178 Tryz.ntmps178 rfl (by kernel_rfl) rfl λw M =>?_
 repeat' (first|(refine Eo ?_;(first|refine Ca ?_|(apply Au rfl rfl;(first|exact p_move rfl|exact p_assign rfl))|(apply Au rfl rfl;exact Hy 1 (by dsimp only;decide +kernel) rfl rfl)|(refine Fs rfl rfl Brs rfl rfl rfl rfl ?_;intro b)))|(refine Em ?_;(first|refine Dw ?_|refine Bg ?_|refine Ed ?_|(refine Ea rfl ?_ ?_<;>intro hc<;>try contradiction)|refine B5 rfl rfl ?_))|(refine Ej ?_;(first|refine Cb ?_))|fail)
 ·exact Hm (M5 (by assumption)) rfl
 ·refine Ji 1 ?_;refine Jp 0 rfl rfl Brs rfl rfl rfl (Js (λw h=>h)) h1 (by omega) (by omega) ?_;intro v'
  repeat' (first|(refine Eo ?_;(first|refine Ca ?_|(apply Au rfl rfl;(first|exact p_assign rfl))))|(refine Em ?_;(first|refine B5 rfl rfl ?_))|(refine Ej ?_;(first|refine Cb ?_))|fail)
  refine B1 ?_;simp[C2]
set_option maxRecDepth 20000 in
theorem Atf(a:Option Addr)(n c:Nat)(xs:List Value)(h1:xs.all one=true)(hbig:n<=2000000):Con Tryz.prog 177 [.slice a n c] [] (RdS (.slice a n c) 5 n xs) (C2 54 5 n xs):=by
 refine Bn Tryz.func177 Tryz.ntmps177 rfl (by kernel_rfl) rfl λw M =>?_
 repeat' (first|(refine Eo ?_;(first|refine Ca ?_|(apply Au rfl rfl;(first|exact p_move rfl|exact p_assign rfl))|(apply Au rfl rfl;exact Hy 5 (by dsimp only;decide +kernel) rfl rfl)|(refine Fs rfl rfl Bsc rfl rfl rfl rfl ?_;intro b)))|(refine Em ?_;(first|refine Dw ?_|refine Bg ?_|refine Ed ?_|(refine Ea rfl ?_ ?_<;>intro hc<;>try contradiction)|refine B5 rfl rfl ?_))|(refine Ej ?_;(first|refine Cb ?_))|fail)
 ·exact Hm (M5 (by assumption)) rfl
 ·refine Ji 5 ?_;refine Jp 0 rfl rfl Bsc rfl rfl rfl (Js (λw h=>h)) h1 (by omega) (by omega) ?_;intro v'
  repeat' (first|(refine Eo ?_;(first|refine Ca ?_|(apply Au rfl rfl;(first|exact p_assign rfl))))|(refine Em ?_;(first|refine B5 rfl rfl ?_))|(refine Ej ?_;(first|refine Cb ?_))|fail)
  refine B1 ?_;simp[C2]
set_option maxRecDepth 20000 in
theorem Att(a:Option Addr)(n c:Nat)(xs:List Value)(h1:xs.all one=true)(hbig:n<=2000000):Con Tryz.prog 225 [.slice a n c] [] (RdS (.slice a n c) 6 n xs) (C2 109 6 n xs):=by
 refine Bn Tryz.func225 Tryz.ntmps225 rfl (by kernel_rfl) rfl λw M =>?_
 repeat' (first|(refine Eo ?_;(first|refine Ca ?_|(apply Au rfl rfl;(first|exact p_move rfl|exact p_assign rfl))|(apply Au rfl rfl;exact Hy 6 (by dsimp only;decide +kernel) rfl rfl)|(refine Fs rfl rfl A65 rfl rfl rfl rfl ?_;intro b)))|(refine Em ?_;(first|refine Dw ?_|refine Bg ?_|refine Ed ?_|(refine Ea rfl ?_ ?_<;>intro hc<;>try contradiction)|refine B5 rfl rfl ?_))|(refine Ej ?_;(first|refine Cb ?_))|fail)
 ·exact Hm (M5 (by assumption)) rfl
 ·refine Ji 6 ?_;refine Jp 0 rfl rfl A65 rfl rfl rfl (Js (λw h=>h)) h1 (by omega) (by omega) ?_;intro v'
  repeat' (first|(refine Eo ?_;(first|refine Ca ?_|(apply Au rfl rfl;(first|exact p_assign rfl))))|(refine Em ?_;(first|refine B5 rfl rfl ?_))|(refine Ej ?_;(first|refine Cb ?_))|fail)
  refine B1 ?_;simp[C2]
set_option maxRecDepth 20000 in
theorem Auu(a:Option Addr)(n c:Nat)(xs:List Value)(h1:xs.all one=true)(hbig:n<=2000000):Con Tryz.prog 185 [.slice a n c] [] (RdS (.slice a n c) 2 n xs) (C2 59 2 n xs):=by
 refine Bn Tryz.func185 Tryz.ntmps185 rfl (by kernel_rfl) rfl λw M =>?_
 repeat' (first|(refine Eo ?_;(first|refine Ca ?_|(apply Au rfl rfl;(first|exact p_move rfl|exact p_assign rfl))|(apply Au rfl rfl;exact Hy 2 (by dsimp only;decide +kernel) rfl rfl)|(refine Fs rfl rfl Pb rfl rfl rfl rfl ?_;intro b)))|(refine Em ?_;(first|refine Dw ?_|refine Bg ?_|refine Ed ?_|(refine Ea rfl ?_ ?_<;>intro hc<;>try contradiction)|refine B5 rfl rfl ?_))|(refine Ej ?_;(first|refine Cb ?_))|fail)
 ·exact Hm (M5 (by assumption)) rfl
 ·refine Ji 2 ?_;refine Jp 0 rfl rfl Pb rfl rfl rfl (Js (λw h=>h)) h1 (by omega) (by omega) ?_;intro v'
  repeat' (first|(refine Eo ?_;(first|refine Ca ?_|(apply Au rfl rfl;(first|exact p_assign rfl))))|(refine Em ?_;(first|refine B5 rfl rfl ?_))|(refine Ej ?_;(first|refine Cb ?_))|fail)
  refine B1 ?_;simp[C2]
set_option maxRecDepth 20000 in
theorem Amq(a:Option Addr)(c:Nat):Con Tryz.prog 225 [.slice a 0 c] [] (λ_=>True) (λv _ _=>∃a',v = .slice a' 0 0):=by
 refine Bn Tryz.func225 Tryz.ntmps225 rfl (by kernel_rfl) rfl λw M =>?_
 repeat' (first|(refine Eo ?_;(first|refine Ca ?_|(apply Au rfl rfl;(first|exact p_move rfl|exact p_assign rfl))|(apply Au rfl rfl;exact Hy 6 (by dsimp only;decide +kernel) rfl rfl)|(refine Fs rfl rfl A65 rfl rfl rfl rfl ?_;intro b)|(apply Au rfl rfl;exact Abb A65 rfl rfl)))|(refine Em ?_;(first|refine Dw ?_|refine Bg ?_|refine Ed ?_|(refine Ea rfl ?_ ?_<;>intro hc<;>try contradiction)|refine B5 rfl rfl ?_))|(refine Ej ?_;(first|refine Cb ?_))|fail)
 ·exact B1 ⟨_,rfl⟩
 ·exact B1 ⟨_,rfl⟩
set_option maxRecDepth 20000 in
theorem Amu(a:Option Addr)(c:Nat):Con Tryz.prog 185 [.slice a 0 c] [] (λ_=>True) (λv _ _=>∃a',v = .slice a' 0 0):=by
 refine Bn Tryz.func185 Tryz.ntmps185 rfl (by kernel_rfl) rfl λw M =>?_
 repeat' (first|(refine Eo ?_;(first|refine Ca ?_|(apply Au rfl rfl;(first|exact p_move rfl|exact p_assign rfl))|(apply Au rfl rfl;exact Hy 2 (by dsimp only;decide +kernel) rfl rfl)|(refine Fs rfl rfl Pb rfl rfl rfl rfl ?_;intro b)|(apply Au rfl rfl;exact Abb Pb rfl rfl)))|(refine Em ?_;(first|refine Dw ?_|refine Bg ?_|refine Ed ?_|(refine Ea rfl ?_ ?_<;>intro hc<;>try contradiction)|refine B5 rfl rfl ?_))|(refine Ej ?_;(first|refine Cb ?_))|fail)
 ·exact B1 ⟨_,rfl⟩
 ·exact B1 ⟨_,rfl⟩
theorem Acf{P:Program}(w:World)(tS tR e:TypeId)(ht:P.underlying tS=some (.slice e))(size:Nat)(hz:∀w,(Go.sizeOf e).run P w = .ok size w)
  (a b:Addr) (la ca lb cb:Nat) (hne:a.block≠b.block) (c1 c2:Array Value) (t1 t2:TypeId) (f1:Nat×Nat)
  (ha:w.heap[a.block]? = some (.cells c1 t1 f1)) (hb:w.heap[b.block]? = some (.cells c2 t2 (0,0))) (h1:c1.size≠0) :
  (Extern.SlicesOverlaps.overlaps #[tS,tS] #[tR] #[.slice (some a) la ca,.slice (some b) lb cb]).run P w = .ok (.bool false) w:=by
 have hnb:(a.block != b.block)=true:=by simpa using hne
 have hnb':(a.block == b.block)=false:=by simpa using hne
 have hsa:w.shape? a.block=some (t1,c1.size):=by simp[World.shape?,ha]
 have hsb:w.shape? b.block=some (t2,c2.size):=by simp[World.shape?,hb]
 have hfb:∀o sp,w.frozen? ⟨b.block,o,sp⟩=false:=λo sp=>by simp[World.frozen?,hb]
 change Sem.run P (α:=Value) (do
  let some t:=(#[tS,tS]:Array TypeId)[0]? | stuck "slices.overlaps: no parameter types"
  let .slice elem <-underlying t|stuck "slices.overlaps: slice type expected"
  let size <-sizeOf elem;match(some a:Option Addr),(some b:Option Addr) with
  |some a,some b =>
   if la=0\/lb=0\/size=0 then pure (Value.bool false)
   else if a.block != b.block&&(<-frozen a)&&(<-frozen b) then unsupported .addressObserved
   else do
    if a.block != b.block then do
     noView a;noView b
     if <-mayBeOne a b then return Value.bool ((<-choose (.extern "sameAddr.stringBytes" 2)) == 1)
    pure (Value.bool (a.block == b.block&&a.off<b.off+lb*size&&b.off<a.off+la*size))
  |_,_=>pure (Value.bool false)) w=_
 by_cases h0:la=0\/lb=0\/size=0
 ·simp[run_underlying ht,hz,h0]
 ·obtain⟨k1,hk1⟩:∃k1,c1.size=k1+1:=⟨c1.size-1,by omega⟩;cases hf1:w.frozen? a<;>simp[run_underlying ht,hz,h0,hnb,hnb',frozen,noView,viewAt,mayBeOne,stringish,shape,Sem.run,hsa,hsb,hfb,hf1,hk1]
section
variable {cx:Sx.Cx}{k:List KI}{e:Sx.Env}{L:Sx.Loc}{F:World->Prop}{Q:Exit->Act->World->Prop}{ops:Array Oper}{rest:List Oper}
theorem Bns{dst:Nat}{fo x y:Operand}{ts:Array TypeId}{t tS tR elem u':TypeId}{pos:String}{after:Array Edge}{g':Option (Nat×Bool)}{f:FuncId}{g go lb cb vb vo la ca sz:Nat}{cs:List Value}(i:Nat)(hg:Gd ops e g' = some true)(hd:Nat.blt dst cx.n=true)
  (hf:Env.ev e fo=some (.func (.func f) #[] #[])) (hx:Env.ev e x=some (.slice (some ⟨vb,vo,none⟩) la ca)) (hy:Env.ev e y=some (.slice (some ⟨g,go,none⟩) lb cb)) (hi:L[i]? = some (.blk g cs u')) (hne:vb≠g) (hsrc:∀w,F w->∃u,w.cell? ⟨vb,vo,none⟩=some u)
  (hrun:∀args w,(callFunc f args).run cx.P w=((Extern.SlicesOverlaps.overlaps #[tS,tS] #[tR] args).run cx.P w).andThen λv w' =>.ok (.value v) w') (ht:cx.P.underlying tS=some (.slice elem)) (hz:tySz cx.P elem=some sz)
  (h:O cx ops rest k ((dst,.bool false)::e) L F Q):O cx ops (⟨some dst,.call ⟨.value fo, #[x,y],ts⟩,t,pos,after,g'⟩::rest) k e L F Q:=by
 refine Us (λr L' F'=>r = .bool false/\L' = L/\F' = F) hg hd (λa w he hst=>⟨.bool false,w,L,F,?_,hst,rfl,rfl,rfl⟩) (λr L' F' ⟨hr,hL,hF⟩=>by rw[hr,hL,hF];exact h);have hgh:w.heap[g]? = some (.cells cs.toArray u' (0,0)):=hst.ok _ (List.mem_of_getElem? hi);obtain⟨u,hu⟩:=hsrc w hst.here;obtain⟨c1,t1,f1,hh,hc1⟩:∃c1 t1 f1,w.heap[vb]? = some (.cells c1 t1 f1)/\c1.size≠0:=by
  unfold World.cell? at hu;split at hu
  ·rename_i c t' f' hh;refine⟨c,t',f',hh,λh0 =>?_⟩;simp only[Option.isSome_none,Zj2,if_false] at hu;have:=(Zh2.1 hu).1;omega
  ·cases hu
 have hov:=Acf (P:=cx.P) w tS tR elem ht sz (λw=>Sx.run_sizeOf hz w) ⟨vb,vo,none⟩ ⟨g,go,none⟩ la ca lb cb hne c1 _ t1 u' f1 hh hgh hc1;simp only[execOp,resolve,he.ev hf,he.ev hx,he.ev hy,Deferred.ofValue,Sem.run_bind,Sem.run_pure,Result.andThen_ok,invoke,List.map_toArray,Zw1,List.map_nil];rw[show(#[] ++ #[Value.slice (some ⟨vb,vo,none⟩) la ca,Value.slice (some ⟨g,go,none⟩) lb cb] ++ #[]:Array Value) = #[Value.slice (some ⟨vb,vo,none⟩) la ca,Value.slice (some ⟨g,go,none⟩) lb cb] by simp,hrun,hov];rfl
end
def put(c z:List Value)(o:Nat):List Value:=c.take o++z++c.drop (o+z.length)
theorem N6{c z:List Value}{o:Nat}(h:o+z.length<=c.length):(put c z o).length=c.length:=by simp only[put,Zh1,List.length_take,Za2];omega
theorem Aff{c z:List Value}{o:Nat}(h:o+z.length<=c.length)(q:Nat):(put c z o)[q]? = if o<=q/\q<o+z.length then z[q-o]? else c[q]? := by
 have ht:(c.take o).length=o:=by simp;omega
 simp only[put,Zj1];by_cases h1:q<o
 ·rw[List.getElem?_append_left (by omega),if_neg (by omega),List.getElem?_take,if_pos h1]
 ·rw[List.getElem?_append_right (by omega),ht];by_cases h2:q<o+z.length
  ·rw[List.getElem?_append_left (by omega),if_pos (by omega)]
  ·rw[List.getElem?_append_right (by omega),if_neg (by omega),List.getElem?_drop];congr 1;omega
def Ay4(cs ys:List Value)(i n:Nat):List Value:=cs.take (i*2)++ys++(cs.drop (i*2)).take ((n-i)*2)
theorem Az5{cs ys:List Value}{i n:Nat}(hin:i<=n)(hl:n*2<=cs.length)(hy:ys.length=2)(q:Nat):(Ay4 cs ys i n)[q]? = if q<i*2 then cs[q]? else if q<i*2+2 then ys[q-i*2]? else if q<(n+1)*2 then cs[q-2]? else none:=by
 have ht:(cs.take (i*2)).length=i*2:=by simp;omega
 have hd:((cs.drop (i*2)).take ((n-i)*2)).length=(n-i)*2:=by simp;omega
 simp only[Ay4,Zj1];by_cases h1:q<i*2
 ·rw[List.getElem?_append_left (by omega),if_pos h1,List.getElem?_take,if_pos h1]
 ·rw[List.getElem?_append_right (by omega),ht,if_neg h1];by_cases h2:q<i*2+2
  ·rw[List.getElem?_append_left (by omega),if_pos h2]
  ·rw[List.getElem?_append_right (by omega),if_neg h2,hy,List.getElem?_take,List.getElem?_drop];by_cases h3:q<(n+1)*2
   ·rw[if_pos h3,if_pos (by omega)];congr 1;omega
   ·rw[if_neg h3,if_neg (by omega)]
theorem Blm{cs ys Z:List Value}{i n:Nat}(hin:i<=n)(hl:(n+1)*2<=cs.length)(hy:ys.length=2)(hZ:Z=(cs.drop (i*2)).take ((n-i)*2)):(put (put cs Z ((i+1)*2)) ys (i*2)).length=cs.length/\(put (put cs Z ((i+1)*2)) ys (i*2)).take ((n+1)*2)=Ay4 cs ys i n:=by
 have hZl:Z.length=(n-i)*2:=by rw[hZ];simp;omega
 have h1:(i+1)*2+Z.length<=cs.length:=by omega
 have h2:i*2+ys.length<=(put cs Z ((i+1)*2)).length:=by rw[N6 h1];omega
 refine⟨by rw[N6 h2,N6 h1],List.ext_getElem? λq =>?_⟩;rw[List.getElem?_take,Az5 hin (by omega) hy,Aff h2,Aff h1,hZl,hy,hZ,List.getElem?_take,List.getElem?_drop];by_cases a1:q<(n+1)*2
 ·rw[if_pos a1];by_cases a2:q<i*2
  ·rw[if_neg (by omega),if_neg (by omega),if_pos a2]
  ·rw[if_neg a2];by_cases a3:q<i*2+2
   ·rw[if_pos (by omega),if_pos a3]
   ·rw[if_neg (by omega),if_neg a3,if_pos a1,if_pos (by omega),if_pos (by omega)];congr 1;omega
 ·rw[if_neg a1,if_neg (by omega),if_neg (by omega),if_neg a1]
theorem Boh{cs ys c1 Z:List Value}{i n q:Nat}(hin:i<=n)(hl:n*2<=cs.length)(hy:ys.length=2)(hZ:Z=(cs.drop (i*2)).take ((n-i)*2))(hc1:c1.take (i*2)=cs.take (i*2))(hq:n+1<=q)(hcl:c1.length=q*2):(put (put c1 ys (i*2)) Z ((i+1)*2)).length=q*2/\(put (put c1 ys (i*2)) Z ((i+1)*2)).take ((n+1)*2)=Ay4 cs ys i n:=by
 have hZl:Z.length=(n-i)*2:=by rw[hZ];simp;omega
 have h2:i*2+ys.length<=c1.length:=by omega
 have h1:(i+1)*2+Z.length<=(put c1 ys (i*2)).length:=by rw[N6 h2];omega
 refine⟨by rw[N6 h1,N6 h2,hcl],List.ext_getElem? λk =>?_⟩;rw[List.getElem?_take,Az5 hin hl hy,Aff h1,Aff h2,hZl,hy,hZ,List.getElem?_take,List.getElem?_drop];have hck:k<i*2->c1[k]? = cs[k]? :=λhk=>by have:=congrArg (·[k]?) hc1;simpa[List.getElem?_take,hk] using this
 by_cases a1:k<(n+1)*2
 ·rw[if_pos a1];by_cases a2:k<i*2
  ·rw[if_neg (by omega),if_neg (by omega),if_pos a2,hck a2]
  ·rw[if_neg a2];by_cases a3:k<i*2+2
   ·rw[if_neg (by omega),if_pos (by omega),if_pos a3]
   ·rw[if_pos (by omega),if_pos (by omega),if_neg a3,if_pos a1];congr 1;omega
 ·rw[if_neg a1,if_neg (by omega),if_neg (by omega),if_neg a1]
def Bnq(t:TypeId)(g n i cap:Nat)(cs ys:List Value):Value->Sx.Loc->(World->Prop)->Prop:=λv L _ =>
 (∃cs',v = .slice (some ⟨g,0,none⟩) (n+1) cap/\n+1<=cap/\L=[.blk g cs' t]/\cs'.length=cs.length/\cs'.take ((n+1)*2)=Ay4 cs ys i n) \/
 (∃b cap' cs',v = .slice (some ⟨b,0,none⟩) (n+1) cap'/\n+1<=cap'/\cap'<=maxLen/\L=[.blk b cs' t,.blk g cs t]/\cs'.length=cap'*2/\cs'.take ((n+1)*2)=Ay4 cs ys i n)
theorem Btf(args:Array Value)(w:World):(callFunc 226 args).run Tryz.prog w=((Extern.SlicesOverlaps.overlaps #[25,25] #[4] args).run Tryz.prog w).andThen λv w' =>.ok (.value v) w':=run_callFunc_extern Tryz.func226 (by kernel_rfl) rfl (by kernel_rfl) (e:=Extern.SlicesOverlaps.overlaps #[25,25] #[4]) (by kernel_rfl) args w
theorem Br1{cs:List Value}{n i:Nat}(h1:∀v,v∈cs.take (n*2)->one v=true)(hin:i<=n){v:Value}(hv:v∈(cs.drop (i*2)).take ((n-i)*2)):one v=true:=by
 refine h1 v ?_;obtain⟨q,hq⟩:=List.getElem?_of_mem hv;rw[List.getElem?_take] at hq;split at hq
 ·rw[List.getElem?_drop] at hq;exact List.mem_of_getElem? ((List.getElem?_take_of_lt (by omega)).trans hq)
 ·cases hq
set_option maxRecDepth 20000 in
theorem Boz(g n i cap vb vo vc:Nat)(cs ys:List Value)(hn : 0<n)(hin:i<=n)(hnc:n<=cap)(hl:cs.length=cap*2)(h1:∀v,v∈cs.take (n*2)->one v=true)(hy:ys.length=2)(hy1:∀v,v∈ys->one v=true)(hne:vb≠g)(hbig:n<=2000000) :
  Con Tryz.prog 184 [.slice (some ⟨g,0,none⟩) n cap,.int .i64 i,.slice (some ⟨vb,vo,none⟩) 1 vc] [.blk g cs 59] (λw=>∀(j:Nat) v,ys[j]? = some v->w.cell? ⟨vb,vo+j,none⟩=some v) (Bnq 59 g n i cap cs ys):=by
 refine Bn Tryz.func184 Tryz.ntmps184 rfl (by kernel_rfl) rfl λw M =>?_
 repeat' (first|(refine Eo ?_;(first|refine Ca ?_|(apply Au rfl rfl;(first|exact p_move rfl|exact p_assign rfl|exact p_lensl (by dsimp only;decide +kernel) rfl|exact p_eql rfl rfl|exact p_gtr rfl rfl|exact Afh rfl rfl (by omega)|exact Kj rfl rfl (by omega)))|(apply Au rfl rfl;exact Lb 2 (by dsimp only;decide +kernel) rfl rfl (by omega))|(apply Au rfl rfl;exact Ah5 2 (by dsimp only;decide +kernel) rfl)|(apply Au rfl rfl;exact O6 2 (by dsimp only;decide +kernel) rfl rfl (by omega))|(apply Au rfl rfl;exact A3z 2 (by dsimp only;decide +kernel) rfl rfl (by omega))))|(refine Em ?_;(first|refine Dw ?_|refine Bg ?_|refine Ed ?_|(refine Iz rfl ?_ ?_<;>intro hc<;>try (first|contradiction))))|(refine Ej ?_;(first|refine Cb ?_))|fail)
 ·obtain rfl:i=n:=by omega
  have hin':cs.take (i*2)++ys=Ay4 cs ys i i:=by simp[Ay4]
  by_cases hr:i+1<=cap
  ·refine Bam (zs:=ys) 0 rfl rfl Pb rfl rfl rfl (λw hs=>hs.here) (by rw[hy]) hr (by omega) hy1 rfl ?_
   repeat' (first|(refine Eo ?_;(first|refine Ca ?_|(apply Au rfl rfl;(first|exact p_assign rfl))))|(refine Em ?_;(first|refine B5 rfl rfl ?_))|(refine Ej ?_;(first|refine Cb ?_))|fail)
   refine B1 (.inl ⟨_,rfl,hr,rfl,N6 (z:=ys) (o:=i*2) (by omega),?_⟩);rw[<-hin'];exact List.take_left' (by simp;omega)
  ·refine Bay (zs:=ys) 0 rfl rfl Pb rfl rfl rfl (λw hs=>hs.here) (by rw[hy]) (by omega) (by omega) (by simp only[maxLen];omega) (by omega) ?_;intro b' q tl hq1 hq2 htl
   repeat' (first|(refine Eo ?_;(first|refine Ca ?_|(apply Au rfl rfl;(first|exact p_assign rfl))))|(refine Em ?_;(first|refine B5 rfl rfl ?_))|(refine Ej ?_;(first|refine Cb ?_))|fail)
   refine B1 (.inr ⟨_,_,_,rfl,hq1,hq2,rfl,by simp;omega,?_⟩);rw[<-hin'];exact List.take_left' (by simp;omega)
 ·refine A2i (kn :=.i64) 0 rfl rfl Pb (by dsimp only;decide +kernel) rfl rfl rfl (by omega) (by omega) (by omega) (by simp only[maxLen];omega) (by omega) ?_;intro b' q tl hq1 hq2 htl
  repeat' (first|(refine Eo ?_;(first|refine Ca ?_|(apply Au rfl rfl;(first|exact p_move rfl|exact p_assign rfl))|(apply Au rfl rfl;exact O6 2 (by dsimp only;decide +kernel) rfl rfl (by omega))))|(refine Em ?_;(first|refine Dw ?_|refine Bg ?_))|(refine Ej ?_;(first|refine Cb ?_))|fail)
  refine Arn (zs:=ys) 0 rfl rfl Pb rfl rfl rfl (λw hs=>hs.here) ?_ ?_ hy1 ?_
  ·rw[hy,show Nat.min 1 _=1 from Nat.min_eq_left (by omega)]
  ·simp only[Zh1,List.length_take];omega
  ·repeat' (first|(refine Eo ?_;(first|refine Ca ?_))|(refine Em ?_;(first|refine Dw ?_|refine A6z (by dsimp only;decide +kernel) It ?_))|(refine Ej ?_;(first|refine Cb ?_))|(refine Bpv ?_;(first|(apply Fg 0 rfl rfl rfl (by decide +kernel);(first|exact p_move rfl))|(apply Fg 1 rfl rfl rfl (by decide +kernel);(first|exact p_move rfl))|(apply Fg 2 rfl rfl rfl (by decide +kernel);(first|exact p_move rfl))|(apply Fg 3 rfl rfl rfl (by decide +kernel);(first|exact Afh rfl rfl (by omega)))|(apply Fg 5 rfl rfl rfl (by decide +kernel);(first|exact p_move rfl))|(apply Fg 6 rfl rfl rfl (by decide +kernel);(first|exact p_move rfl))))|fail)
   apply Fg 4 rfl rfl rfl (by decide +kernel) (O6 2 (by dsimp only;decide +kernel) rfl rfl (by omega));apply Fg 7 rfl rfl rfl (by decide +kernel) (O6 2 (by dsimp only;decide +kernel) rfl rfl (by omega));refine Bru 8 rfl (by decide +kernel) ?_;refine Arn 0 rfl rfl Pb rfl rfl rfl (An8 (n:=(n-i)*2) 1 rfl) ?_ ?_ ?_ ?_
   ·have:Nat.min (n-(i:Int).toNat) ((i:Int).toNat+((n:Int)+((1:Nat):Int)-(i:Int)).toNat-((i:Int)+((1:Nat):Int)).toNat)=n-i:=(Nat.min_eq_left (by omega)).trans (by omega);rw[this,List.length_take,Za2];omega
   ·simp only[Zh1,List.length_take,Za2];omega
   ·intro v hv;exact Br1 h1 hin (by simpa using hv)
   ·repeat' (first|(refine Eo ?_;(first|refine Ca ?_|(apply Au rfl rfl;(first|exact p_move rfl|exact p_assign rfl))))|(refine Em ?_;(first|refine Dw ?_|refine Bg ?_|refine B5 rfl rfl ?_))|(refine Ej ?_;(first|refine Cb ?_|(refine A7a It ?_)))|(refine Bpv ?_;(first|refine Br3 (by decide +kernel) ?_))|fail)
    have e1:i+((n:Int)+((1:Nat):Int)-(i:Int)).toNat=n+1:=by omega
    have e2:((i:Int)+((1:Nat):Int)).toNat=i+1:=by omega
    simp only[e1,e2,Int.toNat_natCast,Nat.zero_add] at hq1 htl ⊢;have hd:=Boh (c1:=cs.take (i*2)++tl) (q:=q) hin (by omega) hy rfl (List.take_left' (by simp;omega)) hq1 (by simp;omega);refine B1 (.inr ⟨_,_,_,rfl,hq1,hq2,rfl,hd.1,hd.2⟩)
 ·refine Bns 0 rfl rfl rfl rfl rfl rfl hne (λw h=>⟨_,h 0 _ (Zo1 (by omega))⟩) Btf rfl rfl ?_
  repeat' (first|(refine Eo ?_;(first|refine Ca ?_|(apply Au rfl rfl;(first|exact p_not rfl))))|(refine Em ?_;(first|refine Dw ?_|refine A6z (by dsimp only;decide +kernel) It ?_|(refine Ea rfl ?_ ?_<;>intro hc<;>try contradiction)))|(refine Ej ?_;(first|refine Cb ?_))|(refine Bpv ?_;(first|(apply Fg 0 rfl rfl rfl (by decide +kernel);(first|exact p_move rfl))|(apply Fg 1 rfl rfl rfl (by decide +kernel);(first|exact p_move rfl))|(apply Fg 2 rfl rfl rfl (by decide +kernel);(first|exact p_move rfl))|(apply Fg 3 rfl rfl rfl (by decide +kernel);(first|exact Afh rfl rfl (by omega)))|(apply Fg 5 rfl rfl rfl (by decide +kernel);(first|exact p_move rfl))|(apply Fg 6 rfl rfl rfl (by decide +kernel);(first|exact p_move rfl))))|fail)
  apply Fg 4 rfl rfl rfl (by decide +kernel) (O6 2 (by dsimp only;decide +kernel) rfl rfl (by omega));apply Fg 7 rfl rfl rfl (by decide +kernel) (O6 2 (by dsimp only;decide +kernel) rfl rfl (by omega));refine Bru 8 rfl (by decide +kernel) ?_;refine Arn 0 rfl rfl Pb rfl rfl rfl (An8 (n:=(n-i)*2) 0 rfl) ?_ ?_ ?_ ?_
  ·have:Nat.min (((n:Int)+((1:Nat):Int)).toNat-(i:Int).toNat) (((n:Int)+((1:Nat):Int)).toNat-((i:Int)+((1:Nat):Int)).toNat)=n-i:=(Nat.min_eq_right (by omega)).trans (by omega);rw[this,List.length_take,Za2];omega
  ·simp only[List.length_take,Za2];omega
  ·intro v hv;exact Br1 h1 hin (by simpa using hv)
  ·repeat' (first|(refine Eo ?_;(first|refine Ca ?_|(apply Au rfl rfl;(first|exact p_move rfl))|(apply Au rfl rfl;exact O6 2 (by dsimp only;decide +kernel) rfl rfl (by omega))))|(refine Em ?_;(first|refine Dw ?_|refine Bg ?_))|(refine Ej ?_;(first|refine Cb ?_|(refine A7a It ?_)))|(refine Bpv ?_;(first|refine Br3 (by decide +kernel) ?_))|fail)
   refine Arn (zs:=ys) 0 rfl rfl Pb rfl rfl rfl (λw hs=>hs.here) ?_ ?_ hy1 ?_
   ·rw[hy,show Nat.min 1 _=1 from Nat.min_eq_left (by omega)]
   ·simp only[Zh1,List.length_take,Za2];omega
   ·repeat' (first|(refine Eo ?_;(first|refine Ca ?_|(apply Au rfl rfl;(first|exact p_move rfl|exact p_assign rfl))))|(refine Em ?_;(first|refine Dw ?_|refine Bg ?_|refine B5 rfl rfl ?_))|(refine Ej ?_;(first|refine Cb ?_))|fail)
    have e1:((n:Int)+((1:Nat):Int)).toNat=n+1:=by omega
    have e2:((i:Int)+((1:Nat):Int)).toNat=i+1:=by omega
    simp only[e1,e2,Int.toNat_natCast,Nat.zero_add];have hd:=Blm (cs:=cs) hin (by omega) hy rfl;exact B1 (.inl ⟨_,rfl,by omega,rfl,hd.1,hd.2⟩)
set_option maxRecDepth 20000 in
theorem Bjg(a:Option Addr)(vb vo vc:Nat)(ys:List Value)(hy:ys.length=2)(hy1:∀v,v∈ys->one v=true) :
  Con Tryz.prog 184 [.slice a 0 0,.int .i64 0,.slice (some ⟨vb,vo,none⟩) 1 vc] [] (λw=>∀(j:Nat) v,ys[j]? = some v->w.cell? ⟨vb,vo+j,none⟩=some v) (λv L _=>∃b cap' cs',v = .slice (some ⟨b,0,none⟩) 1 cap'/\1<=cap'/\cap'<=maxLen/\L=[.blk b cs' 59]/\cs'.length=cap'*2/\cs'.take 2=ys):=by
 refine Bn Tryz.func184 Tryz.ntmps184 rfl (by kernel_rfl) rfl λw M =>?_
 repeat' (first|(refine Eo ?_;(first|refine Ca ?_|(apply Au rfl rfl;(first|exact p_move rfl|exact p_assign rfl|exact p_lensl (by dsimp only;decide +kernel) rfl|exact p_eql rfl rfl))|(apply Au rfl rfl;exact A3z 2 (by dsimp only;decide +kernel) rfl rfl (by omega))))|(refine Em ?_;(first|refine Dw ?_|refine Bg ?_|refine Ed ?_|(refine Iz rfl ?_ ?_<;>intro hc<;>try (first|contradiction))))|(refine Ej ?_;(first|refine Cb ?_))|fail)
 refine A0r (zs:=ys) rfl rfl Pb rfl rfl (λw hs=>hs.here) (by rw[hy]) (by omega) (by simp only[maxLen];omega) (by omega) hy1 ?_;intro b' q tl hq1 hq2 htl
 repeat' (first|(refine Eo ?_;(first|refine Ca ?_|(apply Au rfl rfl;(first|exact p_assign rfl))))|(refine Em ?_;(first|refine B5 rfl rfl ?_))|(refine Ej ?_;(first|refine Cb ?_))|fail)
 refine B1 ⟨_,_,_,rfl,hq1,hq2,rfl,by simp;omega,?_⟩;exact List.take_left' hy
end Go.Proofs.YtcoaaebppfbbnaaGreatDoor
namespace Go.Proofs.YtcoaaebppfbbnaaGreatDoor
open Go.Ax
theorem Avs:ClOk Tryz.prog 178 (elT .str) (csz .str):=⟨Sx.enters_of Tryz.func178 rfl (by kernel_rfl),Ar3⟩
def Lr(l:List (Str)):Option (List (Str)):=cond (decide (l.length<=2000000)) (some l) none
def Wz:FT [.sl .str false] [.sl .str true]:=λx=>Lr x
theorem Ads:FO 178 [.sl .str false] [.sl .str true] Wz:=Aah Avs
theorem Au0:ClOk Tryz.prog 177 (elT .col) (csz .col):=⟨Sx.enters_of Tryz.func177 rfl (by kernel_rfl),Atf⟩
def Akj(l:List (Col)):Option (List (Col)):=cond (decide (l.length<=2000000)) (some l) none
def Amb:FT [.sl .col false] [.sl .col true]:=λx=>Akj x
theorem Awo:FO 177 [.sl .col false] [.sl .col true] Amb:=Aah Au0
theorem Acz:ClOk Tryz.prog 225 (elT .expr) (csz .expr):=⟨Sx.enters_of Tryz.func225 rfl (by kernel_rfl),Att⟩
theorem Ay7:ClOk Tryz.prog 185 (elT .idx) (csz .idx):=⟨Sx.enters_of Tryz.func185 rfl (by kernel_rfl),Auu⟩
theorem Z1:Ah2 Tryz.prog 225:=Amq
theorem Ar1:Ah2 Tryz.prog 185:=Amu
theorem Bul:InsOk Tryz.prog 184 (elT .idx):=⟨Sx.enters_of Tryz.func184 rfl (by kernel_rfl),λ_ _ _ _ _ _ _ _ _ h1 h2 h3 h4 h5 h6 h7 h8 h9=>Boz _ _ _ _ _ _ _ _ _ h1 h2 h3 h4 h5 h6 h7 h8 h9,λ_ _ _ _ _ h1 h2=>Bjg _ _ _ _ _ h1 h2⟩
end Go.Proofs.YtcoaaebppfbbnaaGreatDoor
namespace Go.Proofs.YtcoaaebppfbbnaaGreatDoor.Lp
open Go.Sx Go.RowKit
abbrev Tok:=Go.Ax.Tok
def pre(l m:List UInt8):Bool:=decide (m.length<=l.length)&&decide (l.take m.length=m)
theorem Aca(a b c d:Int)(h : 0<=a/\a<=c)(h' : 0<=b/\b<=d) : 0<=a*b/\a*b<=c*d :=⟨Int.mul_nonneg h.1 h'.1,Int.mul_le_mul h.2 h'.2 h'.1 (by omega)⟩
theorem Acj(x y:Int):x*y=(x / 4294967296)*(y / 4294967296)*18446744073709551616+((x / 4294967296)*(y % 4294967296)+(x % 4294967296)*(y / 4294967296))*4294967296+(x % 4294967296)*(y % 4294967296):=by grind
def inI(n:Int):Prop := -9223372036854775808<=n/\n<=9223372036854775807
instance (n:Int):Decidable (inI n):=by unfold inI;infer_instance
def Mc(n:Int):Int:=if n<0 then -n else n
def vis(c:Int):Bool:=decide (32<=c)&&decide (c<=126)
theorem Bcj(l:List UInt8)(j:Int)(h : 0<=j/\j<l.length):l.drop j.toNat=l.getD j.toNat 0::l.drop (j+1).toNat:=by
 have h1:j.toNat<l.length:=by omega
 have h2:(j+1).toNat=j.toNat+1:=by omega
 rw[h2,List.drop_eq_getElem_cons h1];simp[ h1]
theorem Ags(p:Int->Bool)(l:List UInt8)(j:Int)(h : 0<=j/\j<l.length):((l.drop j.toNat).all λb=>p b.toNat)=(p (byt l j)&&(l.drop (j+1).toNat).all λb=>p b.toNat):=by rw[Bcj l j h];rfl
def Bv8(c:Int):Bool:=decide (65<=c)&&decide (c<=90)
def isLo(c:Int):Bool:=decide (97<=c)&&decide (c<=122)
def isDi(c:Int):Bool:=decide (48<=c)&&decide (c<=57)
def isIn(c:Int):Bool:=isLo c||isDi c||c == 95
def runTo(p:Int->Bool)(l:List UInt8)(i:Int):Int:=i+((l.drop i.toNat).takeWhile λb=>p b.toNat).length
theorem A5z(l:List UInt8)(j:Int)(h : 0<=j/\j<l.length):l.drop j.toNat=l.getD j.toNat 0::l.drop (j+1).toNat:=by
 have h1:j.toNat<l.length:=by omega
 have h2:(j+1).toNat=j.toNat+1:=by omega
 rw[h2,List.drop_eq_getElem_cons h1];simp[ h1]
theorem runTo_yes{p:Int->Bool}{l:List UInt8}{j:Int}(h : 0<=j/\j<l.length)(hp:p (byt l j)=true):runTo p l (j+1)=runTo p l j:=by unfold runTo;rw[A5z l j h];have:p ((l.getD j.toNat 0).toNat:Int)=true:=hp;simp only[List.takeWhile_cons,this,if_true,Zf1];omega
theorem runTo_no{p:Int->Bool}{l:List UInt8}{j:Int}(h : 0<=j/\j<l.length)(hp:p (byt l j)=false):runTo p l j=j:=by unfold runTo;rw[A5z l j h];have:p ((l.getD j.toNat 0).toNat:Int)=false:=hp;simp only[List.takeWhile_cons,this,Zj2,if_false,Zi1];omega
theorem runTo_end{p:Int->Bool}{l:List UInt8}{j:Int}(h:(l.length:Int)<=j):runTo p l j=j:=by unfold runTo;rw[Zk1 (by omega)];simp
def dg(c:Int):Int:=IntKind.i64.wrap (IntKind.u8.wrap (c-48))
def signs:List UInt8:=[40,41,44,42,61,60,62,43,45,59]
def idx(x:List UInt8):List (List UInt8)->Int->Int
 |[],_ => -1
 |l::r,i=>if x=l then i else idx x r (i+1)
theorem idx_ge(x:List UInt8):∀(ls:List (List UInt8)) (i:Int),0<=i->(0<=idx x ls i↔x∈ls)
 |[],i,_=>by simp[idx]
 |l::r,i,h=>by
  by_cases hx:x=l
  ·simp[idx,hx,h]
  ·simp[idx,hx,idx_ge x r (i+1) (by omega)]
def nameF(l:List UInt8):Bool := !decide (l=[])&&decide ((l.length:Int)<=30)&&isLo (byt l 0)&&(runTo isIn l 0 == l.length)
def signsI:List Int:=[40,41,44,42,61,60,62,43,45,59]
def clsF(c:Int):Int :=
 if Bv8 c then 1 else if isLo c then 2 else if isDi c then 3 else if c=95 then 4 else if c=39 then 5
 else if c=32\/c=9\/c=10\/c=13 then 6 else if signsI.contains c then 7 else 0
def Bti(c:Int):Bool:=decide (1<=clsF c)&&decide (clsF c<=4)
def nmOk(j c:Int):Bool:=decide (clsF c=2)||(!decide (j=0)&&(decide (clsF c=3)||decide (clsF c=4)))
def okGo:List UInt8->Int->Bool
 |[],_=>true
 |c::r,j=>nmOk j c.toNat&&okGo r (j+1)
def rnameF(l:List UInt8):Bool:=okGo l 0&&(decide (1<=(l.length:Int))&&decide ((l.length:Int)<=30))
def Bsb(l:List UInt8)(i:Int):Prop:=cut l i (runTo Bti l i)=[120]/\runTo Bti l i<l.length/\byt l (runTo Bti l i)=39
instance (l:List UInt8) (i:Int):Decidable (Bsb l i):=by unfold Bsb;infer_instance
def Bvx(l:List UInt8)(i:Int):Prop:=i+1<l.length/\(cut l i (i+2)=[60,62]\/cut l i (i+2)=[60,61]\/cut l i (i+2)=[62,61])
instance (l:List UInt8) (i:Int):Decidable (Bvx l i):=by unfold Bvx;infer_instance
theorem Bsa{p:Int->Prop}(h:∀n:Fin 256,p (n.val:Int))(c:Int)(hc : 0<=c/\c<=255):p c:=by have:=h ⟨c.toNat,by omega⟩;simpa[Int.toNat_of_nonneg hc.1] using this
theorem H4(b:UInt8) : 0<=(b.toNat:Int)/\(b.toNat:Int)<=255:=by have:=b.toNat_lt;omega
def tw(p:Int->Bool)(m:List UInt8):List UInt8:=m.takeWhile λb=>p b.toNat
theorem Bg3(p:Int->Bool)(l:List UInt8)(i:Int):runTo p l i=i+(tw p (l.drop i.toNat)).length:=rfl
theorem Bp6(l:List UInt8):∀j:Int,0<j->okGo l j=l.all λb=>isIn b.toNat:=by
 induction l with
 |nil=>intro j _;rfl
 |cons c l ih =>
  intro j hj;have hc:=H4 c;have key:∀n:Fin 256,(decide (clsF (n.val:Int)=2)||(decide (clsF (n.val:Int)=3)||decide (clsF (n.val:Int)=4)))=isIn (n.val:Int):=by decide +kernel
  have hk:=Bsa (p:=λc=>(decide (clsF c=2)||(decide (clsF c=3)||decide (clsF c=4)))=isIn c) key c.toNat hc;simp[okGo,ih (j+1) (by omega),nmOk,show decide (j=0)=false by simp;omega,hk]
theorem Bal(c:UInt8)(l:List UInt8):okGo (c::l) 0=(isLo c.toNat&&l.all λb=>isIn b.toNat):=by
 have hc:=H4 c;have key:∀n:Fin 256,decide (clsF (n.val:Int)=2)=isLo (n.val:Int):=by decide +kernel
 have hk:=Bsa (p:=λc=>decide (clsF c=2)=isLo c) key c.toNat hc;simp only[okGo,nmOk,decide_true,Zt1,Bool.false_and,Bool.or_false,hk];rw[Bp6 l (0+1) (by omega)]
theorem A7m{p:Int->Bool}:∀m:List UInt8,(tw p m).length=m.length↔m.all (λb=>p b.toNat)=true
 |[]=>by simp[tw]
 |x::m=>by have ih:=A7m (p:=p) m;unfold tw at *;cases hp:p x.toNat with|true=>simp[ hp,<-ih]|false=>simp[hp]
theorem Bvs{c:Int}(h:isLo c=true):isIn c=true:=by simp[isIn,h]
theorem name_eq(x:List UInt8):nameF x=rnameF x:=by
 cases x with
 |nil=>rfl
 |cons c x =>
  have hrun:(runTo isIn (c::x) 0 == ((c::x).length:Int))=(c::x).all λb=>isIn b.toNat:=by rw[Bool.eq_iff_iff,<-A7m,beq_iff_eq,Bg3];simp[Int.toNat_zero,Zq1];omega
  have hb:byt (c::x) 0=(c.toNat:Int):=rfl;simp only[nameF,rnameF,Bal,hrun,hb];rw[Bool.eq_iff_iff];simp only[Zb1,Zg1,Zv1,Zf1];constructor
  ·rintro⟨⟨⟨_,h1⟩,h2⟩,h3⟩;exact⟨⟨h2,h3.2⟩,by omega,h1⟩
  ·rintro⟨⟨h2,h3⟩,_,h1⟩;exact⟨⟨⟨by simp,h1⟩,h2⟩,Bvs h2,h3⟩
theorem Bwp{x:List UInt8}(hne:x≠[]):(decide (x=[48])||byt x 0 != 48)=true↔¬(1<(x.length:Int)/\byt x 0=48):=by
 cases x with
 |nil=>exact absurd rfl hne
 |cons c x =>
  have hb:byt (c::x) 0=(c.toNat:Int):=rfl;have hc:(c.toNat:Int)=48↔c=48:=by rw[<-UInt8.toNat_inj];simp;omega
  rw[hb];simp only[Zd2,Zg1,bne_iff_ne,ne_eq,Ze2,Zf1,hc];constructor
  ·rintro(⟨_,h⟩|h) ⟨h1,h2⟩
   ·subst h;simp at h1
   ·exact h h2
  ·intro h;by_cases h2:c=48
   ·left;refine⟨h2,?_⟩;cases x with|nil=>rfl|cons d x=>exact absurd ⟨by simp;omega,h2⟩ h
   ·exact .inr h2
end Go.Proofs.YtcoaaebppfbbnaaGreatDoor.Lp
namespace Go.Ax
theorem FnOk.ofIs{P:Program}{el:Ck->TypeId}{gl:Nat->Option Gv}{f:FuncId}{sa sr:List Sg}{F:FT sa sr}(he:Sx.Enters P f)(ho:Be 0 sr=[])(h:∀x r,F x=some r->∃(us:List Value) (v:Value),(∀X vs,Reps X (B3 0 sa x) vs->vs=us)/\Sx.Con P f us [] (λ_=>True) (Sx.Is v)/\∀X,BdL sa x->Rep X (Ge (B3 0 sr r)) v):FnOk P el gl f sa sr F:=by
 refine⟨he,λx r hx w M vs hM hgl hr =>?_⟩;obtain⟨us,v,h1,h2,h3⟩:=h x r hx;obtain rfl:=h1 _ _ hr;refine(h2.calls w (λ_ _=>trivial)).mono ?_;rintro en w' ⟨u,L',F',rfl,⟨rfl,_,_⟩,_,hb⟩;refine⟨u,⟨λ_=>0,λ_=>Option.none⟩,rfl,Chg.of_below hb,λp g o hp =>?_,λp q g o o' hp =>?_,h3 _ (Y8 hr)⟩
 ·rw[ho] at hp;cases hp
 ·rw[ho] at hp;cases hp
end Go.Ax
namespace Go.Proofs.YtcoaaebppfbbnaaGreatDoor
open Go.Ax
open Go.Sx (Con S Is Bn Bri)
theorem Auz(a b:Str)(w:World):(callFunc 193 #[S a,S b]).run Tryz.prog w = .ok (.value (.int .i64 (Lib.compareBytes a b))) w:=by rw[run_callFunc_extern Tryz.func193 (by kernel_rfl) rfl (by kernel_rfl) (e:=Extern.BytealgCompare.compare) (by kernel_rfl)];simp[Lib.run_compareString]
set_option maxRecDepth 20000 in
open Go.Sx in
theorem Adx(a b:Str):Con Tryz.prog 140 [S a,S b] [] (λ_=>True) (Is (.int .i64 (Lib.compareBytes a b))):=by
 refine Bn Tryz.func140 Tryz.ntmps140 rfl (by kernel_rfl) rfl λw M =>?_
 repeat' (first|refine Dw ?_|refine Bg ?_|refine Ca ?_|refine Cb ?_|refine Bvd ?_|refine Bnk ?_|refine Ed ?_|refine Bss ?_|refine Bt5 ?_|refine Bva ?_|refine Bsx ?_|refine Bu5 rfl ?_|refine Bnl ?_|refine Bp7 ?_|refine Bnw ?_|refine Boj ?_|(apply Au rfl rfl;(first|exact p_move rfl|exact p_assign rfl|exact p_lens (by dsimp only;decide +kernel) rfl|exact p_lensl (by dsimp only;decide +kernel) rfl|exact p_extract rfl rfl|exact p_pick_t rfl rfl|exact p_pick_f rfl rfl|exact p_eql rfl rfl|exact p_neq rfl rfl|exact p_lss rfl rfl|exact p_leq rfl rfl|exact p_gtr rfl rfl|exact p_geq rfl rfl|exact p_not rfl|exact p_eqls rfl rfl|exact p_neqs rfl rfl|exact Afh rfl rfl (by omega)|exact Kj rfl rfl (by omega)|exact p_index (by dsimp only;decide +kernel) rfl rfl (by omega)|exact p_cut (by dsimp only;decide +kernel) rfl rfl rfl (by omega)|exact p_cutlo (by dsimp only;decide +kernel) rfl rfl (by omega)|exact p_cuthi (by dsimp only;decide +kernel) rfl rfl (by omega)|exact p_fa (fo:=0) (by dsimp only;decide +kernel) rfl|exact p_fa (fo:=1) (by dsimp only;decide +kernel) rfl|exact p_fa (fo:=2) (by dsimp only;decide +kernel) rfl|exact p_fa (fo:=3) (by dsimp only;decide +kernel) rfl|exact Bus rfl))|refine Bu9 rfl rfl ?_|refine A4s rfl ?_|(apply Au rfl rfl (Bov rfl rfl (Auz _ _)))|(refine Bvc rfl rfl ?_ ?_<;>intro hc)|(refine Bvm rfl rfl ?_ ?_<;>intro hc)|(refine Bvq rfl rfl ?_ ?_<;>intro hc)|(refine Buo rfl rfl ?_ ?_<;>intro hc)|(refine Bu8 rfl rfl ?_ ?_<;>intro hc)|(refine Bwo rfl rfl ?_ ?_<;>intro hc)|refine Axa rfl rfl ?_|refine Azd rfl rfl ?_|refine Axa rfl (Ze1 (by omega)) ?_|refine Azd rfl (Zd1 (by omega)) ?_|(refine Iz rfl ?_ ?_<;>intro hc)|(refine Bow rfl ?_ ?_<;>intro hc)|(refine Bpj rfl ?_ ?_<;>intro hc)|(refine Biy rfl ?_ ?_<;>intro hc)|(refine Bo7 rfl ?_ ?_<;>intro hc)|(refine Ea rfl ?_ ?_<;>intro hc)|refine B5 rfl rfl ?_|refine Btz rfl rfl rfl ?_|refine Btj rfl rfl rfl rfl ?_|fail)
 exact Bri rfl
def Hl(a b:Str):Int:=Lib.compareBytes a b
def A4b:FT [.str,.str] [.int .i64]:=λx=>some (Hl x.1 x.2)
theorem O7:∀(a b:Str),Hl a b = -1\/Hl a b=0\/Hl a b=1
 |[],[]=>by simp[Hl,Lib.compareBytes]
 |[],_::_=>by simp[Hl,Lib.compareBytes]
 |_::_,[]=>by simp[Hl,Lib.compareBytes]
 |a::l,b::m=>by
  have ih:=O7 l m;simp only[Hl,Lib.compareBytes] at ih ⊢;split
  ·simp
  ·grind
theorem Bp9:FO 140 [.str,.str] [.int .i64] A4b:=by
 refine FnOk.ofIs (Adx [] []).enters rfl λx r hx =>?_;obtain⟨a,b⟩:=x;simp only[A4b,Za1] at hx;subst hx;refine⟨[S a,S b],_,λX vs h =>?_,Adx a b,λX hb =>?_⟩
 ·simp only[B3,C4,Reps,Rep] at h;obtain⟨u,us,rfl,⟨rfl,_⟩,u2,us2,rfl,⟨rfl,_⟩,rfl⟩:=h;rfl
 ·simp only[Ge,B3,C4];have h:=O7 a b;refine C7 (Azs ?_);simp only[IntKind.min,IntKind.max,IntKind.signed,IntKind.bits];simp only[if_true];omega
end Go.Proofs.YtcoaaebppfbbnaaGreatDoor
namespace Go.Proofs.YtcoaaebppfbbnaaGreatDoor
open Go.Ax
def Y2:Sig:=⟨20,[(0,.str),(2,.bool),(5,.int .i64),(6,.int .i64)],[],[],0,0,0,[],[]⟩
abbrev K5:=Str×Bool×Int×Int
def Jd{R:Type}(rec:K5->Option R)(kx:Ex->K5->Option R)(v:K5):Option R:=match v with
 |(v,v1,v2,v3) =>
 cond (decide (v3<v2)) (
  chk (inb v3 v.length) (
  cond (decide ((bat v v3)<32)) (
   kx .ret (v,false,v2,v3)) (
   chk (inb v3 v.length) (
   cond (decide (126<(bat v v3))) (
    kx .ret (v,false,v2,v3)) (
    rec (v,v1,v2,(wr .i64 (v3+1)))))))) (
  kx (.exit 0) (v,v1,v2,v3))
def Ah8(R:Type)(k:Nat):Px R:=pxO [] [] [(2,Am k Y2 (Jd))] []
def As2(k:Nat)(x:HV [.str]):Option (HV [.bool]):=match x with
 |s =>
 Ak (λrec=>Jd rec (λe vz=>match vz with|(_,v5,_,_)=>match e with
  |.ret =>
  some v5
  |.exit 0 =>
  some true
  |_=>none)) k (s,false,(s.length:Int),0)
theorem Aye(k:Nat):FO 168 [.str] [.bool] (As2 k):=fR (px:=Ah8 _ k) (n:=1) Tryz.func168 rfl (λcx H=>by have h0:Lv cx (Ah8 (HV [.bool]) k):=lv H Ae Aa Ab;have hlvisible_0:=lO H h0 (b:=lp Tryz.f168 0) (k:=k) (n:=0) (s:=Y2) (step:=Jd) (λ_ _ _ (_,_,_,_)=>by kernel_rfl) Aj;exact⟨h0,(A3 Aj hlvisible_0)⟩) λ_=>by kernel_rfl
def vis(b:UInt8):Bool:=decide (32<=b.toNat)&&decide (b.toNat<=126)
def I2(s:Str):Bool:=s.all vis
def Aan:FT [.str] [.bool]:=λx=>some (I2 x)
theorem Y5{R:Type}{kx:Ex->K5->Option R}{s:Str}{a b:Option R}(hs:ln s.length)(h1:∀r j,kx .ret (s,false,r,j)=a)(h2:∀q r j,kx (.exit 0) (s,q,r,j)=b):∀(k i:Nat) q,i<=s.length->s.length-i<k->Ak (λrec=>Jd rec kx) k (s,q,(s.length:Int),(i:Int))=cond ((s.drop i).all vis) b a
 |0,i,q,_,h=>by omega
 |k+1,i,q,hi,h=>by
  rw[A0];by_cases hl:i<s.length
  ·simp only[Jd,An hl hs,(Y5 hs h1 h2 k (i+1) q (by omega) (by omega)),h1,Ah hl,Rp hl,Ao hl,Zv1,Bool.cond_decide];rw[if_pos (by omega)];simp only[vis];split
   ·rw[Zd1 (by omega)];rfl
   ·split
    ·rw[Ze1 (by omega),Zd1 (by omega)];rfl
    ·rw[Ze1 (by omega),Ze1 (by omega)];rfl
  ·simp[Jd,h2,Bool.cond_decide];rw[if_neg (by omega),Zk1 (by omega)];rfl
theorem A03:FO 168 [.str] [.bool] Aan :=.fin 0 Aye λx r hb hx=>⟨x.length+1,by simp only[Aan,Za1] at hx;have:=Y5 (a:=some false) (b:=some true) hb (kx:=λe v=>match v with|(_,v5,_,_)=>match e with|.ret=>some v5|.exit 0=>some true|_=>none) (λ_ _=>rfl) (λ_ _ _=>rfl) (x.length+1) 0 false (Nat.zero_le _) (by omega);refine Eq.trans this ?_;rw[<-hx,Zq1,I2];cases x.all vis<;>rfl⟩
def Bae(R:Type):Px R:=pxO [(168,cA Aan)] [] [] []
def Pw(x:HV [.sv .val]):Option (HV [.bool]):=match x with
 |v =>
 cond (decide (v.kind=1)) (
  cond (decide (v.n=0)) (
  some (decide (v.s=[]))) (
  some false)) (
  cond (decide (v.kind=2)) (
  cond (decide (v.n=0)) (
   some (decide (v.s=[]))) (
   cond (decide (v.n=1)) (
   some (decide (v.s=[]))) (
   some false))) (
  cond (decide (v.kind=3)) (
   some (decide (v.s=[]))) (
   cond (decide (v.kind=4)) (
   cond (decide (v.n=0)) (
    cond (decide ((v.s.length:Int)<=1000)) (
    some (I2 v.s)) (
    some false)) (
    some false)) (
   cond (decide (v.kind=5)) (
    cond (decide (v.n=0)) (
    some (decide ((v.s.length:Int)<=1000))) (
    some false)) (
    some false)))))
theorem A3s:FO 123 [.sv .val] [.bool] (Pw):=fR (px:=Bae _) (n:=0) Tryz.func123 rfl (λ_ H=>⟨lv H (c1 H A03 Ae) Aa Ab,Aj⟩) λ_=>by kernel_rfl
def Aq(v:Val):Bool :=
 cond (decide (v.kind=1)) (
  cond (decide (v.n=0)) (
  (decide (v.s=[]))) (
  false)) (
  cond (decide (v.kind=2)) (
  cond (decide (v.n=0)) (
   (decide (v.s=[]))) (
   cond (decide (v.n=1)) (
   (decide (v.s=[]))) (
   false))) (
  cond (decide (v.kind=3)) (
   (decide (v.s=[]))) (
   cond (decide (v.kind=4)) (
   cond (decide (v.n=0)) (
    cond (decide ((v.s.length:Int)<=1000)) (
    (I2 v.s)) (
    false)) (
    false)) (
   cond (decide (v.kind=5)) (
    cond (decide (v.n=0)) (
    (decide ((v.s.length:Int)<=1000))) (
    false)) (
    false)))))
theorem A1f(x:HV [.sv .val]):Pw x=some (Aq x):=by
 first
  |exact rfl
  |simp only[Pw,Aq,As]
def Agb:FT [.sv .val] [.bool]:=λx=>some (Aq x)
theorem Apt:FO 123 [.sv .val] [.bool] Agb :=.fin0 A3s λx _ _ hx=>(A1f x).trans hx
def A8q(R:Type):Px R:=pxO [(123,cA Agb)] [] [] []
def P7(x:HV [.sv .val]):Option (HV [.int .i64]):=match x with
 |v =>
 cond (!(Aq v)) (
  some 2) (
  some 0)
theorem A1p:FO 80 [.sv .val] [.int .i64] (P7):=fR (px:=A8q _) (n:=0) Tryz.func80 rfl (λ_ H=>⟨lv H (c1 H Apt Ae) Aa Ab,Aj⟩) λ_=>by kernel_rfl
def B7(v:Val):Int :=
 cond (!(Aq v)) (
  2) (
  0)
theorem A4i(x:HV [.sv .val]):P7 x=some (B7 x):=by
 first
  |exact rfl
  |simp only[P7,B7,As]
def X6:FT [.sv .val] [.int .i64]:=λx=>some (B7 x)
theorem Abv:FO 80 [.sv .val] [.int .i64] X6 :=.fin0 A1p λx _ _ hx=>(A4i x).trans hx
def Bfc(R:Type):Px R:=pxO [(123,cA Agb)] [] [] []
def Xd(x:HV [.sv .val,.int .i64]):Option (HV [.bool]):=match x with
 |(v,kind) =>
 cond ((Aq v)) (
  cond (decide (v.kind=1)) (
  some true) (
  some (decide (v.kind=kind)))) (
  some false)
theorem Bd9:FO 87 [.sv .val,.int .i64] [.bool] (Xd):=fR (px:=Bfc _) (n:=0) Tryz.func87 rfl (λ_ H=>⟨lv H (c1 H Apt Ae) Aa Ab,Aj⟩) λ(_,_)=>by kernel_rfl
def Mg(v:Val)(kind:Int):Bool :=
 cond ((Aq v)) (
  cond (decide (v.kind=1)) (
  true) (
  (decide (v.kind=kind)))) (
  false)
theorem Bas(x:HV [.sv .val,.int .i64]):Xd x=some (Mg x.1 x.2):=by
 first
  |exact rfl
  |simp only[Xd,Mg,As]
def A72:FT [.sv .val,.int .i64] [.bool]:=λx=>some (Mg x.1 x.2)
theorem Bhq:FO 87 [.sv .val,.int .i64] [.bool] A72 :=.fin0 Bd9 λx _ _ hx=>(Bas x).trans hx
def Bg0(R:Type):Px R:=pxO [] [] [] []
def W4(x:HV [.int .i64,.int .i64]):Option (HV [.int .i64]):=match x with
 |(a,b) =>
 cond (decide (a<b)) (
  some (-1)) (
  cond (decide (b<a)) (
  some 1) (
  some 0))
theorem A87:FO 92 [.int .i64,.int .i64] [.int .i64] (W4):=fR (px:=Bg0 _) (n:=0) Tryz.func92 rfl (λ_ H=>⟨lv H Ae Aa Ab,Aj⟩) λ(_,_)=>by kernel_rfl
def D7(a:Int)(b:Int):Int :=
 cond (decide (a<b)) (
  (-1)) (
  cond (decide (b<a)) (
  1) (
  0))
theorem A9j(x:HV [.int .i64,.int .i64]):W4 x=some (D7 x.1 x.2):=by
 first
  |exact rfl
  |simp only[W4,D7,As]
def A47:FT [.int .i64,.int .i64] [.int .i64]:=λx=>some (D7 x.1 x.2)
theorem Bey:FO 92 [.int .i64,.int .i64] [.int .i64] A47 :=.fin0 A87 λx _ _ hx=>(A9j x).trans hx
def Bob(R:Type):Px R:=pxO [] [] [] []
def Ab1(x:HV [.int .i64,.int .i64]):Option (HV [.int .i64,.int .i64]):=match x with
 |(a,b) =>
 cond (!decide ((decide (a<(wr .i64 (a+b))))=(decide (0<b)))) (
  some (0,20)) (
  some ((wr .i64 (a+b)),0))
theorem Ble:FO 190 [.int .i64,.int .i64] [.int .i64,.int .i64] (Ab1):=fR (px:=Bob _) (n:=0) Tryz.func190 rfl (λ_ H=>⟨lv H Ae Aa Ab,Aj⟩) λ(_,_)=>by kernel_rfl
def Yn(a:Int)(b:Int):Int×Int :=
 cond (!decide ((decide (a<(wr .i64 (a+b))))=(decide (0<b)))) (
  (0,20)) (
  ((wr .i64 (a+b)),0))
theorem Bib(x:HV [.int .i64,.int .i64]):Ab1 x=some (Yn x.1 x.2):=by
 first
  |exact rfl
  |simp only[Ab1,Yn,As]
def Bge:FT [.int .i64,.int .i64] [.int .i64,.int .i64]:=λx=>some (Yn x.1 x.2)
theorem Bqf:FO 190 [.int .i64,.int .i64] [.int .i64,.int .i64] Bge :=.fin0 Ble λx _ _ hx=>(Bib x).trans hx
def Bq2(R:Type):Px R:=pxO [] [] [] []
def Abm(x:HV [.int .i64,.int .i64]):Option (HV [.int .i64,.int .i64]):=match x with
 |(a,b) =>
 cond (!decide ((decide ((wr .i64 (a-b))<a))=(decide (0<b)))) (
  some (0,20)) (
  some ((wr .i64 (a-b)),0))
theorem Bhk:FO 191 [.int .i64,.int .i64] [.int .i64,.int .i64] (Abm):=fR (px:=Bq2 _) (n:=0) Tryz.func191 rfl (λ_ H=>⟨lv H Ae Aa Ab,Aj⟩) λ(_,_)=>by kernel_rfl
def Ms(a:Int)(b:Int):Int×Int :=
 cond (!decide ((decide ((wr .i64 (a-b))<a))=(decide (0<b)))) (
  (0,20)) (
  ((wr .i64 (a-b)),0))
theorem Bjz(x:HV [.int .i64,.int .i64]):Abm x=some (Ms x.1 x.2):=by
 first
  |exact rfl
  |simp only[Abm,Ms,As]
def Bi9:FT [.int .i64,.int .i64] [.int .i64,.int .i64]:=λx=>some (Ms x.1 x.2)
theorem Bo5:FO 191 [.int .i64,.int .i64] [.int .i64,.int .i64] Bi9 :=.fin0 Bhk λx _ _ hx=>(Bjz x).trans hx
def Bjf(R:Type):Px R:=pxO [] [] [] []
def W3(x:HV [.int .i64]):Option (HV [.int .u64]):=match x with
 |n =>
 cond (decide (n<0)) (
  some (wr .u64 (0-(wr .u64 n)))) (
  some (wr .u64 n))
theorem A9u:FO 233 [.int .i64] [.int .u64] (W3):=fR (px:=Bjf _) (n:=0) Tryz.func233 rfl (λ_ H=>⟨lv H Ae Aa Ab,Aj⟩) λ_=>by kernel_rfl
def De(n:Int):Int :=
 cond (decide (n<0)) (
  (wr .u64 (0-(wr .u64 n)))) (
  (wr .u64 n))
theorem Bdl(x:HV [.int .i64]):W3 x=some (De x):=by
 first
  |exact rfl
  |simp only[W3,De,As]
def A78:FT [.int .i64] [.int .u64]:=λx=>some (De x)
theorem Bfd:FO 233 [.int .i64] [.int .u64] A78 :=.fin0 A9u λx _ _ hx=>(Bdl x).trans hx
def Ay6(R:Type):Px R:=pxO [(140,cA A4b)] [] [] []
def K9(x:HV [.str,.str]):Option (HV [.int .i64]):=match x with
 |(a,b) =>
 some (Hl a b)
theorem As0:FO 93 [.str,.str] [.int .i64] (K9):=fR (px:=Ay6 _) (n:=0) Tryz.func93 rfl (λ_ H=>⟨lv H (c1 H Bp9 Ae) Aa Ab,Aj⟩) λ(_,_)=>by kernel_rfl
def Gg(a:Str)(b:Str):Int :=(Hl a b)
theorem Aum(x:HV [.str,.str]):K9 x=some (Gg x.1 x.2):=by
 first
  |exact rfl
  |simp only[K9,Gg,As]
def Vr:FT [.str,.str] [.int .i64]:=λx=>some (Gg x.1 x.2)
theorem Ac2:FO 93 [.str,.str] [.int .i64] Vr :=.fin0 As0 λx _ _ hx=>(Aum x).trans hx
def Bpd(R:Type):Px R:=pxO [(92,cA A47),(93,cA Vr)] [] [] []
def Aar(x:HV [.sv .val,.sv .val]):Option (HV [.int .i64]):=match x with
 |(a,b) =>
 cond (!decide ((D7 a.kind b.kind)=0)) (
  some (D7 a.kind b.kind)) (
  cond (!decide ((D7 a.n b.n)=0)) (
  some (D7 a.n b.n)) (
  some (Gg a.s b.s)))
theorem Bmg:FO 56 [.sv .val,.sv .val] [.int .i64] (Aar):=fR (px:=Bpd _) (n:=0) Tryz.func56 rfl (λ_ H=>⟨lv H (c1 H Bey (c1 H Ac2 Ae)) Aa Ab,Aj⟩) λ(_,_)=>by kernel_rfl
def Nw(a:Val)(b:Val):Int :=
 cond (!decide ((D7 a.kind b.kind)=0)) (
  (D7 a.kind b.kind)) (
  cond (!decide ((D7 a.n b.n)=0)) (
  (D7 a.n b.n)) (
  (Gg a.s b.s)))
theorem Bkk(x:HV [.sv .val,.sv .val]):Aar x=some (Nw x.1 x.2):=by
 first
  |exact rfl
  |simp only[Aar,Nw,As]
def A2w:FT [.sv .val,.sv .val] [.int .i64]:=λx=>some (Nw x.1 x.2)
theorem A5v:FO 56 [.sv .val,.sv .val] [.int .i64] A2w :=.fin0 Bmg λx _ _ hx=>(Bkk x).trans hx
def Blh(R:Type):Px R:=pxO [] [] [] []
def W7(x:HV [.int .u64,.int .u64]):Option (HV [.int .u64,.int .u64]):=match x with
 |(a,b) =>
 some ((wr .u64 ((wr .u64 ((wr .u64 ((Ev .u64 a 32)*(Ev .u64 b 32)))+(Ev .u64 (wr .u64 ((wr .u64 ((Ev .u64 a 32)*(Pm .u64 b 4294967295)))+(Ev .u64 (wr .u64 ((Pm .u64 a 4294967295)*(Pm .u64 b 4294967295))) 32))) 32)))+(Ev .u64 (wr .u64 ((Pm .u64 (wr .u64 ((wr .u64 ((Ev .u64 a 32)*(Pm .u64 b 4294967295)))+(Ev .u64 (wr .u64 ((Pm .u64 a 4294967295)*(Pm .u64 b 4294967295))) 32))) 4294967295)+(wr .u64 ((Pm .u64 a 4294967295)*(Ev .u64 b 32))))) 32))),(wr .u64 (a*b)))
theorem Baq:FO 232 [.int .u64,.int .u64] [.int .u64,.int .u64] (W7):=fR (px:=Blh _) (n:=0) Tryz.func232 rfl (λ_ H=>⟨lv H Ae Aa Ab,Aj⟩) λ(_,_)=>by kernel_rfl
def Hb(a:Int)(b:Int):Int×Int :=((wr .u64 ((wr .u64 ((wr .u64 ((Ev .u64 a 32)*(Ev .u64 b 32)))+(Ev .u64 (wr .u64 ((wr .u64 ((Ev .u64 a 32)*(Pm .u64 b 4294967295)))+(Ev .u64 (wr .u64 ((Pm .u64 a 4294967295)*(Pm .u64 b 4294967295))) 32))) 32)))+(Ev .u64 (wr .u64 ((Pm .u64 (wr .u64 ((wr .u64 ((Ev .u64 a 32)*(Pm .u64 b 4294967295)))+(Ev .u64 (wr .u64 ((Pm .u64 a 4294967295)*(Pm .u64 b 4294967295))) 32))) 4294967295)+(wr .u64 ((Pm .u64 a 4294967295)*(Ev .u64 b 32))))) 32))),(wr .u64 (a*b)))
theorem Baa(x:HV [.int .u64,.int .u64]):W7 x=some (Hb x.1 x.2):=by
 first
  |exact rfl
  |simp only[W7,Hb,As]
def A5d:FT [.int .u64,.int .u64] [.int .u64,.int .u64]:=λx=>some (Hb x.1 x.2)
theorem Bir:FO 232 [.int .u64,.int .u64] [.int .u64,.int .u64] A5d :=.fin0 Baq λx _ _ hx=>(Baa x).trans hx
def Bpt(R:Type):Px R:=pxO [(233,cA A78),(232,cA A5d)] [] [] []
def Abq(x:HV [.int .i64,.int .i64]):Option (HV [.int .i64,.int .i64]):=match x with
 |(a,b) =>
 let j1:=λ(p3:Bool) =>
  cond (p3) (
  some (0,20)) (
  cond (!decide ((decide (a<0))=(decide (b<0)))) (
   some ((wr .i64 (wr .u64 (0-(Hb (De a) (De b)).2))),0)) (
   some ((wr .i64 ((Hb (De a) (De b)).2)),0)))
 let j:=λ(p:Bool) =>
  cond (p) (
  j1 true) (
  cond (decide ((Hb (De a) (De b)).2=9223372036854775808)) (
   j1 (!(!decide ((decide (a<0))=(decide (b<0)))))) (
   j1 false))
 cond (decide (0<(Hb (De a) (De b)).1)) (
  j true) (
  j (decide (9223372036854775808<(Hb (De a) (De b)).2)))
theorem Bh1:FO 192 [.int .i64,.int .i64] [.int .i64,.int .i64] (Abq):=fR (px:=Bpt _) (n:=0) Tryz.func192 rfl (λ_ H=>⟨lv H (c1 H Bfd (c1 H Bir Ae)) Aa Ab,Aj⟩) λ(_,_)=>by kernel_rfl
def Yk(a:Int)(b:Int):Int×Int :=
 let j1:=λ(p3:Bool) =>
  cond (p3) (
  (0,20)) (
  cond (!decide ((decide (a<0))=(decide (b<0)))) (
   ((wr .i64 (wr .u64 (0-(Hb (De a) (De b)).2))),0)) (
   ((wr .i64 ((Hb (De a) (De b)).2)),0)))
 let j:=λ(p:Bool) =>
  cond (p) (
  j1 true) (
  cond (decide ((Hb (De a) (De b)).2=9223372036854775808)) (
   j1 (!(!decide ((decide (a<0))=(decide (b<0)))))) (
   j1 false))
 cond (decide (0<(Hb (De a) (De b)).1)) (
  j true) (
  j (decide (9223372036854775808<(Hb (De a) (De b)).2)))
theorem Bl8(x:HV [.int .i64,.int .i64]):Abq x=some (Yk x.1 x.2):=by
 first
  |exact rfl
  |simp only[Abq,Yk,As]
def Bmv:FT [.int .i64,.int .i64] [.int .i64,.int .i64]:=λx=>some (Yk x.1 x.2)
theorem Bop:FO 192 [.int .i64,.int .i64] [.int .i64,.int .i64] Bmv :=.fin0 Bh1 λx _ _ hx=>(Bl8 x).trans hx
theorem Bu1{i:Int}{n:Nat}(h : 0<=i/\i<n):inb i n=true:=by simp[inb,h]
def Bki(R:Type):Px R:=pxO [] [] [] []
def We(x:HV [.int .u8]):Option (HV [.bool]):=match x with
 |c =>
 cond (decide (97<=c)) (
  some (decide (c<=122))) (
  some false)
theorem Bbo:FO 228 [.int .u8] [.bool] (We):=fR (px:=Bki _) (n:=0) Tryz.func228 rfl (λ_ H=>⟨lv H Ae Aa Ab,Aj⟩) λ_=>by kernel_rfl
def Aef(c:Int):Bool :=
 cond (decide (97<=c)) (
  (decide (c<=122))) (
  false)
theorem A81(x:HV [.int .u8]):We x=some (Aef x):=by
 first
  |exact rfl
  |simp only[We,Aef,As]
def Atg:FT [.int .u8] [.bool]:=λx=>some (Aef x)
theorem Azr:FO 228 [.int .u8] [.bool] Atg :=.fin0 Bbo λx _ _ hx=>(A81 x).trans hx
def Bfw(R:Type):Px R:=pxO [] [] [] []
def Wq(x:HV [.int .u8]):Option (HV [.bool]):=match x with
 |c =>
 cond (decide (48<=c)) (
  some (decide (c<=57))) (
  some false)
theorem Bap:FO 268 [.int .u8] [.bool] (Wq):=fR (px:=Bfw _) (n:=0) Tryz.func268 rfl (λ_ H=>⟨lv H Ae Aa Ab,Aj⟩) λ_=>by kernel_rfl
def Aiz(c:Int):Bool :=
 cond (decide (48<=c)) (
  (decide (c<=57))) (
  false)
theorem Bbu(x:HV [.int .u8]):Wq x=some (Aiz x):=by
 first
  |exact rfl
  |simp only[Wq,Aiz,As]
def A8f:FT [.int .u8] [.bool]:=λx=>some (Aiz x)
theorem Bg1:FO 268 [.int .u8] [.bool] A8f :=.fin0 Bap λx _ _ hx=>(Bbu x).trans hx
def Bez(R:Type):Px R:=pxO [(228,cA Atg),(268,cA A8f)] [] [] []
def Wm(x:HV [.int .u8]):Option (HV [.bool]):=match x with
 |c =>
 cond ((Aef c)) (
  some true) (
  cond ((Aiz c)) (
  some true) (
  some (decide (c=95))))
theorem Bc7:FO 230 [.int .u8] [.bool] (Wm):=fR (px:=Bez _) (n:=0) Tryz.func230 rfl (λ_ H=>⟨lv H (c1 H Azr (c1 H Bg1 Ae)) Aa Ab,Aj⟩) λ_=>by kernel_rfl
def Anh(c:Int):Bool :=
 cond ((Aef c)) (
  true) (
  cond ((Aiz c)) (
  true) (
  (decide (c=95))))
theorem Bb8(x:HV [.int .u8]):Wm x=some (Anh x):=by
 first
  |exact rfl
  |simp only[Wm,Anh,As]
def A5r:FT [.int .u8] [.bool]:=λx=>some (Anh x)
theorem Be0:FO 230 [.int .u8] [.bool] A5r :=.fin0 Bc7 λx _ _ hx=>(Bb8 x).trans hx
theorem A0i(c:Int):Aef c=Lp.isLo c:=by simp only[Aef,Lp.isLo];cases decide (97<=c)<;>rfl
theorem Bgo(c:Int):Aiz c=Lp.isDi c:=by simp only[Aiz,Lp.isDi];cases decide (48<=c)<;>rfl
theorem Bh4(c:Int):Anh c=Lp.isIn c:=by simp[Anh,Lp.isIn,A0i,Bgo];cases Lp.isLo c<;>cases Lp.isDi c<;>rfl
def Af8:Sig:=⟨21,[(0,.str),(1,.int .i64)],[(2,.fn 230 [])],[],40,40,200,[],[]⟩
abbrev Ue:=Str×Int
def Sy{R:Type}(rec:Ue->Option R)(kx:Ex->Ue->Option R)(v:Ue):Option R:=match v with
 |(v,v1) =>
 cond (decide (v1<(v.length:Int))) (
  chk (inb v1 v.length) (
  cond ((Anh (bat v v1))) (
   rec (v,(wr .i64 (v1+1)))) (
   kx (.exit 0) (v,v1)))) (
  kx (.exit 0) (v,v1))
def Akh(R:Type)(k:Nat):Px R:=pxO [(230,cA A5r)] [] [(1,Am k Af8 (Sy))] []
noncomputable def Az1(R:Type)(k:Nat):Px R:=pxO [(228,cA Atg),(229,Bi 40 200 (Akh R k) Tryz.f229)] [] [] []
def Al3(k:Nat)(x:HV [.str]):Option (HV [.bool]):=match x with
 |s =>
 let j1:=λ(p:Bool) =>
  let j:=λ(p1:Bool) =>
  cond (p1) (
   Ak (λrec=>Sy rec (λe vz=>match vz with|(_,v3)=>match e with
   |.exit 0 =>some (decide (v3=(s.length:Int)))
   |_=>none)) k (s,0)) (
   some false)
  cond (p) (
  chk (inb 0 s.length) (
   j (Aef (bat s 0)))) (
  j false)
 cond (!decide (s=[])) (
  j1 (decide ((s.length:Int)<=30))) (
  j1 false)
theorem Bb0(k:Nat):FO 187 [.str] [.bool] (Al3 k):=fR (px:=Az1 _ k) (n:=0) Tryz.func187 rfl (λcx H=>by have h1:Lv cx (Akh (HV [.bool]) k):=lv H (c1 H Be0 Ae) Aa Ab;have hllname_0:=lO H h1 (b:=lp Tryz.f229 0) (k:=k) (n:=0) (s:=Af8) (step:=Sy) (λ_ _ _ (_,_)=>by kernel_rfl) Aj;have h0:Lv cx (Az1 (HV [.bool]) k):=lv H (c1 H Azr (A2 (cR H h1 Tryz.func229 rfl (n:=1) ((A3 Aj hllname_0))) Ae)) Aa Ab;exact⟨h0,Aj⟩) λ_=>by kernel_rfl
abbrev Cj(s:Str):Bool:=Lp.nameF s
def R0:FT [.str] [.bool]:=λx=>some (Cj x)
theorem Y9{R:Type}{kx:Ex->Ue->Option R}{s:Str}  {a:Int->Option R}(hs:ln s.length) (h1:∀j,kx (.exit 0) (s,j)=a j):∀(k i:Nat),i<=s.length->s.length-i<k->Ak (λrec=>Sy rec kx) k (s,(i:Int))=a (Lp.runTo Lp.isIn s i)
 |0,i,_,h=>absurd h (Zm1 _)
 |k+1,i,hi,h=>by
  rw[A0];by_cases hl:i<s.length
  ·have ih:=Y9  hs h1 k (i+1) (by omega) (by omega);have eb:Sx.byt s (i:Int)=(s[i].toNat:Int):=Rp hl;simp only[Sy,An hl hs,ih,h1,Rp hl,Ao hl,Bh4];rw[Ze1 (show(i:Int)<(s.length:Int) by omega)];cases hp:Lp.isIn (s[i].toNat:Int) with|true =>have:=Lp.runTo_yes (p:=Lp.isIn) (l:=s) (j:=i) (by omega) (by rw[eb];exact hp);rw[<-this];rfl|false =>have:=Lp.runTo_no (p:=Lp.isIn) (l:=s) (j:=i) (by omega) (by rw[eb];exact hp);rw[this];rfl
  ·have:=Lp.runTo_end (p:=Lp.isIn) (l:=s) (j:=i) (by omega);simp only[Sy,h1];rw[Zd1 (by omega),this];rfl
theorem Yj:FO 187 [.str] [.bool] R0 :=.fin 0 Bb0 λs r hb hx=>⟨s.length+1,by
 simp only[R0,Za1] at hx;rw[<-hx];simp only[Al3,Cj,Lp.nameF];by_cases he:s=[]
 ·rw[Ze1 he];rfl
 ·rw[Zd1 he];simp only[Zs1,Ag,Bool.true_and];by_cases h30:(s.length:Int)<=30
  ·have hp : 0<s.length:=List.length_pos_iff.2 he;rw[Ze1 h30,Bu1 (by omega),A0i];simp only[chk,Ag,Bool.true_and];have eb:bat s 0=Sx.byt s 0:=rfl;rw[eb];cases Lp.isLo (Sx.byt s 0) with|false=>rfl|true =>simp only[Ag,Bool.true_and];exact Y9 (s:=s) (a:=λj=>some (decide (j=(s.length:Int)))) hb (λ_=>rfl) (s.length+1) 0 (Nat.zero_le _) (by omega)
  ·rw[Zd1 h30];rfl⟩
theorem wru(n:Int):wr .u64 n=n % 18446744073709551616:=by simp[wr,IntKind.wrap,IntKind.bits,IntKind.signed]
theorem wri(n:Int):wr .i64 n=if 9223372036854775808<=n % 18446744073709551616 then n % 18446744073709551616-18446744073709551616 else n % 18446744073709551616:=by simp[wr,IntKind.wrap,IntKind.bits,IntKind.signed]
theorem M6{n:Int}(h : 0<=n/\n<=18446744073709551615):wr .u64 n=n:=by rw[wru];omega
theorem Asb{a:Int}(h : 0<=a/\a<=18446744073709551615):Pm .u64 a 4294967295=a % 4294967296:=by
 obtain⟨n,rfl⟩:=Int.eq_ofNat_of_zero_le h.1;have hn:n<18446744073709551616:=by omega
 have e2:(BitVec.ofInt IntKind.u64.bits (n:Int) &&& BitVec.ofInt IntKind.u64.bits 4294967295).toNat=n % 4294967296:=by show(BitVec.ofInt 64 (n:Int) &&& BitVec.ofInt 64 ((4294967295:Nat):Int)).toNat=n % 4294967296;rw[BitVec.toNat_and,BitVec.ofInt_natCast,BitVec.ofInt_natCast,BitVec.toNat_ofNat,BitVec.toNat_ofNat];rw[Nat.mod_eq_of_lt hn,Nat.mod_eq_of_lt (by decide)];exact Nat.and_two_pow_sub_one_eq_mod n 32
 show wr .u64 _=_;simp only[e2];rw[M6 (by omega)];omega
theorem Bq7{a:Int}:Ev .u64 a 32=a / 4294967296:=by
 show a.fdiv (2 ^ min (32:Int).toNat IntKind.u64.bits)=_;rw[show(2:Int) ^ min (32:Int).toNat IntKind.u64.bits=4294967296 from by decide]
 grind
theorem Aca(a b c d:Int)(h : 0<=a/\a<=c)(h' : 0<=b/\b<=d) : 0<=a*b/\a*b<=c*d :=⟨Int.mul_nonneg h.1 h'.1,Int.mul_le_mul h.2 h'.2 h'.1 (by omega)⟩
theorem Acj(x y:Int):x*y=(x / 4294967296)*(y / 4294967296)*18446744073709551616+((x / 4294967296)*(y % 4294967296)+(x % 4294967296)*(y / 4294967296))*4294967296+(x % 4294967296)*(y % 4294967296):=by grind
theorem Bod(x y:Int)(hx : 0<=x/\x<=18446744073709551615)(hy : 0<=y/\y<=18446744073709551615):Hb x y=(x*y / 18446744073709551616,x*y % 18446744073709551616):=by have b00:=Aca (x % 4294967296) (y % 4294967296) 4294967295 4294967295 (by omega) (by omega);have b10:=Aca (x / 4294967296) (y % 4294967296) 4294967295 4294967295 (by omega) (by omega);have b01:=Aca (x % 4294967296) (y / 4294967296) 4294967295 4294967295 (by omega) (by omega);have b11:=Aca (x / 4294967296) (y / 4294967296) 4294967295 4294967295 (by omega) (by omega);have sp:=Acj x y;simp only[Hb,Bq7,Asb hx,Asb hy];generalize (x % 4294967296)*(y % 4294967296)=a at *;generalize (x / 4294967296)*(y % 4294967296)=b at *;generalize (x % 4294967296)*(y / 4294967296)=c at *;generalize (x / 4294967296)*(y / 4294967296)=d at *;rw[M6 (n:=a) (by omega),M6 (n:=b) (by omega),M6 (n:=d) (by omega),M6 (n:=c) (by omega)];rw[M6 (n:=b+a / 4294967296) (by omega)];rw[Asb (by omega)];rw[M6 (n:=(b+a / 4294967296) % 4294967296+c) (by omega)];rw[M6 (n:=d+(b+a / 4294967296) / 4294967296) (by omega)];rw[M6 (n:=d+(b+a / 4294967296) / 4294967296+((b+a / 4294967296) % 4294967296+c) / 4294967296) (by omega),wru];rw[Zp1];constructor<;>omega
def Pl(n:Int):Int×Int:=if -9223372036854775808<=n/\n<=9223372036854775807 then(n,0) else(0,20)
def Mc(n:Int):Int:=if n<0 then -n else n
theorem A4w{n:Int}(h:inI n):De n=Mc n:=by simp[inI] at h;simp[De,Mc,wru];split<;>omega
theorem Aba{q r:Int}(h:inI q)(hr:r=q):(r,(0:Int))=Pl q:=by simp[inI] at h;rw[hr,Pl,if_pos h]
theorem Aa1{q:Int}(h:¬inI q):((0:Int),(20:Int))=Pl q:=by simp only[inI] at h;rw[Pl,if_neg h]
theorem Bmr{a b:Int}(ha:inI a)(hb:inI b):Yn a b=Pl (a+b):=by
 simp[inI] at ha hb;simp[Yn,wri];by_cases h1 : 0<b
 ·rw[Ze1 h1];by_cases h2:a+b<=9223372036854775807
  ·have e:(a+b) % 18446744073709551616<9223372036854775808\/9223372036854775808<=(a+b) % 18446744073709551616:=by omega
   rw[<-Aba (q:=a+b) (r:=if 9223372036854775808<=(a+b) % 18446744073709551616 then(a+b) % 18446744073709551616-18446744073709551616 else(a+b) % 18446744073709551616) (by simp[inI];omega) (by split<;>omega)]
   grind
  ·rw[<-Aa1 (q:=a+b) (by simp[inI];omega)]
   grind
 ·rw[Zd1 h1];by_cases h2 : -9223372036854775808<=a+b
  ·rw[<-Aba (q:=a+b) (r:=if 9223372036854775808<=(a+b) % 18446744073709551616 then(a+b) % 18446744073709551616-18446744073709551616 else(a+b) % 18446744073709551616) (by simp[inI];omega) (by split<;>omega)]
   grind
  ·rw[<-Aa1 (q:=a+b) (by simp[inI];omega)]
   grind
theorem Asf{a b:Int}(ha:inI a)(hb:inI b):Ms a b=Pl (a-b):=by
 simp only[inI] at ha hb;simp only[Ms,wri];by_cases h1 : 0<b
 ·rw[Ze1 h1];by_cases h2 : -9223372036854775808<=a-b
  ·rw[<-Aba (q:=a-b) (r:=if 9223372036854775808<=(a-b) % 18446744073709551616 then(a-b) % 18446744073709551616-18446744073709551616 else(a-b) % 18446744073709551616) (by simp only[inI];omega) (by split<;>omega)];rw[Ze1 (p:=_<a) (by split<;>omega)];rfl
  ·rw[<-Aa1 (q:=a-b) (by simp only[inI];omega)];rw[Zd1 (p:=_<a) (by split<;>omega)];rfl
 ·rw[Zd1 h1];by_cases h2:a-b<=9223372036854775807
  ·rw[<-Aba (q:=a-b) (r:=if 9223372036854775808<=(a-b) % 18446744073709551616 then(a-b) % 18446744073709551616-18446744073709551616 else(a-b) % 18446744073709551616) (by simp only[inI];omega) (by split<;>omega)];rw[Zd1 (p:=_<a) (by split<;>omega)];rfl
  ·rw[<-Aa1 (q:=a-b) (by simp only[inI];omega)];rw[Ze1 (p:=_<a) (by split<;>omega)];rfl
theorem Blr{a b:Int}(ha:inI a)(hb:inI b):Yk a b=Pl (a*b):=by
 have ha':=ha;have hb':=hb;simp[inI] at ha' hb';have hA : 0<=Mc a/\Mc a<=9223372036854775808:=by unfold Mc;split<;>omega
 have hB : 0<=Mc b/\Mc b<=9223372036854775808:=by unfold Mc;split<;>omega
 have hbd:=Aca _ _ _ _ hA hB;have hsg:a*b=if decide (a<0)=decide (b<0) then Mc a*Mc b else -(Mc a*Mc b):=by unfold Mc;by_cases h1:a<0<;>by_cases h2:b<0<;>simp[h1,h2,Int.neg_mul,Int.mul_neg]
 simp only[Yk,A4w ha,A4w hb,Bod _ _ (show 0<=Mc a/\Mc a<=18446744073709551615 by omega) (show 0<=Mc b/\Mc b<=18446744073709551615 by omega)];clear ha hb ha' hb' hA hB;generalize Mc a*Mc b=p at *;generalize a*b=q at *;by_cases hs:decide (a<0)=decide (b<0)
 ·rw[if_pos hs] at hsg;rw[Ze1 hs];by_cases h1:p<9223372036854775808
  ·rw[Zd1 (show ¬ 0<p / 18446744073709551616 by omega),Zd1 (show ¬ 9223372036854775808<p % 18446744073709551616 by omega),Zd1 (show ¬p % 18446744073709551616=9223372036854775808 by omega)];refine(show _=(wr .i64 (p % 18446744073709551616),(0:Int)) from rfl).trans (Aba (by simp[inI];omega) ?_);rw[wri];split<;>omega
  ·rw[<-Aa1 (q:=q) (by simp[inI];omega)];by_cases h2 : 0<p / 18446744073709551616
   ·grind
   ·grind
 ·rw[if_neg hs] at hsg;rw[Zd1 hs];by_cases h1:p<=9223372036854775808
  ·rw[Zd1 (show ¬ 0<p / 18446744073709551616 by omega),Zd1 (show ¬ 9223372036854775808<p % 18446744073709551616 by omega)];have:Pl q=(wr .i64 (wr .u64 (0-p % 18446744073709551616)),(0:Int)):=by refine(Aba (by simp[inI];omega) ?_).symm;rw[wri,wru];split<;>omega
   rw[this];cases decide (p % 18446744073709551616=9223372036854775808)<;>rfl
  ·rw[<-Aa1 (q:=q) (by simp[inI];omega)];by_cases h2 : 0<p / 18446744073709551616
   ·grind
   ·grind
def pw:Nat->Int
 |0=>1
 |n+1=>10*pw n
theorem P6:∀n,0<pw n
 |0=>by decide
 |n+1=>by have:=P6 n;simp only[pw];omega
theorem A1a:∀a b,pw (a+b)=pw a*pw b
 |0,b=>by simp[pw]
 |a+1,b=>by rw[Nat.add_right_comm];simp only[pw];rw[A1a a b,Int.mul_assoc]
theorem A4t{a b:Nat}(h:a<=b):pw a<=pw b:=by
 induction b with
 |zero =>
  have:a=0:=by omega
  subst this;exact Int.le_refl _
 |succ b ih =>
  rcases Nat.le_succ_iff.1 h with h|h
  ·have:=ih h;have:=P6 b;simp only[pw];omega
  ·subst h;exact Int.le_refl _
def val:List Int->Int
 |[]=>0
 |x::l=>x+10*val l
def dg(l:List Int):Bool:=l.all λx=>decide (0<=x)&&decide (x<=9)
theorem D1{x:Int}{l:List Int}:dg (x::l)=true↔(0<=x/\x<=9)/\dg l=true:=by simp[dg]
theorem Bhn{l m:List Int}:dg (l++m)=true↔dg l=true/\dg m=true:=by simp[dg]
theorem E3:∀{l:List Int},dg l=true->0<=val l
 |[],_=>by simp[val]
 |x::l,h=>by have h:=D1.1 h;have:=E3 h.2;simp[val];omega
theorem Aix:∀{l:List Int},dg l=true->val l<pw l.length
 |[],_=>by simp[val,pw]
 |x::l,h=>by have h:=D1.1 h;have:=Aix h.2;simp only[val,Zf1,pw];omega
theorem Aex:∀{l:List Int}(i:Nat),dg l=true->dg (l.drop i)=true
 |[],i,_=>by simp[dg]
 |x::l,0,h=>h
 |x::l,i+1,h=>Aex (l:=l) i (D1.1 h).2
theorem Ae0:∀{l:List Int}(i:Nat),dg l=true->dg (l.take i)=true
 |[],i,_=>by simp[dg]
 |x::l,0,h=>rfl
 |x::l,i+1,h=>by rw[List.take_succ_cons];exact D1.2 ⟨(D1.1 h).1,Ae0 i (D1.1 h).2⟩
def dgt(l:List Int)(i:Nat):Int:=l.getD i 0
theorem P9{l:List Int}(h:dg l=true)(i:Nat) : 0<=dgt l i/\dgt l i<=9:=by
 induction l generalizing i with
 |nil=>simp[dgt]
 |cons x l ih =>have h:=D1.1 h;cases i with|zero=>simpa[dgt] using h.1|succ i=>simpa[dgt] using ih h.2 i
theorem Mh(l:List Int)(i:Nat):val (l.drop i)=dgt l i+10*val (l.drop (i+1)):=by
 induction l generalizing i with
 |nil=>simp[dgt,val]
 |cons x l ih =>cases i with|zero=>simp[dgt,val]|succ i=>simpa[dgt] using ih i
theorem Abn{l:List Int}(h:dg l=true)(j:Nat):∃lo,0<=lo/\lo<pw j/\val l=lo+pw j*val (l.drop j):=by
 induction l generalizing j with
 |nil=>exact⟨0,Int.le_refl _,P6 j,by simp[val]⟩
 |cons x l ih =>have h:=D1.1 h;cases j with|zero=>exact⟨0,Int.le_refl _,P6 0,by simp[pw]⟩|succ j =>obtain⟨lo,h1,h2,h3⟩:=ih h.2 j;refine⟨x+10*lo,by omega,by simp only[pw];omega,?_⟩;simp only[val,List.drop_succ_cons,pw,h3];rw[Int.mul_add,Int.add_assoc,Int.mul_assoc]
theorem Axj{l:List Int}(h:dg l=true)(j:Nat):val (l.drop j)<=val l:=by obtain⟨lo,h1,h2,h3⟩:=Abn h j;have h4:=E3 (Aex j h);have h5 : 1*val (l.drop j)<=pw j*val (l.drop j):=Int.mul_le_mul_of_nonneg_right (by have:=P6 j;omega) h4;omega
theorem Bg4(l:List Int):∀(i:Nat),i<l.length->val (l.take (i+1))=val (l.take i)+pw i*dgt l i:=by
 induction l with
 |nil=>intro i h;simp at h
 |cons x l ih =>
  intro i h;cases i with
  |zero=>simp[val,dgt,pw]
  |succ i =>
   have:=ih i (by simpa using h);simp only[List.take_succ_cons,val,this,pw];have e:dgt (x::l) (i+1)=dgt l i:=by simp[dgt]
   rw[e,Int.mul_add,Int.add_assoc,Int.mul_assoc]
theorem Bng(l:List Int)(y:Int):∀(i:Nat),i<l.length->val (l.set i y)=val l+pw i*(y-dgt l i):=by
 induction l with
 |nil=>intro i h;simp at h
 |cons x l ih =>
  intro i h;cases i with
  |zero=>simp[val,dgt,pw];omega
  |succ i =>
   have:=ih i (by simpa using h);simp only[List.set_cons_succ,val,this,pw];have e:dgt (x::l) (i+1)=dgt l i:=by simp[dgt]
   rw[e,Int.mul_add,Int.add_assoc,Int.mul_assoc]
theorem Bsi{l:List Int}{y:Int}(hy : 0<=y/\y<=9):∀(i:Nat),dg l=true->dg (l.set i y)=true:=by
 induction l with
 |nil=>intro i _;rfl
 |cons x l ih =>intro i h;have h:=D1.1 h;cases i with|zero=>exact D1.2 ⟨hy,h.2⟩|succ i=>exact D1.2 ⟨h.1,ih i h.2⟩
theorem Bp5(n:Nat):val (List.replicate n 0)=0:=by induction n with|zero=>rfl|succ n ih=>simp[List.replicate_succ,val,ih]
theorem Bup(n:Nat):dg (List.replicate n 0)=true:=by induction n with|zero=>rfl|succ n ih=>rw[List.replicate_succ];exact D1.2 ⟨by omega,ih⟩
def J9(n:Nat):List Int:=if h:n=0 then [] else((n % 10:Nat):Int)::J9 (n / 10)
termination_by n
decreasing_by omega
theorem digs_zero:J9 0=[]:=by rw[J9];simp
theorem Gw{n:Nat}(h:¬n=0):J9 n=((n % 10:Nat):Int)::J9 (n / 10):=by rw[J9];simp[h]
theorem Ayx(n:Nat):val (J9 n)=(n:Int):=by
 induction n using Nat.strongRecOn with
 |ind n ih =>
  by_cases h:n=0
  ·subst h;rw[digs_zero];rfl
  ·rw[Gw h,val,ih (n / 10) (by omega)];omega
theorem At9(n:Nat):dg (J9 n)=true:=by
 induction n using Nat.strongRecOn with
 |ind n ih =>
  by_cases h:n=0
  ·subst h;rw[digs_zero];rfl
  ·rw[Gw h];exact D1.2 ⟨by omega,ih (n / 10) (by omega)⟩
theorem Afq:∀(k n:Nat),(n:Int)<pw k->(J9 n).length<=k
 |0,n,h=>by
  have:n=0:=by simp[pw] at h;omega
  subst this;rw[digs_zero];exact Zn1 _
 |k+1,n,h=>by
  by_cases h0:n=0
  ·subst h0;rw[digs_zero];simp
  ·have:=Afq k (n / 10) (by simp[pw] at h;omega);rw[Gw h0];simp;omega
theorem Bn7{n:Nat}(h:¬n=0):¬J9 n=[]:=by rw[Gw h];simp
def Il:List Int->List Int
 |[]=>[]
 |x::l=>match Il l with|[]=>if x=0 then [] else [x]|y::t=>x::y::t
theorem Aif:∀{l:List Int},dg l=true->Il l=J9 (val l).toNat
 |[],_=>by simp only[ val];exact digs_zero.symm
 |x::l,h=>by
  have h:=D1.1 h;have ih:=Aif h.2;have hv:=E3 h.2;simp[Il,ih,val];by_cases h0:val l=0
  ·rw[h0];have e:J9 (0:Int).toNat=[]:=digs_zero;rw[e];by_cases hx:x=0
   ·grind
   ·rw[if_neg hx,Gw (by omega),show(x+10*0).toNat / 10=0 by omega,digs_zero,show(((x+10*0).toNat % 10:Nat):Int)=x by omega]
  ·have hne:=Bn7 (n:=(val l).toNat) (by omega);rw[Gw (n:=(x+10*val l).toNat) (by omega),show(x+10*val l).toNat / 10=(val l).toNat by omega,show(((x+10*val l).toNat % 10:Nat):Int)=x by omega]
   grind
theorem Ajj:∀(l:List Int),Il (l++[0])=Il l
 |[]=>by simp[Il]
 |x::l=>by simp[ Il,Ajj l]
theorem Alf{y:Int}(hy:¬y=0):∀(l:List Int),Il (l++[y])=l++[y]
 |[]=>by simp[Il,hy]
 |x::l=>by simp[ Il,Alf hy l];cases l<;>simp
def Amy(m:Bool)(v:Int):Num:=⟨m&&decide (0<v),J9 v.toNat⟩
def D6(z:Int):Num:=Amy (decide (z<0)) (z.natAbs:Int)
def nv(n:Num):Int:=if n.minus=true then -val n.d else val n.d
def okN(n:Num):Bool:=dg n.d&&decide (n.d.length<=1000)
theorem Bie{n:Num}(h:okN n=true):dg n.d=true/\n.d.length<=1000:=by simpa[okN] using h
theorem Btv(z:Int):nv (D6 z)=z:=by
 simp only[nv,D6,Amy,Ayx,Int.toNat_natCast];by_cases h:z<0
 ·rw[Ze1 h,Ze1 (show(0:Int)<(z.natAbs:Int) by omega)];simp only[Bool.and_true,if_pos];omega
 ·rw[Zd1 h];simp only[Bool.false_and,Zj2,if_false];omega
theorem okZ{z:Int}(h : -(pw 1000)<z/\z<pw 1000):okN (D6 z)=true:=by have h1:=Afq 1000 z.natAbs (by omega);simp only[okN,D6,Amy,Int.toNat_natCast,At9,Bool.true_and];exact Ze1 h1
theorem Arm(m:Bool){v:Int}(h : 0<=v):Amy m v=D6 (if m=true then -v else v):=by
 cases m
 ·simp only[Zj2,if_false,D6];rw[Zd1 (by omega)];simp only[Amy,Bool.false_and];congr 2;omega
 ·simp only[if_true,D6];by_cases h0:v=0
  ·subst h0;rfl
  ·rw[Ze1 (by omega),show((-v).natAbs:Int)=v by omega]
theorem Bsk(l:List Int)(j:Nat):val l=val (l.take j)+pw j*val (l.drop j):=by
 induction l generalizing j with
 |nil=>simp[val]
 |cons x l ih =>cases j with|zero=>simp[pw,val]|succ j =>simp only[List.take_succ_cons,List.drop_succ_cons,val,pw];have:=ih j;rw[Int.mul_assoc];omega
theorem Bty(l:List Int)(i n:Nat):val ((l.drop i).take (n+1))=dgt l i+10*val ((l.drop (i+1)).take n):=by
 induction l generalizing i with
 |nil=>simp[dgt,val]
 |cons x l ih =>cases i with|zero=>simp[dgt,val]|succ i=>simpa[dgt] using ih i
theorem ten{x:Int}(h : 0<=x):Int.tmod x 10=x % 10/\Int.tdiv x 10=x / 10:=⟨Int.tmod_eq_emod_of_nonneg h,Int.tdiv_eq_ediv_of_nonneg h⟩
def Bgm(R:Type):Px R:=pxO [] [] [] []
def Vm(x:HV [.int .i64]):Option (HV [.int .i64]):=match x with
 |kind =>
 let j1:=λ(p1:Bool) =>
  cond (p1) (
  some 0) (
  let j:=λ(p5:Bool) =>
   cond (p5) (
   some 1) (
   cond (!decide ((Un signsL kind)=[])) (
    some 2) (
    some (-1)))
  cond (decide (kind=3)) (
   j true) (
   cond (decide (kind=15)) (
   j true) (
   j (decide (kind=16)))))
 cond (decide (kind=1)) (
  j1 true) (
  j1 (decide (kind=2)))
theorem A9r:FO 186 [.int .i64] [.int .i64] (Vm):=fR (px:=Bgm _) (n:=0) Tryz.func186 rfl (λ_ H=>⟨lv H Ae Aa Ab,Aj⟩) λ_=>by kernel_rfl
def parts(kind:Int):Int :=
 let j1:=λ(p1:Bool) =>
  cond (p1) (
  0) (
  let j:=λ(p5:Bool) =>
   cond (p5) (
   1) (
   cond (!decide ((Un signsL kind)=[])) (
    2) (
    (-1)))
  cond (decide (kind=3)) (
   j true) (
   cond (decide (kind=15)) (
   j true) (
   j (decide (kind=16)))))
 cond (decide (kind=1)) (
  j1 true) (
  j1 (decide (kind=2)))
theorem Bc0(x:HV [.int .i64]):Vm x=some (parts x):=by
 first
  |exact rfl
  |simp only[Vm,parts,As]
def A71:FT [.int .i64] [.int .i64]:=λx=>some (parts x)
theorem Bmt:FO 186 [.int .i64] [.int .i64] A71 :=.fin0 A9r λx _ _ hx=>(Bc0 x).trans hx
mutual
def Aw:Xpr->Nat
 |.mk _ _ _ l=>1+esizes l
def esizes:List Xpr->Nat
 |[]=>0
 |x::l=>1+Aw x+esizes l
end
theorem A9:∀{l:List Xpr}{x:Xpr},x∈l->Aw x<esizes l
 |y::l,x,h=>by
  simp at h;simp[esizes];rcases h with rfl|h
  ·omega
  ·have:=A9 h;omega
theorem F0:∀(l:List Xpr),l.length<=esizes l
 |[]=>by simp
 |x::l=>by have:=F0 l;simp[esizes];omega
theorem Cn(e:Xpr) : 0<Aw e:=by cases e;simp[Aw];omega
theorem Ci(e:Xpr):Aw e=1+esizes e.l:=by cases e;simp[Aw,Xpr.l]
theorem Adu{e:Xpr}(h:BdExpr e):ln e.l.length/\∀x,x∈e.l->BdExpr x:=by obtain⟨_,_,_,_,_,_,_,h4,h5⟩:=h;exact⟨h4,h5⟩
def Ad2:Sig:=⟨19,[(0,.sl .expr false),(4,.int .i64),(7,.int .i64),(8,.int .i64)],[(1,.fn 189 [.ptr 1 0])],[(1,.cells [.int .i64])],80,80,400,[],[]⟩
abbrev M3:=List Xpr×Int×Int×Int×Int
def Ln{R:Type}(rf:FT [.sv .expr,.int .i64] [.bool])(rec:M3->Option R)(kx:Ex->M3->Option R)(v:M3):Option R:=match v with
 |(v,v1,v2,v3,w) =>
 cond (decide (v3<v2)) (
  chk (inb v3 v.length) (
  (rf ((at' .expr v v3),(wr .i64 (w-1)))).bind λx =>
   cond (!x) (
   kx .ret (v,v3,v2,v3,w)) (
   rec (v,v1,v2,(wr .i64 (v3+1)),w)))) (
  kx (.exit 0) (v,v1,v2,v3,w))
def Pd(R:Type)(_k:Nat)(rf:FT [.sv .expr,.int .i64] [.bool]):Px R:=pxO [(133,cA rf)] [] [] []
noncomputable def U2(R:Type)(k:Nat)(rf:FT [.sv .expr,.int .i64] [.bool]):Px R:=pxO [(189,Bi 120 600 (Pd R k rf) Tryz.f189)] [] [(2,Am k Ad2 (Ln rf))] []
noncomputable def Ac9(R:Type)(k:Nat)(rf:FT [.sv .expr,.int .i64] [.bool]):Px R:=pxO [(231,Bi 80 400 (U2 R k rf) Tryz.f231)] [] [] []
noncomputable def Ang(R:Type)(k:Nat)(rf:FT [.sv .expr,.int .i64] [.bool]):Px R:=pxO [(80,cA X6),(187,cA R0),(188,Bi 40 200 (Ac9 R k rf) Tryz.f188)] [(186,qA A71)] [] []
def Gb(k:Nat)(rf:FT [.sv .expr,.int .i64] [.bool])(x:HV [.sv .expr,.int .i64]):Option (HV [.bool]):=match x with
 |(e,most) =>
 cond (decide (most=0)) (
  some false) (
  cond (!decide ((e.l.length:Int)=(parts e.kind))) (
  some false) (
  let j2:=λ(_:Unit) =>
   let j1:=λ(_:Unit) =>
   Ak (λrec=>Ln rf rec (λe vz=>match vz with|(_,v5,_,_,_)=>match e with
    |.ret =>
    some (!(decide (0<=v5)))
    |.exit 0 =>
    some true
    |_=>none)) k (e.l,0,(e.l.length:Int),0,most)
   let j:=λ(p5:Bool) =>
   cond (p5) (
    some false) (
    cond (!decide (e.kind=2)) (
    cond (!decide (e.name=[])) (
     some false) (
     j1 ())) (
    j1 ()))
   cond (decide (e.kind=2)) (
   j (!(Cj e.name))) (
   j false)
  cond (decide (e.kind=1)) (
   cond (!decide ((B7 e.v)=0)) (
   some false) (
   cond (decide (e.v.kind=3)) (
    cond (decide (e.v.n<0)) (
    some false) (
    j2 ())) (
    j2 ()))) (
   cond (!decide (e.v=(Val.mk 0 0 []))) (
   some false) (
   j2 ()))))
theorem A16(k:Nat)(rf:FT [.sv .expr,.int .i64] [.bool])(hrf:FO 133 [.sv .expr,.int .i64] [.bool] rf):FO 133 [.sv .expr,.int .i64] [.bool] (Gb k rf):=fR (px:=Ang _ k rf) (n:=0) Tryz.func133 rfl (λcx H=>by have h3:Lv cx (Pd (HV [.bool]) k rf):=lv H (c1 H hrf Ae) Aa Ab;have h2:Lv cx (U2 (HV [.bool]) k rf):=lv H (A2 (cR H h3 Tryz.func189 rfl (n:=0) (Aj)) Ae) Aa Ab;have hleright_0:=lO H h2 (b:=lp Tryz.f231 0) (k:=k) (n:=0) (s:=Ad2) (step:=Ln rf) (λ_ _ _ (_,_,_,_,_)=>by kernel_rfl) Aj;have h1:Lv cx (Ac9 (HV [.bool]) k rf):=lv H (A2 (cR H h2 Tryz.func231 rfl (n:=1) ((A3 Aj hleright_0))) Ae) Aa Ab;have h0:Lv cx (Ang (HV [.bool]) k rf):=lv H (c1 H Abv (c1 H Yj (A2 (cR H h1 Tryz.func188 rfl (n:=0) (Aj)) Ae))) (q1 H Bmt Aa) Ab;exact⟨h0,Aj⟩) λ(_,_)=>by kernel_rfl
def eok(k:Int)(v:Val)(nm:Str):Bool:=cond (decide (k=1)) (decide (B7 v=0) && !(decide (v.kind=3)&&decide (v.n<0))) (decide (v=⟨0,0,[]⟩))&&cond (decide (k=2)) (Cj nm) (decide (nm=[]))
mutual
def A5:Xpr->Int->Bool
 |.mk k v nm l,m => !decide (m=0)&&decide ((l.length:Int)=parts k)&&eok k v nm&&erights l (wr .i64 (m-1))
def erights:List Xpr->Int->Bool
 |[],_=>true
 |x::l,m=>A5 x m&&erights l m
end
def P3:FT [.sv .expr,.int .i64] [.bool]:=λx=>some (A5 x.1 x.2)
theorem Aeh{R:Type}{rf:FT [.sv .expr,.int .i64] [.bool]}{kx:Ex->M3->Option R}{l:List Xpr}{m:Int}{a b:Option R}(hn:ln l.length)(hrf:∀x,x∈l->rf (x,wr .i64 (m-1))=some (A5 x (wr .i64 (m-1))))(h1:∀(j:Nat),kx .ret (l,(j:Int),(l.length:Int),(j:Int),m)=a)(h2:∀q j,kx (.exit 0) (l,q,(l.length:Int),j,m)=b):∀(k i:Nat) q,i<=l.length->l.length-i<k->Ak (λrec=>Ln rf rec kx) k (l,q,(l.length:Int),(i:Int),m)=cond (erights (l.drop i) (wr .i64 (m-1))) b a
 |0,i,q,_,h=>by omega
 |k+1,i,q,hi,h=>by
  rw[A0];by_cases hl:i<l.length
  ·simp only[Ln,An hl hn,(Aeh hn hrf h1 h2 k (i+1) q (by omega) (by omega)),h1,Ah hl,Al (c :=.expr) hl,Ao hl,Bool.cond_decide,erights,hrf _ (List.getElem_mem hl)];rw[if_pos (by omega)];cases A5 l[i] (wr .i64 (m-1))<;>rfl
  ·simp[Ln,h2,Bool.cond_decide];rw[if_neg (by omega),Zk1 (by omega)];rfl
theorem L8(e:Xpr)(m:Int):A5 e m=(!decide (m=0)&&decide ((e.l.length:Int)=parts e.kind)&&eok e.kind e.v e.name&&erights e.l (wr .i64 (m-1))):=by cases e;simp[A5];rfl
theorem Aj5(k:Nat):∀(n:Nat) (e:Xpr) (m:Int),BdExpr e->Aw e<=n->Aw e<=k->Ak (Gb k) n (e,m)=some (A5 e m)
 |0,e,m,_,h,_=>by have:=Cn e;omega
 |n+1,e,m,hb,h,hk=>by
  obtain⟨hb4,hb5⟩:=Adu hb;rw[Ci] at h hk;have hl:=F0 e.l;have hrf:∀x,x∈e.l->∀m,Ak (Gb k) n (x,m)=some (A5 x m):=λx hx m=>Aj5 k n x m (hb5 x hx) (by have:=A9 hx;omega) (by have:=A9 hx;omega);have hloop:=Aeh (R:=Bool) (rf:=Ak (Gb k) n) (l:=e.l) (m:=m) (a:=some false) (b:=some true) (kx:=λe v=>match v with
   |(_,v5,_,_,_)=>match e with
    |.ret=>some (!(decide (0<=v5)))
    |.exit 0=>some true
    |_=>none) hb4 (λx hx=>hrf x hx _) (λj=>by simp) (λ_ _=>rfl) k 0 0 (Nat.zero_le _) (by omega)
  have e0:((0:Nat):Int)=0:=rfl;rw[e0] at hloop;rw[A0,L8];simp only[Gb] at hloop ⊢;rw[hloop];simp only[Zq1,eok];by_cases hm:m=0
  ·simp[hm]
  ·rw[Zd1 hm];simp only[Ai,Zs1,Bool.true_and];by_cases hp:(e.l.length:Int)=parts e.kind
   ·rw[Ze1 hp];by_cases h1:e.kind=1
    ·have h2:¬e.kind=2:=by omega
     rw[Ze1 h1,Zd1 h2];simp only[Ag,Ai,Zs1,Zt1,Bool.true_and];cases decide (B7 e.v=0)<;>cases decide (e.v.kind=3)<;>cases decide (e.v.n<0)<;>cases decide (e.name=[])<;>cases erights e.l (wr .i64 (m-1))<;>rfl
    ·rw[Zd1 h1];simp only[Ai,Zt1,Bool.true_and];cases decide (e.v=Val.mk 0 0 [])<;>cases decide (e.kind=2)<;>cases decide (e.name=[])<;>cases Cj e.name<;>cases erights e.l (wr .i64 (m-1))<;>rfl
   ·rw[Zd1 hp];rfl
theorem Sz:FO 133 [.sv .expr,.int .i64] [.bool] P3:=by refine .fin (ι:=Nat) 0 (F:=λn=>Ak (Gb n) n) (λn=>FnOk.rec' (Sx.enters_of Tryz.func133 rfl rfl) (λrf hrf=>A16 n rf hrf) n) λ(e,m) r hb hx=>⟨Aw e,?_⟩;exact(Aj5 (Aw e) (Aw e) e m hb.1 (Zn1 _) (Zn1 _)).trans hx
def Bff(R:Type):Px R:=pxO [(133,cA P3)] [] [] []
def U7(x:HV [.sv .expr]):Option (HV [.int .i64]):=match x with
 |e =>
 cond (!(A5 e 30)) (
  some 2) (
  some 0)
theorem A80:FO 89 [.sv .expr] [.int .i64] (U7):=fR (px:=Bff _) (n:=0) Tryz.func89 rfl (λ_ H=>⟨lv H (c1 H Sz Ae) Aa Ab,Aj⟩) λ_=>by kernel_rfl
def Dk(e:Xpr):Int :=
 cond (!(A5 e 30)) (
  2) (
  0)
theorem Bby(x:HV [.sv .expr]):U7 x=some (Dk x):=by
 first
  |exact rfl
  |simp only[U7,Dk,As]
def Asj:FT [.sv .expr] [.int .i64]:=λx=>some (Dk x)
theorem Axp:FO 89 [.sv .expr] [.int .i64] Asj :=.fin0 A80 λx _ _ hx=>(Bby x).trans hx
def Aht:Sig:=⟨41,[(1,.int .i64),(5,.int .i64),(6,.int .i64)],[(2,.ptr 0 0)],[(0,.one (.sv .expr))],1,0,0,[],[]⟩
abbrev Re:=Int×Int×Int×Xpr
def Uh{R:Type}(rf:FT [.sv .expr,.int .i64] [.int .i64])(rec:Re->Option R)(kx:Ex->Re->Option R)(v:Re):Option R:=match v with
 |(v,v1,v2,w) =>
 cond (decide (v2<(w.l.length:Int))) (
  cond (decide (v1<v)) (
  chk (inb v2 w.l.length) (
   (rf ((at' .expr w.l v2),(wr .i64 (v-v1)))).bind λx =>
   rec (v,(wr .i64 (v1+x)),(wr .i64 (v2+1)),w))) (
  kx (.exit 0) (v,v1,v2,w))) (
  kx (.exit 0) (v,v1,v2,w))
def Azc(R:Type)(k:Nat)(rf:FT [.sv .expr,.int .i64] [.int .i64]):Px R:=pxO [(85,cA rf)] [] [(3,Am k Aht (Uh rf))] []
def J2(k:Nat)(rf:FT [.sv .expr,.int .i64] [.int .i64])(x:HV [.sv .expr,.int .i64]):Option (HV [.int .i64]):=match x with
 |(e,most) =>
 Ak (λrec=>Uh rf rec (λe vz=>match vz with|(_,v4,_,_)=>match e with
  |.exit 0 =>
  some v4
  |_=>none)) k (most,(wr .i64 (1+(wr .i64 (Int.tdiv (wr .i64 ((e.v.s.length:Int)+(e.name.length:Int))) 30)))),0,e)
theorem A9b(k:Nat)(rf:FT [.sv .expr,.int .i64] [.int .i64])(hrf:FO 85 [.sv .expr,.int .i64] [.int .i64] rf):FO 85 [.sv .expr,.int .i64] [.int .i64] (J2 k rf):=fR (px:=Azc _ k rf) (n:=1) Tryz.func85 rfl (λcx H=>by have h0:Lv cx (Azc (HV [.int .i64]) k rf):=lv H (c1 H hrf Ae) Aa Ab;have hlmuch1_0:=lO H h0 (b:=lp Tryz.f85 0) (k:=k) (n:=0) (s:=Aht) (step:=Uh rf) (λ_ _ _ (_,_,_,_)=>by kernel_rfl) Aj;exact⟨h0,(A3 Aj hlmuch1_0)⟩) λ(_,_)=>by kernel_rfl
mutual
def Im:Xpr->Int->Int
 |.mk _ v nm l,most=>muchL l most (wr .i64 (1+wr .i64 (Int.tdiv (wr .i64 ((v.s.length:Int)+(nm.length:Int))) 30)))
def muchL:List Xpr->Int->Int->Int
 |[],_,n=>n
 |x::l,most,n=>cond (decide (n<most)) (muchL l most (wr .i64 (n+Im x (wr .i64 (most-n))))) n
end
def As4:FT [.sv .expr,.int .i64] [.int .i64]:=λx=>some (Im x.1 x.2)
theorem Ak2{R:Type}{rf:FT [.sv .expr,.int .i64] [.int .i64]}{kx:Ex->Re->Option R}{e:Xpr}{most:Int}{g:Int->Option R}(hn:ln e.l.length)(hrf:∀x,x∈e.l->∀m,rf (x,m)=some (Im x m))(h2:∀n j,kx (.exit 0) (most,n,j,e)=g n):∀(k i:Nat) n,i<=e.l.length->e.l.length-i<k->Ak (λrec=>Uh rf rec kx) k (most,n,(i:Int),e)=g (muchL (e.l.drop i) most n)
 |0,i,n,_,h=>by omega
 |k+1,i,n,hi,h=>by
  rw[A0];by_cases hl:i<e.l.length
  ·simp only[Uh,An hl hn,(λn=>Ak2 hn hrf h2 k (i+1) n (by omega) (by omega)),h2,Ah hl,Al (c :=.expr) hl,Ao hl,Bool.cond_decide,muchL,hrf _ (List.getElem_mem hl)];rw[if_pos (by omega)];split<;>rfl
  ·simp[Uh,h2,Bool.cond_decide];rw[if_neg (by omega),Zk1 (by omega)];rfl
theorem Aoy(k:Nat):∀(n:Nat) (e:Xpr) (m:Int),BdExpr e->Aw e<=n->Aw e<=k->Ak (J2 k) n (e,m)=some (Im e m)
 |0,e,m,_,h,_=>by have:=Cn e;omega
 |n+1,.mk kd v nm l,m,hb,h,hk=>by
  obtain⟨_,_,_,_,hb1,hb2,hb3,hb4,hb5⟩:=hb;simp[Aw] at h hk;have hl:=F0 l;have hrf:∀x,x∈l->∀m,Ak (J2 k) n (x,m)=some (Im x m):=λx hx m=>Aoy k n x m (hb5 x hx) (by have:=A9 hx;omega) (by have:=A9 hx;omega);rw[A0];simp[J2];refine(Ak2 (e :=.mk kd v nm l) (g:=some) hb4 hrf ?_ k 0 _ (Nat.zero_le _) (by simp[Xpr.l];omega)).trans ?_
  ·exactλ_ _=>rfl
  ·simp[Im,Xpr.l,Xpr.v,Xpr.name]
theorem Awf:FO 85 [.sv .expr,.int .i64] [.int .i64] As4:=by refine .fin (ι:=Nat) 0 (F:=λn=>Ak (J2 n) n) (λn=>FnOk.rec' (Sx.enters_of Tryz.func85 rfl rfl) (λrf hrf=>A9b n rf hrf) n) λ(e,m) r hb hx=>⟨Aw e,?_⟩;exact(Aoy (Aw e) (Aw e) e m hb.1 (Zn1 _) (Zn1 _)).trans hx
def Bes(R:Type):Px R:=pxO [] [] [] []
def Ws(x:HV [.int .i64,.int .i64]):Option (HV [.bool]):=match x with
 |(k,want) =>
 cond (decide (k=want)) (
  some true) (
  some (decide (k=1)))
theorem Bb7:FO 135 [.int .i64,.int .i64] [.bool] (Ws):=fR (px:=Bes _) (n:=0) Tryz.func135 rfl (λ_ H=>⟨lv H Ae Aa Ab,Aj⟩) λ(_,_)=>by kernel_rfl
def Gu(k:Int)(want:Int):Bool :=
 cond (decide (k=want)) (
  true) (
  (decide (k=1)))
theorem A9o(x:HV [.int .i64,.int .i64]):Ws x=some (Gu x.1 x.2):=by
 first
  |exact rfl
  |simp only[Ws,Gu,As]
def A8a:FT [.int .i64,.int .i64] [.bool]:=λx=>some (Gu x.1 x.2)
theorem Bhr:FO 135 [.int .i64,.int .i64] [.bool] A8a :=.fin0 Bb7 λx _ _ hx=>(A9o x).trans hx
def Bhf(R:Type):Px R:=pxO [] [] [] []
def Wl(x:HV [.bool]):Option (HV [.sv .val]):=match x with
 |b =>
 cond (b) (
  some (Val.mk 2 1 [])) (
  some (Val.mk 2 0 []))
theorem A8z:FO 136 [.bool] [.sv .val] (Wl):=fR (px:=Bhf _) (n:=0) Tryz.func136 rfl (λ_ H=>⟨lv H Ae Aa Ab,Aj⟩) λ_=>by kernel_rfl
def Dx(b:Bool):Val :=
 cond (b) (
  (Val.mk 2 1 [])) (
  (Val.mk 2 0 []))
theorem A8t(x:HV [.bool]):Wl x=some (Dx x):=by
 first
  |exact rfl
  |simp only[Wl,Dx,As]
def Ats:FT [.bool] [.sv .val]:=λx=>some (Dx x)
theorem Ax6:FO 136 [.bool] [.sv .val] Ats :=.fin0 A8z λx _ _ hx=>(A8t x).trans hx
def Bad(R:Type):Px R:=pxO [] [] [] []
def Qq(x:HV [.int .i64,.int .i64]):Option (HV [.bool]):=match x with
 |(kind,n) =>
 cond (decide (kind=6)) (
  some (decide (n=0))) (
  cond (decide (kind=7)) (
  some (!decide (n=0))) (
  cond (decide (kind=8)) (
   some (decide (n<0))) (
   cond (decide (kind=9)) (
   some (decide (n<=0))) (
   cond (decide (kind=10)) (
    some (decide (0<n))) (
    some (decide (0<=n)))))))
theorem A3x:FO 139 [.int .i64,.int .i64] [.bool] (Qq):=fR (px:=Bad _) (n:=0) Tryz.func139 rfl (λ_ H=>⟨lv H Ae Aa Ab,Aj⟩) λ(_,_)=>by kernel_rfl
def Q8(kind:Int)(n:Int):Bool :=
 cond (decide (kind=6)) (
  (decide (n=0))) (
  cond (decide (kind=7)) (
  (!decide (n=0))) (
  cond (decide (kind=8)) (
   (decide (n<0))) (
   cond (decide (kind=9)) (
   (decide (n<=0))) (
   cond (decide (kind=10)) (
    (decide (0<n))) (
    (decide (0<=n)))))))
theorem A2f(x:HV [.int .i64,.int .i64]):Qq x=some (Q8 x.1 x.2):=by
 first
  |exact rfl
  |simp only[Qq,Q8,As]
def Ays:FT [.int .i64,.int .i64] [.bool]:=λx=>some (Q8 x.1 x.2)
theorem Baj:FO 139 [.int .i64,.int .i64] [.bool] Ays :=.fin0 A3x λx _ _ hx=>(A2f x).trans hx
def Bpb(R:Type):Px R:=pxO [(190,cA Bge),(191,cA Bi9),(192,cA Bmv)] [] [] []
def Aci(x:HV [.int .i64,.int .i64,.int .i64]):Option (HV [.sv .val,.int .i64]):=match x with
 |(kind,a,b) =>
 cond (decide (kind=12)) (
  cond (!decide ((Yn a b).2=0)) (
  some ((Val.mk 0 0 []),(Yn a b).2)) (
  some ((Val.mk 3 ((Yn a b).1) []),0))) (
  cond (decide (kind=13)) (
  cond (!decide ((Ms a b).2=0)) (
   some ((Val.mk 0 0 []),(Ms a b).2)) (
   some ((Val.mk 3 ((Ms a b).1) []),0))) (
  cond (decide (kind=14)) (
   cond (!decide ((Yk a b).2=0)) (
   some ((Val.mk 0 0 []),(Yk a b).2)) (
   some ((Val.mk 3 ((Yk a b).1) []),0))) (
   cond (!decide ((Ms 0 a).2=0)) (
   some ((Val.mk 0 0 []),(Ms 0 a).2)) (
   some ((Val.mk 3 ((Ms 0 a).1) []),0)))))
theorem Bji:FO 138 [.int .i64,.int .i64,.int .i64] [.sv .val,.int .i64] (Aci):=fR (px:=Bpb _) (n:=0) Tryz.func138 rfl (λ_ H=>⟨lv H (c1 H Bqf (c1 H Bo5 (c1 H Bop Ae))) Aa Ab,Aj⟩) λ(_,_,_)=>by kernel_rfl
def Fl(kind:Int)(a:Int)(b:Int):Val×Int :=
 cond (decide (kind=12)) (
  cond (!decide ((Yn a b).2=0)) (
  ((Val.mk 0 0 []),(Yn a b).2)) (
  ((Val.mk 3 ((Yn a b).1) []),0))) (
  cond (decide (kind=13)) (
  cond (!decide ((Ms a b).2=0)) (
   ((Val.mk 0 0 []),(Ms a b).2)) (
   ((Val.mk 3 ((Ms a b).1) []),0))) (
  cond (decide (kind=14)) (
   cond (!decide ((Yk a b).2=0)) (
   ((Val.mk 0 0 []),(Yk a b).2)) (
   ((Val.mk 3 ((Yk a b).1) []),0))) (
   cond (!decide ((Ms 0 a).2=0)) (
   ((Val.mk 0 0 []),(Ms 0 a).2)) (
   ((Val.mk 3 ((Ms 0 a).1) []),0)))))
theorem Bh9(x:HV [.int .i64,.int .i64,.int .i64]):Aci x=some (Fl x.1 x.2.1 x.2.2):=by
 first
  |exact rfl
  |simp only[Aci,Fl,As]
def Bgk:FT [.int .i64,.int .i64,.int .i64] [.sv .val,.int .i64]:=λx=>some (Fl x.1 x.2.1 x.2.2)
theorem Bo6:FO 138 [.int .i64,.int .i64,.int .i64] [.sv .val,.int .i64] Bgk :=.fin0 Bji λx _ _ hx=>(Bh9 x).trans hx
def Apc:Sig:=⟨20,[(1,.str),(4,.int .i64),(7,.sl .col false),(8,.int .i64),(9,.int .i64)],[],[],0,0,0,[],[]⟩
abbrev Z4:=Str×Int×List Col×Int×Int
def Ab6{R:Type}(rec:Z4->Option R)(kx:Ex->Z4->Option R)(v:Z4):Option R:=match v with
 |(v,v1,v2,v3,v4) =>
 cond (decide (v4<v3)) (
  chk (inb v4 v2.length) (
  cond (decide (((at' .col v2 v4).name)=v)) (
   kx .ret (v,v4,v2,v3,v4)) (
   rec (v,v1,v2,v3,(wr .i64 (v4+1)))))) (
  kx (.exit 0) (v,v1,v2,v3,v4))
def A6i(R:Type)(k:Nat):Px R:=pxO [] [] [(2,Am k Apc (Ab6))] []
def Aqc(k:Nat)(x:HV [.sl .col false,.str]):Option (HV [.int .i64]):=match x with
 |(cols,name) =>
 Ak (λrec=>Ab6 rec (λe vz=>match vz with|(_,v6,_,_,_)=>match e with
  |.ret =>
  some v6
  |.exit 0 =>
  some (-1)
  |_=>none)) k (name,0,cols,(cols.length:Int),0)
theorem Bfu(k:Nat):FO 134 [.sl .col false,.str] [.int .i64] (Aqc k):=fR (px:=A6i _ k) (n:=1) Tryz.func134 rfl (λcx H=>by have h0:Lv cx (A6i (HV [.int .i64]) k):=lv H Ae Aa Ab;have hlfind_0:=lO H h0 (b:=lp Tryz.f134 0) (k:=k) (n:=0) (s:=Apc) (step:=Ab6) (λ_ _ _ (_,_,_,_,_)=>by kernel_rfl) Aj;exact⟨h0,(A3 Aj hlfind_0)⟩) λ(_,_)=>by kernel_rfl
def A7:List Col->Str->Nat->Int
 |[],_,_ => -1
 |c::l,s,i=>if c.name=s then(i:Int) else A7 l s (i+1)
def B9(cols:List Col)(name:Str):Int:=A7 cols name 0
def A08:FT [.sl .col false,.str] [.int .i64]:=λx=>some (B9 x.1 x.2)
theorem Aqh{R:Type}{kx:Ex->Z4->Option R}{s:Str}{cols:List Col}{g:Int->Option R}(hn:ln cols.length)(h1:∀j,kx .ret (s,j,cols,(cols.length:Int),j)=g j)(h2:∀q j,kx (.exit 0) (s,q,cols,(cols.length:Int),j)=g (-1)):∀(k i:Nat) q,i<=cols.length->cols.length-i<k->Ak (λrec=>Ab6 rec kx) k (s,q,cols,(cols.length:Int),(i:Int))=g (A7 (cols.drop i) s i)
 |0,i,q,_,h=>by omega
 |k+1,i,q,hi,h=>by
  rw[A0];by_cases hl:i<cols.length
  ·simp only[Ab6,An hl hn,(Aqh hn h1 h2 k (i+1) q (by omega) (by omega)),h1,Ah hl,Al (c :=.col) hl,Ao hl,Bool.cond_decide,A7];rw[if_pos (by omega)];split<;>rfl
  ·simp[Ab6,h2,Bool.cond_decide];rw[if_neg (by omega),Zk1 (by omega)];rfl
theorem A45:FO 134 [.sl .col false,.str] [.int .i64] A08 :=.fin 0 Bfu λ(cols,s) r hb hx=>⟨cols.length+1,by
 simp only[Aqc];refine(Aqh (g:=some) hb.1.1 ?_ ?_ (cols.length+1) 0 0 (Nat.zero_le _) (by omega)).trans hx
 ·exactλ_=>rfl
 ·exactλ_ _=>rfl⟩
def Xq:Sig:=⟨28,[(1,.sl .val false),(4,.bool),(12,.sl .col false),(13,.int .i64),(14,.int .i64)],[],[],0,0,0,[],[]⟩
abbrev K3:=List Val×Bool×List Col×Int×Int
def I3{R:Type}(rec:K3->Option R)(kx:Ex->K3->Option R)(v:K3):Option R:=match v with
 |(v,v1,v2,v3,v4) =>
 cond (decide (v4<v3)) (
  chk (inb v4 v2.length) (
  chk (inb v4 v.length) (
   cond (!(Mg (at' .val v v4) ((at' .col v2 v4).kind))) (
   kx .ret (v,false,v2,v3,v4)) (
   rec (v,v1,v2,v3,(wr .i64 (v4+1))))))) (
  kx (.exit 0) (v,v1,v2,v3,v4))
def Aj6(R:Type)(k:Nat):Px R:=pxO [(87,cA A72)] [] [(4,Am k Xq (I3))] []
def Zb(k:Nat)(x:HV [.sl .col false,.sl .val false]):Option (HV [.bool]):=match x with
 |(cols,row) =>
 cond (!decide ((cols.length:Int)=(row.length:Int))) (
  some false) (
  Ak (λrec=>I3 rec (λe vz=>match vz with|(_,v6,_,_,_)=>match e with
  |.ret =>some v6
  |.exit 0 =>some true
  |_=>none)) k (row,false,cols,(cols.length:Int),0))
theorem Avt(k:Nat):FO 53 [.sl .col false,.sl .val false] [.bool] (Zb k):=fR (px:=Aj6 _ k) (n:=1) Tryz.func53 rfl (λcx H=>by have h0:Lv cx (Aj6 (HV [.bool]) k):=lv H (c1 H Bhq Ae) Aa Ab;have hlrowfits_0:=lO H h0 (b:=lp Tryz.f53 0) (k:=k) (n:=0) (s:=Xq) (step:=I3) (λ_ _ _ (_,_,_,_,_)=>by kernel_rfl) Aj;exact⟨h0,(A3 Aj hlrowfits_0)⟩) λ(_,_)=>by kernel_rfl
def Di:List Col->List Val->Bool
 |[],[]=>true
 |c::cs,v::vs=>Mg v c.kind&&Di cs vs
 |_,_=>false
def Dr(cols:List Col)(row:List Val):Bool:=Di cols row
def Sl:FT [.sl .col false,.sl .val false] [.bool]:=λx=>some (Dr x.1 x.2)
theorem F1:∀{cols:List Col}{row:List Val},Di cols row=true->cols.length=row.length
 |[],[],_=>rfl
 |_::cs,_::vs,h=>by simp[Di] at h;simp[F1 h.2]
 |[],_::_,h=>by simp[Di] at h
 |_::_,[],h=>by simp[Di] at h
theorem Xx{R:Type}{kx:Ex->K3->Option R}{row:List Val}{cols:List Col}{a b:Option R}(hn:ln cols.length)(he:cols.length=row.length)(h1:∀j,kx .ret (row,false,cols,(cols.length:Int),j)=a)(h2:∀q j,kx (.exit 0) (row,q,cols,(cols.length:Int),j)=b):∀(k i:Nat) q,i<=cols.length->cols.length-i<k->Ak (λrec=>I3 rec kx) k (row,q,cols,(cols.length:Int),(i:Int))=cond (Di (cols.drop i) (row.drop i)) b a
 |0,i,q,_,h=>by omega
 |k+1,i,q,hi,h=>by
  rw[A0];by_cases hl:i<cols.length
  ·have hl2:i<row.length:=by omega
   simp only[I3,An hl hn,(Xx hn he h1 h2 k (i+1) q (by omega) (by omega)),h1,Ah hl,Ah hl2,Al (c :=.col) hl,Al (c :=.val) hl2,Ao hl,Ao hl2,Bool.cond_decide,Di];rw[if_pos (by omega)];cases Mg row[i] cols[i].kind<;>rfl
  ·simp[I3,h2,Bool.cond_decide];rw[if_neg (by omega),Zk1 (by omega),Zk1 (by omega)];rfl
theorem Af0:FO 53 [.sl .col false,.sl .val false] [.bool] Sl :=.fin 0 Avt λ(cols,row) r hb hx=>⟨cols.length+1,by
 simp only[Sl,Za1,Dr] at hx;simp only[Zb];by_cases he:cols.length=row.length
 ·rw[Ze1 (by omega)];simp only[Zt1,Ai];refine(Xx (a:=some false) (b:=some true) hb.1.1 he ?_ ?_ (cols.length+1) 0 false (Nat.zero_le _) (by omega)).trans ?_
  ·exactλ_=>rfl
  ·exactλ_ _=>rfl
  ·rw[<-hx];simp only[Zq1];cases Di cols row<;>rfl
 ·rw[Zd1 (by omega)];have:Di cols row=false:=by cases hf:Di cols row with|false=>rfl|true=>exact absurd (F1 hf) he
  rw[<-hx,this];rfl⟩
def Ail:Sig:=⟨34,[(0,.int .i64),(6,.bool),(12,.sl .val false),(13,.int .i64),(14,.int .i64)],[(4,.ptr 0 0),(5,.ptr 1 0)],[(0,.one (.sv .val)),(1,.one (.sv .val))],2,0,0,[],[]⟩
abbrev R3:=Int×Bool×List Val×Int×Int×Val×Val
def Tp{R:Type}(rec:R3->Option R)(kx:Ex->R3->Option R)(v:R3):Option R:=match v with
 |(v,v1,v2,v3,v4,w,w1) =>
 cond (decide (v4<v3)) (
  chk (inb v4 v2.length) (
  cond (decide ((at' .val v2 v4)=w1)) (
   kx .ret (v,v1,v2,v3,v4,w1,w1)) (
   cond (v1) (
   rec (v,true,v2,v3,(wr .i64 (v4+1)),w,w1)) (
   rec (v,decide ((at' .val v2 v4).kind=1),v2,v3,(wr .i64 (v4+1)),w,w1))))) (
  kx (.exit 0) (v,v1,v2,v3,v4,w,w1))
def Awu(R:Type)(k:Nat):Px R:=pxO [(136,cA Ats)] [] [(4,Am k Ail (Tp))] []
def Agf(k:Nat)(x:HV [.int .i64,.sl .val false]):Option (HV [.sv .val]):=match x with
 |(kind,l) =>
 Ak (λrec=>Tp rec (λe vz=>match vz with|(v5,v6,_,_,_,a,_)=>match e with
  |.ret =>
  some a
  |.exit 0 =>
  cond (v6) (
   some (Val.mk 1 0 [])) (
   some (Dx (!decide (v5=5))))
  |_=>none)) k (kind,false,l,(l.length:Int),0,(Val.mk 0 0 []),(Dx (decide (kind=5))))
theorem Bd6(k:Nat):FO 137 [.int .i64,.sl .val false] [.sv .val] (Agf k):=fR (px:=Awu _ k) (n:=1) Tryz.func137 rfl (λcx H=>by have h0:Lv cx (Awu (HV [.sv .val]) k):=lv H (c1 H Ax6 Ae) Aa Ab;have hllogic_0:=lO H h0 (b:=lp Tryz.f137 0) (k:=k) (n:=0) (s:=Ail) (step:=Tp) (λ_ _ _ (_,_,_,_,_,_,_)=>by kernel_rfl) Aj;exact⟨h0,(A3 Aj hllogic_0)⟩) λ(_,_)=>by kernel_rfl
def Dt(v:Val):Bool:=decide (v.kind=1)
def Qm(kind:Int)(l:List Val):Val:=cond (l.any λv=>decide (v=Dx (decide (kind=5)))) (Dx (decide (kind=5))) (cond (l.any Dt) ⟨1,0,[]⟩ (Dx (!decide (kind=5))))
def Ar6:FT [.int .i64,.sl .val false] [.sv .val]:=λx=>some (Qm x.1 x.2)
theorem Ag9{R:Type}{kx:Ex->R3->Option R}{kd:Int}{l:List Val}{e:Val}{a:Option R}{b:Bool->Option R}(hn:ln l.length)(h1:∀q j,kx .ret (kd,q,l,(l.length:Int),j,e,e)=a)(h2:∀q j z,kx (.exit 0) (kd,q,l,(l.length:Int),j,z,e)=b q):∀(k i:Nat) (u:Bool) z,i<=l.length->l.length-i<k->Ak (λrec=>Tp rec kx) k (kd,u,l,(l.length:Int),(i:Int),z,e)=cond ((l.drop i).any λv=>decide (v=e)) a (b (u||(l.drop i).any Dt))
 |0,i,u,z,_,h=>by omega
 |k+1,i,u,z,hi,h=>by
  rw[A0];by_cases hl:i<l.length
  ·simp only[Tp,An hl hn,(λu=>Ag9 hn h1 h2 k (i+1) u z (by omega) (by omega)),Ah hl,Al (c :=.val) hl,Ao hl,chk,Bool.cond_decide,List.any_cons];rw[if_pos (by omega)];by_cases he:l[i]=e
   ·grind
   ·rw[if_neg he,Zd1 he];cases u<;>simp[Dt]
  ·simp[Tp,h2,Bool.cond_decide];rw[if_neg (by omega),Zk1 (by omega)];simp
theorem Bjm:FO 137 [.int .i64,.sl .val false] [.sv .val] Ar6 :=.fin 0 Bd6 λ(kd,l) r hb hx=>⟨l.length+1,by
 simp only[Ar6,Za1,Qm] at hx;simp only[Agf];refine(Ag9 (a:=some (Dx (decide (kd=5)))) (b:=λq=>cond q (some ⟨1,0,[]⟩) (some (Dx (!decide (kd=5))))) hb.2.1 ?_ ?_ (l.length+1) 0 false _ (Nat.zero_le _) (by omega)).trans ?_
 ·exactλ_ _=>rfl
 ·exactλ_ _ _=>rfl
 rw[<-hx];simp only[Zq1,Bool.false_or];cases (l.any λv=>decide (v=Dx (decide (kd=5))))<;>cases l.any Dt<;>rfl⟩
end Go.Proofs.YtcoaaebppfbbnaaGreatDoor
