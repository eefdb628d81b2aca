/- Texts of the proof,one behind the other: AxRn,Pf,AxIn,SxL,SxM,Lo,Tw,Pa,Lc,Na,Lm,Ar,Shp,Sr,Dg,Nc,Eb,Fc,Fk,Fd,Ep,Fe. -/
import Derived.Test.YtbkinkalnmbpjaaGreatDoorR3
import Derived.KernelRfl
import Derived.Laws.Cover3
import Derived.Lib.Overlaps
import Derived.Lib.AppendZerosOnto
import Derived.Test.YtbkinkalnmbpjaaGreatDoorProg
import Derived.Lib.Bytealg
import Derived.Shelf.Strings.Replace
set_option linter.all false
namespace Go.Ax
structure Hx (P:Program) (el:Ck->TypeId) (gl:Nat->Option Gv) (tt:Nat->Ty) (cx:Cx):Prop where
 p:cx.P=P
 e:cx.el=el
 g:cx.gl=gl
 t:∀t,C6 P el tt t=true
 m:P.follows .mixedOrders=true
structure Lv {R:Type}(cx:Cx) (px:Px R):Prop where
 p:PxOk cx px
 c:Em cx px
 q:CallQOk cx px
section
variable {R:Type}{P:Program}{el:Ck->TypeId}{gl:Nat->Option Gv}{tt:Nat->Ty}{cx:Cx}
theorem lv{px:Px R}{l:List (Nat×Kr R)}{lq:List (Nat×J4 R)}{lw:List (Nat×Yh R)}(H:Hx P el gl tt cx)(h:∀g f,(g,f)∈l->Kn cx g f)(hq:∀g f,(g,f)∈lq->Aa1 cx g f)(hw:∀g f,(g,f)∈lw->Iz cx g f)(h1:px.tt=tt:=by rfl)(h2:px.gl=gl:=by rfl)(h3:px.call=Bdd l:=by rfl)(h4:px.callQ=Axh lq:=by rfl)(h5:px.callW=tbl lw:=by rfl):Lv cx px :=⟨⟨λt=>by rw[h1,H.p,H.e];exact H.t t,by rw[h2,H.g]⟩,Bn1 h3 h,Bew h4 h5 hq hw⟩
theorem cO(H:Hx P el gl tt cx){g:Nat}{sa sr:List Sg}{F:HV sa->Option (HV sr)}(h:FnOk P el gl g sa sr F)(hsa:Ew (Bq 0 sa) []=true:=by kernel_rfl):Kn (R:=R) cx g (Adt sa sr F):=Bxu (by rw[H.p,H.e,H.g];exact h) hsa
theorem cL(H:Hx P el gl tt cx){g:Nat}{sg so:Sig}{F:FL sg so}(h:FnLn P el gl g sg so F)(hok:lnB sg so=true:=by kernel_rfl):Kn (R:=R) cx g (An sg so F):=Bx8 (by rw[H.p,H.e,H.g];exact h) hok
theorem cR(H:Hx P el gl tt cx){nb nt:Nat}{pc:Px R}{g:Nat}{fn:Func}{c:Code}{n:Nat}(h:Lv cx pc)(hf:P.funcs[g]? = some fn)(hb:fn.body=some c)(hl:∀i,i<n->Cl cx pc (lp fn i))(hname:(fn.name == "runtime.NumGoroutine")=false:=by kernel_rfl)(hcode:Sv fn=true:=by kernel_rfl)(hn:L9 fn=n:=by kernel_rfl):Kn cx g (A2 nb nt pc fn):=Bwa h.p h.c h.q (by rw[H.p];exact H.m) (by rw[H.p];exact hf) hb hname hcode hn hl
theorem c1(H:Hx P el gl tt cx){g:Nat}{sa sr:List Sg}{F:HV sa->Option (HV sr)}{l:List (Nat×Kr R)}(h:FnOk P el gl g sa sr F)(hl:∀g f,(g,f)∈l->Kn cx g f)(hsa:Ew (Bq 0 sa) []=true:=by kernel_rfl):∀g' f',(g',f')∈(g,Adt sa sr F)::l->Kn cx g' f':=Az (cO H h hsa) hl
theorem l1(H:Hx P el gl tt cx){g:Nat}{sg so:Sig}{F:FL sg so}{l:List (Nat×Kr R)}(h:FnLn P el gl g sg so F)(hl:∀g f,(g,f)∈l->Kn cx g f)(hok:lnB sg so=true:=by kernel_rfl):∀g' f',(g',f')∈(g,An sg so F)::l->Kn cx g' f':=Az (cL H h hok) hl
theorem q1(H:Hx P el gl tt cx){g:Nat}{sa sr:List Sg}{F:HV sa->Option (HV sr)}{l:List (Nat×J4 R)}(h:FnOk P el gl g sa sr F)(hl:∀g f,(g,f)∈l->Aa1 cx g f)(hsa:Ew (Bq 0 sa) []=true:=by kernel_rfl):∀g' f',(g',f')∈(g,Aby sa sr F)::l->Aa1 cx g' f':=Bgg (Bwr (by rw[H.p,H.e,H.g];exact h) hsa) hl
theorem w1(H:Hx P el gl tt cx){g:Nat}{sg so:Sig}{F:HV sg.sgs->Option (HV so.sgs)}{l:List (Nat×Yh R)}(h:FnLn P el gl g sg so F)(hl:∀g f,(g,f)∈l->Iz cx g f)(hok:lnB sg so=true:=by kernel_rfl):∀g' f',(g',f')∈(g,Dr sg so F)::l->Iz cx g' f':=Aq2 (Bxd (by rw[H.p,H.e,H.g];exact h) hok) hl
theorem lO{px:Px R}(H:Hx P el gl tt cx)(h:Lv cx px){b:Code}{k n:Nat}{s:Sig}{step:Ap1 (HV s.sgs) R}(hround:∀fr rec kx v,Tp px s b fr rec kx v=step rec kx v)(hin:∀i,i<n->Cl cx px (lpC b i))(hpx:∀st K,px.loop b st K=Am k s step st K:=by exactλ_ _=>by kernel_rfl)(hs:Y8 s=true:=by kernel_rfl)(hn:(Bt b).length=n:=by kernel_rfl):Cl cx px b:=Bs2 h.p h.c h.q (by rw[H.p];exact H.m) hpx hs hround (Ke hn hin)
theorem fO{f:FuncId}{fn:Func}{c:Code}{sa sr:List Sg}{px:Px (HV sr)}{F:FT sa sr}{n:Nat}(ht:∀t,C6 P el tt t=true)(hm:P.follows .mixedOrders=true)(hf:P.funcs[f]? = some fn)(hb:fn.body=some c)(hname:(fn.name == "runtime.NumGoroutine")=false)(hchk:(Sv fn&&Nat.ble sa.length fn.ntmps&&Ew (Bq 0 sa) [])=true)(hn:L9 fn=n)
  (h:∀cx,Hx P el gl tt cx->Lv cx px/\∀i,i<n->Cl cx px (lp fn i)) (hF:∀x,Bp3 px fn sa sr x some=F x):FnOk P el gl f sa sr F :=
 Blp hf hb hname hm hchk hn (λcx a b c=>by obtain⟨h1,h2⟩:=h cx ⟨a,b,c,ht,hm⟩;exact⟨h1.p,h1.c,h1.q,h2⟩) hF
theorem fL{f:FuncId}{fn:Func}{c:Code}{sg so:Sig}{px:Px (HV so.sgs)}{F:FL sg so}{n:Nat}(ht:∀t,C6 P el tt t=true)(hm:P.follows .mixedOrders=true)(hf:P.funcs[f]? = some fn)(hb:fn.body=some c)(hname:(fn.name == "runtime.NumGoroutine")=false)(hchk:(Sv fn&&Nat.ble sg.n fn.ntmps)=true)(hn:L9 fn=n)
  (h:∀cx,Hx P el gl tt cx->Lv cx px/\∀i,i<n->Cl cx px (lp fn i)) (hF:∀x,A4s px fn sg so x some=F x):FnLn P el gl f sg so F :=
 Bpy hf hb hname hm hchk hn (λcx a b c=>by obtain⟨h1,h2⟩:=h cx ⟨a,b,c,ht,hm⟩;exact⟨h1.p,h1.c,h1.q,h2⟩) hF
end
theorem Ct{s:Str}{i:Nat}(h:i<s.length):bat s (i:Int)=((s[i]'h).toNat:Int):=by simp[bat,List.getD_eq_getElem?_getD,h]
theorem As{c:Ck}{xs:List (El c)}{i:Nat}(h:i<xs.length):at' c xs (i:Int)=xs[i]'h:=by simp[at',List.getD_eq_getElem?_getD,h]
theorem Bjm{n:Nat}(h:ln n):wr .i64 (n:Int)=(n:Int):=Bf (by simp only[ln,inI] at *;omega)
theorem Au{i n:Nat}(h:i<n)(hn:ln n):wr .i64 ((i:Int)+1)=((i+1:Nat):Int):=by rw[Bf (by simp only[ln,inI] at *;omega)];rfl
theorem Ak{α:Type}{l:List α}{i:Nat}(h:i<l.length):l.drop i=l[i]'h::l.drop (i+1):=List.drop_eq_getElem_cons h
theorem Aw{i n:Nat}(h:i<n):inb (i:Int) n=true:=by simp[Brt,h]
theorem Bb{V R:Type}{step:(V->Option R)->V->Option R}{k:Nat}{v:V}:Al step (k+1) v=step (Al step k) v:=rfl
theorem Af{α:Type}{a b : α}:cond true a b=a:=rfl
theorem Ag{α:Type}{a b : α}:cond false a b=b:=rfl
theorem A0{α:Type}{c:Bool}{a b : α}:cond c (some a) (some b)=some (cond c a b):=by cases c<;>rfl
open Go.RowKit
structure ClOk (P:Program) (f:FuncId) (t:TypeId) (sz:Nat):Prop where
 enters:Sx.Enters P f
 con:∀(a:Option Addr) (n c:Nat) (xs:List Value),xs.all Sx.one=true->n<=1000000->Sx.Con P f [.slice a n c] [] (Sx.RdS (.slice a n c) sz n xs) (λv L _=>L=[.row v t sz n xs])
def Arz(P:Program)(f:FuncId):Prop:=∀(a:Option Addr) (c:Nat),Sx.Con P f [.slice a 0 c] [] (λ_=>True) (λv _ _=>∃a',v = .slice a' 0 0)
theorem Bw8{x:Vx}{c:Ck}{ys:List (El c)}{v:Value}(h:RF x.S x.w (.sl c ys .no) v):∃a cap vs,v = .slice a ys.length cap/\Bn x c ys vs/\∀w':World,(∀k,k<x.w.heap.size->w'.heap[k]? = x.w.heap[k]?)->Sx.RdS v (csz c) ys.length vs w':=by
 obtain⟨a,cap,vs,rfl,hrow,hcell⟩:=Jd h;refine⟨a,cap,vs,rfl,hrow,λw' hb=>⟨hrow.1,a,cap,rfl,?_⟩⟩;obtain⟨a',cap',he,hf⟩:=D6 h;simp only[Value.slice.injEq] at he;rcases hf with rfl|⟨b,o,e,hle,_⟩
 ·exact .inl rfl
 ·by_cases h0:ys=[]
  ·exact .inl (by rw[h0];rfl)
  ·refine .inr ⟨b,o,he.1.trans e,by rw[he.2.2];exact hle.1,λj u hj =>?_⟩;have hc:=hcell b o (he.1.trans e) h0 j u hj;rw[World.cell?_of_block (a:=⟨b,o+j,none⟩) (hb b (Vo hc))];exact hc
theorem Bda{P:Program}{Pre:World->Prop}{w:World}(h:∀w':World,(∀k,k<w.heap.size->w'.heap[k]? = w.heap[k]?)->Pre w'):Sx.StOk ⟨P,0,w,Sx.fps [],[]⟩ [] Pre w :=⟨Sx.Chg.refl _ _,by simp,by simp[Sx.fps],by simp[Sx.fps],by simp,λw' hc=>h w' λk hk=>hc.block k hk (by simp[Sx.fps])⟩
theorem Aim{w w':World}(h:Sx.Chg [] w w'):Chg D4 w w' :=.of_blocks h.os h.tape h.output h.size λk hk=>h.block k hk (by simp)
theorem Ry{P:Program}{f:FuncId}{x:Vx}{c:Ck}{ys:List (El c)}{v:Value}(h:ClOk P f (x.el c) (csz c))(hrf:RF x.S x.w (.sl c ys .no) v)(hn:ys.length<=1000000) :
  ∃vs,Bn x c ys vs/\Calls P f #[v] x.w λen w'=>∃u,en = .returned u/\Chg D4 x.w w'/\((u = .slice none 0 0/\ys=[])\/∃g cap cur,u = .slice (some ⟨g,0,none⟩) ys.length cap/\(x.w.heap.size<=g/\g<w'.heap.size)/\w'.heap[g]? = some (.cells cur (x.el c) (0,0))/\cur.size=cap*csz c/\ys.length<=cap/\cap<=maxLen/\cur.toList.take (ys.length*csz c)=vs):=by
 obtain⟨a,cap,vs,rfl,hrow,hrd⟩:=Bw8 hrf;refine⟨vs,hrow,((h.con a ys.length cap vs (Zg2.2 hrow.one) hn).run x.w [] (Bda hrd)).mono ?_⟩;rintro en w' ⟨u,L',F',rfl,rfl,hs⟩;refine⟨u,rfl,Aim (by simpa[Sx.fps] using hs.chg),?_⟩;have hok:w'.ownsRow 0 (x.el c) (csz c) u ys.length vs:=hs.ok (.row u (x.el c) (csz c) ys.length vs) (by simp);rcases hok.2 with ⟨rfl,h0⟩|⟨g,cap',cur,rfl,_,hh,hle,hm,hsz,htk⟩
 ·exact .inl ⟨rfl,List.eq_nil_of_length_eq_zero h0⟩
 ·refine .inr ⟨g,cap',cur,rfl,⟨?_,(Zh2.1 hh).1⟩,hh,hsz,hle,hm,htk⟩;rcases hs.own g (by simp[Sx.fps,Sx.Ent.fp]) with h1|h1
  ·cases h1
  ·exact h1
def Bw4(c:Ck):FT [.sl c false] [.sl c true]:=λ(ys:List (El c))=>cond (decide (ys.length<=1000000)) (some ys) none
theorem A2b{P:Program}{el:Ck->TypeId}{gl:Nat->Option Gv}{f:FuncId}{c:Ck}(h:ClOk P f (el c) (csz c)):FnOk P el gl f [.sl c false] [.sl c true] (Bw4 c):=by
 refine⟨h.enters,λx r hx w M vs hM _ hr =>?_⟩;have hx:cond (decide (List.length (α:=El c) x<=1000000)) (some x) none=some r:=hx;cases hd:decide (List.length (α:=El c) x<=1000000) with
 |false=>rw[hd] at hx;cases hx
 |true =>
  rw[hd] at hx;simp only[cond_true,Za1] at hx;subst hx;simp only[Zg1] at hd;simp only[Cc,Co,Reps] at hr;obtain⟨v,_,rfl,hv,rfl⟩:=hr;simp only[Rep] at hv;obtain⟨us,hrow,hc⟩:=Ry (x:=v0 el M w) h hv.1 hd;refine hc.mono ?_;rintro en w' ⟨u,rfl,hch,hu⟩;rcases hu with ⟨rfl,h0⟩|⟨g,cap,cur,rfl,⟨hg1,hg2⟩,hh,hsz,hle,hm,htk⟩
  ·refine⟨_,⟨λ_=>0,λ_=>none⟩,rfl,hch,λp g o _ hg=>by simp at hg,λp q g o o' _ _ hg=>by simp at hg,?_⟩;have h0:x=([]:List (El c)):=h0;subst h0;simp only[Hi,Cc,Co,Rep];exact⟨λ_ _ =>.nil _ _ _ _,by simp[vr],λ_ =>.inl ⟨rfl,rfl,rfl⟩⟩
  ·let m:Mp:=⟨λ_=>0,λp=>if p=0 then some (g,List.length (α:=El c) x*csz c) else none⟩;have hmt:∀p b o,m.tk p=some (b,o)->p=0/\b=g/\o=List.length (α:=El c) x*csz c:=λp b o hp=>by
    simp only[m] at hp;split at hp
    ·rename_i hp0;simp only[Za1,Zp1] at hp;exact⟨hp0,hp.1.symm,hp.2.symm⟩
    ·cases hp
   refine⟨_,m,rfl,hch,λp b o _ hp =>?_,λp q b o o' _ _ hp hq=>by rw[(hmt p b o hp).1,(hmt q b o' hq).1],?_⟩
   ·obtain⟨_,rfl,_⟩:=hmt p b o hp;exact⟨hg1,hg2⟩
   ·simp only[Hi,Cc,Co,Rep];have hrow2:Bn (vr el M m [.sl c true] w') c x us:=⟨hrow.1,λi y j d hy hd=>by
     obtain⟨z,hz,hf⟩:=hrow.2 i y j d hy hd;refine⟨z,hz,RF.later hf (hch.mono λ_ _ h=>h.elim) λb i hi =>?_⟩;rcases hi with hi|⟨p,o,_,hp,_⟩
     ·exact .inl hi
     ·obtain⟨_,rfl,_⟩:=hmt p b o hp;exact .inr hg1⟩
    refine⟨Alw hrow2 ⟨hle,hm⟩ (λj z hj =>?_) (λi hi =>?_),by simp[vr],λ_ =>.inr ⟨g,cap,cur,rfl,by simp[vr,m],hh,hsz,hle,hm⟩⟩
    ·show w'.cell? _=_;simp only[World.cell?,hh];have:cur.toList[j]? = some z:=by
      rw[<-htk,List.getElem?_take] at hj;split at hj
      ·exact hj
      ·cases hj
     simpa using this
    ·rintro(hMi|⟨p,o,_,hp,ho⟩)
     ·have:=hM g i hMi;have hg1:w.heap.size<=g:=hg1;omega
     ·obtain⟨_,_,rfl⟩:=hmt p g o hp;omega
section
variable {R:Type}{cx:Cx}
def Aj8(c:Ck)(args:List D)(st:St)(K:List D->St->Option R):Option R:=match args with
 |[.sl c' xs _]=>match decide (c' = c)&&decide (xs.length<=1000000) with|true=>cond (List.isEmpty xs) (K [.sl c' [] .z] st) (K [.osl st.nb c' 0 ((xs.length:Nat):Int)] (Hg st (.dyn c' xs)))|false=>none
 |_=>none
theorem Aie{x:Vx}{c:Ck}{ys:List (El c)}{vs:List Value}{g cap:Nat}{cur:Array Value}(hrow:Bn x c ys vs)(hh:x.w.heap[g]? = some (.cells cur (x.el c) (0,0)))(hsz:cur.size=cap*csz c)(hle:ys.length<=cap)(hm:cap<=maxLen)(htk:cur.toList.take (ys.length*csz c)=vs):Lu x g (.dyn c ys):=by
 refine⟨Nat.le_trans hle hm,cur.toList,x.el c,by rw[Array.toArray_toList];exact hh,(by have hq:=Nat.mul_le_mul_right (csz c) hle;rw[<-hsz] at hq;simpa using hq),λi y j d hy hd =>?_⟩;obtain⟨u,hu,hf⟩:=hrow.2 i y j d hy hd;refine⟨u,?_,hf⟩;rw[<-htk,List.getElem?_take] at hu;split at hu
 ·exact hu
 ·cases hu
theorem Biu{g:Nat}{c:Ck}(h:ClOk cx.P g (cx.el c) (csz c))(h0:Arz cx.P g){args:List D}{st:St}{K:List D->St->Option R}{r:R}(hc:Aj8 c args st K=some r):Of cx g args st K r:=by
 unfold Aj8 at hc;split at hc
 ·rename_i c' xs tk;split at hc
  ·rename_i hcc;simp only[Zb1,Zg1] at hcc;obtain⟨rfl,hn⟩:=hcc;refine⟨h.enters,λm a as_ w vs hr hargs =>?_⟩;simp only[Reps,Rep] at hargs;obtain⟨v,_,rfl,⟨hrf,_⟩,rfl⟩:=hargs;by_cases he:xs=[]
   ·subst he;obtain⟨ad,cap,rfl,_⟩:=hrf.here.slice;refine((h0 ad cap).run w [] (Bda λ_ _=>trivial)).mono ?_;rintro en w' ⟨u,L',F',rfl,⟨a',rfl⟩,hs⟩;have hch:Chg D4 w w':=Aim (by simpa[Sx.fps] using hs.chg);refine⟨_,rfl,_,st,m,hc,⟨rfl,rfl,rfl,rfl,rfl⟩,hr.quiet hch,?_⟩;simp only[Hi,Rep];exact⟨λ_ _ =>.nil _ _ _ _,rfl,a',rfl⟩
   ·have hie:List.isEmpty xs=false:=by cases xs with|nil=>exact absurd rfl he|cons _ _=>rfl
    rw[hie] at hc;obtain⟨us,hrow,hcl⟩:=Ry (x:=vx cx m (fs st) w) h hrf hn;refine hcl.mono ?_;rintro en w' ⟨u,rfl,hch,hu⟩;rcases hu with ⟨_,e⟩|⟨g2,cap,cur,rfl,⟨hg1,hg2⟩,hh,hsz,hle,hm,htk⟩
    ·exact absurd e he
    ·obtain⟨m',h1,h2⟩:=hr.newAt (k :=.dyn c' xs) (g:=g2) hch hg1 hg2 (λx' nx hw=>Aie (hrow.later nx) (by rw[hw,nx.el];exact hh) hsz hle hm htk);rw[<-Bo5] at h1 h2;refine⟨_,rfl,_,_,m',hc,⟨rfl,rfl,rfl,rfl,rfl⟩,h1,?_⟩;simp only[Rep] at h2;simp only[Hi,Rep];obtain⟨k1,k2⟩:=h2;simp only[Value.pointer.injEq,Za1,Addr.mk.injEq,and_true] at k2;have hbl:(vx cx m' (fs (Hg st (.dyn c' xs))) w').m.bl st.nb=g2:=k2.symm;refine⟨k1,Int.le_refl _,Int.natCast_nonneg _,by have:=Nat.le_trans hle hm;omega,some ⟨g2,0,none⟩,cap,by simp,.inr (by rw[hbl];simp),by simpa using hle,hm,cur,(0,0),by rw[hbl];exact hh,by simpa using hsz⟩
  ·cases hc
 ·cases hc
def Aio(c:Ck)(args:List D)(st:St)(K:D->List Nat->St->Option R):Option R:=match args with
 |[.sl c' xs _]=>match decide (c' = c)&&decide (xs.length<=1000000) with
  |true=>cond (List.isEmpty xs) (K (.sl c' [] .z) [] st) (match blk st.bl st.nb with
   |none=>K (.osl st.nb c' 0 ((xs.length:Nat):Int)) [] (Hg st (.dyn c' xs))
   |some _=>none)
  |false=>none
 |_=>none
theorem Bh3{st:St}(k:Blk)(h:blk st.bl st.nb=none):∀b,b∉([]:List Nat)->F2 (fs st) (fs (Hg st k)) b:=λb _=>by
 have e:∀q,(fs (Hg st k)).bl q=if q=st.nb then some k else(fs st).bl q:=λq=>A6 st.bl st.nb q k
 refine⟨λq hq =>?_,λq hq hlt =>?_⟩
 ·rw[e];by_cases hb:b=st.nb
  ·subst hb;have hq:blk st.bl st.nb=some q:=hq;rw[h] at hq;cases hq
  ·rw[if_neg hb];exact hq
 ·have hlt:b<st.nb:=hlt;rw[e,if_neg (by omega)] at hq;exact hq
theorem A8d{g:Nat}{c:Ck}(h:ClOk cx.P g (cx.el c) (csz c))(h0:Arz cx.P g):Iz (R:=R) cx g (Aio c):=by
 intro args st K r hc;unfold Aio at hc;split at hc
 ·rename_i c' xs tk;split at hc
  ·rename_i hcc;simp only[Zb1,Zg1] at hcc;obtain⟨rfl,hn⟩:=hcc;by_cases he:xs=[]
   ·subst he;refine⟨_,[],st,hc,⟨rfl,rfl,rfl,rfl,rfl⟩,Zn1 _,λb _=>F2.of_bl rfl b,h.enters,λs m a as_ w vs hW hr hargs =>?_⟩;simp only[Reps,Rep] at hargs;obtain⟨v,_,rfl,⟨hrf,_⟩,rfl⟩:=hargs;obtain⟨ad,cap,rfl,_⟩:=hrf.here.slice;refine((h0 ad cap).run w [] (Bda λ_ _=>trivial)).mono ?_;rintro en w' ⟨u,L',F',rfl,⟨a',rfl⟩,hs⟩;have hch:Chg D4 w w':=Aim (by simpa[Sx.fps] using hs.chg);rw[T7 hW];refine⟨_,rfl,m,hr.quiet hch,?_⟩;simp only[Rep];exact⟨λ_ _ =>.nil _ _ _ _,rfl,a',rfl⟩
   ·have hie:List.isEmpty xs=false:=by cases xs with|nil=>exact absurd rfl he|cons _ _=>rfl
    rw[hie] at hc;cases hfr:blk st.bl st.nb with
    |some k=>rw[hfr] at hc;cases hc
    |none =>
    rw[hfr] at hc;refine⟨_,[],Hg st (.dyn c' xs),hc,⟨rfl,rfl,rfl,rfl,rfl⟩,Nat.le_succ _,Bh3 _ hfr,h.enters,λs m a as_ w vs hW hr hargs =>?_⟩;simp only[Reps,Rep] at hargs;obtain⟨v,_,rfl,⟨hrf,_⟩,rfl⟩:=hargs;obtain⟨us,hrow,hcl⟩:=Ry (x:=vx cx m s w) h hrf hn;refine hcl.mono ?_;rintro en w' ⟨u,rfl,hch,hu⟩;rcases hu with ⟨_,e⟩|⟨g2,cap,cur,rfl,⟨hg1,hg2⟩,hh,hsz,hle,hm,htk⟩
    ·exact absurd e he
    ·obtain⟨m',h1,h2⟩:=hr.newAt (k :=.dyn c' xs) (g:=g2) hch hg1 hg2 (λx' nx hw=>Aie (hrow.later nx) (by rw[hw,nx.el];exact hh) hsz hle hm htk);rw[Pb st _ s hW];refine⟨_,rfl,m',h1,?_⟩;simp only[Rep] at h2 ⊢;obtain⟨k1,k2⟩:=h2;simp only[Value.pointer.injEq,Za1,Addr.mk.injEq,and_true] at k2;have hnb:st.nb=s.nb:=hW.2.1.symm;rw[hnb];have hbl:(vx cx m' { s with bl:=λb=>if b=s.nb then some (.dyn c' xs) else s.bl b,nb:=s.nb+1 } w').m.bl s.nb=g2:=k2.symm;refine⟨k1,Int.le_refl _,Int.natCast_nonneg _,by have:=Nat.le_trans hle hm;omega,some ⟨g2,0,none⟩,cap,by simp,.inr (by rw[hbl];simp),by simpa using hle,hm,cur,(0,0),by rw[hbl];exact hh,by simpa using hsz⟩
  ·cases hc
 ·cases hc
theorem Bby{α:Type}(l:List α):cut l 0 (0+((l.length:Nat):Int))=l:=by simp[cut]
theorem Bb5{m:Mp}{a:Act}{as_:List Act}{st:St}{w:World}(hr:Rel cx m a as_ (fs st) w){b cap:Nat}{c:Ck}{xs:List (El c)}(hb:blk st.bl b=some (.dyn c xs)){cur:Array Value}(hh:w.heap[m.bl b]? = some (.cells cur (cx.el c) (0,0)))(hsz:cur.size=cap*csz c)(hle:xs.length<=cap)(hm:cap<=maxLen) :
  Rel cx m a as_ (fs { st with bl:=B1 st.bl b }) w/\Rep (vx cx m (fs { st with bl:=B1 st.bl b }) w) (.sl c xs .no) (.slice (some ⟨m.bl b,0,none⟩) xs.length cap):=by
 have hd:Rep (vx cx m (fs st) w) (.osl b c 0 ((xs.length:Nat):Int)) (.slice (some ⟨m.bl b,0,none⟩) xs.length cap):=by simp only[Rep];exact⟨(hr.blks b _ hb).1,Int.le_refl _,Int.natCast_nonneg _,by have:=Nat.le_trans hle hm;omega,some ⟨m.bl b,0,none⟩,cap,by simp,.inr (by simp[vx]),by simpa using hle,hm,cur,(0,0),hh,by simpa using hsz⟩
 have hf:Bfr st.bl (.osl b c 0 ((xs.length:Nat):Int)) (λd bl=>some (d,bl))=some (.sl c xs .no,B1 st.bl b):=by simp only[Bfr,hb,decide_true];rw[Bby];refine(Amb ?_);simp
 obtain⟨d',bl',hk,hrel,_,hrep,_⟩:=Ayb hr hd hf;simp only[Za1,Zp1] at hk;obtain⟨rfl,rfl⟩:=hk;exact⟨hrel,hrep⟩
theorem Boh{m:Mp}{a:Act}{as_:List Act}{st:St}{w w':World}(hr:Rel cx m a as_ (fs st) w){b cap:Nat}{c:Ck}{xs xs':List (El c)}{vs':List Value}(hb:blk st.bl b=some (.dyn c xs))(hch:Chg (λq _=>q=m.bl b) w w')(hh:w'.heap[m.bl b]? = some (.cells vs'.toArray (cx.el c) (0,0)))(hl:vs'.length=cap*csz c)(hrow:Bn (vx cx m (fs st) w) c xs' (vs'.take (xs'.length*csz c)))(hle:xs'.length<=cap)(hm:cap<=maxLen) :
  ∃m',Rel cx m' a as_ (fs { st with bl:=B1 st.bl b,nb:=st.nb+1 }) w'/\Rep (vx cx m' (fs { st with bl:=B1 st.bl b,nb:=st.nb+1 }) w') (.sl c xs' .no) (.slice (some ⟨m.bl b,0,none⟩) xs'.length cap):=by
 have hrel1:=hr.write (k :=.dyn c xs') (b:=b) hb hch (λx' nx hw=>Aie (hrow.later nx) (by rw[hw,nx.el];exact hh) (by simpa using hl) hle hm (by simp));have e1:fs { st with bl:=I5 st.bl b (.dyn c xs') }={ fs st with bl:=λq=>if q=b then some (.dyn c xs') else(fs st).bl q }:=by
  refine FS.eq rfl rfl rfl rfl rfl ?_ rfl rfl rfl;funext q;show blk (I5 st.bl b _) q=_;rw[Ki];by_cases hq:q=b
  ·subst hq;simp[hb]
  ·simp[hq];rfl
 rw[<-e1] at hrel1;have hb1:blk (I5 st.bl b (.dyn c xs')) b=some (.dyn c xs'):=by rw[Ki,if_pos rfl,hb];rfl
 obtain⟨h1,h2⟩:=Bb5 (st:={ st with bl:=I5 st.bl b (.dyn c xs') }) hrel1 hb1 hh (by simpa using hl) hle hm;have e2:fs { st with bl:=B1 (I5 st.bl b (.dyn c xs')) b }=fs { st with bl:=B1 st.bl b }:=by refine FS.eq rfl rfl rfl rfl rfl ?_ rfl rfl rfl;funext q;show blk (B1 (I5 st.bl b _) b) q=blk (B1 st.bl b) q;rw[Ed,Ed,Ki];by_cases hq:q=b<;>simp[hq]
 have h1:Rel cx m a as_ (fs { st with bl:=B1 st.bl b }) w':=by rw[<-e2];exact h1
 have h3:=Rel.raise (st:={ st with bl:=B1 st.bl b }) (nb:=st.nb+1) (nt:=st.nt) (Nat.le_succ _) (Zn1 _) h1;refine⟨m,h3,?_⟩;simp only[Rep] at h2 ⊢;refine⟨?_,trivial⟩;have h4:=h2.1;have hS:(vx cx m (fs { st with bl:=B1 (I5 st.bl b (.dyn c xs')) b }) w').S=(vx cx m (fs { st with bl:=B1 st.bl b,nb:=st.nb+1 }) w').S:=by show(vx cx m (fs { st with bl:=B1 (I5 st.bl b (.dyn c xs')) b }) w').S=(vx cx m (fs { st with bl:=B1 st.bl b }) w').S;rw[e2]
 rw[<-hS];exact h4
theorem Bk9{m:Mp}{a:Act}{as_:List Act}{st:St}{w w':World}(hr:Rel cx m a as_ (fs st) w){b g cap:Nat}{c:Ck}{xs':List (El c)}{vs':List Value}(hch:Chg D4 w w')(hg1:w.heap.size<=g)(hh:w'.heap[g]? = some (.cells vs'.toArray (cx.el c) (0,0)))(hl:vs'.length=cap*csz c)(hrow:Bn (vx cx m (fs st) w) c xs' (vs'.take (xs'.length*csz c)))(hle:xs'.length<=cap)(hm:cap<=maxLen) :
  ∃m',Rel cx m' a as_ (fs { st with bl:=B1 st.bl b,nb:=st.nb+1 }) w'/\Rep (vx cx m' (fs { st with bl:=B1 st.bl b,nb:=st.nb+1 }) w') (.sl c xs' .no) (.slice (some ⟨g,0,none⟩) xs'.length cap):=by
 obtain⟨m',h1,h2⟩:=hr.newAt (k :=.dyn c xs') (g:=g) hch hg1 (Zh2.1 hh).1 (λx' nx hw=>Aie (hrow.later nx) (by rw[hw,nx.el];exact hh) (by simpa using hl) hle hm (by simp));rw[<-Bo5] at h1 h2;simp only[Rep] at h2;have k2:=h2.2;simp only[Value.pointer.injEq,Za1,Addr.mk.injEq,and_true] at k2;have hbl:m'.bl st.nb=g:=k2.symm;have hb1:blk (Hg st (.dyn c xs')).bl st.nb=some (.dyn c xs'):=by show blk ((st.nb,_)::st.bl) st.nb=_;rw[A6,if_pos rfl]
 obtain⟨h3,h4⟩:=Bb5 (st:=Hg st (.dyn c xs')) h1 hb1 (by rw[hbl];exact hh) (by simpa using hl) hle hm;rw[hbl] at h4;obtain⟨h5,nx⟩:=h3.drop b;have h6:=Rep.later nx _ _ h4;have hnone:blk st.bl st.nb=none:=by cases hk:blk st.bl st.nb with|none=>rfl|some k=>exact absurd (hr.blks st.nb k hk).1 (Nat.lt_irrefl _)
 have e:fs { { Hg st (.dyn c xs') with bl:=B1 (Hg st (.dyn c xs')).bl st.nb } with bl:=B1 (B1 (Hg st (.dyn c xs')).bl st.nb) b }=fs { st with bl:=B1 st.bl b,nb:=st.nb+1 }:=by
  refine FS.eq rfl rfl rfl rfl rfl ?_ rfl rfl rfl;funext q;show blk (B1 (B1 ((st.nb,_)::st.bl) st.nb) b) q=blk (B1 st.bl b) q;rw[Ed,Ed,Ed,A6];by_cases hq:q=b
  ·simp[hq]
  ·rw[if_neg hq,if_neg hq];by_cases hn:q=st.nb
   ·rw[if_pos hn,hn,hnone]
   ·rw[if_neg hn,if_neg hn]
 rw[e] at h5 h6;exact⟨m',h5,h6⟩
theorem Bcd{x:Vx}{c:Ck}{xs:List (El c)}{vs:List Value}(hl:xs.length*csz c<=vs.length)(h:∀i y j d,xs[i]? = some y->(enc c y)[j]? = some d->∃u,vs[i*csz c+j]? = some u/\RF x.S x.w d u):Bn x c xs (vs.take (xs.length*csz c)):=by
 refine⟨by rw[List.length_take];exact Nat.min_eq_left hl,λi y j d hy hd =>?_⟩;obtain⟨u,hu,hf⟩:=h i y j d hy hd;refine⟨u,?_,hf⟩;have hi:i<xs.length:=(Zi2.1 hy).1;have hj:j<csz c:=by rw[<-B4 c y];exact(Zi2.1 hd).1
 have:i*csz c+j<xs.length*csz c:=by have h1:(i+1)*csz c<=xs.length*csz c:=Nat.mul_le_mul_right _ hi;rw[Nat.add_mul] at h1;omega
 rw[List.getElem?_take_of_lt this];exact hu
theorem Bn.take{x:Vx}{c:Ck}{xs:List (El c)}{vs:List Value}(h:Bn x c xs vs)(k:Nat)(hk:k<=xs.length):Bn x c (xs.take k) (vs.take (k*csz c)):=by
 have hkl:(xs.take k).length=k:=by rw[List.length_take];exact Nat.min_eq_left hk
 have:=Bcd (x:=x) (c:=c) (xs:=xs.take k) (vs:=vs) (by rw[hkl,h.1];exact Nat.mul_le_mul_right _ hk) (λi y j d hy hd=>by
  rw[List.getElem?_take] at hy;split at hy
  ·exact h.2 i y j d hy hd
  ·cases hy)
 rwa[hkl] at this
theorem Bn.drop{x:Vx}{c:Ck}{xs:List (El c)}{vs:List Value}(h:Bn x c xs vs)(k:Nat):Bn x c (xs.drop k) (vs.drop (k*csz c)):=by refine⟨by rw[Za2,Za2,h.1,Nat.sub_mul],λi y j d hy hd =>?_⟩;rw[List.getElem?_drop] at hy;obtain⟨u,hu,hf⟩:=h.2 (k+i) y j d hy hd;refine⟨u,?_,hf⟩;rw[List.getElem?_drop,<-hu];congr 1;rw[Nat.add_mul,Nat.add_assoc]
theorem Bpe{w:World}{d:D}(h:FV w d (.tuple #[])):False:=by cases h
theorem Bmy{x:Vx}{c:Ck}{y:El c}{ys:List (El c)}{b o n cap g:Nat}{cs:Array Value}{t:TypeId}(h:RF x.S x.w (.sl c (y::ys) .no) (.slice (some ⟨b,o,none⟩) n cap))(hg:∀i,x.S g i)(hh:x.w.heap[g]? = some (.cells cs t (0,0))):b≠g:=by
 intro e;subst e;have hch:Chg x.S x.w (x.w.setRow b (List.replicate cs.size (.tuple #[])).toArray):=by have hsx:Sx.Chg [b] x.w (x.w.setRow b (List.replicate cs.size (.tuple #[])).toArray):=⟨rfl,rfl,rfl,by simp,λk _ hn=>setRow_other x.w b k _ (by simpa using hn)⟩;refine(M1 hsx (vs:=cs.toList) (us:=List.replicate cs.size (.tuple #[])) (t:=t) (by rw[Array.toArray_toList];exact hh) (setRow_heap _ b _ _ t (0,0) hh) (by simp)).mono λq i hq =>?_;subst hq;exact hg i
 obtain⟨a',cap',e,hf⟩:=(h _ hch).slice;rcases hf with e0|⟨b',o',rfl,_,hat⟩
 ·cases e0
 ·simp only[Value.slice.injEq,Za1,Addr.mk.injEq,and_true] at e;obtain⟨⟨rfl,rfl⟩,_⟩:=e;have hlt : 0<(enc c y).length:=by rw[B4];exact Ah7 c
  obtain⟨u,hu,hfv⟩:=hat 0 y rfl 0 _ (Zo1 hlt);have hh2:=setRow_heap x.w b _ (List.replicate cs.size (Value.tuple #[])).toArray t (0,0) hh;simp only[World.cell?,hh2] at hu;simp only[Option.isSome_none,Zj2,if_false] at hu;have:u = .tuple #[]:=by obtain⟨hq,hu⟩:=Zh2.1 hu;simp at hu;exact hu.symm
  subst this;exact Bpe hfv
structure InsOk (P:Program) (f:FuncId) (t:TypeId):Prop where
 enters:Sx.Enters P f
 con:∀(g n i cap vb vo vc:Nat) (cs ys:List Value),0<n->i<=n->n<=cap->cs.length=cap*2->(∀v,v∈cs.take (n*2)->Sx.one v=true)->ys.length=2->(∀v,v∈ys->Sx.one v=true)->vb≠g->n<=1000000 ->
  Sx.Con P f [.slice (some ⟨g,0,none⟩) n cap,.int .i64 i,.slice (some ⟨vb,vo,none⟩) 1 vc] [.blk g cs t] (λw=>∀(j:Nat) v,ys[j]? = some v->w.cell? ⟨vb,vo+j,none⟩=some v) (λv L _ =>
   (∃cs',v = .slice (some ⟨g,0,none⟩) (n+1) cap/\n+1<=cap/\L=[.blk g cs' t]/\cs'.length=cs.length/\cs'.take ((n+1)*2)=cs.take (i*2)++ys++(cs.drop (i*2)).take ((n-i)*2)) \/
   (∃b cap' cs',v = .slice (some ⟨b,0,none⟩) (n+1) cap'/\n+1<=cap'/\cap'<=maxLen/\L=[.blk b cs' t,.blk g cs t]/\cs'.length=cap'*2/\cs'.take ((n+1)*2)=cs.take (i*2)++ys++(cs.drop (i*2)).take ((n-i)*2)))
 con0:∀(a:Option Addr) (vb vo vc:Nat) (ys:List Value),ys.length=2->(∀v,v∈ys->Sx.one v=true) ->
  Sx.Con P f [.slice a 0 0,.int .i64 0,.slice (some ⟨vb,vo,none⟩) 1 vc] [] (λw=>∀(j:Nat) v,ys[j]? = some v->w.cell? ⟨vb,vo+j,none⟩=some v) (λv L _=>∃b cap' cs',v = .slice (some ⟨b,0,none⟩) 1 cap'/\1<=cap'/\cap'<=maxLen/\L=[.blk b cs' t]/\cs'.length=cap'*2/\cs'.take 2=ys)
def Aii(args:List D)(st:St)(K:List D->St->Option R):Option R:=match args with
 |[.osl b .idx p n,.int .i64 i,.sl .idx [y] _]=>match blk st.bl b with
  |some (.dyn .idx xs)=>chk (decide (p=0)&&decide (0<n)&&decide (n=(xs.length:Int))&&decide (0<=i)&&decide (i<=n)&&decide (n<=1000000)) (K [.sl .idx (xs.take i.toNat++y::xs.drop i.toNat) .no] { st with bl:=B1 st.bl b,nb:=st.nb+1 })
  |_=>none
 |[.sl .idx [] .z,.int .i64 i,.sl .idx [y] _]=>chk (decide (i=0)) (K [.sl .idx [y] .no] st)
 |_=>none
theorem Aqj{x:Vx}{y:El .idx}{v:Value}(h:RF x.S x.w (.sl .idx [y] .no) v):∃vb vo vc us,v = .slice (some ⟨vb,vo,none⟩) 1 vc/\Bn x .idx [y] us/\us.length=2/\(∀z,z∈us->Sx.one z=true)/\∀(j:Nat) u,us[j]? = some u->x.w.cell? ⟨vb,vo+j,none⟩=some u:=by
 obtain⟨a,cap,us,rfl,hrow,hcell⟩:=Jd h;obtain⟨a',cap',e,hf⟩:=D6 h;simp only[Value.slice.injEq] at e;rcases hf with e0|⟨b,o,e1,_⟩
 ·cases e0
 ·have ha:=e.1.trans e1;subst ha;exact⟨b,o,cap,us,rfl,hrow,by rw[hrow.1];rfl,hrow.one,hcell b o rfl (by simp)⟩
theorem A9s{g:Nat}(h:InsOk cx.P g (cx.el .idx)){args:List D}{st:St}{K:List D->St->Option R}{r:R}(hc:Aii args st K=some r):Of cx g args st K r:=by
 unfold Aii at hc;split at hc
 ·rename_i b p n i y tk;split at hc
  ·rename_i xs hb;obtain⟨hk,hK⟩:=Ba hc;simp only[Zb1,Zg1] at hk;obtain⟨⟨⟨⟨⟨hp,hn⟩,hnl⟩,hi0⟩,hin⟩,hbig⟩:=hk;subst hp hnl;obtain⟨i,rfl⟩:∃k:Nat,i=k:=⟨i.toNat,by omega⟩;refine⟨h.enters,λm a as_ w vs hr hargs =>?_⟩;simp only[Reps,Rep] at hargs;obtain⟨v1,_,rfl,⟨hb1,_,_,_,ad,cap,rfl,had,hle,hcm,cur,f,hh1,hsz⟩,v2,_,rfl,⟨rfl,_⟩,v3,_,rfl,⟨hrf,_⟩,rfl⟩:=hargs;obtain⟨_,hlen,vs,t,hh2,hvl,hel⟩:=hr.blks b _ hb;have hh1:w.heap[m.bl b]? = some (.cells cur (cx.el .idx) f):=hh1;have hh2:w.heap[m.bl b]? = some (.cells vs.toArray t (0,0)):=hh2;rw[hh1] at hh2;simp only[Za1,Obj.cells.injEq] at hh2;obtain⟨rfl,rfl,rfl⟩:=hh2;obtain rfl:=had.resolve_left (by omega);have hsz2:vs.length=cap*2:=by simpa[csz] using hsz
   simp only[Int.toNat_natCast] at hle;have hrowx:=Bcd (x:=vx cx m (fs st) w) hvl hel;obtain⟨vb,vo,vc,us,rfl,hrow3,hul,hu1,hucell⟩:=Aqj hrf;have hbn:(fs st).bl b≠none:=by rw[show(fs st).bl b=some _ from hb];simp
   have hne:vb≠m.bl b:=Bmy (x:=vx cx m (fs st) w) hrf (λ_ =>.inr (.inl ⟨b,hbn,rfl⟩)) hh1;have hx1:∀v,v∈vs.take (xs.length*2)->Sx.one v=true:=hrowx.one;have hcon:=h.con (m.bl b) xs.length i cap vb vo vc vs us (by omega) (by omega) hle hsz2 hx1 hul hu1 hne (by omega);have hst:Sx.StOk ⟨cx.P,0,w,Sx.fps [.blk (m.bl b) vs (cx.el .idx)],[]⟩ [.blk (m.bl b) vs (cx.el .idx)] (λw=>∀(j:Nat) v,us[j]? = some v->w.cell? ⟨vb,vo+j,none⟩=some v) w:=by
    refine⟨Sx.Chg.refl _ _,λq hq =>?_,by simp[Sx.fps,Sx.Ent.fp],λq hq =>.inl hq,by simp,λw' hc' j v hj =>?_⟩
    ·simp only[List.mem_singleton] at hq;subst hq;exact hh1
    ·refine hc'.cell (hucell j v hj) ?_;simpa[Sx.fps,Sx.Ent.fp] using hne
   have hargs:([.slice (some ⟨m.bl b,(0:Int).toNat*csz .idx,none⟩) ((xs.length:Nat):Int).toNat cap,.int .i64 (i:Int),.slice (some ⟨vb,vo,none⟩) 1 vc]:List Value)=[.slice (some ⟨m.bl b,0,none⟩) xs.length cap,.int .i64 i,.slice (some ⟨vb,vo,none⟩) 1 vc]:=by simp
   show Calls cx.P g ([.slice (some ⟨m.bl b,(0:Int).toNat*csz .idx,none⟩) ((xs.length:Nat):Int).toNat cap,.int .i64 (i:Int),.slice (some ⟨vb,vo,none⟩) 1 vc]:List Value).toArray w _;rw[hargs];refine(hcon.run w [] hst).mono ?_;rintro en w' ⟨u,L',F',rfl,hpost,hs⟩;have hsc:Sx.Chg [m.bl b] w w':=by simpa[Sx.fps,Sx.Ent.fp] using hs.chg
   have hil:i<=xs.length:=by omega
   have hnew:Bn (vx cx m (fs st) w) .idx (xs.take i++y::xs.drop i) (vs.take (i*2)++us++(vs.drop (i*2)).take ((xs.length-i)*2)):=by
    have e1:=hrowx.take i hil;have e2:=hrowx.drop i;have e3:=(e1.append hrow3).append e2;rw[Zj1,List.singleton_append] at e3;have q1:(vs.take (xs.length*csz .idx)).take (i*csz .idx)=vs.take (i*2):=by rw[List.take_take,Nat.min_eq_left (Nat.mul_le_mul_right _ hil)];rfl
    have q2:(vs.take (xs.length*csz .idx)).drop (i*csz .idx)=(vs.drop (i*2)).take ((xs.length-i)*2):=by rw[List.drop_take];show(vs.drop (i*2)).take (xs.length*2-i*2)=_;rw[<-Nat.sub_mul]
    rw[q1,q2] at e3;exact e3
   have hnl:(xs.take i++y::xs.drop i).length=xs.length+1:=by simp only[Zh1,List.length_take,Zf1,Za2];omega
   simp only[Int.toNat_natCast] at hK;rcases hpost with ⟨cs',rfl,hroom,rfl,hcl,htk⟩|⟨b',cap',cs',rfl,hroom,hcm',rfl,hcl,htk⟩
   ·have hh':w'.heap[m.bl b]? = some (.cells cs'.toArray (cx.el .idx) (0,0)):=hs.ok (.blk (m.bl b) cs' (cx.el .idx)) (by simp);obtain⟨m',k1,k2⟩:=Boh (c :=.idx) (xs':=xs.take i++y::xs.drop i) hr hb (M1 hsc hh1 hh' hcl) hh' (cap:=cap) (by rw[hcl];exact hsz2) (by rw[hnl];show Bn _ _ _ (cs'.take ((xs.length+1)*2));rw[htk];exact hnew) (by rw[hnl];exact hroom) hcm;rw[hnl] at k2;exact⟨_,rfl,_,_,m',hK,⟨rfl,rfl,rfl,rfl,rfl⟩,k1,k2⟩
   ·have hh':w'.heap[b']? = some (.cells cs'.toArray (cx.el .idx) (0,0)):=hs.ok (.blk b' cs' (cx.el .idx)) (by simp);have hho:w'.heap[m.bl b]? = some (.cells vs.toArray (cx.el .idx) (0,0)):=hs.ok (.blk (m.bl b) vs (cx.el .idx)) (by simp);have hbb:b'≠m.bl b:=by have:=hs.nodup;simpa[Sx.fps,Sx.Ent.fp] using this
    have hg1:w.heap.size<=b':=by
     rcases hs.own b' (by simp[Sx.fps,Sx.Ent.fp]) with h1|h1
     ·exact absurd (by simpa[Sx.fps,Sx.Ent.fp] using h1) hbb
     ·exact h1
    have hch:Chg D4 w w' :=.of_blocks hsc.os hsc.tape hsc.output hsc.size λk hk=>by
     by_cases hkb:k=m.bl b
     ·rw[hkb,hho,hh1]
     ·exact hsc.block k hk (by simpa using hkb)
    obtain⟨m',k1,k2⟩:=Bk9 (b:=b) (c :=.idx) (xs':=xs.take i++y::xs.drop i) hr hch hg1 hh' (cap:=cap') hcl (by rw[hnl];show Bn _ _ _ (cs'.take ((xs.length+1)*2));rw[htk];exact hnew) (by rw[hnl];exact hroom) hcm';rw[hnl] at k2;exact⟨_,rfl,_,_,m',hK,⟨rfl,rfl,rfl,rfl,rfl⟩,k1,k2⟩
  ·cases hc
 ·rename_i i y tk;obtain⟨hk,hK⟩:=Ba hc;simp only[Zg1] at hk;subst hk;refine⟨h.enters,λm a as_ w vs hr hargs =>?_⟩;simp only[Reps,Rep,TkR] at hargs;obtain⟨v1,_,rfl,⟨_,_,ad,rfl⟩,v2,_,rfl,⟨rfl,_⟩,v3,_,rfl,⟨hrf,_⟩,rfl⟩:=hargs;obtain⟨vb,vo,vc,us,rfl,hrow3,hul,hu1,hucell⟩:=Aqj hrf;refine((h.con0 ad vb vo vc us hul hu1).run w [] (Bda λw' hb j v hj =>?_)).mono ?_
  ·have hcv:=hucell j v hj;rw[World.cell?_of_block (a:=⟨vb,vo+j,none⟩) (hb vb (Vo hcv))];exact hcv
  ·rintro en w' ⟨u,L',F',rfl,⟨b',cap',cs',rfl,hroom,hcm',rfl,hcl,htk⟩,hs⟩;have hch:Chg D4 w w':=Aim (by simpa[Sx.fps] using hs.chg);have hh':w'.heap[b']? = some (.cells cs'.toArray (cx.el .idx) (0,0)):=hs.ok (.blk b' cs' (cx.el .idx)) (by simp);have hg1:w.heap.size<=b':=by
    rcases hs.own b' (by simp[Sx.fps,Sx.Ent.fp]) with h1|h1
    ·cases h1
    ·exact h1
   have nx:Nx (vx cx m (fs st) w) (vx cx m (fs st) w'):=⟨hch.mono (λ_ _ h=>h.elim),λb i hi =>.inl hi,rfl,λ_ _=>rfl,Zn1 _,Zn1 _,λt _ ha=>⟨ha,rfl,λg o hg=>hch.block g (hr.own_t ha hg) (λ_ h=>h)⟩⟩;refine⟨_,rfl,_,st,m,hK,⟨rfl,rfl,rfl,rfl,rfl⟩,hr.quiet hch,?_⟩;simp only[Hi,Rep];refine⟨Alw (x:=vx cx m (fs st) w') (hrow3.later nx) ⟨hroom,hcm'⟩ (λj z hj =>?_) (λi _=>Aqo hr hg1 i),trivial⟩;show w'.cell? _=_;simp only[World.cell?,hh'];rw[<-htk,List.getElem?_take] at hj;split at hj
   ·simpa using hj
   ·cases hj
 ·cases hc
end
section
variable {R:Type}{P:Program}{el:Ck->TypeId}{gl:Nat->Option Gv}{tt:Nat->Ty}{cx:Cx}
theorem cCl(H:Hx P el gl tt cx){g:Nat}{c:Ck}(h:ClOk P g (el c) (csz c))(h0:Arz P g):Kn (R:=R) cx g (Aj8 c):=λ_ _ _ _ hc=>Biu (by rw[H.p,H.e];exact h) (by rw[H.p];exact h0) hc
theorem Byj(H:Hx P el gl tt cx){g:Nat}{c:Ck}(h:ClOk P g (el c) (csz c))(h0:Arz P g):Iz (R:=R) cx g (Aio c):=A8d (by rw[H.p,H.e];exact h) (by rw[H.p];exact h0)
theorem Byq(H:Hx P el gl tt cx){g:Nat}(h:InsOk P g (el .idx)):Kn (R:=R) cx g Aii:=λ_ _ _ _ hc=>A9s (by rw[H.p,H.e];exact h) hc
end
end Go.Ax
namespace Go.Sx
open Go.RowKit
section
variable {cx:Cx}{k:List KI}{e:Env}{L:Loc}{F:World->Prop}{Q:Exit->Act->World->Prop}{ops:Array Oper}{l:List Oper}{w:World}
theorem StOk.swap{x y:Ent}(h:StOk cx (x::L) F w)(hfp:y.fp=x.fp)(hok:y.ok w):StOk cx (y::L) F w:=by
 have he:fps (y::L)=fps (x::L):=by simp[fps,hfp]
 refine⟨h.chg,?_,by rw[he];exact h.nodup,by rw[he];exact h.own,h.away,by rw[he];exact h.rob⟩;intro z hz;simp only[List.mem_cons] at hz;rcases hz with rfl|hz
 ·exact hok
 ·exact h.ok z (Zu1 _ hz)
theorem StOk.blkrow{b:Nat}{u:TypeId}(sz:Nat)(h:StOk cx (.blk b [] u::L) F w):StOk cx (.row (.slice (some ⟨b,0,none⟩) 0 0) u sz 0 []::L) F w :=h.swap rfl ⟨by simp,.inr ⟨b,0, #[],rfl,Nat.zero_le _,h.ok _ Zr1,Zn1 _,Nat.zero_le _,by simp,by simp⟩⟩
theorem Aa0{b:Nat}{u:TypeId}(sz:Nat)(h:O cx ops l k e (.row (.slice (some ⟨b,0,none⟩) 0 0) u sz 0 []::L) F Q):O cx ops l k e (.blk b [] u::L) F Q :=.mk λa w he hs=>h.run a w he (hs.blkrow sz)
theorem U4{P:Program}{t t':TypeId}{x y:Operand}{a:Option Addr}{n c:Nat}(sz:Nat)(ht:(elSz P t == some sz)=true)(hx:Env.ev e x=some (.slice a n c))(hy:Env.ev e y=some (.slice none 0 0)):Pure P e (.binOp .eql t x y t') (.bool a.isNone):=by obtain⟨u,hu,_⟩:=Np (n:=sz) (by simpa using ht);refine p_bin hx hy (λw=>rfl) λw =>?_;have:=run_equal_slice_nil (P:=P) w t u a n c hu;simp[binOp,this]
end
theorem Aw5{P:Program}(w:World)(dT sT ty elem:TypeId)(i0:TypeInfo)(g o dLen dCap:Nat)(a:Addr)(sLen sCap:Nat)(cur:Array Value)(t:TypeId)(cs:List Value)(hu:P.underlying dT=some (.slice elem))(hi:P.info? elem=some i0)
  (hg:w.heap[g]? = some (.cells cur t (0,0))) (hn:cs.length=Nat.min sLen dLen*i0.size) (hsrc:∀j v,cs[j]? = some v->w.cell? (a.add j)=some v) (hfit:o+cs.length<=cur.size) (h1:∀v∈cs,v.oneCell' = true) :
  (Builtin.copy_ #[dT,sT] ty #[.slice (some ⟨g,o,none⟩) dLen dCap,.slice (some a) sLen sCap]).run P w =
   .ok (goInt (Nat.min sLen dLen)) (w.setRow g (cur.toList.take o++cs++cur.toList.drop (o+cs.length)).toArray):=by
 have hl:=run_firstCells_some (P:=P) w i0.size (Nat.min sLen dLen) a sLen sCap cs hn hsrc;have hst:=run_storeCells_at P g o t cs 0 cur w hg (by simpa using hfit) h1;simp only[Nat.add_zero] at hst;simp[Builtin.copy_,run_underlying hu,Builtin.lenOf,sizeOf,typeInfo,hi,hl,hst]
section
variable {cx:Cx}{k:List KI}{e:Env}{L:Loc}{F:World->Prop}{Q:Exit->Act->World->Prop}{ops:Array Oper}{rest:List Oper}
def Aac(cx:Cx)(L:Loc)(F:World->Prop)(b off:Nat)(zs:List Value):Prop:=∀w,StOk cx L F w->∀(j:Nat) v,zs[j]? = some v->w.cell? ⟨b,off+j,none⟩=some v
theorem Atr{b off n:Nat}{cs:List Value}{t:TypeId}(i:Nat)(hi:L[i]? = some (.blk b cs t)):Aac cx L F b off ((cs.drop off).take n):=λw hs j v hj=>by
 refine Ai9 (hs.ok _ (List.mem_of_getElem? hi)) ?_;rw[List.getElem?_take] at hj;split at hj
 ·rwa[List.getElem?_drop] at hj
 ·cases hj
theorem Btw(w:World)(g:Nat)(cs:Array Value):Chg [g] w (w.setRow g cs) :=⟨rfl,rfl,rfl,by simp,λk _ hn=>setRow_other w g k cs (by simpa using hn)⟩
theorem StOk.setRow{w:World}{g:Nat}{cs cs':List Value}{t:TypeId}(h:StOk cx L F w)(i:Nat)(hi:L[i]? = some (.blk g cs t)):StOk cx (L.set i (.blk g cs' t)) F (w.setRow g cs'.toArray) :=h.updAt i hi (Btw w g _) (setRow_heap w g _ _ t (0,0) (h.ok _ (List.mem_of_getElem? hi))) (by simp[Ent.fp]) (λb hb =>.inl hb)
theorem Avh{dst:Nat}{d s:Operand}{t t' ty u u':TypeId}{pos:String}{after:Array Edge}{g':Option (Nat×Bool)}{g o dl dc b off sl sc sz by_:Nat}{cs zs:List Value}(i:Nat)(hg:Gd ops e g' = some true)(hd:Nat.blt dst cx.n=true)(hT:ElTy cx.P t u sz by_)
  (hx:Env.ev e d=some (.slice (some ⟨g,o,none⟩) dl dc)) (hy:Env.ev e s=some (.slice (some ⟨b,off,none⟩) sl sc)) (hi:L[i]? = some (.blk g cs u')) (hsrc:Aac cx L F b off zs) (hl:zs.length=Nat.min sl dl*sz) (hfit:o+zs.length<=cs.length) (h1:∀v,v∈zs->one v=true)
  (h:O cx ops rest k ((dst,goInt (Nat.min sl dl))::e) (L.set i (.blk g (cs.take o++zs++cs.drop (o+zs.length)) u')) F Q) :
  O cx ops (⟨some dst,.call ⟨.builtin .copy, #[d,s], #[t,t']⟩,ty,pos,after,g'⟩::rest) k e L F Q:=by
 refine Acd (λr L' F'=>r=goInt (Nat.min sl dl)/\L' = L.set i (.blk g (cs.take o++zs++cs.drop (o+zs.length)) u')/\F' = F) hg hd (λa w he hst =>?_) (λr L' F' ⟨hr,hL,hF⟩=>by rw[hr,hL,hF];exact h);obtain⟨hu,i0,z,hi0,hz,hsz,hby,hzs,hpos⟩:=hT;have hgh:w.heap[g]? = some (.cells cs.toArray u' (0,0)):=hst.ok _ (List.mem_of_getElem? hi);have hrun:=Aw5 (P:=cx.P) w t t' ty u i0 g o dl dc ⟨b,off,none⟩ sl sc cs.toArray u' zs hu hi0 hgh (by rw[hsz];exact hl) (λj v hj=>by rw[add_mk];exact hsrc w hst j v hj) (by simpa using hfit) (λv hv=>one_oneCell (h1 v hv));refine⟨_,_,_,F,?_,hst.setRow (cs':=cs.take o++zs++cs.drop (o+zs.length)) i hi,rfl,rfl,rfl⟩;simp only[execOp,resolve,invoke,builtin,Sem.run_bind,Sem.run_pure,Result.andThen_ok,List.map_toArray,Zw1,List.map_nil,he.ev hx,he.ev hy,hrun]
theorem Bf0{dst:Nat}{d s:Operand}{t ty u u':TypeId}{pos:String}{after:Array Edge}{g':Option (Nat×Bool)}{g n cap b off m sc sz by_:Nat}{cs zs:List Value}(i:Nat)(hg:Gd ops e g' = some true)(hd:Nat.blt dst cx.n=true)(hT:ElTy cx.P t u sz by_)
  (hx:Env.ev e d=some (.slice (some ⟨g,0,none⟩) n cap)) (hy:Env.ev e s=some (.slice (some ⟨b,off,none⟩) m sc)) (hi:L[i]? = some (.blk g cs u)) (hsrc:Aac cx L F b off zs) (hl:zs.length=m*sz) (hroom:n+m<=cap) (hfit:n*sz+zs.length<=cs.length) (h1:∀v,v∈zs->one v=true) (_hu':u' = u)
  (h:O cx ops rest k ((dst,.slice (some ⟨g,0,none⟩) (n+m) cap)::e) (L.set i (.blk g (cs.take (n*sz)++zs++cs.drop (n*sz+zs.length)) u)) F Q) :
  O cx ops (⟨some dst,.call ⟨.builtin .append, #[d,s], #[t,t]⟩,ty,pos,after,g'⟩::rest) k e L F Q:=by
 refine Acd (λr L' F'=>r = .slice (some ⟨g,0,none⟩) (n+m) cap/\L' = L.set i (.blk g (cs.take (n*sz)++zs++cs.drop (n*sz+zs.length)) u)/\F' = F) hg hd (λa w he hst =>?_) (λr L' F' ⟨hr,hL,hF⟩=>by rw[hr,hL,hF];exact h);obtain⟨hu,i0,z,hi0,hz,hsz,hby,hzs,hpos⟩:=hT;have hgh:w.heap[g]? = some (.cells cs.toArray u (0,0)):=hst.ok _ (List.mem_of_getElem? hi);have hrun:=run_append_room (P:=cx.P) w t ty u i0 hu hi0 g n cap cs.toArray hgh ⟨b,off,none⟩ m sc zs (by rw[hsz];exact hl) (λj v hj=>by rw[add_mk];exact hsrc w hst j v hj) (λv hv=>one_oneCell (h1 v hv)) hroom (by rw[hsz];simpa using hfit);rw[hsz] at hrun;refine⟨_,_,_,F,?_,hst.setRow (cs':=cs.take (n*sz)++zs++cs.drop (n*sz+zs.length)) i hi,rfl,rfl,rfl⟩;simp only[execOp,resolve,invoke,builtin,Sem.run_bind,Sem.run_pure,Result.andThen_ok,List.map_toArray,Zw1,List.map_nil,he.ev hx,he.ev hy,hrun]
theorem Bgw{dst:Nat}{d s:Operand}{t ty u u':TypeId}{pos:String}{after:Array Edge}{g':Option (Nat×Bool)}{g n cap b off m sc sz by_:Nat}{cs zs:List Value}(i:Nat)(hg:Gd ops e g' = some true)(hd:Nat.blt dst cx.n=true)(hT:ElTy cx.P t u sz by_)
  (hx:Env.ev e d=some (.slice (some ⟨g,0,none⟩) n cap)) (hy:Env.ev e s=some (.slice (some ⟨b,off,none⟩) m sc)) (hi:L[i]? = some (.blk g cs u')) (hsrc:Aac cx L F b off zs) (hl:zs.length=m*sz) (hn:n*sz<=cs.length) (hroom:cap<n+m) (h63:n+m<=maxLen) (hbig:(n+m)*by_<=140737488355328)
  (h:∀b' q tl,n+m<=q->q<=maxLen->tl.length=(q-(n+m))*sz->O cx ops rest k ((dst,.slice (some ⟨b',0,none⟩) (n+m) q)::e) (.blk b' (cs.take (n*sz)++zs++tl) u::L) F Q) :
  O cx ops (⟨some dst,.call ⟨.builtin .append, #[d,s], #[t,t]⟩,ty,pos,after,g'⟩::rest) k e L F Q:=by
 refine Acd (λr L' F'=>∃b' q tl,n+m<=q/\q<=maxLen/\tl.length=(q-(n+m))*sz/\r = .slice (some ⟨b',0,none⟩) (n+m) q/\L' = .blk b' (cs.take (n*sz)++zs++tl) u::L/\F' = F) hg hd (λa w he hst =>?_) (λr L' F' ⟨b',q,tl,a1,a2,a3,hr,hL,hF⟩=>by rw[hr,hL,hF];exact h b' q tl a1 a2 a3);obtain⟨hu,i0,z,hi0,hz,hsz,hby,hzs,hpos⟩:=hT;have hok:(Ent.blk g cs u').ok w:=hst.ok _ (List.mem_of_getElem? hi);have hrun:=run_append_grow (P:=cx.P) w t ty u i0 z hu hi0 hz ⟨g,0,none⟩ n cap (cs.take (n*sz)) (by rw[hsz,List.length_take];exact Nat.min_eq_left hn) (λj v hj=>by
  rw[add_mk,Nat.zero_add];refine Ai9 hok ?_;rw[List.getElem?_take] at hj;split at hj
  ·exact hj
  ·cases hj) ⟨b,off,none⟩ m sc zs (by rw[hsz];exact hl) (λj v hj=>by rw[add_mk];exact hsrc w hst j v hj) hroom (by simp only[maxLen] at h63;omega) (by rw[hby];exact growslice_fits hroom hbig)
 have hge:=grownCap_ge w (n+m) cap u;refine⟨_,_,_,F,?_,(hst.quiet (Chg.drew [] w)).alloc (cs.take (n*sz)++zs++(Builtin.zeroCells z.cells (grownCap w (n+m) cap u-(n+m))).toList) u,w.heap.size,grownCap w (n+m) cap u,_,hge,grownCap_le_maxLen w _ _ _ h63,?_,rfl,rfl,rfl⟩
 ·simp only[execOp,resolve,invoke,builtin,Sem.run_bind,Sem.run_pure,Result.andThen_ok,List.map_toArray,Zw1,List.map_nil,he.ev hx,he.ev hy,hrun];congr 3;apply Array.ext';simp
 ·simp[Builtin.zeroCells,hzs]
theorem A43{dst:Nat}{d s:Operand}{t ty u:TypeId}{pos:String}{after:Array Edge}{g':Option (Nat×Bool)}{a0:Option Addr}{b off m sc sz by_:Nat}{zs:List Value}(hg:Gd ops e g' = some true)(hd:Nat.blt dst cx.n=true)(hT:ElTy cx.P t u sz by_)
  (hx:Env.ev e d=some (.slice a0 0 0)) (hy:Env.ev e s=some (.slice (some ⟨b,off,none⟩) m sc)) (hsrc:Aac cx L F b off zs) (hl:zs.length=m*sz) (hm : 0<m) (h63:m<=maxLen) (hbig:m*by_<=140737488355328) (h1:∀v,v∈zs->one v=true)
  (h:∀b' q tl,m<=q->q<=maxLen->tl.length=(q-m)*sz->O cx ops rest k ((dst,.slice (some ⟨b',0,none⟩) m q)::e) (.blk b' (zs++tl) u::L) F Q) :
  O cx ops (⟨some dst,.call ⟨.builtin .append, #[d,s], #[t,t]⟩,ty,pos,after,g'⟩::rest) k e L F Q:=by
 refine Acd (λr L' F'=>∃b' q tl,m<=q/\q<=maxLen/\tl.length=(q-m)*sz/\r = .slice (some ⟨b',0,none⟩) m q/\L' = .blk b' (zs++tl) u::L/\F' = F) hg hd (λa w he hst =>?_) (λr L' F' ⟨b',q,tl,a1,a2,a3,hr,hL,hF⟩=>by rw[hr,hL,hF];exact h b' q tl a1 a2 a3);obtain⟨hu,i0,z,hi0,hz,hsz,hby,hzs,hpos⟩:=hT;have hsr:Src cx.P i0.size t (.slice (some ⟨b,off,none⟩) m sc) m zs w:=Src.ofSlice w hu ⟨b,off,none⟩ m sc zs (by rw[hsz];exact hl) (λj v hj=>by rw[add_mk];exact hsrc w hst j v hj) (λv hv=>one_oneCell (h1 v hv));have hold:(Builtin.firstCells i0.size 0 (.slice a0 0 0)).run cx.P w.drew = .ok ([]:List Value).toArray w.drew:=by cases a0 with|none=>exact run_firstCells_none w.drew i0.size 0 0 0|some p=>exact run_firstCells_some w.drew i0.size 0 p 0 0 [] (by simp) (by simp)
 have hrun:=run_append_grow_src (P:=cx.P) w t t ty u i0 z hu hi0 hz a0 0 0 [] hold _ m zs hsr (by omega) (by simp only[maxLen] at h63;omega) (by rw[hby];exact growslice_fits (by omega) (by simpa using hbig));rw[Nat.zero_add] at hrun;have hge:=grownCap_ge w m 0 u;refine⟨_,_,_,F,?_,(hst.quiet (Chg.drew [] w)).alloc (zs++(Builtin.zeroCells z.cells (grownCap w m 0 u-m)).toList) u,w.heap.size,grownCap w m 0 u,_,hge,grownCap_le_maxLen w _ _ _ h63,?_,rfl,rfl,rfl⟩
 ·simp only[execOp,resolve,invoke,builtin,Sem.run_bind,Sem.run_pure,Result.andThen_ok,List.map_toArray,Zw1,List.map_nil,he.ev hx,he.ev hy,hrun];congr 3;apply Array.ext';simp
 ·simp[Builtin.zeroCells,hzs]
theorem Asf{P:Program}{x y:Operand}{t u:TypeId}{sz by_:Nat}{g c:Nat}{ad:Option Addr}(hT:ElTy P t u sz by_)(hx:Env.ev e x=some (.slice (some ⟨g,0,none⟩) 0 0))(hy:Env.ev e y=some (.slice ad 0 c)):Pure P e (.call ⟨.builtin .append, #[x,y], #[t,t]⟩) (.slice (some ⟨g,0,none⟩) 0 0):=λn a w o he ho=>by
 obtain⟨hu,i0,z,hi0,hz,hsz,hby,hzs,hpos⟩:=hT;have hr:∀ty,(Builtin.append_ #[t,t] ty #[.slice (some ⟨g,0,none⟩) 0 0,.slice ad 0 c]).run P w = .ok (.slice (some ⟨g,0,none⟩) 0 0) w:=λty=>by cases ad<;>simp[Builtin.append_,run_underlying hu,go_sem,sizeOf,typeInfo,hi0,Builtin.lenOf,Builtin.firstCells,loadCells,loadCellsFrom,storeCells]
 simp only[execOp,ho,resolve,invoke,builtin,Sem.run_bind,Sem.run_pure,Result.andThen_ok,List.map_toArray,Zw1,List.map_nil,he.ev hx,he.ev hy,hr]
theorem A5e{dst:Nat}{d s:Operand}{t tn ty u u':TypeId}{kn kq:IntKind}{pos:String}{after:Array Edge}{g':Option (Nat×Bool)}{g n cap sz by_:Nat}{m:Int}{cs:List Value}(i:Nat)(hg:Gd ops e g' = some true)(hd:Nat.blt dst cx.n=true)(hT:ElTy cx.P t u sz by_)(htn:(match cx.P.underlying tn with|some (.int k')=>decide (k' = kn)|_=>false)=true)
  (hx:Env.ev e d=some (.slice (some ⟨g,0,none⟩) n cap)) (hy:Env.ev e s=some (.int kq m)) (hi:L[i]? = some (.blk g cs u')) (hm : 0<m) (hn:n*sz<=cs.length) (hroom:cap<n+m.toNat) (h63:n+m.toNat<=maxLen) (hbig:(n+m.toNat)*by_<=140737488355328)
  (h:∀b' q tl,n+m.toNat<=q->q<=maxLen->tl.length=(q-n)*sz->O cx ops rest k ((dst,.slice (some ⟨b',0,none⟩) (n+m.toNat) q)::e) (.blk b' (cs.take (n*sz)++tl) u::L) F Q) :
  O cx ops (⟨some dst,.call ⟨.builtin .append, #[d,s], #[t,tn]⟩,ty,pos,after,g'⟩::rest) k e L F Q:=by
 obtain⟨j,rfl⟩:∃j:Nat,m=j:=⟨m.toNat,by omega⟩;simp only[Int.toNat_natCast] at hroom h63 hbig h;refine Acd (λr L' F'=>∃b' q tl,n+j<=q/\q<=maxLen/\tl.length=(q-n)*sz/\r = .slice (some ⟨b',0,none⟩) (n+j) q/\L' = .blk b' (cs.take (n*sz)++tl) u::L/\F' = F) hg hd (λa w he hst =>?_) (λr L' F' ⟨b',q,tl,a1,a2,a3,hr,hL,hF⟩=>by rw[hr,hL,hF];exact h b' q tl a1 a2 a3);obtain⟨hu,i0,z,hi0,hz,hsz,hby,hzs,hpos⟩:=hT;have htn':cx.P.underlying tn=some (.int kn):=by
  split at htn
  ·rename_i k' hk;rw[hk,of_decide_eq_true htn]
  ·cases htn
 have hok:(Ent.blk g cs u').ok w:=hst.ok _ (List.mem_of_getElem? hi);have hold:(Builtin.firstCells i0.size n (.slice (some ⟨g,0,none⟩) n cap)).run cx.P w.drew = .ok (cs.take (n*sz)).toArray w.drew:=run_firstCells_some (P:=cx.P) w.drew i0.size n ⟨g,0,none⟩ n cap (cs.take (n*sz)) (by rw[hsz,List.length_take];exact Nat.min_eq_left hn) (λj v hj=>by
  rw[add_mk,Nat.zero_add];have hc:w.cell? ⟨g,j,none⟩=some v:=by
   refine Ai9 hok ?_;rw[List.getElem?_take] at hj;split at hj
   ·exact hj
   ·cases hj
  simpa using hc)
 have hrun:=Lib.run_append_grow_zeros (P:=cx.P) w t tn ty u i0 z kq kn hu htn' hi0 hz (some ⟨g,0,none⟩) n cap (cs.take (n*sz)) hold j (by omega) (by omega) hroom (by simp only[maxLen] at h63;omega) (by rw[hby];have:j*by_<=(n+j)*by_:=Nat.mul_le_mul_right _ (by omega);omega) (by rw[hby];exact growslice_fits hroom hbig)
 have hge:=grownCap_ge w (n+j) cap u;refine⟨_,_,_,F,?_,(hst.quiet (Chg.drew [] w)).alloc (cs.take (n*sz)++((Builtin.zeroCells z.cells j).toList++(Builtin.zeroCells z.cells (grownCap w (n+j) cap u-(n+j))).toList)) u,w.heap.size,grownCap w (n+j) cap u,_,hge,grownCap_le_maxLen w _ _ _ h63,?_,rfl,rfl,rfl⟩
 ·simp only[execOp,resolve,invoke,builtin,Sem.run_bind,Sem.run_pure,Result.andThen_ok,List.map_toArray,Zw1,List.map_nil,he.ev hx,he.ev hy,hrun];congr 3;apply Array.ext';simp
 ·simp only[Zh1,Array.length_toList,Builtin.zeroCells,Array.size_map,Array.size_range,hzs];rw[<-Nat.add_mul];congr 1;omega
theorem Bxo{P:Program}{x:Operand}{t:TypeId}{a:Option Addr}{n c:Nat}(sz:Nat)(ht:(elSz P t == some sz)=true)(hx:Env.ev e x=some (.slice a n c)):Pure P e (.call ⟨.builtin .cap, #[x], #[t]⟩) (.int .i64 c):=λm a' w o he ho=>by obtain⟨u,hu,hs⟩:=Np (n:=sz) (by simpa using ht);simp[execOp,ho,resolve,invoke,builtin,he.ev hx,Builtin.cap_,run_underlying hu,goInt]
theorem A5q{P:Program}{t:TypeId}{x z:Operand}{a:Option Addr}{n c:Nat}{jk:IntKind}{j:Int}(sz:Nat)(ht:(elSz P t == some sz)=true)(hx:Env.ev e x=some (.slice a n c))(hz:Env.ev e z=some (.int jk j))(h : 0<=j/\j<=n) :
  Pure P e (.slice t x (some z) none none) (.slice (if c=j.toNat then a else a.map (λp=>p.add (j.toNat*sz))) (n-j.toNat) (c-j.toNat)):=λn' a' w o he ho=>by
 obtain⟨u,hu,hs⟩:=Np (n:=sz) (by simpa using ht);have hr:(Instr.sliceAt t (.slice a n c) (some (.int jk j)) none none).run P w = .ok (.slice (if c=j.toNat then a else a.map (λp=>p.add (j.toNat*sz))) (n-j.toNat) (c-j.toNat)) w:=by simp only[Instr.sliceAt,Instr.slice,Sem.run_bind,run_underlying hu,Result.andThen_ok,Instr.sliceBounds,Instr.sliceBound,asIntOf,Sem.run_pure,if_pos h,run_sizeOf hs]
 simp only[execOp,ho,Sem.run_bind,he.ev hx,he.ev hz,Zl2,Option.map_none,hr,Result.andThen_ok,Sem.run_pure]
theorem Qi{P:Program}{t:TypeId}{x z:Operand}{g off n c:Nat}{jk:IntKind}{j:Int}(sz:Nat)(ht:(elSz P t == some sz)=true)(hx:Env.ev e x=some (.slice (some ⟨g,off,none⟩) n c))(hz:Env.ev e z=some (.int jk j))(h : 0<=j/\j<=n/\j<c) :
  Pure P e (.slice t x (some z) none none) (.slice (some ⟨g,off+j.toNat*sz,none⟩) (n-j.toNat) (c-j.toNat)):=by
 have:=A5q (P:=P) sz ht hx hz ⟨h.1,h.2.1⟩;rw[if_neg (by omega),Zl2,add_mk] at this;exact this
end
end Go.Sx
namespace Go.Ax
theorem Dj{V R β:Type}{step:(V->Option R)->V->Option R}(n:Nat)(st:Nat->β->V)(Inv:Nat->β->Prop)(F:Nat->β->Option R)
  (hs:∀i,i<n->∀a,Inv i a->∀rec,(∀a',Inv (i+1) a'->rec (st (i+1) a')=F (i+1) a')->step rec (st i a)=F i a)
  (he:∀a,Inv n a->∀rec,step rec (st n a)=F n a):∀(k i:Nat) (a : β),i<=n->n-i<k->Inv i a->Al step k (st i a)=F i a
 |0,_,_,_,h,_=>absurd h (Zm1 _)
 |k+1,i,a,hi,h,ha=>by
  rw[Bb];by_cases hl:i<n
  ·exact hs i hl a ha _ λa' ha'=>Dj n st Inv F hs he k (i+1) a' (by omega) (by omega) ha'
  ·obtain rfl:i=n:=by omega
   exact he a ha _
theorem A3{V R:Type}{step:(V->Option R)->V->Option R}(n:Nat)(st:Nat->V)(F:Nat->Option R)
  (hs:∀i,i<n->∀rec,rec (st (i+1))=F (i+1)->step rec (st i)=F i) (he:∀rec,step rec (st n)=F n):∀(k i:Nat),i<=n->n-i<k->Al step k (st i)=F i:=λk i hi hk =>
 Dj n (λi (_:Unit)=>st i) (λ_ _=>True) (λi _=>F i) (λi hi _ _ rec h=>hs i hi rec (h () trivial)) (λ_ _ rec=>he rec) k i () hi hk trivial
theorem Cf{i n:Nat}(h:i<n):decide ((i:Int)<(n:Int))=true:=Ze1 (by omega)
theorem Cg(n:Nat):decide ((n:Int)<(n:Int))=false:=Zd1 (by omega)
def Gf(e:Xpr):Xpr:=Xpr.mk e.kind ⟨e.v.kind,e.v.n,e.v.s⟩ e.name e.l
theorem Fh(e:Xpr):Gf e=e:=by cases e;rfl
end Go.Ax
namespace Go.Proofs.YtbkinkalnmbpjaaGreatDoor
open Go.Ax
def signsL:List (Int×Str):=[(4,[65,78,68]),(5,[79,82]),(6,[61]),(7,[60,62]),(8,[60]),(9,[60,61]),(10,[62]),(11,[62,61]),(12,[43]),(13,[45]),(14,[42])]
def wordsL:List Str:=[[65,68,68],[65,78,68],[65,83,67],[66,79,79,76],[66,89],[66,89,84,69,83],[67,72,69,67,75],[67,82,69,65,84,69],[68,69,76,69,84,69],[68,69,83,67],[68,82,79,80],[70,65,76,83,69],[70,82,79,77],[73,78,68,69,88],[73,78,83,69,82,84],[73,78,84],[73,78,84,79],[73,83],[75,69,89],[76,73,77,73,84],[78,79,84],[78,85,76,76],[79,78],[79,82],[79,82,68,69,82],[80,82,73,77,65,82,89],[82,69,70,69,82,69,78,67,69,83],[83,69,76,69,67,84],[83,69,84],[84,65,66,76,69],[84,69,88,84],[84,82,85,69],[85,78,73,81,85,69],[85,80,68,65,84,69],[86,65,76,85,69,83],[87,72,69,82,69]]
def Av9:List Str:=[[],[],[66,79,79,76],[73,78,84],[84,69,88,84],[66,89,84,69,83]]
def ttL:List (Nat×Ax.Ty):=[
 (1,.fn),
 (3,.int .i64),
 (4,.bool),
 (5,.int .u8),
 (9,.str),
 (21,.int .i32),
 (22,.sl .col),
 (23,.sl .str),
 (24,.sl .expr),
 (25,.sl .idx),
 (27,.st (some .tbl) [(0,9),(1,22),(2,23),(3,24),(4,25)] [.str [],.sl .col [] .nil,.sl .str [] .nil,.sl .expr [] .nil,.sl .idx [] .nil]),
 (28,.sl .byte),
 (30,.sl .exprs),
 (31,.sl .set),
 (33,.st (some .val) [(0,3),(1,3),(2,9)] [.int .i64 0,.int .i64 0,.str []]),
 (35,.st (some .expr) [(0,3),(1,33),(4,9),(5,24)] [.int .i64 0,.int .i64 0,.int .i64 0,.str [],.str [],.sl .expr [] .nil]),
 (36,.sl .bool),
 (38,.st (some .stmt) [(0,3),(1,9),(2,9),(3,22),(4,23),(5,24),(6,30),(7,31),(8,4),(9,35),(15,23),(16,36),(17,3)] [.int .i64 0,.str [],.str [],.sl .col [] .nil,.sl .str [] .nil,.sl .expr [] .nil,.sl .exprs [] .nil,.sl .set [] .nil,.bool false,.int .i64 0,.int .i64 0,.int .i64 0,.str [],.str [],.sl .expr [] .nil,.sl .str [] .nil,.sl .bool [] .nil,.int .i64 0]),
 (40,.int .i64),
 (52,.sl .val),
 (70,.sl .bytes),
 (72,.st (some .idx) [(0,9),(1,23)] [.str [],.sl .str [] .nil]),
 (92,.st (some .col) [(0,9),(1,3),(2,4),(3,4),(4,9)] [.str [],.int .i64 0,.bool false,.bool false,.str []]),
 (101,.fn),
 (106,.st (some .set) [(0,9),(1,35)] [.str [],.int .i64 0,.int .i64 0,.int .i64 0,.str [],.str [],.sl .expr [] .nil]),
 (108,.ptr),
 (110,.st none [(0,108),(1,28)] [.nilp,.sl .byte [] .nil]),
 (112,.st none [(0,110)] [.nilp,.sl .byte [] .nil]),
 (118,.fn),
 (121,.int .u64),
 (130,.sl .int),
 (132,.st (some .num) [(0,4),(1,130)] [.bool false,.sl .int [] .nil]),
 (138,.ptr),
 (142,.sl .tok),
 (144,.st none [(0,142),(1,3)] [.sl .tok [] .nil,.int .i64 0]),
 (146,.st none [(0,144),(2,4),(3,3)] [.sl .tok [] .nil,.int .i64 0,.bool false,.int .i64 0]),
 (155,.fn),
 (164,.st (some .tok) [(0,3),(1,3),(2,9),(3,3)] [.int .i64 0,.int .i64 0,.str [],.int .i64 0]),
 (166,.st (some .got) [(0,3),(1,4)] [.int .i64 0,.bool false]),
 (174,.fn),
 (176,.fn),
 (184,.fn),
 (189,.fn),
 (193,.ptr),
 (202,.map),
 (203,.ptr),
 (204,.int .u64),
 (212,.ptr),
 (232,.arr 2 .int),
 (240,.fn),
 (247,.fn),
 (249,.fn),
 (251,.arr 6 .str),
 (252,.arr 2 .str),
 (256,.ptr),
 (259,.fn),
 (262,.fn),
 (289,.st (some .pair) [(0,9),(1,3)] [.str [],.int .i64 0]),
 (303,.arr 36 .str),
 (304,.sl .pair),
 (308,.arr 256 .byte),
 (310,.st none [(0,5),(1,5)] [.int .u8 0,.int .u8 0]),
 (312,.int .u32),
 (315,.fn)]
def elT:Ck->TypeId
 |.byte=>5
 |.int=>3
 |.u64=>121
 |.str=>9
 |.bool=>4
 |.val=>33
 |.tok=>164
 |.col=>92
 |.expr=>35
 |.num=>132
 |.set=>106
 |.stmt=>38
 |.got=>166
 |.pair=>289
 |.idx=>72
 |.tbl=>27
 |.vals=>52
 |.exprs=>24
 |.strs=>23
 |.bytes=>28
theorem A9e:(ttL.all λp=>C6 Tryz.prog elT (Awy ttL) p.1)=true:=by kernel_rfl
def glT:Nat->Option Gv:=tbl [(0,.map signsL),(1,.arr .str Av9),(2,.num .i64),(3,.arr .str wordsL)]
theorem follows:Tryz.prog.follows .mixedOrders=true:=by kernel_rfl
abbrev FO:=FnOk Tryz.prog elT glT
abbrev FM:=FnLn Tryz.prog elT glT
abbrev HX:=Hx Tryz.prog elT glT (Awy ttL)
def pxO{R:Type}(c:List (Nat×Kr R))(q:List (Nat×J4 R))(l:List (Nat×Bm1 R))(w:List (Nat×Yh R)):Px R:=⟨Awy ttL,glT,Bdd c,Axh q,Bxl l,tbl w⟩
abbrev cA{R:Type}{sa sr:List Sg}(F:FT sa sr):Kr R:=Adt sa sr F
abbrev qA{R:Type}{sa sr:List Sg}(F:FT sa sr):J4 R:=Aby sa sr F
theorem fR{f:FuncId}{fn:Func}{c:Code}{sa sr:List Sg}{px:Px (HV sr)}{F:FT sa sr}{n:Nat}(hf:Tryz.prog.funcs[f]? = some fn)(hb:fn.body=some c)(h:∀cx,HX cx->Lv cx px/\∀i,i<n->Cl cx px (lp fn i))(hF:∀x,Bp3 px fn sa sr x some=F x)(hname:(fn.name == "runtime.NumGoroutine")=false:=by kernel_rfl)(hchk:(Sv fn&&Nat.ble sa.length fn.ntmps&&Ew (Bq 0 sa) [])=true:=by kernel_rfl)(hn:L9 fn=n:=by kernel_rfl):FO f sa sr F:=fO (Bjt A9e) follows hf hb hname hchk hn h hF
theorem fRL{f:FuncId}{fn:Func}{c:Code}{sg so:Sig}{px:Px (HV so.sgs)}{F:FL sg so}{n:Nat}(hf:Tryz.prog.funcs[f]? = some fn)(hb:fn.body=some c)(h:∀cx,HX cx->Lv cx px/\∀i,i<n->Cl cx px (lp fn i))(hF:∀x,A4s px fn sg so x some=F x)(hname:(fn.name == "runtime.NumGoroutine")=false:=by kernel_rfl)(hchk:(Sv fn&&Nat.ble sg.n fn.ntmps)=true:=by kernel_rfl)(hn:L9 fn=n:=by kernel_rfl):FM f sg so F:=fL (Bjt A9e) follows hf hb hname hchk hn h hF
end Go.Proofs.YtbkinkalnmbpjaaGreatDoor
namespace Go.Proofs.YtbkinkalnmbpjaaGreatDoor.Lp
open Go.Sx Go.RowKit
abbrev Tok:=Go.Ax.Tok
def pre(l m:List UInt8):Bool:=decide (m.length<=l.length)&&decide (l.take m.length=m)
def inI(n:Int):Prop := -9223372036854775808<=n/\n<=9223372036854775807
instance (n:Int):Decidable (inI n):=by unfold inI;infer_instance
def vis(c:Int):Bool:=decide (32<=c)&&decide (c<=126)
def visF(l:List UInt8):Bool:=l.all λb=>vis b.toNat
def rightF(k n:Int)(s:List UInt8):Bool :=
 if k=1 then n == 0&&decide (s=[]) else if k=2 then(n == 0||n == 1)&&decide (s=[]) else if k=3 then decide (s=[])
 else if k=4 then n == 0&&decide ((s.length:Int)<=1000)&&visF s else if k=5 then n == 0&&decide ((s.length:Int)<=1000) else false
def isUp(c:Int):Bool:=decide (65<=c)&&decide (c<=90)
def isLo(c:Int):Bool:=decide (97<=c)&&decide (c<=122)
def isDi(c:Int):Bool:=decide (48<=c)&&decide (c<=57)
def isIn(c:Int):Bool:=isLo c||isDi c||c == 95
def runTo(p:Int->Bool)(l:List UInt8)(i:Int):Int:=i+((l.drop i.toNat).takeWhile λb=>p b.toNat).length
theorem H0(l:List UInt8)(j:Int)(h : 0<=j/\j<l.length):l.drop j.toNat=l.getD j.toNat 0::l.drop (j+1).toNat:=by
 have h1:j.toNat<l.length:=by omega
 have h2:(j+1).toNat=j.toNat+1:=by omega
 rw[h2,List.drop_eq_getElem_cons h1];simp[List.getD_eq_getElem?_getD,h1]
theorem runTo_yes{p:Int->Bool}{l:List UInt8}{j:Int}(h : 0<=j/\j<l.length)(hp:p (byt l j)=true):runTo p l (j+1)=runTo p l j:=by unfold runTo;rw[H0 l j h];have:p ((l.getD j.toNat 0).toNat:Int)=true:=hp;simp only[List.takeWhile_cons,this,if_true,Zf1];omega
theorem runTo_no{p:Int->Bool}{l:List UInt8}{j:Int}(h : 0<=j/\j<l.length)(hp:p (byt l j)=false):runTo p l j=j:=by unfold runTo;rw[H0 l j h];have:p ((l.getD j.toNat 0).toNat:Int)=false:=hp;simp only[List.takeWhile_cons,this,Zj2,if_false,Zi1];omega
theorem runTo_end{p:Int->Bool}{l:List UInt8}{j:Int}(h:(l.length:Int)<=j):runTo p l j=j:=by unfold runTo;rw[Zk1 (by omega)];simp
def aloneF(l:List UInt8)(i:Int):Bool:=i == l.length || !isIn (byt l i) && !isUp (byt l i)
def dg(c:Int):Int:=IntKind.i64.wrap (IntKind.u8.wrap (c-48))
theorem Bx9(c:Int) : 0<=dg c/\dg c<=255:=by
 have e1:IntKind.u8.wrap (c-48)=(c-48) % 256:=by simp[IntKind.wrap,IntKind.bits,IntKind.signed]
 unfold dg;rw[e1,IntWalk.i64_in _ (by omega)];omega
def numGo:List UInt8->Int->Option Int
 |[],n=>some n
 |c::r,n=>if inI (n*10)/\inI (n*10+dg c.toNat) then numGo r (n*10+dg c.toNat) else none
theorem inI_dg(c:Int):inI (dg c):=by have:=Bx9 c;unfold inI;omega
def qGo:List UInt8->List UInt8->Int->List UInt8×Int
 |[],_,_=>([], -1)
 |[c],acc,i=>if c=39 then(acc,i+1) else([], -1)
 |c::d::r,acc,i=>if c=39 then(if d=39 then qGo r (acc++[39]) (i+2) else(acc,i+1)) else qGo (d::r) (acc++[c]) (i+1)
theorem Uh{l:List UInt8}{j:Int}{c:UInt8}:byt l j=(c.toNat:Int)↔l.getD j.toNat 0=c:=by unfold byt;rw[<-UInt8.toNat_inj];omega
theorem q_end{l acc:List UInt8}{j:Int}(h:(l.length:Int)<=j):qGo (l.drop j.toNat) acc j=([], -1):=by rw[Zk1 (by omega)];rfl
theorem q_last{l acc:List UInt8}{j:Int}(h : 0<=j)(hl:j+1=l.length)(hc:byt l j=39):qGo (l.drop j.toNat) acc j=(acc,j+1):=by rw[H0 l j (by omega),(Uh (c:=39)).1 hc,Zk1 (by omega)];rfl
theorem q_close{l acc:List UInt8}{j:Int}(h : 0<=j)(hl:j+1<l.length)(hc:byt l j=39)(hd:byt l (j+1)≠39):qGo (l.drop j.toNat) acc j=(acc,j+1):=by have hd':¬l.getD (j+1).toNat 0=39:=λhh=>hd ((Uh (c:=39)).2 hh);rw[H0 l j (by omega),(Uh (c:=39)).1 hc,H0 l (j+1) (by omega)];simp only[qGo,if_true,if_neg hd']
theorem q_two{l acc:List UInt8}{j:Int}(h : 0<=j)(hl:j+1<l.length)(hc:byt l j=39)(hd:byt l (j+1)=39):qGo (l.drop j.toNat) acc j=qGo (l.drop (j+1+1).toNat) (acc++[39]) (j+1+1):=by rw[H0 l j (by omega),(Uh (c:=39)).1 hc,H0 l (j+1) (by omega),(Uh (c:=39)).1 hd];simp only[qGo,if_true];rw[show j+2=j+1+1 by omega]
theorem q_other{l acc:List UInt8}{j:Int}(h : 0<=j)(hl:j<l.length)(hc:¬byt l j=39):qGo (l.drop j.toNat) acc j=qGo (l.drop (j+1).toNat) (acc++[l.getD j.toNat 0]) (j+1):=by have hc':¬l.getD j.toNat 0=39:=λhh=>hc ((Uh (c:=39)).2 hh);rw[H0 l j (by omega)];cases hd:l.drop (j+1).toNat with|nil=>simp only[qGo,if_neg hc']|cons d r=>simp only[qGo,if_neg hc']
def hexD(c:Int):Option Int:=if 48<=c/\c<=57 then some (c-48) else if 97<=c/\c<=102 then some (c-87) else none
theorem hexD_lt{c n:Int}(h:hexD c=some n) : 0<=n/\n<=15:=by
 unfold hexD at h;split at h
 ·cases h;omega
 ·split at h
  ·cases h;omega
  ·cases h
def unGo:List UInt8->List UInt8->Option (List UInt8)
 |[],acc=>some acc
 |[_],_=>none
 |a::b::r,acc=>match hexD a.toNat,hexD b.toNat with|some x,some y=>unGo r (acc++[UInt8.ofNat (x*16+y).toNat])|_,_=>none
theorem Bra:∀a b:Fin 16,IntKind.u8.wrap (((BitVec.ofInt IntKind.u8.bits (IntKind.u8.wrap ((a.val:Int)*2 ^ min (4:Int).toNat IntKind.u8.bits)) ||| BitVec.ofInt IntKind.u8.bits (b.val:Int)).toNat:Nat):Int)=((a.val*16+b.val:Nat):Int):=by decide +kernel
theorem joinhex'{x y:Int}(hx : 0<=x/\x<=15)(hy : 0<=y/\y<=15):IntKind.u8.wrap (((BitVec.ofInt IntKind.u8.bits (IntKind.u8.wrap (x*2 ^ min (4:Int).toNat IntKind.u8.bits)) ||| BitVec.ofInt IntKind.u8.bits y).toNat:Nat):Int)=((UInt8.ofNat (x*16+y).toNat).toNat:Int):=by obtain⟨a,rfl⟩:=Int.eq_ofNat_of_zero_le hx.1;obtain⟨b,rfl⟩:=Int.eq_ofNat_of_zero_le hy.1;have:=Bra ⟨a,by omega⟩ ⟨b,by omega⟩;simp only at this;rw[this];rw[show((a:Int)*16+(b:Int)).toNat=a*16+b by omega,UInt8.toNat_ofNat'];omega
theorem un_step{l acc:List UInt8}{j:Int}(h : 0<=j)(hl:j+1<l.length):unGo (l.drop j.toNat) acc=match hexD (byt l j),hexD (byt l (j+1)) with
  |some x,some y=>unGo (l.drop (j+2).toNat) (acc++[UInt8.ofNat (x*16+y).toNat])
  |_,_=>none:=by
 rw[H0 l j (by omega),H0 l (j+1) (by omega),show j+1+1=j+2 by omega];rfl
def signs:List UInt8:=[40,41,44,42,61,60,62,43,45,59]
def signF(l:List UInt8):Int:=if pre l [60,62]||pre l [60,61]||pre l [62,61] then 2 else if 0<=Lib.indexByte signs (byt l 0).toNat.toUInt8 then 1 else 0
def idx(x:List UInt8):List (List UInt8)->Int->Int
 |[],_ => -1
 |l::r,i=>if x=l then i else idx x r (i+1)
theorem idx_ge(x:List UInt8):∀(ls:List (List UInt8)) (i:Int),0<=i->(0<=idx x ls i↔x∈ls)
 |[],i,_=>by simp[idx]
 |l::r,i,h=>by
  by_cases hx:x=l
  ·simp[idx,hx,h]
  ·simp[idx,hx,idx_ge x r (i+1) (by omega)]
def wordF(l:List UInt8):Bool:=wordsL.contains l
def nameF(l:List UInt8):Bool := !decide (l=[])&&decide ((l.length:Int)<=30)&&isLo (byt l 0)&&(runTo isIn l 0 == l.length)
def tokF(l:List UInt8)(i:Int):Option (Int×List UInt8×Int×Int) :=
 if pre (l.drop i.toNat) [120,39] then
  let n:=Lib.indexByte (l.drop (i+2).toNat) 39
  if n<0 then none else
  let x:=cut l (i+2) (i+2+n);match(if x.length % 2=0 then unGo x [] else none) with|none=>none|some b=>if 1000<(b.length:Int) then none else some (5,b,0,i+3+n)
 else if isUp (byt l i) then
  if wordF (cut l i (runTo isUp l i))&&aloneF l (runTo isUp l i) then some (1,cut l i (runTo isUp l i),0,runTo isUp l i) else none
 else if isLo (byt l i) then
  if nameF (cut l i (runTo isIn l i))&&aloneF l (runTo isIn l i) then some (2,cut l i (runTo isIn l i),0,runTo isIn l i) else none
 else if isDi (byt l i) then
  match numGo (cut l i (runTo isDi l i)) 0 with|none=>none|some n=>if(decide (cut l i (runTo isDi l i)=[48])||byt (cut l i (runTo isDi l i)) 0 != 48)&&aloneF l (runTo isDi l i) then some (3,cut l i (runTo isDi l i),n,runTo isDi l i) else none
 else if byt l i=39 then
  let q:=qGo (l.drop (i+1).toNat) [] (i+1)
  if rightF 4 0 q.1 then(if q.2<0 then none else some (4,q.1,0,q.2)) else none
 else if signF (l.drop i.toNat)=0 then none else some (6,cut l i (i+signF (l.drop i.toNat)),0,i+signF (l.drop i.toNat))
theorem runTo_range(p:Int->Bool)(l:List UInt8)(i:Int)(h : 0<=i/\i<=l.length):i<=runTo p l i/\runTo p l i<=l.length:=by unfold runTo;have h1:=(List.takeWhile_prefix (λb:UInt8=>p b.toNat) (l:=l.drop i.toNat)).length_le;rw[Za2] at h1;omega
theorem runTo_gt{p:Int->Bool}{l:List UInt8}{i:Int}(h : 0<=i/\i<l.length)(hp:p (byt l i)=true):i+1<=runTo p l i:=by have h1:=runTo_yes h hp;have h2:=runTo_range p l (i+1) (by omega);omega
theorem cut_length(l:List UInt8)(a b:Int)(h : 0<=a/\a<=b/\b<=l.length):((cut l a b).length:Int)=b-a:=by unfold cut;rw[List.length_take,Za2];omega
theorem signF_in(l:List UInt8)(h : 0<l.length):signF l=0\/signF l=1\/(signF l=2/\2<=l.length):=by
 unfold signF;split
 ·rename_i hp;right;right;refine⟨rfl,?_⟩;simp only[pre,Zd2,Zb1,Zg1,Zf1,Zi1] at hp;omega
 ·split
  ·exact .inr (.inl rfl)
  ·exact .inl rfl
theorem qGo_in:∀(n:Nat) (l acc:List UInt8) (i:Int),l.length<=n->0<=i->(qGo l acc i).2 = -1\/(i+1<=(qGo l acc i).2/\(qGo l acc i).2<=i+l.length)
 |n,[],acc,i,_,h=>by left;rfl
 |n,[c],acc,i,_,h=>by
  simp only[qGo];split
  ·right;simp
  ·left;rfl
 |0,_::_::_,_,_,hn,_=>by simp at hn
 |n+1,c::d::r,acc,i,hn,h=>by
  simp only[Zf1] at hn ⊢;simp only[qGo];split
  ·split
   ·rcases qGo_in n r (acc++[39]) (i+2) (by omega) (by omega) with h1|h1
    ·exact .inl h1
    ·right;omega
   ·right;simp;omega
  ·rcases qGo_in n (d::r) (acc++[c]) (i+1) (by simp;omega) (by omega) with h1|h1
   ·exact .inl h1
   ·right;simp at h1;omega
theorem indexByte_in:∀(l:List UInt8) (c:UInt8),Lib.indexByte l c = -1\/(0<=Lib.indexByte l c/\Lib.indexByte l c<l.length)
 |[],c =>.inl rfl
 |b::l,c=>by
  simp only[Lib.indexByte,Zf1];split
  ·right;omega
  ·rcases indexByte_in l c with h|h
   ·left;simp[h]
   ·right;have:¬((Lib.indexByte l c == -1)=true):=by simp;omega
    rw[if_neg this];omega
def blankF(c:Int):Bool:=decide (0<=Lib.indexByte [32,9,10,13] c.toNat.toUInt8)
def allGo:Nat->List UInt8->Int->List Tok->Except Int (List Tok)
 |0,_,_,acc =>.ok acc
 |f+1,l,i,acc =>
  if(l.length:Int)<=i then .ok acc
  else if blankF (byt l i) then allGo f l (i+1) acc
  else match tokF l i with|none =>.error i|some (k,s,n,e)=>allGo f l e (acc++[⟨k,i,s,n⟩])
def allF(l:List UInt8):Except Int (List Tok):=allGo (l.length+1) l 0 []
theorem tok_end{l:List UInt8}{i:Int}(h0 : 0<=i/\i<l.length){k:Int}{s:List UInt8}{n e:Int}(h:tokF l i=some (k,s,n,e)):i<e/\e<=l.length:=by
 unfold tokF at h;split at h
 ·rename_i hx;have hdl:(l.drop i.toNat).length=l.length-i.toNat:=Za2;have h2 : 2<=(l.drop i.toNat).length:=by simp only[pre,Zb1,Zg1,Zf1,Zi1] at hx;omega
  have hdl2:(l.drop (i+2).toNat).length=l.length-(i+2).toNat:=Za2;have hib:=indexByte_in (l.drop (i+2).toNat) 39;simp only at h;split at h
  ·cases h
  ·split at h
   ·cases h
   ·split at h
    ·cases h
    ·cases h;omega
 ·split at h
  ·rename_i hu;have hr:=runTo_range isUp l i (by omega);have hg:=runTo_gt h0 hu;split at h
   ·cases h;omega
   ·cases h
  ·split at h
   ·rename_i hlo;have hr:=runTo_range isIn l i (by omega);have hg:=runTo_gt (p:=isIn) h0 (by simp[isIn,hlo]);split at h
    ·cases h;omega
    ·cases h
   ·split at h
    ·rename_i hd;have hr:=runTo_range isDi l i (by omega);have hg:=runTo_gt h0 hd;split at h
     ·cases h
     ·split at h
      ·cases h;omega
      ·cases h
    ·split at h
     ·have hqi:=qGo_in _ (l.drop (i+1).toNat) [] (i+1) (Zn1 _) (by omega);have hdl:(l.drop (i+1).toNat).length=l.length-(i+1).toNat:=Za2;simp only at h;split at h
      ·split at h
       ·cases h
       ·cases h;omega
      ·cases h
     ·split at h
      ·cases h
      ·have hdl:(l.drop i.toNat).length=l.length-i.toNat:=Za2;have hs:=signF_in (l.drop i.toNat) (by omega);cases h;omega
def signsI:List Int:=[40,41,44,42,61,60,62,43,45,59]
def clsF(c:Int):Int :=
 if isUp c then 1 else if isLo c then 2 else if isDi c then 3 else if c=95 then 4 else if c=39 then 5
 else if c=32\/c=9\/c=10\/c=13 then 6 else if signsI.contains c then 7 else 0
def nmOk(j c:Int):Bool:=decide (clsF c=2)||(!decide (j=0)&&(decide (clsF c=3)||decide (clsF c=4)))
def okGo:List UInt8->Int->Bool
 |[],_=>true
 |c::r,j=>nmOk j c.toNat&&okGo r (j+1)
def rnameF(l:List UInt8):Bool:=okGo l 0&&(decide (1<=(l.length:Int))&&decide ((l.length:Int)<=30))
theorem Buv{p:Int->Prop}(h:∀n:Fin 256,p (n.val:Int))(c:Int)(hc : 0<=c/\c<=255):p c:=by have:=h ⟨c.toNat,by omega⟩;simpa[Int.toNat_of_nonneg hc.1] using this
theorem Ik(b:UInt8) : 0<=(b.toNat:Int)/\(b.toNat:Int)<=255:=by have:=b.toNat_lt;omega
def tw(p:Int->Bool)(m:List UInt8):List UInt8:=m.takeWhile λb=>p b.toNat
theorem Bpf(p:Int->Bool)(l:List UInt8)(i:Int):runTo p l i=i+(tw p (l.drop i.toNat)).length:=rfl
theorem Bq8(l:List UInt8):∀j:Int,0<j->okGo l j=l.all λb=>isIn b.toNat:=by
 induction l with
 |nil=>intro j _;rfl
 |cons c l ih =>
  intro j hj;have hc:=Ik c;have key:∀n:Fin 256,(decide (clsF (n.val:Int)=2)||(decide (clsF (n.val:Int)=3)||decide (clsF (n.val:Int)=4)))=isIn (n.val:Int):=by decide +kernel
  have hk:=Buv (p:=λc=>(decide (clsF c=2)||(decide (clsF c=3)||decide (clsF c=4)))=isIn c) key c.toNat hc;simp only[okGo,Zv1,ih (j+1) (by omega),nmOk,show decide (j=0)=false by simp;omega,Zs1,Bool.true_and,hk]
theorem Bi5(c:UInt8)(l:List UInt8):okGo (c::l) 0=(isLo c.toNat&&l.all λb=>isIn b.toNat):=by
 have hc:=Ik c;have key:∀n:Fin 256,decide (clsF (n.val:Int)=2)=isLo (n.val:Int):=by decide +kernel
 have hk:=Buv (p:=λc=>decide (clsF c=2)=isLo c) key c.toNat hc;simp only[okGo,nmOk,decide_true,Zt1,Bool.false_and,Bool.or_false,hk];rw[Bq8 l (0+1) (by omega)]
theorem Bay{p:Int->Bool}:∀m:List UInt8,(tw p m).length=m.length↔m.all (λb=>p b.toNat)=true
 |[]=>by simp[tw]
 |x::m=>by have ih:=Bay (p:=p) m;unfold tw at *;cases hp:p x.toNat with|true=>simp only[List.takeWhile_cons,hp,if_true,Zf1,Zv1,Bool.true_and,<-ih];omega|false=>simp[hp]
theorem Bx1{c:Int}(h:isLo c=true):isIn c=true:=by simp[isIn,h]
theorem name_eq(x:List UInt8):nameF x=rnameF x:=by
 cases x with
 |nil=>rfl
 |cons c x =>
  have hrun:(runTo isIn (c::x) 0 == ((c::x).length:Int))=(c::x).all λb=>isIn b.toNat:=by rw[Bool.eq_iff_iff,<-Bay,beq_iff_eq,Bpf];simp only[Int.toNat_zero,Zq1];omega
  have hb:byt (c::x) 0=(c.toNat:Int):=rfl;simp only[nameF,rnameF,Bi5,hrun,hb];rw[Bool.eq_iff_iff];simp only[Zb1,Bool.not_eq_true',Zg1,decide_eq_false_iff_not,Zv1,Zf1];constructor
  ·rintro⟨⟨⟨_,h1⟩,h2⟩,h3⟩;exact⟨⟨h2,h3.2⟩,by omega,h1⟩
  ·rintro⟨⟨h2,h3⟩,_,h1⟩;exact⟨⟨⟨by simp,h1⟩,h2⟩,Bx1 h2,h3⟩
end Go.Proofs.YtbkinkalnmbpjaaGreatDoor.Lp
namespace Go.Ax
theorem FnOk.ofIs{P:Program}{el:Ck->TypeId}{gl:Nat->Option Gv}{f:FuncId}{sa sr:List Sg}{F:FT sa sr}(he:Sx.Enters P f)(ho:Bq 0 sr=[])(h:∀x r,F x=some r->∃(us:List Value) (v:Value),(∀X vs,Reps X (Cc 0 sa x) vs->vs=us)/\Sx.Con P f us [] (λ_=>True) (Sx.Is v)/\∀X,BdL sa x->Rep X (Hi (Cc 0 sr r)) v):FnOk P el gl f sa sr F:=by
 refine⟨he,λx r hx w M vs hM hgl hr =>?_⟩;obtain⟨us,v,h1,h2,h3⟩:=h x r hx;obtain rfl:=h1 _ _ hr;refine(h2.calls w (λ_ _=>trivial)).mono ?_;rintro en w' ⟨u,L',F',rfl,⟨rfl,_,_⟩,_,hb⟩;refine⟨u,⟨λ_=>0,λ_=>Option.none⟩,rfl,Chg.of_below hb,λp g o hp =>?_,λp q g o o' hp =>?_,h3 _ (Aab hr)⟩
 ·rw[ho] at hp;cases hp
 ·rw[ho] at hp;cases hp
end Go.Ax
namespace Go.Proofs.YtbkinkalnmbpjaaGreatDoor
open Go.Ax
open Go.Sx (Con S Is Ee Bpj)
theorem A3f(a b:Str)(w:World):(callFunc 231 #[S a,S b]).run Tryz.prog w = .ok (.value (.int .i64 (Lib.compareBytes a b))) w:=by rw[run_callFunc_extern Tryz.func231 (by kernel_rfl) rfl (by kernel_rfl) (e:=Extern.BytealgCompare.compare) (by kernel_rfl)];simp[Lib.run_compareString,go_sem,S]
set_option maxRecDepth 20000 in
open Go.Sx in
theorem Ae3(a b:Str):Con Tryz.prog 175 [S a,S b] [] (λ_=>True) (Is (.int .i64 (Lib.compareBytes a b))):=by
 refine Ee Tryz.func175 Tryz.ntmps175 rfl (by kernel_rfl) rfl λw M =>?_
 repeat' (first|refine E5 ?_|refine Bz ?_|refine E6 ?_|refine E9 ?_|refine n_blk ?_|refine g_block ?_|refine Dm ?_|refine g_exit ?_|refine x_here ?_|refine x_seq ?_|refine x_loop ?_|refine x_blk rfl ?_|refine g_scope ?_|refine n_scope ?_|refine x_scope ?_|refine g_label ?_|(apply Bm rfl rfl;(first|exact p_move rfl|exact p_assign rfl|exact p_lens (by dsimp only;decide +kernel) rfl|exact p_lensl (by dsimp only;decide +kernel) rfl|exact p_extract rfl rfl|exact p_pick_t rfl rfl|exact p_pick_f rfl rfl|exact p_eql rfl rfl|exact p_neq rfl rfl|exact p_lss rfl rfl|exact p_leq rfl rfl|exact p_gtr rfl rfl|exact p_geq rfl rfl|exact p_not rfl|exact p_eqls rfl rfl|exact p_neqs rfl rfl|exact Ai rfl rfl (by omega)|exact Aj rfl rfl (by omega)|exact p_index (by dsimp only;decide +kernel) rfl rfl (by omega)|exact p_cut (by dsimp only;decide +kernel) rfl rfl rfl (by omega)|exact p_cutlo (by dsimp only;decide +kernel) rfl rfl (by omega)|exact p_cuthi (by dsimp only;decide +kernel) rfl rfl (by omega)|exact p_fa (fo:=0) (by dsimp only;decide +kernel) rfl|exact p_fa (fo:=1) (by dsimp only;decide +kernel) rfl|exact p_fa (fo:=2) (by dsimp only;decide +kernel) rfl|exact p_fa (fo:=3) (by dsimp only;decide +kernel) rfl|exact p_nil rfl))|refine o_off rfl rfl ?_|refine o_off_none rfl ?_|(apply Bm rfl rfl (A93 rfl rfl (A3f _ _)))|(refine o_gsd rfl rfl ?_ ?_<;>intro hc)|(refine o_gse rfl rfl ?_ ?_<;>intro hc)|(refine o_gsn rfl rfl ?_ ?_<;>intro hc)|(refine o_gsxd rfl rfl ?_ ?_<;>intro hc)|(refine o_gsx rfl rfl ?_ ?_<;>intro hc)|(refine o_gs rfl rfl ?_ ?_<;>intro hc)|refine g_cond_t rfl rfl ?_|refine g_cond_f rfl rfl ?_|refine g_cond_t rfl (Ze1 (by omega)) ?_|refine g_cond_f rfl (Zd1 (by omega)) ?_|(refine Ch rfl ?_ ?_<;>intro hc)|(refine g_conde rfl ?_ ?_<;>intro hc)|(refine g_condn rfl ?_ ?_<;>intro hc)|(refine g_condxd rfl ?_ ?_<;>intro hc)|(refine g_condx rfl ?_ ?_<;>intro hc)|(refine C7 rfl ?_ ?_<;>intro hc)|refine Di rfl rfl ?_|refine g_ret2 rfl rfl rfl ?_|refine g_ret3 rfl rfl rfl rfl ?_|fail)
 exact Bpj rfl
def Iv(a b:Str):Int:=Lib.compareBytes a b
def A6p:FT [.str,.str] [.int .i64]:=λx=>some (Iv x.1 x.2)
theorem Qf:∀(a b:Str),Iv a b = -1\/Iv a b=0\/Iv a b=1
 |[],[]=>by simp[Iv,Lib.compareBytes]
 |[],_::_=>by simp[Iv,Lib.compareBytes]
 |_::_,[]=>by simp[Iv,Lib.compareBytes]
 |a::l,b::m=>by
  have ih:=Qf l m;simp only[Iv,Lib.compareBytes] at ih ⊢;split
  ·simp
  ·split
   ·simp
   ·exact ih
theorem Brl:FO 175 [.str,.str] [.int .i64] A6p:=by
 refine FnOk.ofIs (Ae3 [] []).enters rfl λx r hx =>?_;obtain⟨a,b⟩:=x;simp only[A6p,Za1] at hx;subst hx;refine⟨[S a,S b],_,λX vs h =>?_,Ae3 a b,λX hb =>?_⟩
 ·simp only[Cc,Co,Reps,Rep] at h;obtain⟨u,us,rfl,⟨rfl,_⟩,u2,us2,rfl,⟨rfl,_⟩,rfl⟩:=h;rfl
 ·simp only[Hi,Cc,Co];have h:=Qf a b;refine Cz (Az9 ?_);simp only[IntKind.min,IntKind.max,IntKind.signed,IntKind.bits];simp only[if_true];omega
end Go.Proofs.YtbkinkalnmbpjaaGreatDoor
namespace Go.Proofs.YtbkinkalnmbpjaaGreatDoor
open Go.Ax
def Aae:Sig:=⟨20,[(0,.str),(2,.bool),(5,.int .i64),(6,.int .i64)],[],[],0,0,0,[],[]⟩
abbrev Ln:=Str×Bool×Int×Int
def Jj{R:Type}(rec:Ln->Option R)(kx:Ex->Ln->Option R)(v:Ln):Option R:=match v with
 |(v,v1,v2,v3) =>
 cond (decide (v3<v2)) (
  chk (inb v3 v.length) (
  cond (decide ((bat v v3)<32)) (
   kx .ret (v,false,v2,v3)) (
   chk (inb v3 v.length) (
   cond (decide (126<(bat v v3))) (
    kx .ret (v,false,v2,v3)) (
    rec (v,v1,v2,(wr .i64 (v3+1)))))))) (
  kx (.exit 0) (v,v1,v2,v3))
def Aj3(R:Type)(k:Nat):Px R:=pxO [] [] [(2,Am k Aae (Jj))] []
def Awd(k:Nat)(x:HV [.str]):Option (HV [.bool]):=match x with
 |s =>
 Al (λrec=>Jj rec (λe vz=>match vz with|(_,v5,_,_)=>match e with
  |.ret =>
  some v5
  |.exit 0 =>
  some true
  |_=>none)) k (s,false,(s.length:Int),0)
theorem A0x(k:Nat):FO 225 [.str] [.bool] (Awd k):=fR (px:=Aj3 _ k) (n:=1) Tryz.func225 rfl (λcx H=>by have h0:Lv cx (Aj3 (HV [.bool]) k):=lv H Ae Ab Aa;have hlvisible_0:=lO H h0 (b:=lp Tryz.f225 0) (k:=k) (n:=0) (s:=Aae) (step:=Jj) (λ_ _ _ (_,_,_,_)=>by kernel_rfl) Ah;exact⟨h0,(A5 Ah hlvisible_0)⟩) λ_=>by kernel_rfl
def vis(b:UInt8):Bool:=decide (32<=b.toNat)&&decide (b.toNat<=126)
def H2(s:Str):Bool:=s.all vis
def Ac3:FT [.str] [.bool]:=λx=>some (H2 x)
theorem Abc{R:Type}{kx:Ex->Ln->Option R}{s:Str}{a b:Option R}(hs:ln s.length)(h1:∀r j,kx .ret (s,false,r,j)=a)(h2:∀q r j,kx (.exit 0) (s,q,r,j)=b):∀(k i:Nat) q,i<=s.length->s.length-i<k->Al (λrec=>Jj rec kx) k (s,q,(s.length:Int),(i:Int))=cond ((s.drop i).all vis) b a
 |0,i,q,_,h=>by omega
 |k+1,i,q,hi,h=>by
  rw[Bb];by_cases hl:i<s.length
  ·have ih:=Abc hs h1 h2 k (i+1) q (by omega) (by omega);simp only[Jj,Au hl hs,ih,h1,Ak hl,Ct hl,Aw hl,Zv1,chk,Af,Bool.cond_decide];rw[if_pos (by omega)];simp only[vis];split
   ·rw[Zd1 (by omega)];rfl
   ·split
    ·rw[Ze1 (by omega),Zd1 (by omega)];rfl
    ·rw[Ze1 (by omega),Ze1 (by omega)];rfl
  ·simp only[Jj,h2,Bool.cond_decide];rw[if_neg (by omega),Zk1 (by omega)];rfl
theorem A85:FO 225 [.str] [.bool] Ac3 :=.fin 0 A0x λx r hb hx=>⟨x.length+1,by simp only[Ac3,Za1] at hx;have:=Abc (a:=some false) (b:=some true) hb (kx:=λe v=>match v with|(_,v5,_,_)=>match e with|.ret=>some v5|.exit 0=>some true|_=>none) (λ_ _=>rfl) (λ_ _ _=>rfl) (x.length+1) 0 false (Nat.zero_le _) (by omega);refine Eq.trans this ?_;rw[<-hx,Zq1,H2];cases x.all vis<;>rfl⟩
def Bg4(R:Type):Px R:=pxO [(225,cA Ac3)] [] [] []
def Tr(x:HV [.sv .val]):Option (HV [.bool]):=match x with
 |v =>
 cond (decide (v.kind=1)) (
  cond (decide (v.n=0)) (
  some (decide (v.s=[]))) (
  some false)) (
  cond (decide (v.kind=2)) (
  cond (decide (v.n=0)) (
   some (decide (v.s=[]))) (
   cond (decide (v.n=1)) (
   some (decide (v.s=[]))) (
   some false))) (
  cond (decide (v.kind=3)) (
   some (decide (v.s=[]))) (
   cond (decide (v.kind=4)) (
   cond (decide (v.n=0)) (
    cond (decide ((v.s.length:Int)<=1000)) (
    some (H2 v.s)) (
    some false)) (
    some false)) (
   cond (decide (v.kind=5)) (
    cond (decide (v.n=0)) (
    some (decide ((v.s.length:Int)<=1000))) (
    some false)) (
    some false)))))
theorem A9g:FO 167 [.sv .val] [.bool] (Tr):=fR (px:=Bg4 _) (n:=0) Tryz.func167 rfl (λ_ H=>⟨lv H (c1 H A85 Ae) Ab Aa,Ah⟩) λ_=>by kernel_rfl
def Bo(v:Val):Bool :=
 cond (decide (v.kind=1)) (
  cond (decide (v.n=0)) (
  (decide (v.s=[]))) (
  false)) (
  cond (decide (v.kind=2)) (
  cond (decide (v.n=0)) (
   (decide (v.s=[]))) (
   cond (decide (v.n=1)) (
   (decide (v.s=[]))) (
   false))) (
  cond (decide (v.kind=3)) (
   (decide (v.s=[]))) (
   cond (decide (v.kind=4)) (
   cond (decide (v.n=0)) (
    cond (decide ((v.s.length:Int)<=1000)) (
    (H2 v.s)) (
    false)) (
    false)) (
   cond (decide (v.kind=5)) (
    cond (decide (v.n=0)) (
    (decide ((v.s.length:Int)<=1000))) (
    false)) (
    false)))))
theorem A8h(x:HV [.sv .val]):Tr x=some (Bo x):=by
 first
  |exact rfl
  |simp only[Tr,Bo,A0]
def Aba:FT [.sv .val] [.bool]:=λx=>some (Bo x)
theorem Ad8:FO 167 [.sv .val] [.bool] Aba :=.fin0 A9g λx _ _ hx=>(A8h x).trans hx
def Bdn(R:Type):Px R:=pxO [(167,cA Aba)] [] [] []
def Sy(x:HV [.sv .val]):Option (HV [.int .i64]):=match x with
 |v =>
 cond (!(Bo v)) (
  some 2) (
  some 0)
theorem A54:FO 226 [.sv .val] [.int .i64] (Sy):=fR (px:=Bdn _) (n:=0) Tryz.func226 rfl (λ_ H=>⟨lv H (c1 H Ad8 Ae) Ab Aa,Ah⟩) λ_=>by kernel_rfl
def Ei(v:Val):Int :=
 cond (!(Bo v)) (
  2) (
  0)
theorem A61(x:HV [.sv .val]):Sy x=some (Ei x):=by
 first
  |exact rfl
  |simp only[Sy,Ei,A0]
def Apt:FT [.sv .val] [.int .i64]:=λx=>some (Ei x)
theorem Asd:FO 226 [.sv .val] [.int .i64] Apt :=.fin0 A54 λx _ _ hx=>(A61 x).trans hx
def Bj1(R:Type):Px R:=pxO [(167,cA Aba)] [] [] []
def X5(x:HV [.sv .val,.int .i64]):Option (HV [.bool]):=match x with
 |(v,kind) =>
 cond ((Bo v)) (
  cond (decide (v.kind=1)) (
  some true) (
  some (decide (v.kind=kind)))) (
  some false)
theorem Bdp:FO 102 [.sv .val,.int .i64] [.bool] (X5):=fR (px:=Bj1 _) (n:=0) Tryz.func102 rfl (λ_ H=>⟨lv H (c1 H Ad8 Ae) Ab Aa,Ah⟩) λ(_,_)=>by kernel_rfl
def Nv(v:Val)(kind:Int):Bool :=
 cond ((Bo v)) (
  cond (decide (v.kind=1)) (
  true) (
  (decide (v.kind=kind)))) (
  false)
theorem Bi9(x:HV [.sv .val,.int .i64]):X5 x=some (Nv x.1 x.2):=by
 first
  |exact rfl
  |simp only[X5,Nv,A0]
def Bal:FT [.sv .val,.int .i64] [.bool]:=λx=>some (Nv x.1 x.2)
theorem Bn9:FO 102 [.sv .val,.int .i64] [.bool] Bal :=.fin0 Bdp λx _ _ hx=>(Bi9 x).trans hx
def Bpd(R:Type):Px R:=pxO [] [] [] []
def Yc(x:HV [.int .i64,.int .i64]):Option (HV [.int .i64]):=match x with
 |(a,b) =>
 cond (decide (a<b)) (
  some (-1)) (
  cond (decide (b<a)) (
  some 1) (
  some 0))
theorem Bhu:FO 107 [.int .i64,.int .i64] [.int .i64] (Yc):=fR (px:=Bpd _) (n:=0) Tryz.func107 rfl (λ_ H=>⟨lv H Ae Ab Aa,Ah⟩) λ(_,_)=>by kernel_rfl
def Eh(a:Int)(b:Int):Int :=
 cond (decide (a<b)) (
  (-1)) (
  cond (decide (b<a)) (
  1) (
  0))
theorem Beq(x:HV [.int .i64,.int .i64]):Yc x=some (Eh x.1 x.2):=by
 first
  |exact rfl
  |simp only[Yc,Eh,A0]
def Bco:FT [.int .i64,.int .i64] [.int .i64]:=λx=>some (Eh x.1 x.2)
theorem Bos:FO 107 [.int .i64,.int .i64] [.int .i64] Bco :=.fin0 Bhu λx _ _ hx=>(Beq x).trans hx
def Brz(R:Type):Px R:=pxO [] [] [] []
def Adu(x:HV [.int .i64,.int .i64]):Option (HV [.int .i64,.int .i64]):=match x with
 |(a,b) =>
 cond (!decide ((decide (a<(wr .i64 (a+b))))=(decide (0<b)))) (
  some (0,20)) (
  some ((wr .i64 (a+b)),0))
theorem Bkb:FO 228 [.int .i64,.int .i64] [.int .i64,.int .i64] (Adu):=fR (px:=Brz _) (n:=0) Tryz.func228 rfl (λ_ H=>⟨lv H Ae Ab Aa,Ah⟩) λ(_,_)=>by kernel_rfl
def Wp(a:Int)(b:Int):Int×Int :=
 cond (!decide ((decide (a<(wr .i64 (a+b))))=(decide (0<b)))) (
  (0,20)) (
  ((wr .i64 (a+b)),0))
theorem Bqu(x:HV [.int .i64,.int .i64]):Adu x=some (Wp x.1 x.2):=by
 first
  |exact rfl
  |simp only[Adu,Wp,A0]
def A8u:FT [.int .i64,.int .i64] [.int .i64,.int .i64]:=λx=>some (Wp x.1 x.2)
theorem Baz:FO 228 [.int .i64,.int .i64] [.int .i64,.int .i64] A8u :=.fin0 Bkb λx _ _ hx=>(Bqu x).trans hx
def Bt5(R:Type):Px R:=pxO [] [] [] []
def Ad2(x:HV [.int .i64,.int .i64]):Option (HV [.int .i64,.int .i64]):=match x with
 |(a,b) =>
 cond (!decide ((decide ((wr .i64 (a-b))<a))=(decide (0<b)))) (
  some (0,20)) (
  some ((wr .i64 (a-b)),0))
theorem Bqc:FO 229 [.int .i64,.int .i64] [.int .i64,.int .i64] (Ad2):=fR (px:=Bt5 _) (n:=0) Tryz.func229 rfl (λ_ H=>⟨lv H Ae Ab Aa,Ah⟩) λ(_,_)=>by kernel_rfl
def M3(a:Int)(b:Int):Int×Int :=
 cond (!decide ((decide ((wr .i64 (a-b))<a))=(decide (0<b)))) (
  (0,20)) (
  ((wr .i64 (a-b)),0))
theorem Bn2(x:HV [.int .i64,.int .i64]):Ad2 x=some (M3 x.1 x.2):=by
 first
  |exact rfl
  |simp only[Ad2,M3,A0]
def Bm3:FT [.int .i64,.int .i64] [.int .i64,.int .i64]:=λx=>some (M3 x.1 x.2)
theorem Btk:FO 229 [.int .i64,.int .i64] [.int .i64,.int .i64] Bm3 :=.fin0 Bqc λx _ _ hx=>(Bn2 x).trans hx
def Bok(R:Type):Px R:=pxO [] [] [] []
def X0(x:HV [.int .i64]):Option (HV [.int .u64]):=match x with
 |n =>
 cond (decide (n<0)) (
  some (wr .u64 (0-(wr .u64 n)))) (
  some (wr .u64 n))
theorem Bgb:FO 241 [.int .i64] [.int .u64] (X0):=fR (px:=Bok _) (n:=0) Tryz.func241 rfl (λ_ H=>⟨lv H Ae Ab Aa,Ah⟩) λ_=>by kernel_rfl
def Cy(n:Int):Int :=
 cond (decide (n<0)) (
  (wr .u64 (0-(wr .u64 n)))) (
  (wr .u64 n))
theorem Bg9(x:HV [.int .i64]):X0 x=some (Cy x):=by
 first
  |exact rfl
  |simp only[X0,Cy,A0]
def Av0:FT [.int .i64] [.int .u64]:=λx=>some (Cy x)
theorem A3u:FO 241 [.int .i64] [.int .u64] Av0 :=.fin0 Bgb λx _ _ hx=>(Bg9 x).trans hx
def A19(R:Type):Px R:=pxO [(175,cA A6p)] [] [] []
def L5(x:HV [.str,.str]):Option (HV [.int .i64]):=match x with
 |(a,b) =>
 some (Iv a b)
theorem Avo:FO 108 [.str,.str] [.int .i64] (L5):=fR (px:=A19 _) (n:=0) Tryz.func108 rfl (λ_ H=>⟨lv H (c1 H Brl Ae) Ab Aa,Ah⟩) λ(_,_)=>by kernel_rfl
def Hb(a:Str)(b:Str):Int :=(Iv a b)
theorem Aye(x:HV [.str,.str]):L5 x=some (Hb x.1 x.2):=by
 first
  |exact rfl
  |simp only[L5,Hb,A0]
def Xz:FT [.str,.str] [.int .i64]:=λx=>some (Hb x.1 x.2)
theorem Afb:FO 108 [.str,.str] [.int .i64] Xz :=.fin0 Avo λx _ _ hx=>(Aye x).trans hx
def Btg(R:Type):Px R:=pxO [(107,cA Bco),(108,cA Xz)] [] [] []
def Ad0(x:HV [.sv .val,.sv .val]):Option (HV [.int .i64]):=match x with
 |(a,b) =>
 cond (!decide ((Eh a.kind b.kind)=0)) (
  some (Eh a.kind b.kind)) (
  cond (!decide ((Eh a.n b.n)=0)) (
  some (Eh a.n b.n)) (
  some (Hb a.s b.s)))
theorem Bpg:FO 43 [.sv .val,.sv .val] [.int .i64] (Ad0):=fR (px:=Btg _) (n:=0) Tryz.func43 rfl (λ_ H=>⟨lv H (c1 H Bos (c1 H Afb Ae)) Ab Aa,Ah⟩) λ(_,_)=>by kernel_rfl
def O3(a:Val)(b:Val):Int :=
 cond (!decide ((Eh a.kind b.kind)=0)) (
  (Eh a.kind b.kind)) (
  cond (!decide ((Eh a.n b.n)=0)) (
  (Eh a.n b.n)) (
  (Hb a.s b.s)))
theorem Bln(x:HV [.sv .val,.sv .val]):Ad0 x=some (O3 x.1 x.2):=by
 first
  |exact rfl
  |simp only[Ad0,O3,A0]
def A7n:FT [.sv .val,.sv .val] [.int .i64]:=λx=>some (O3 x.1 x.2)
theorem Bbr:FO 43 [.sv .val,.sv .val] [.int .i64] A7n :=.fin0 Bpg λx _ _ hx=>(Bln x).trans hx
def Bnc(R:Type):Px R:=pxO [] [] [] []
def X1(x:HV [.int .u64,.int .u64]):Option (HV [.int .u64,.int .u64]):=match x with
 |(a,b) =>
 some ((wr .u64 ((wr .u64 ((wr .u64 ((Fw .u64 a 32)*(Fw .u64 b 32)))+(Fw .u64 (wr .u64 ((wr .u64 ((Fw .u64 a 32)*(Hy .u64 b 4294967295)))+(Fw .u64 (wr .u64 ((Hy .u64 a 4294967295)*(Hy .u64 b 4294967295))) 32))) 32)))+(Fw .u64 (wr .u64 ((Hy .u64 (wr .u64 ((wr .u64 ((Fw .u64 a 32)*(Hy .u64 b 4294967295)))+(Fw .u64 (wr .u64 ((Hy .u64 a 4294967295)*(Hy .u64 b 4294967295))) 32))) 4294967295)+(wr .u64 ((Hy .u64 a 4294967295)*(Fw .u64 b 32))))) 32))),(wr .u64 (a*b)))
theorem Bdz:FO 261 [.int .u64,.int .u64] [.int .u64,.int .u64] (X1):=fR (px:=Bnc _) (n:=0) Tryz.func261 rfl (λ_ H=>⟨lv H Ae Ab Aa,Ah⟩) λ(_,_)=>by kernel_rfl
def Hm(a:Int)(b:Int):Int×Int :=((wr .u64 ((wr .u64 ((wr .u64 ((Fw .u64 a 32)*(Fw .u64 b 32)))+(Fw .u64 (wr .u64 ((wr .u64 ((Fw .u64 a 32)*(Hy .u64 b 4294967295)))+(Fw .u64 (wr .u64 ((Hy .u64 a 4294967295)*(Hy .u64 b 4294967295))) 32))) 32)))+(Fw .u64 (wr .u64 ((Hy .u64 (wr .u64 ((wr .u64 ((Fw .u64 a 32)*(Hy .u64 b 4294967295)))+(Fw .u64 (wr .u64 ((Hy .u64 a 4294967295)*(Hy .u64 b 4294967295))) 32))) 4294967295)+(wr .u64 ((Hy .u64 a 4294967295)*(Fw .u64 b 32))))) 32))),(wr .u64 (a*b)))
theorem Bio(x:HV [.int .u64,.int .u64]):X1 x=some (Hm x.1 x.2):=by
 first
  |exact rfl
  |simp only[X1,Hm,A0]
def Bbc:FT [.int .u64,.int .u64] [.int .u64,.int .u64]:=λx=>some (Hm x.1 x.2)
theorem Bp1:FO 261 [.int .u64,.int .u64] [.int .u64,.int .u64] Bbc :=.fin0 Bdz λx _ _ hx=>(Bio x).trans hx
def Brr(R:Type):Px R:=pxO [(241,cA Av0),(261,cA Bbc)] [] [] []
def Aej(x:HV [.int .i64,.int .i64]):Option (HV [.int .i64,.int .i64]):=match x with
 |(a,b) =>
 let j1:=λ(p3:Bool) =>
  cond (p3) (
  some (0,20)) (
  cond (!decide ((decide (a<0))=(decide (b<0)))) (
   some ((wr .i64 (wr .u64 (0-(Hm (Cy a) (Cy b)).2))),0)) (
   some ((wr .i64 ((Hm (Cy a) (Cy b)).2)),0)))
 let j:=λ(p:Bool) =>
  cond (p) (
  j1 true) (
  cond (decide ((Hm (Cy a) (Cy b)).2=9223372036854775808)) (
   j1 (!(!decide ((decide (a<0))=(decide (b<0)))))) (
   j1 false))
 cond (decide (0<(Hm (Cy a) (Cy b)).1)) (
  j true) (
  j (decide (9223372036854775808<(Hm (Cy a) (Cy b)).2)))
theorem Bmi:FO 230 [.int .i64,.int .i64] [.int .i64,.int .i64] (Aej):=fR (px:=Brr _) (n:=0) Tryz.func230 rfl (λ_ H=>⟨lv H (c1 H A3u (c1 H Bp1 Ae)) Ab Aa,Ah⟩) λ(_,_)=>by kernel_rfl
def Tn(a:Int)(b:Int):Int×Int :=
 let j1:=λ(p3:Bool) =>
  cond (p3) (
  (0,20)) (
  cond (!decide ((decide (a<0))=(decide (b<0)))) (
   ((wr .i64 (wr .u64 (0-(Hm (Cy a) (Cy b)).2))),0)) (
   ((wr .i64 ((Hm (Cy a) (Cy b)).2)),0)))
 let j:=λ(p:Bool) =>
  cond (p) (
  j1 true) (
  cond (decide ((Hm (Cy a) (Cy b)).2=9223372036854775808)) (
   j1 (!(!decide ((decide (a<0))=(decide (b<0)))))) (
   j1 false))
 cond (decide (0<(Hm (Cy a) (Cy b)).1)) (
  j true) (
  j (decide (9223372036854775808<(Hm (Cy a) (Cy b)).2)))
theorem Blb(x:HV [.int .i64,.int .i64]):Aej x=some (Tn x.1 x.2):=by
 first
  |exact rfl
  |simp only[Aej,Tn,A0]
def A47:FT [.int .i64,.int .i64] [.int .i64,.int .i64]:=λx=>some (Tn x.1 x.2)
theorem Bbi:FO 230 [.int .i64,.int .i64] [.int .i64,.int .i64] A47 :=.fin0 Bmi λx _ _ hx=>(Blb x).trans hx
theorem A3j{i:Int}{n:Nat}(h : 0<=i/\i<n):inb i n=true:=by simp[inb,h]
def Bm0(R:Type):Px R:=pxO [] [] [] []
def X2(x:HV [.int .u8]):Option (HV [.bool]):=match x with
 |c =>
 cond (decide (97<=c)) (
  some (decide (c<=122))) (
  some false)
theorem Bd6:FO 181 [.int .u8] [.bool] (X2):=fR (px:=Bm0 _) (n:=0) Tryz.func181 rfl (λ_ H=>⟨lv H Ae Ab Aa,Ah⟩) λ_=>by kernel_rfl
def Abm(c:Int):Bool :=
 cond (decide (97<=c)) (
  (decide (c<=122))) (
  false)
theorem Bhm(x:HV [.int .u8]):X2 x=some (Abm x):=by
 first
  |exact rfl
  |simp only[X2,Abm,A0]
def Aik:FT [.int .u8] [.bool]:=λx=>some (Abm x)
theorem Akk:FO 181 [.int .u8] [.bool] Aik :=.fin0 Bd6 λx _ _ hx=>(Bhm x).trans hx
def Bql(R:Type):Px R:=pxO [] [] [] []
def Yl(x:HV [.int .u8]):Option (HV [.bool]):=match x with
 |c =>
 cond (decide (48<=c)) (
  some (decide (c<=57))) (
  some false)
theorem Bgo:FO 236 [.int .u8] [.bool] (Yl):=fR (px:=Bql _) (n:=0) Tryz.func236 rfl (λ_ H=>⟨lv H Ae Ab Aa,Ah⟩) λ_=>by kernel_rfl
def Aaj(c:Int):Bool :=
 cond (decide (48<=c)) (
  (decide (c<=57))) (
  false)
theorem Bdj(x:HV [.int .u8]):Yl x=some (Aaj x):=by
 first
  |exact rfl
  |simp only[Yl,Aaj,A0]
def Ah5:FT [.int .u8] [.bool]:=λx=>some (Aaj x)
theorem Aiy:FO 236 [.int .u8] [.bool] Ah5 :=.fin0 Bgo λx _ _ hx=>(Bdj x).trans hx
def Bqt(R:Type):Px R:=pxO [(181,cA Aik),(236,cA Ah5)] [] [] []
def Yp(x:HV [.int .u8]):Option (HV [.bool]):=match x with
 |c =>
 cond ((Abm c)) (
  some true) (
  cond ((Aaj c)) (
  some true) (
  some (decide (c=95))))
theorem Bem:FO 183 [.int .u8] [.bool] (Yp):=fR (px:=Bqt _) (n:=0) Tryz.func183 rfl (λ_ H=>⟨lv H (c1 H Akk (c1 H Aiy Ae)) Ab Aa,Ah⟩) λ_=>by kernel_rfl
def Af8(c:Int):Bool :=
 cond ((Abm c)) (
  true) (
  cond ((Aaj c)) (
  true) (
  (decide (c=95))))
theorem Bix(x:HV [.int .u8]):Yp x=some (Af8 x):=by
 first
  |exact rfl
  |simp only[Yp,Af8,A0]
def Aiu:FT [.int .u8] [.bool]:=λx=>some (Af8 x)
theorem Akc:FO 183 [.int .u8] [.bool] Aiu :=.fin0 Bem λx _ _ hx=>(Bix x).trans hx
theorem Ai8(c:Int):Abm c=Lp.isLo c:=by simp only[Abm,Lp.isLo];cases decide (97<=c)<;>rfl
theorem Apc(c:Int):Aaj c=Lp.isDi c:=by simp only[Aaj,Lp.isDi];cases decide (48<=c)<;>rfl
theorem Amo(c:Int):Af8 c=Lp.isIn c:=by simp only[Af8,Lp.isIn,Ai8,Apc];cases Lp.isLo c<;>cases Lp.isDi c<;>rfl
def Ajn:Sig:=⟨21,[(0,.str),(1,.int .i64)],[(2,.fn 183 [])],[],40,40,200,[],[]⟩
abbrev T4:=Str×Int
def Wc{R:Type}(rec:T4->Option R)(kx:Ex->T4->Option R)(v:T4):Option R:=match v with
 |(v,v1) =>
 cond (decide (v1<(v.length:Int))) (
  chk (inb v1 v.length) (
  cond ((Af8 (bat v v1))) (
   rec (v,(wr .i64 (v1+1)))) (
   kx (.exit 0) (v,v1)))) (
  kx (.exit 0) (v,v1))
def Akl(R:Type)(k:Nat):Px R:=pxO [(183,cA Aiu)] [] [(1,Am k Ajn (Wc))] []
noncomputable def A24(R:Type)(k:Nat):Px R:=pxO [(181,cA Aik),(182,A2 40 200 (Akl R k) Tryz.f182)] [] [] []
def Aje(k:Nat)(x:HV [.str]):Option (HV [.bool]):=match x with
 |s =>
 let j1:=λ(p:Bool) =>
  let j:=λ(p1:Bool) =>
  cond (p1) (
   Al (λrec=>Wc rec (λe vz=>match vz with|(_,v3)=>match e with
   |.exit 0 =>some (decide (v3=(s.length:Int)))
   |_=>none)) k (s,0)) (
   some false)
  cond (p) (
  chk (inb 0 s.length) (
   j (Abm (bat s 0)))) (
  j false)
 cond (!decide (s=[])) (
  j1 (decide ((s.length:Int)<=30))) (
  j1 false)
theorem Bdm(k:Nat):FO 113 [.str] [.bool] (Aje k):=fR (px:=A24 _ k) (n:=0) Tryz.func113 rfl (λcx H=>by have h1:Lv cx (Akl (HV [.bool]) k):=lv H (c1 H Akc Ae) Ab Aa;have hllname_0:=lO H h1 (b:=lp Tryz.f182 0) (k:=k) (n:=0) (s:=Ajn) (step:=Wc) (λ_ _ _ (_,_)=>by kernel_rfl) Ah;have h0:Lv cx (A24 (HV [.bool]) k):=lv H (c1 H Akk (Az (cR H h1 Tryz.func182 rfl (n:=1) ((A5 Ah hllname_0))) Ae)) Ab Aa;exact⟨h0,Ah⟩) λ_=>by kernel_rfl
abbrev Df(s:Str):Bool:=Lp.nameF s
def O9:FT [.str] [.bool]:=λx=>some (Df x)
theorem Abi{R:Type}{kx:Ex->T4->Option R}{s:Str}  {a:Int->Option R}(hs:ln s.length) (h1:∀j,kx (.exit 0) (s,j)=a j):∀(k i:Nat),i<=s.length->s.length-i<k->Al (λrec=>Wc rec kx) k (s,(i:Int))=a (Lp.runTo Lp.isIn s i)
 |0,i,_,h=>absurd h (Zm1 _)
 |k+1,i,hi,h=>by
  rw[Bb];by_cases hl:i<s.length
  ·have ih:=Abi  hs h1 k (i+1) (by omega) (by omega);have eb:Sx.byt s (i:Int)=(s[i].toNat:Int):=Ct hl;simp only[Wc,Au hl hs,ih,h1,Ct hl,Aw hl,Amo];rw[Ze1 (show(i:Int)<(s.length:Int) by omega)];cases hp:Lp.isIn (s[i].toNat:Int) with|true =>have:=Lp.runTo_yes (p:=Lp.isIn) (l:=s) (j:=i) (by omega) (by rw[eb];exact hp);rw[<-this];rfl|false =>have:=Lp.runTo_no (p:=Lp.isIn) (l:=s) (j:=i) (by omega) (by rw[eb];exact hp);rw[this];rfl
  ·have:=Lp.runTo_end (p:=Lp.isIn) (l:=s) (j:=i) (by omega);simp only[Wc,h1];rw[Zd1 (by omega),this];rfl
theorem Tg:FO 113 [.str] [.bool] O9 :=.fin 0 Bdm λs r hb hx=>⟨s.length+1,by
 simp only[O9,Za1] at hx;rw[<-hx];simp only[Aje,Df,Lp.nameF];by_cases he:s=[]
 ·rw[Ze1 he];rfl
 ·rw[Zd1 he];simp only[Zs1,Af,Bool.true_and];by_cases h30:(s.length:Int)<=30
  ·have hp : 0<s.length:=List.length_pos_iff.2 he;rw[Ze1 h30,A3j (by omega),Ai8];simp only[chk,Af,Bool.true_and];have eb:bat s 0=Sx.byt s 0:=rfl;rw[eb];cases Lp.isLo (Sx.byt s 0) with|false=>rfl|true =>simp only[Af,Bool.true_and];exact Abi (s:=s) (a:=λj=>some (decide (j=(s.length:Int)))) hb (λ_=>rfl) (s.length+1) 0 (Nat.zero_le _) (by omega)
  ·rw[Zd1 h30];rfl⟩
theorem wru(n:Int):wr .u64 n=n % 18446744073709551616:=by simp[wr,IntKind.wrap,IntKind.bits,IntKind.signed]
theorem wri(n:Int):wr .i64 n=if 9223372036854775808<=n % 18446744073709551616 then n % 18446744073709551616-18446744073709551616 else n % 18446744073709551616:=by simp[wr,IntKind.wrap,IntKind.bits,IntKind.signed]
theorem Iu{n:Int}(h : 0<=n/\n<=18446744073709551615):wr .u64 n=n:=by rw[wru];omega
theorem Awv{a:Int}(h : 0<=a/\a<=18446744073709551615):Hy .u64 a 4294967295=a % 4294967296:=by
 obtain⟨n,rfl⟩:=Int.eq_ofNat_of_zero_le h.1;have hn:n<18446744073709551616:=by omega
 have e2:(BitVec.ofInt IntKind.u64.bits (n:Int) &&& BitVec.ofInt IntKind.u64.bits 4294967295).toNat=n % 4294967296:=by show(BitVec.ofInt 64 (n:Int) &&& BitVec.ofInt 64 ((4294967295:Nat):Int)).toNat=n % 4294967296;rw[BitVec.toNat_and,BitVec.ofInt_natCast,BitVec.ofInt_natCast,BitVec.toNat_ofNat,BitVec.toNat_ofNat];rw[Nat.mod_eq_of_lt hn,Nat.mod_eq_of_lt (by decide)];exact Nat.and_two_pow_sub_one_eq_mod n 32
 show wr .u64 _=_;simp only[e2];rw[Iu (by omega)];omega
theorem Bta{a:Int}:Fw .u64 a 32=a / 4294967296:=by show a.fdiv (2 ^ min (32:Int).toNat IntKind.u64.bits)=_;rw[show(2:Int) ^ min (32:Int).toNat IntKind.u64.bits=4294967296 from by decide];exact Int.fdiv_eq_ediv_of_nonneg _ (by omega)
theorem Aky(a b c d:Int)(h : 0<=a/\a<=c)(h' : 0<=b/\b<=d) : 0<=a*b/\a*b<=c*d :=⟨Int.mul_nonneg h.1 h'.1,Int.mul_le_mul h.2 h'.2 h'.1 (by omega)⟩
theorem A0k(x y:Int):x*y=(x / 4294967296)*(y / 4294967296)*18446744073709551616+((x / 4294967296)*(y % 4294967296)+(x % 4294967296)*(y / 4294967296))*4294967296+(x % 4294967296)*(y % 4294967296):=by
 have hx:=Int.mul_ediv_add_emod x 4294967296;have hy:=Int.mul_ediv_add_emod y 4294967296;generalize x / 4294967296=p at *;generalize x % 4294967296=q at *;generalize y / 4294967296=r at *;generalize y % 4294967296=s at *;rw[<-hx,<-hy];simp only[Int.add_mul,Int.mul_add];have e1 : 4294967296*p*(4294967296*r)=p*r*18446744073709551616:=by rw[Int.mul_assoc,Int.mul_left_comm p,<-Int.mul_assoc];omega
 have e2 : 4294967296*p*s=p*s*4294967296:=by rw[Int.mul_assoc];omega
 have e3:q*(4294967296*r)=q*r*4294967296:=by rw[Int.mul_left_comm];omega
 omega
theorem Bub(x y:Int)(hx : 0<=x/\x<=18446744073709551615)(hy : 0<=y/\y<=18446744073709551615):Hm x y=(x*y / 18446744073709551616,x*y % 18446744073709551616):=by have b00:=Aky (x % 4294967296) (y % 4294967296) 4294967295 4294967295 (by omega) (by omega);have b10:=Aky (x / 4294967296) (y % 4294967296) 4294967295 4294967295 (by omega) (by omega);have b01:=Aky (x % 4294967296) (y / 4294967296) 4294967295 4294967295 (by omega) (by omega);have b11:=Aky (x / 4294967296) (y / 4294967296) 4294967295 4294967295 (by omega) (by omega);have sp:=A0k x y;simp only[Hm,Bta,Awv hx,Awv hy];generalize (x % 4294967296)*(y % 4294967296)=a at *;generalize (x / 4294967296)*(y % 4294967296)=b at *;generalize (x % 4294967296)*(y / 4294967296)=c at *;generalize (x / 4294967296)*(y / 4294967296)=d at *;rw[Iu (n:=a) (by omega),Iu (n:=b) (by omega),Iu (n:=d) (by omega),Iu (n:=c) (by omega)];rw[Iu (n:=b+a / 4294967296) (by omega)];rw[Awv (by omega)];rw[Iu (n:=(b+a / 4294967296) % 4294967296+c) (by omega)];rw[Iu (n:=d+(b+a / 4294967296) / 4294967296) (by omega)];rw[Iu (n:=d+(b+a / 4294967296) / 4294967296+((b+a / 4294967296) % 4294967296+c) / 4294967296) (by omega),wru];rw[Zp1];constructor<;>omega
def Ia(n:Int):Int×Int:=if -9223372036854775808<=n/\n<=9223372036854775807 then(n,0) else(0,20)
def Mk(n:Int):Int:=if n<0 then -n else n
theorem Awj{n:Int}(h:inI n):Cy n=Mk n:=by simp only[inI] at h;simp only[Cy,Mk,Bool.cond_decide,wru];split<;>omega
theorem Ad5{q r:Int}(h:inI q)(hr:r=q):(r,(0:Int))=Ia q:=by simp only[inI] at h;rw[hr,Ia,if_pos h]
theorem Aey{q:Int}(h:¬inI q):((0:Int),(20:Int))=Ia q:=by simp only[inI] at h;rw[Ia,if_neg h]
theorem A69{a b:Int}(ha:inI a)(hb:inI b):Wp a b=Ia (a+b):=by
 simp only[inI] at ha hb;simp only[Wp,wri];by_cases h1 : 0<b
 ·rw[Ze1 h1];by_cases h2:a+b<=9223372036854775807
  ·have e:(a+b) % 18446744073709551616<9223372036854775808\/9223372036854775808<=(a+b) % 18446744073709551616:=by omega
   rw[<-Ad5 (q:=a+b) (r:=if 9223372036854775808<=(a+b) % 18446744073709551616 then(a+b) % 18446744073709551616-18446744073709551616 else(a+b) % 18446744073709551616) (by simp only[inI];omega) (by split<;>omega)];rw[Ze1 (p:=a<_) (by split<;>omega)];rfl
  ·rw[<-Aey (q:=a+b) (by simp only[inI];omega)];rw[Zd1 (p:=a<_) (by split<;>omega)];rfl
 ·rw[Zd1 h1];by_cases h2 : -9223372036854775808<=a+b
  ·rw[<-Ad5 (q:=a+b) (r:=if 9223372036854775808<=(a+b) % 18446744073709551616 then(a+b) % 18446744073709551616-18446744073709551616 else(a+b) % 18446744073709551616) (by simp only[inI];omega) (by split<;>omega)];rw[Zd1 (p:=a<_) (by split<;>omega)];rfl
  ·rw[<-Aey (q:=a+b) (by simp only[inI];omega)];rw[Ze1 (p:=a<_) (by split<;>omega)];rfl
theorem Ayh{a b:Int}(ha:inI a)(hb:inI b):M3 a b=Ia (a-b):=by
 simp only[inI] at ha hb;simp only[M3,wri];by_cases h1 : 0<b
 ·rw[Ze1 h1];by_cases h2 : -9223372036854775808<=a-b
  ·rw[<-Ad5 (q:=a-b) (r:=if 9223372036854775808<=(a-b) % 18446744073709551616 then(a-b) % 18446744073709551616-18446744073709551616 else(a-b) % 18446744073709551616) (by simp only[inI];omega) (by split<;>omega)];rw[Ze1 (p:=_<a) (by split<;>omega)];rfl
  ·rw[<-Aey (q:=a-b) (by simp only[inI];omega)];rw[Zd1 (p:=_<a) (by split<;>omega)];rfl
 ·rw[Zd1 h1];by_cases h2:a-b<=9223372036854775807
  ·rw[<-Ad5 (q:=a-b) (r:=if 9223372036854775808<=(a-b) % 18446744073709551616 then(a-b) % 18446744073709551616-18446744073709551616 else(a-b) % 18446744073709551616) (by simp only[inI];omega) (by split<;>omega)];rw[Zd1 (p:=_<a) (by split<;>omega)];rfl
  ·rw[<-Aey (q:=a-b) (by simp only[inI];omega)];rw[Ze1 (p:=_<a) (by split<;>omega)];rfl
theorem A4w{a b:Int}(ha:inI a)(hb:inI b):Tn a b=Ia (a*b):=by
 have ha':=ha;have hb':=hb;simp only[inI] at ha' hb';have hA : 0<=Mk a/\Mk a<=9223372036854775808:=by unfold Mk;split<;>omega
 have hB : 0<=Mk b/\Mk b<=9223372036854775808:=by unfold Mk;split<;>omega
 have hbd:=Aky _ _ _ _ hA hB;have hsg:a*b=if decide (a<0)=decide (b<0) then Mk a*Mk b else -(Mk a*Mk b):=by unfold Mk;by_cases h1:a<0<;>by_cases h2:b<0<;>simp[h1,h2,Int.neg_mul,Int.mul_neg]
 simp only[Tn,Awj ha,Awj hb,Bub _ _ (show 0<=Mk a/\Mk a<=18446744073709551615 by omega) (show 0<=Mk b/\Mk b<=18446744073709551615 by omega)];clear ha hb ha' hb' hA hB;generalize Mk a*Mk b=p at *;generalize a*b=q at *;by_cases hs:decide (a<0)=decide (b<0)
 ·rw[if_pos hs] at hsg;rw[Ze1 hs];by_cases h1:p<9223372036854775808
  ·rw[Zd1 (show ¬ 0<p / 18446744073709551616 by omega),Zd1 (show ¬ 9223372036854775808<p % 18446744073709551616 by omega),Zd1 (show ¬p % 18446744073709551616=9223372036854775808 by omega)];refine(show _=(wr .i64 (p % 18446744073709551616),(0:Int)) from rfl).trans (Ad5 (by simp only[inI];omega) ?_);rw[wri];split<;>omega
  ·rw[<-Aey (q:=q) (by simp only[inI];omega)];by_cases h2 : 0<p / 18446744073709551616
   ·rw[Ze1 h2];rfl
   ·rw[Zd1 h2];by_cases h3 : 9223372036854775808<p % 18446744073709551616
    ·rw[Ze1 h3];rfl
    ·rw[Zd1 h3,Ze1 (show p % 18446744073709551616=9223372036854775808 by omega)];rfl
 ·rw[if_neg hs] at hsg;rw[Zd1 hs];by_cases h1:p<=9223372036854775808
  ·rw[Zd1 (show ¬ 0<p / 18446744073709551616 by omega),Zd1 (show ¬ 9223372036854775808<p % 18446744073709551616 by omega)];have:Ia q=(wr .i64 (wr .u64 (0-p % 18446744073709551616)),(0:Int)):=by refine(Ad5 (by simp only[inI];omega) ?_).symm;rw[wri,wru];split<;>omega
   rw[this];cases decide (p % 18446744073709551616=9223372036854775808)<;>rfl
  ·rw[<-Aey (q:=q) (by simp only[inI];omega)];by_cases h2 : 0<p / 18446744073709551616
   ·rw[Ze1 h2];rfl
   ·rw[Zd1 h2,Ze1 (show 9223372036854775808<p % 18446744073709551616 by omega)];rfl
end Go.Proofs.YtbkinkalnmbpjaaGreatDoor
namespace Go.Proofs
open Go.Shelf
def Tryz.laysRA_ren:Go.Shelf.Ren:=⟨λ|155=>201|154=>242|138=>266|165=>199|143=>267|166=>126|197=>268|169=>64|195=>275|218=>276|240=>198|241=>240|219=>277|260=>278|276=>239|277=>265|217=>243|225=>281|224=>282|267=>283|266=>269|314=>285|n=>n,λ|9=>9|3=>3|4=>4|72=>110|0=>0|76=>198|105=>299|21=>21|5=>5|70=>108|20=>20|37=>28|75=>197|127=>203|164=>278|46=>204|119=>308|139=>311|138=>310|146=>313|51=>312|80=>119|n=>n,λ|1=>2|3=>4|4=>5|n=>n⟩
theorem Tryz.laysRA:Go.Proofs.Lays.n155 Tryz.prog Tryz.laysRA_ren:={
 mixed:=by kernel_rfl
 f138:=Tryz.func266.trans (congrArg some (by kernel_rfl))
 f143:=Tryz.func267.trans (congrArg some (by kernel_rfl))
 f154:=Tryz.func242.trans (congrArg some (by kernel_rfl))
 f155:=Tryz.func201.trans (congrArg some (by kernel_rfl))
 f165:=Tryz.func199.trans (congrArg some (by kernel_rfl))
 f166:=Tryz.func126.trans (congrArg some (by kernel_rfl))
 f169:=Tryz.func64.trans (congrArg some (by kernel_rfl))
 f195:=Tryz.func275.trans (congrArg some (by kernel_rfl))
 f197:=Tryz.func268.trans (congrArg some (by kernel_rfl))
 f217:=Tryz.func243.trans (congrArg some (by kernel_rfl))
 f218:=Tryz.func276.trans (congrArg some (by kernel_rfl))
 f219:=Tryz.func277.trans (congrArg some (by kernel_rfl))
 f224:=Tryz.func282.trans (congrArg some (by kernel_rfl))
 f225:=Tryz.func281.trans (congrArg some (by kernel_rfl))
 f240:=Tryz.func198.trans (congrArg some (by kernel_rfl))
 f241:=Tryz.func240.trans (congrArg some (by kernel_rfl))
 f260:=Tryz.func278.trans (congrArg some (by kernel_rfl))
 f266:=Tryz.func269.trans (congrArg some (by kernel_rfl))
 f267:=Tryz.func283.trans (congrArg some (by kernel_rfl))
 f276:=Tryz.func239.trans (congrArg some (by kernel_rfl))
 f277:=Tryz.func265.trans (congrArg some (by kernel_rfl))
 f314:=Tryz.func285.trans (congrArg some (by kernel_rfl))
 t0:=Tryz.underlying0
 a0:=Tryz.isAgg0
 z0:=Tryz.sizeOf0
 v0:=Tryz.zeroValue0
 t3:=Tryz.underlying3
 a3:=Tryz.isAgg3
 z3:=Tryz.sizeOf3
 v3:=Tryz.zeroValue3
 t4:=Tryz.underlying4
 a4:=Tryz.isAgg4
 z4:=Tryz.sizeOf4
 v4:=Tryz.zeroValue4
 t5:=Tryz.underlying5
 a5:=Tryz.isAgg5
 z5:=Tryz.sizeOf5
 v5:=Tryz.zeroValue5
 t9:=Tryz.underlying9
 a9:=Tryz.isAgg9
 z9:=Tryz.sizeOf9
 v9:=Tryz.zeroValue9
 t20:=Tryz.underlying20
 a20:=Tryz.isAgg20
 z20:=Tryz.sizeOf20
 v20:=Tryz.zeroValue20
 t21:=Tryz.underlying21
 a21:=Tryz.isAgg21
 z21:=Tryz.sizeOf21
 v21:=Tryz.zeroValue21
 t37:=Tryz.underlying28
 a37:=Tryz.isAgg28
 z37:=Tryz.sizeOf28
 v37:=Tryz.zeroValue28
 t46:=Tryz.underlying204
 a46:=Tryz.isAgg204
 z46:=Tryz.sizeOf204
 v46:=Tryz.zeroValue204
 t51:=Tryz.underlying312
 a51:=Tryz.isAgg312
 z51:=Tryz.sizeOf312
 v51:=Tryz.zeroValue312
 t70:=Tryz.underlying108
 a70:=Tryz.isAgg108
 z70:=Tryz.sizeOf108
 v70:=Tryz.zeroValue108
 t72:=Tryz.underlying110
 a72:=Tryz.isAgg110
 z72:=Tryz.sizeOf110
 v72:=Tryz.zeroValue110
 t75:=Tryz.underlying197
 a75:=Tryz.isAgg197
 z75:=Tryz.sizeOf197
 v75:=Tryz.zeroValue197
 t76:=Tryz.underlying198
 a76:=Tryz.isAgg198
 z76:=Tryz.sizeOf198
 v76:=Tryz.zeroValue198
 t105:=Tryz.underlying299
 a105:=Tryz.isAgg299
 z105:=Tryz.sizeOf299
 v105:=Tryz.zeroValue299
 t119:=Tryz.underlying308
 a119:=Tryz.isAgg308
 z119:=Tryz.sizeOf308
 t127:=Tryz.underlying203
 a127:=Tryz.isAgg203
 z127:=Tryz.sizeOf203
 v127:=Tryz.zeroValue203
 t138:=Tryz.underlying310
 a138:=Tryz.isAgg310
 z138:=Tryz.sizeOf310
 v138:=Tryz.zeroValue310
 t139:=Tryz.underlying311
 a139:=Tryz.isAgg311
 z139:=Tryz.sizeOf311
 v139:=Tryz.zeroValue311
 t146:=Tryz.underlying313
 a146:=Tryz.isAgg313
 z146:=Tryz.sizeOf313
 v146:=Tryz.zeroValue313
 t164:=Tryz.underlying278
 a164:=Tryz.isAgg278
 z164:=Tryz.sizeOf278
 v164:=Tryz.zeroValue278
 g1:=by kernel_rfl
 g3:=by kernel_rfl
 g4:=by kernel_rfl }
theorem Tryz.extraRA:Builder.Extra Tryz.prog Tryz.laysRA_ren:={
 sizeBuilder:=by kernel_rfl
 liesBuilder:=by kernel_rfl
 t5:=Tryz.laysRA.t5
 a5:=Tryz.laysRA.a5
 z5:=Tryz.laysRA.z5
 v5:=Tryz.laysRA.v5
 infoByte:=by kernel_rfl
 cellsByte:=by kernel_rfl
 sizeByte:=by kernel_rfl
 neB5:=by decide }
end Go.Proofs
namespace Go.Proofs.YtbkinkalnmbpjaaGreatDoor
open Go.Ax
def Anp(s old new:Str):Option Str:=cond (decide (s.length<4294967281)&&decide (1<=old.length)&&decide (s.length+Lib.count s old*new.length<=140737488355328)&&decide ((Lib.replaceAll s old new).length<=maxLen)) (some (Lib.replaceAll s old new)) none
def Aj5:FT [.str,.str,.str] [.str]:=λx=>Anp x.1 x.2.1 x.2.2
theorem Bg7:FO 201 [.str,.str,.str] [.str] Aj5:=by
 refine⟨Sx.enters_of Tryz.func201 rfl (by kernel_rfl),λx r hx w M vs hM hgl hr =>?_⟩;obtain⟨s,old,new⟩:=x;simp only[Aj5,Anp] at hx;cases hc:decide (s.length<4294967281)&&decide (1<=old.length)&&decide (s.length+Lib.count s old*new.length<=140737488355328)&&decide ((Lib.replaceAll s old new).length<=maxLen) with
 |false=>rw[hc] at hx;cases hx
 |true =>rw[hc] at hx;have hx:some (Lib.replaceAll s old new)=some r:=hx;simp only[Za1] at hx;subst hx;simp only[Zb1,Zg1] at hc;obtain⟨⟨⟨h1,h2⟩,h3⟩,h4⟩:=hc;simp only[Cc,Co,Reps,Rep] at hr;obtain⟨u,us,rfl,⟨rfl,_⟩,u2,us2,rfl,⟨rfl,_⟩,u3,us3,rfl,⟨rfl,_⟩,rfl⟩:=hr;obtain⟨m,hm⟩:=hgl.2.2 2 .i64 rfl;have c:=Any.strings_ReplaceAll Tryz.laysRA Tryz.extraRA ⟨s.toArray⟩ ⟨old.toArray⟩ ⟨new.toArray⟩ m w (by simpa[ByteArray.size] using h1) (hm w (Chg.refl _ _)) (by simpa[ByteArray.size] using h2) (by simpa[ByteArray.size,Lib.countB] using h3);refine Calls.mono (show Calls Tryz.prog 201 _ w _ from c) ?_;rintro en w' ⟨rfl,hb⟩;refine⟨_,⟨λ_=>0,λ_=>Option.none⟩,rfl,Chg.of_below hb,λp g o hp=>(by simp[Bq] at hp),λp q g o o2 hp=>(by simp[Bq] at hp),?_⟩;simp only[Hi,Cc,Co,Rep];exact⟨by simp,h4⟩
def pw:Nat->Int
 |0=>1
 |n+1=>10*pw n
theorem S0:∀n,0<pw n
 |0=>by decide
 |n+1=>by have:=S0 n;simp only[pw];omega
theorem A8p:∀a b,pw (a+b)=pw a*pw b
 |0,b=>by simp[pw]
 |a+1,b=>by rw[Nat.add_right_comm];simp only[pw];rw[A8p a b,Int.mul_assoc]
theorem Bai{a b:Nat}(h:a<=b):pw a<=pw b:=by
 induction b with
 |zero =>
  have:a=0:=by omega
  subst this;exact Int.le_refl _
 |succ b ih =>
  rcases Nat.le_succ_iff.1 h with h|h
  ·have:=ih h;have:=S0 b;simp only[pw];omega
  ·subst h;exact Int.le_refl _
def val:List Int->Int
 |[]=>0
 |x::l=>x+10*val l
def dg(l:List Int):Bool:=l.all λx=>decide (0<=x)&&decide (x<=9)
theorem D9{x:Int}{l:List Int}:dg (x::l)=true↔(0<=x/\x<=9)/\dg l=true:=by simp[dg]
theorem Bm6{l m:List Int}:dg (l++m)=true↔dg l=true/\dg m=true:=by simp[dg,List.all_append]
theorem Fa:∀{l:List Int},dg l=true->0<=val l
 |[],_=>by simp[val]
 |x::l,h=>by have h:=D9.1 h;have:=Fa h.2;simp only[val];omega
theorem Apd:∀{l:List Int},dg l=true->val l<pw l.length
 |[],_=>by simp[val,pw]
 |x::l,h=>by have h:=D9.1 h;have:=Apd h.2;simp only[val,Zf1,pw];omega
theorem Aid:∀{l:List Int}(i:Nat),dg l=true->dg (l.drop i)=true
 |[],i,_=>by simp[dg]
 |x::l,0,h=>h
 |x::l,i+1,h=>Aid (l:=l) i (D9.1 h).2
theorem Aht:∀{l:List Int}(i:Nat),dg l=true->dg (l.take i)=true
 |[],i,_=>by simp[dg]
 |x::l,0,h=>rfl
 |x::l,i+1,h=>by rw[List.take_succ_cons];exact D9.2 ⟨(D9.1 h).1,Aht i (D9.1 h).2⟩
def dgt(l:List Int)(i:Nat):Int:=l.getD i 0
theorem Tf{l:List Int}(h:dg l=true)(i:Nat) : 0<=dgt l i/\dgt l i<=9:=by
 induction l generalizing i with
 |nil=>simp[dgt]
 |cons x l ih =>have h:=D9.1 h;cases i with|zero=>simpa[dgt] using h.1|succ i=>simpa[dgt] using ih h.2 i
theorem M9(l:List Int)(i:Nat):val (l.drop i)=dgt l i+10*val (l.drop (i+1)):=by
 induction l generalizing i with
 |nil=>simp[dgt,val]
 |cons x l ih =>cases i with|zero=>simp[dgt,val]|succ i=>simpa[dgt] using ih i
theorem Adf{l:List Int}(h:dg l=true)(j:Nat):∃lo,0<=lo/\lo<pw j/\val l=lo+pw j*val (l.drop j):=by
 induction l generalizing j with
 |nil=>exact⟨0,Int.le_refl _,S0 j,by simp[val]⟩
 |cons x l ih =>have h:=D9.1 h;cases j with|zero=>exact⟨0,Int.le_refl _,S0 0,by simp[pw]⟩|succ j =>obtain⟨lo,h1,h2,h3⟩:=ih h.2 j;refine⟨x+10*lo,by omega,by simp only[pw];omega,?_⟩;simp only[val,List.drop_succ_cons,pw,h3];rw[Int.mul_add,Int.add_assoc,Int.mul_assoc]
theorem A3y{l:List Int}(h:dg l=true)(j:Nat):val (l.drop j)<=val l:=by obtain⟨lo,h1,h2,h3⟩:=Adf h j;have h4:=Fa (Aid j h);have h5 : 1*val (l.drop j)<=pw j*val (l.drop j):=Int.mul_le_mul_of_nonneg_right (by have:=S0 j;omega) h4;omega
theorem Bl1(l:List Int):∀(i:Nat),i<l.length->val (l.take (i+1))=val (l.take i)+pw i*dgt l i:=by
 induction l with
 |nil=>intro i h;simp at h
 |cons x l ih =>
  intro i h;cases i with
  |zero=>simp[val,dgt,pw]
  |succ i =>
   have:=ih i (by simpa using h);simp only[List.take_succ_cons,val,this,pw];have e:dgt (x::l) (i+1)=dgt l i:=by simp[dgt]
   rw[e,Int.mul_add,Int.add_assoc,Int.mul_assoc]
theorem Btu(l:List Int)(y:Int):∀(i:Nat),i<l.length->val (l.set i y)=val l+pw i*(y-dgt l i):=by
 induction l with
 |nil=>intro i h;simp at h
 |cons x l ih =>
  intro i h;cases i with
  |zero=>simp[val,dgt,pw];omega
  |succ i =>
   have:=ih i (by simpa using h);simp only[List.set_cons_succ,val,this,pw];have e:dgt (x::l) (i+1)=dgt l i:=by simp[dgt]
   rw[e,Int.mul_add,Int.add_assoc,Int.mul_assoc]
theorem Bvp{l:List Int}{y:Int}(hy : 0<=y/\y<=9):∀(i:Nat),dg l=true->dg (l.set i y)=true:=by
 induction l with
 |nil=>intro i _;rfl
 |cons x l ih =>intro i h;have h:=D9.1 h;cases i with|zero=>exact D9.2 ⟨hy,h.2⟩|succ i=>exact D9.2 ⟨h.1,ih i h.2⟩
theorem Btq(n:Nat):val (List.replicate n 0)=0:=by induction n with|zero=>rfl|succ n ih=>simp[List.replicate_succ,val,ih]
theorem Bv7(n:Nat):dg (List.replicate n 0)=true:=by induction n with|zero=>rfl|succ n ih=>rw[List.replicate_succ];exact D9.2 ⟨by omega,ih⟩
def F4(n:Nat):List Int:=if h:n=0 then [] else((n % 10:Nat):Int)::F4 (n / 10)
termination_by n
decreasing_by omega
theorem digs_zero:F4 0=[]:=by rw[F4];simp
theorem Fb{n:Nat}(h:¬n=0):F4 n=((n % 10:Nat):Int)::F4 (n / 10):=by rw[F4];simp[h]
theorem A0m(n:Nat):val (F4 n)=(n:Int):=by
 induction n using Nat.strongRecOn with
 |ind n ih =>
  by_cases h:n=0
  ·subst h;rw[digs_zero];rfl
  ·rw[Fb h,val,ih (n / 10) (by omega)];omega
theorem Awf(n:Nat):dg (F4 n)=true:=by
 induction n using Nat.strongRecOn with
 |ind n ih =>
  by_cases h:n=0
  ·subst h;rw[digs_zero];rfl
  ·rw[Fb h];exact D9.2 ⟨by omega,ih (n / 10) (by omega)⟩
theorem Aag:∀(k n:Nat),(n:Int)<pw k->(F4 n).length<=k
 |0,n,h=>by
  have:n=0:=by simp only[pw] at h;omega
  subst this;rw[digs_zero];exact Zn1 _
 |k+1,n,h=>by
  by_cases h0:n=0
  ·subst h0;rw[digs_zero];simp
  ·have:=Aag k (n / 10) (by simp only[pw] at h;omega);rw[Fb h0];simp only[Zf1];omega
theorem Bs0{n:Nat}(h:¬n=0):¬F4 n=[]:=by rw[Fb h];simp
def Io:List Int->List Int
 |[]=>[]
 |x::l=>match Io l with|[]=>if x=0 then [] else [x]|y::t=>x::y::t
theorem Ak3:∀{l:List Int},dg l=true->Io l=F4 (val l).toNat
 |[],_=>by simp only[Io,val];exact digs_zero.symm
 |x::l,h=>by
  have h:=D9.1 h;have ih:=Ak3 h.2;have hv:=Fa h.2;simp only[Io,ih,val];by_cases h0:val l=0
  ·rw[h0];have e:F4 (0:Int).toNat=[]:=digs_zero;rw[e];by_cases hx:x=0
   ·subst hx;rw[if_pos rfl];exact digs_zero.symm
   ·rw[if_neg hx,Fb (by omega),show(x+10*0).toNat / 10=0 by omega,digs_zero,show(((x+10*0).toNat % 10:Nat):Int)=x by omega]
  ·have hne:=Bs0 (n:=(val l).toNat) (by omega);rw[Fb (n:=(x+10*val l).toNat) (by omega),show(x+10*val l).toNat / 10=(val l).toNat by omega,show(((x+10*val l).toNat % 10:Nat):Int)=x by omega];cases hd:F4 (val l).toNat with|nil=>exact absurd hd hne|cons y t=>rfl
theorem Ai6:∀(l:List Int),Io (l++[0])=Io l
 |[]=>by simp[Io]
 |x::l=>by simp only[Zb2,Io,Ai6 l]
theorem Amg{y:Int}(hy:¬y=0):∀(l:List Int),Io (l++[y])=l++[y]
 |[]=>by simp[Io,hy]
 |x::l=>by simp only[Zb2,Io,Amg hy l];cases l<;>simp
def Ap8(m:Bool)(v:Int):Num:=⟨m&&decide (0<v),F4 v.toNat⟩
def Eg(z:Int):Num:=Ap8 (decide (z<0)) (z.natAbs:Int)
def nv(n:Num):Int:=if n.minus=true then -val n.d else val n.d
def okN(n:Num):Bool:=dg n.d&&decide (n.d.length<=1000)
theorem Bl4{n:Num}(h:okN n=true):dg n.d=true/\n.d.length<=1000:=by simpa[okN] using h
theorem Bwl(z:Int):nv (Eg z)=z:=by
 simp only[nv,Eg,Ap8,A0m,Int.toNat_natCast];by_cases h:z<0
 ·rw[Ze1 h,Ze1 (show(0:Int)<(z.natAbs:Int) by omega)];simp only[Bool.and_true,if_pos];omega
 ·rw[Zd1 h];simp only[Bool.false_and,Zj2,if_false];omega
theorem okZ{z:Int}(h : -(pw 1000)<z/\z<pw 1000):okN (Eg z)=true:=by have h1:=Aag 1000 z.natAbs (by omega);simp only[okN,Eg,Ap8,Int.toNat_natCast,Awf,Bool.true_and];exact Ze1 h1
theorem Awk(m:Bool){v:Int}(h : 0<=v):Ap8 m v=Eg (if m=true then -v else v):=by
 cases m
 ·simp only[Zj2,if_false,Eg];rw[Zd1 (by omega)];simp only[Ap8,Bool.false_and];congr 2;omega
 ·simp only[if_true,Eg];by_cases h0:v=0
  ·subst h0;rfl
  ·rw[Ze1 (by omega),show((-v).natAbs:Int)=v by omega]
theorem Bwz(l:List Int)(j:Nat):val l=val (l.take j)+pw j*val (l.drop j):=by
 induction l generalizing j with
 |nil=>simp[val]
 |cons x l ih =>cases j with|zero=>simp[pw,val]|succ j =>simp only[List.take_succ_cons,List.drop_succ_cons,val,pw];have:=ih j;rw[Int.mul_assoc];omega
theorem Bvx(l:List Int)(i n:Nat):val ((l.drop i).take (n+1))=dgt l i+10*val ((l.drop (i+1)).take n):=by
 induction l generalizing i with
 |nil=>simp[dgt,val]
 |cons x l ih =>cases i with|zero=>simp[dgt,val]|succ i=>simpa[dgt] using ih i
theorem ten{x:Int}(h : 0<=x):Int.tmod x 10=x % 10/\Int.tdiv x 10=x / 10:=⟨Int.tmod_eq_emod_of_nonneg h,Int.tdiv_eq_ediv_of_nonneg h⟩
abbrev hexL:Str:=[48,49,50,51,52,53,54,55,56,57,97,98,99,100,101,102]
def Bg3(n:Nat):Str:=[hexL.getD (n / 16) 0,hexL.getD (n % 16) 0]
def A3w(s:Str):Str:=s.flatMap λb=>Bg3 b.toNat
def Byb(n:Nat):Bool:=inb (Fw .u8 (n:Int) 4) 16&&inb (Hy .u8 (n:Int) 15) 16&&decide ([(UInt8.ofNat ((bat hexL (Fw .u8 (n:Int) 4)):Int).toNat),(UInt8.ofNat ((bat hexL (Hy .u8 (n:Int) 15)):Int).toNat)]=Bg3 n)
theorem Bw2:((List.range 256).all Byb)=true:=by kernel_rfl
theorem hx(b:UInt8):inb (Fw .u8 (b.toNat:Int) 4) 16=true/\inb (Hy .u8 (b.toNat:Int) 15) 16=true/\[(UInt8.ofNat ((bat hexL (Fw .u8 (b.toNat:Int) 4)):Int).toNat),(UInt8.ofNat ((bat hexL (Hy .u8 (b.toNat:Int) 15)):Int).toNat)]=Bg3 b.toNat:=by have h:=Zg2.1 Bw2 b.toNat (List.mem_range.2 b.toNat_lt);simp only[Byb,Zb1,Zg1] at h;exact⟨h.1.1,h.1.2,h.2⟩
theorem Bor(s:Str):(A3w s).length=2*s.length:=by induction s with|nil=>rfl|cons b l ih=>simp only[A3w,List.flatMap_cons,Bg3,Zh1,Zf1,Zi1] at ih ⊢;omega
def Atu:Sig:=⟨26,[(0,.str),(3,.sl .byte true),(6,.int .i64),(7,.int .i64)],[],[],0,0,0,[],[]⟩
abbrev Aa6:=Str×List UInt8×Int×Int
def Ad7{R:Type}(rec:Aa6->Option R)(kx:Ex->Aa6->Option R)(v:Aa6):Option R:=match v with
 |(v,v1,v2,v3) =>
 cond (decide (v3<v2)) (
  chk (inb v3 v.length) (
  chk (inb (Fw .u8 (bat v v3) 4) 16) (
   chk (inb v3 v.length) (
   chk (inb (Hy .u8 (bat v v3) 15) 16) (
    chk (decide (v1.length+2<=Ao)) (
    rec (v,(v1++[(UInt8.ofNat ((bat [48,49,50,51,52,53,54,55,56,57,97,98,99,100,101,102] (Fw .u8 (bat v v3) 4)):Int).toNat),(UInt8.ofNat ((bat [48,49,50,51,52,53,54,55,56,57,97,98,99,100,101,102] (Hy .u8 (bat v v3) 15)):Int).toNat)]),v2,(wr .i64 (v3+1))))))))) (
  kx (.exit 0) (v,v1,v2,v3))
def Bcf(R:Type)(k:Nat):Px R:=pxO [] [] [(3,Am k Atu (Ad7))] []
def Aqy(k:Nat)(x:HV [.str]):Option (HV [.str]):=match x with
 |s =>
 Al (λrec=>Ad7 rec (λe vz=>match vz with|(_,v5,_,_)=>match e with
  |.exit 0 =>
  some v5
  |_=>none)) k (s,[],(s.length:Int),0)
theorem Bld(k:Nat):FO 202 [.str] [.str] (Aqy k):=fR (px:=Bcf _ k) (n:=1) Tryz.func202 rfl (λcx H=>by have h0:Lv cx (Bcf (HV [.str]) k):=lv H Ae Ab Aa;have hlvhex_0:=lO H h0 (b:=lp Tryz.f202 0) (k:=k) (n:=0) (s:=Atu) (step:=Ad7) (λ_ _ _ (_,_,_,_)=>by kernel_rfl) Ah;exact⟨h0,(A5 Ah hlvhex_0)⟩) λ_=>by kernel_rfl
def Bjy(s:Str):Option Str:=cond (decide (s.length<=3000)) (some (A3w s)) none
def A48:FT [.str] [.str]:=λx=>Bjy x
theorem Aqr{R:Type}{kx:Ex->Aa6->Option R}{s:Str}{b:Str->Option R}(hs:s.length<=3000)(h2:∀out j,kx (.exit 0) (s,out,(s.length:Int),j)=b out):∀(k i:Nat) (out:Str),i<=s.length->s.length-i<k->out.length<=2*i->Al (λrec=>Ad7 rec kx) k (s,out,(s.length:Int),(i:Int))=b (out++A3w (s.drop i))
 |0,i,_,_,h,_=>absurd h (Zm1 _)
 |k+1,i,out,hi,h,ho=>by
  rw[Bb];by_cases hl:i<s.length
  ·obtain⟨h3,h4,h5⟩:=hx (s[i]'hl);have hn:ln s.length:=by simp only[ln];omega
   have ih:=Aqr hs h2 k (i+1) (out++Bg3 (s[i]'hl).toNat) (by omega) (by omega) (by simp only[Zh1,Bg3,Zf1,Zi1];omega);simp only[Ad7,Au hl hn,Ct hl,Aw hl,h3,h4,h5,ih,h2];rw[Ze1 (show(i:Int)<(s.length:Int) by omega),Ze1 (show out.length+2<=Ao by simp only[Ao];omega),Ak hl];simp only[chk,Af,A3w,List.flatMap_cons,Zj1]
  ·simp only[Ad7,h2];rw[Zd1 (show ¬(i:Int)<(s.length:Int) by omega),Zk1 (by omega)];simp[A3w]
theorem Bt4:FO 202 [.str] [.str] A48 :=.fin 0 Bld λs r hb hx=>⟨3001,by
 simp only[A48,Bjy] at hx;by_cases hs:s.length<=3000
 ·rw[Ze1 hs] at hx;simp only[Aqy];exact(Aqr (b:=some) hs (λ_ _=>rfl) 3001 0 [] (Nat.zero_le _) (by omega) (by simp)).trans hx
 ·rw[Zd1 hs] at hx;cases hx⟩
def dch(d:Int):UInt8:=UInt8.ofNat (48+d).toNat
def txt(l:List Int):Str:=(l.map dch).reverse
def Bvf(n:Int):Str:=let t:=if n=0 then [48] else txt (F4 n.natAbs)
 if n<0 then 45::t else t
theorem A3z(d:Int)(l:List Int):txt (d::l)=txt l++[dch d]:=by simp[txt]
theorem Bu7{d:Int}(h : 0<=d/\d<=9):UInt8.ofNat ((wr .u8 (wr .u64 (48+d))):Int).toNat=dch d:=by
 have e:wr .u8 (wr .u64 (48+d))=48+d:=by rw[Iu (by omega)];simp only[wr,IntKind.wrap,IntKind.bits,IntKind.signed];simp;omega
 rw[e];rfl
theorem Bsy(l:List Int):(txt l).length=l.length:=by simp[txt]
theorem Bn6(n:Int):txt (F4 (n.natAbs / 10))++[dch ((n.natAbs % 10:Nat):Int)]=if n=0 then [48] else txt (F4 n.natAbs):=by
 by_cases h0:n=0
 ·subst h0;rw[if_pos rfl,show(0:Int).natAbs / 10=0 from rfl,digs_zero];rfl
 ·rw[if_neg h0,Fb (n:=n.natAbs) (by omega),A3z]
def Abp:Sig:=⟨32,[(0,.int .i64),(3,.sl .byte true),(4,.int .u64)],[],[],0,0,0,[],[]⟩
abbrev La:=Int×List UInt8×Int
def Jk{R:Type}(rec:La->Option R)(kx:Ex->La->Option R)(v:La):Option R:=match v with
 |(v,v1,v2) =>
 cond (decide (0<v2)) (
  chk (decide (1+v1.length<=Ao)) (
  rec (v,([(UInt8.ofNat ((wr .u8 (wr .u64 (48+(Int.tmod v2 10)))):Int).toNat)]++v1),(wr .u64 (Int.tdiv v2 10))))) (
  kx (.exit 0) (v,v1,v2))
def Aiz(R:Type)(k:Nat):Px R:=pxO [(241,cA Av0)] [] [(3,Am k Abp (Jk))] []
def Ab9(k:Nat)(x:HV [.int .i64]):Option (HV [.str]):=match x with
 |n =>
 Al (λrec=>Jk rec (λe vz=>match vz with|(v3,v4,_)=>match e with
  |.exit 0 =>
  cond (decide (v3<0)) (
   chk (decide ([45].length+v4.length<=Gc)) (
   some ([45]++v4))) (
   some v4)
  |_=>none)) k (n,[(UInt8.ofNat ((wr .u8 (wr .u64 (48+(Int.tmod (Cy n) 10)))):Int).toNat)],(wr .u64 (Int.tdiv (Cy n) 10)))
theorem A4k(k:Nat):FO 200 [.int .i64] [.str] (Ab9 k):=fR (px:=Aiz _ k) (n:=1) Tryz.func200 rfl (λcx H=>by have h0:Lv cx (Aiz (HV [.str]) k):=lv H (c1 H A3u Ae) Ab Aa;have hlvdigits_0:=lO H h0 (b:=lp Tryz.f200 0) (k:=k) (n:=0) (s:=Abp) (step:=Jk) (λ_ _ _ (_,_,_)=>by kernel_rfl) Ah;exact⟨h0,(A5 Ah hlvdigits_0)⟩) λ_=>by kernel_rfl
abbrev Aya(n:Int):Str:=Bvf n
def Adg:FT [.int .i64] [.str]:=λx=>some (Aya x)
theorem Byl{n:Int}(h:inI n):Cy n=(n.natAbs:Int):=by rw[Awj h];simp only[Mk];split<;>omega
theorem Zt{R:Type}{kx:Ex->La->Option R}{n:Int}{b:Str->Option R}(h2:∀out x,kx (.exit 0) (n,out,x)=b out):∀(k a:Nat) (out:Str),(a:Int)<=18446744073709551615->(F4 a).length<k->out.length+(F4 a).length<=1000->Al (λrec=>Jk rec kx) k (n,out,(a:Int))=b (txt (F4 a)++out)
 |0,a,out,_,h,_=>absurd h (Zm1 _)
 |k+1,a,out,ha,h,ho=>by
  rw[Bb];by_cases h0:a=0
  ·subst h0;simp only[Jk,h2];rw[Zd1 (by omega),digs_zero];rfl
  ·have hd:=Fb h0;rw[hd,Zf1] at h ho;have e1:Int.tmod (a:Int) 10=((a % 10:Nat):Int):=rfl;have e2:wr .u64 (Int.tdiv (a:Int) 10)=((a / 10:Nat):Int):=by have:Int.tdiv (a:Int) 10=((a / 10:Nat):Int):=rfl;rw[this,Iu (by omega)]
   have ih:=Zt h2 k (a / 10) ([dch ((a % 10:Nat):Int)]++out) (by omega) (by omega) (by simp only[Zh1,Zf1,Zi1];omega);simp only[Jk,e1,e2,Bu7 (show 0<=((a % 10:Nat):Int)/\((a % 10:Nat):Int)<=9 by omega),ih];rw[Ze1 (show(0:Int)<(a:Int) by omega),Ze1 (show 1+out.length<=Ao by simp only[Ao];omega),hd,A3z];simp[chk]
theorem A42:FO 200 [.int .i64] [.str] Adg :=.fin 0 A4k λn r hb hx=>⟨30,by
 have hb:=Bu hb;simp only[Adg,Za1] at hx;subst hx;have hl:(F4 (n.natAbs / 10)).length<=20:=Aag 20 _ (by
  simp only[inI] at hb;have:pw 20=100000000000000000000:=by kernel_rfl
  omega)
 have e1:Int.tmod (n.natAbs:Int) 10=((n.natAbs % 10:Nat):Int):=rfl;have e2:wr .u64 (Int.tdiv (n.natAbs:Int) 10)=((n.natAbs / 10:Nat):Int):=by have:Int.tdiv (n.natAbs:Int) 10=((n.natAbs / 10:Nat):Int):=rfl;simp only[inI] at hb;rw[this,Iu (by omega)]
 simp only[Ab9,Byl hb,e1,e2,Bu7 (show 0<=((n.natAbs % 10:Nat):Int)/\((n.natAbs % 10:Nat):Int)<=9 by omega)];refine(Zt (b:=λout=>cond (decide (n<0)) (chk (decide ([45].length+out.length<=Gc)) (some ([45]++out))) (some out)) (λ_ _=>rfl) 30 (n.natAbs / 10) [dch ((n.natAbs % 10:Nat):Int)] (by simp only[inI] at hb;omega) (by omega) (by simp only[Zf1,Zi1];omega)).trans ?_;have et:=Bn6 n;have hlen:(txt (F4 (n.natAbs / 10))++[dch ((n.natAbs % 10:Nat):Int)]).length<=21:=by rw[Zh1,Bsy];simp only[Zf1,Zi1];omega
 have hc:decide ([45].length+(txt (F4 (n.natAbs / 10))++[dch ((n.natAbs % 10:Nat):Int)]).length<=Gc)=true:=Ze1 (by simp only[Zf1,Zi1,Gc];omega);simp only[hc,chk,Af];rw[et];simp only[Aya,Bvf];by_cases h:n<0
 ·rw[Ze1 h,if_pos h];rfl
 ·rw[Zd1 h,if_neg h];rfl⟩
def quo:Str->Str
 |[]=>[]
 |b::l=>if b=39 then 39::39::quo l else b::quo l
theorem Bbu(s:Str):(quo s).length<=2*s.length:=by induction s with|nil=>simp[quo]|cons b l ih =>simp only[quo];split<;>simp only[Zf1]<;>omega
theorem Atd:∀s:Str,(Lib.index s [39] = -1/\quo s=s)\/∃i:Nat,Lib.index s [39]=(i:Int)/\i<s.length/\quo s=s.take i++[39,39]++quo (s.drop (i+1))
 |[] =>.inl ⟨rfl,rfl⟩
 |b::l=>by
  by_cases h:b=39
  ·subst h;refine .inr ⟨0,rfl,by simp,by simp[quo]⟩
  ·have hp:List.isPrefixOf [39] (b::l)=false:=by simp only[List.isPrefixOf,Bool.and_true];exact beq_eq_false_iff_ne.2 (Ne.symm h)
   rcases Atd l with ⟨h1,h2⟩|⟨i,h1,h2,h3⟩
   ·left;refine⟨?_,by simp only[quo,if_neg h,h2]⟩;unfold Lib.index;rw[hp,h1];rfl
   ·right;refine⟨i+1,?_,by simpa using h2,?_⟩
    ·unfold Lib.index;rw[hp,h1];have:((i:Int) == -1)=false:=beq_eq_false_iff_ne.2 (by omega);simp[this]
    ·simp only[quo,if_neg h,h3,List.take_succ_cons,List.drop_succ_cons,Zb2]
theorem At5:∀(f:Nat) (s:Str),s.length<f->Lib.replaceK [39] [39,39] (Lib.countFrom [39] f s) s=quo s
 |0,s,h=>absurd h (Zm1 _)
 |f+1,s,h=>by
  rcases Atd s with ⟨h1,h2⟩|⟨i,h1,h2,h3⟩
  ·simp only[Lib.countFrom,h1];exact h2.symm
  ·have hn:((i:Int) == -1)=false:=beq_eq_false_iff_ne.2 (by omega);have ih:=At5 f (s.drop (i+1)) (by rw[Za2];omega);have e:Lib.countFrom [39] (f+1) s=Lib.countFrom [39] f (s.drop (i+1))+1:=by simp only[Lib.countFrom,h1,hn,Int.toNat_natCast,Zf1,Zi1];simp[Nat.add_comm]
   rw[e,Lib.replaceK_hit _ _ _ _ i h1];simp only[Zf1,Zi1,Nat.zero_add];rw[ih,h3]
theorem Bth(s:Str):Lib.replaceAll s [39] [39,39]=quo s:=by
 have e:Lib.replaceNum s [39] (-1)=Lib.countFrom [39] (s.length+1) s:=by unfold Lib.replaceNum;rw[if_pos (.inl (by decide))];rfl
 have hc:=At5 (s.length+1) s (by omega);rw[<-e] at hc;exact hc
theorem A76{s:Str}(h:s.length<=3000):Anp s [39] [39,39]=some (quo s):=by have h1:=Lib.countB_mul_le ⟨#[39]⟩ (by decide) s.length ⟨s.toArray⟩ (Zn1 _);have h2:Lib.count s [39]*1<=s.length:=h1;have h3:=Bbu s;simp only[Anp,Bth];rw[Ze1 (show s.length<4294967281 by omega),Ze1 (show 1<=([39]:Str).length by decide),Ze1 (show s.length+Lib.count s [39]*([39,39]:Str).length<=140737488355328 by simp only[Zf1,Zi1];omega),Ze1 (show(quo s).length<=maxLen by simp only[maxLen];omega)];rfl
def Ber(R:Type):Px R:=pxO [(167,cA Aba),(200,cA Adg),(201,cA Aj5),(202,cA A48)] [] [] []
def Afi(x:HV [.sv .val]):Option (HV [.str]):=match x with
 |v =>
 cond (!(Bo v)) (
  some []) (
  cond (decide (v.kind=2)) (
  chk (inb v.n 2) (
   some (at' .str [[70,65,76,83,69],[84,82,85,69]] v.n))) (
  cond (decide (v.kind=3)) (
   some (Aya v.n)) (
   cond (decide (v.kind=4)) (
   (Anp v.s [39] [39,39]).bind λx =>
    chk (decide ([39].length+x.length<=Gc)) (
    chk (decide (([39]++x).length+[39].length<=Gc)) (
     some (([39]++x)++[39])))) (
   cond (decide (v.kind=5)) (
    (Bjy v.s).bind λx1 =>
    chk (decide ([120,39].length+x1.length<=Gc)) (
     chk (decide (([120,39]++x1).length+[39].length<=Gc)) (
     some (([120,39]++x1)++[39])))) (
    some [78,85,76,76])))))
theorem A9t:FO 128 [.sv .val] [.str] (Afi):=fR (px:=Ber _) (n:=0) Tryz.func128 rfl (λ_ H=>⟨lv H (c1 H Ad8 (c1 H A42 (c1 H Bg7 (c1 H Bt4 Ae)))) Ab Aa,Ah⟩) λ_=>by kernel_rfl
def Km(v:Val):Str:=cond (Bo v) (if v.kind=2 then(if v.n=0 then [70,65,76,83,69] else [84,82,85,69]) else if v.kind=3 then Bvf v.n else if v.kind=4 then 39::(quo v.s++[39]) else if v.kind=5 then 120::39::(A3w v.s++[39]) else [78,85,76,76]) []
def Aaa:FT [.sv .val] [.str]:=λx=>some (Km x)
theorem Aqv{v:Val}(h:Bo v=true)(hk:v.kind=4\/v.kind=5):v.s.length<=1000:=by
 rcases hk with h4|h5
 ·simp[Bo,h4] at h;omega
 ·simp[Bo,h5] at h;omega
theorem A9c{v:Val}(h:Bo v=true)(hk:v.kind=2):v.n=0\/v.n=1:=by
 by_cases h0:v.n=0
 ·exact .inl h0
 ·by_cases h1:v.n=1
  ·exact .inr h1
  ·simp[Bo,hk,h0,h1] at h
theorem Arj:FO 128 [.sv .val] [.str] Aaa :=.fin0 A9t λv r _ hx=>by
 simp only[Aaa,Za1] at hx;subst hx;simp only[Afi,Km];cases hr:Bo v with
 |false=>rfl
 |true =>
  simp only[Zt1,Ag,Af];by_cases k2:v.kind=2
  ·rw[Ze1 k2,if_pos k2];rcases A9c hr k2 with h|h<;>rw[h]<;>rfl
  ·rw[Zd1 k2,if_neg k2];by_cases k3:v.kind=3
   ·rw[Ze1 k3,if_pos k3];rfl
   ·rw[Zd1 k3,if_neg k3];by_cases k4:v.kind=4
    ·have hl:=Aqv hr (.inl k4);have hq:=Bbu v.s;rw[Ze1 k4,if_pos k4];simp only[Af,Ag,A76 (show v.s.length<=3000 by omega),Zc1];refine(Amb (Ze1 ?_)).trans ((Amb (Ze1 ?_)).trans rfl)
     ·simp only[Zf1,Zi1,Gc];omega
     ·simp only[Zh1,Zf1,Zi1,Gc];omega
    ·rw[Zd1 k4,if_neg k4];by_cases k5:v.kind=5
     ·have hl:=Aqv hr (.inr k5);have hh:=Bor v.s;have hv:Bjy v.s=some (A3w v.s):=by simp only[Bjy];rw[Ze1 (by omega)];rfl
      rw[Ze1 k5,if_pos k5];simp only[Af,Ag,hv,Zc1];refine(Amb (Ze1 ?_)).trans ((Amb (Ze1 ?_)).trans rfl)
      ·simp only[Zf1,Zi1,Gc];omega
      ·simp only[Zh1,Zf1,Zi1,Gc];omega
     ·rw[Zd1 k5,if_neg k5];rfl
def Boy(R:Type):Px R:=pxO [] [] [] []
def Xp(x:HV [.int .i64]):Option (HV [.int .i64]):=match x with
 |kind =>
 let j1:=λ(p1:Bool) =>
  cond (p1) (
  some 0) (
  let j:=λ(p5:Bool) =>
   cond (p5) (
   some 1) (
   cond (!decide ((P3 signsL kind)=[])) (
    some 2) (
    some (-1)))
  cond (decide (kind=3)) (
   j true) (
   cond (decide (kind=15)) (
   j true) (
   j (decide (kind=16)))))
 cond (decide (kind=1)) (
  j1 true) (
  j1 (decide (kind=2)))
theorem Bev:FO 125 [.int .i64] [.int .i64] (Xp):=fR (px:=Boy _) (n:=0) Tryz.func125 rfl (λ_ H=>⟨lv H Ae Ab Aa,Ah⟩) λ_=>by kernel_rfl
def parts(kind:Int):Int :=
 let j1:=λ(p1:Bool) =>
  cond (p1) (
  0) (
  let j:=λ(p5:Bool) =>
   cond (p5) (
   1) (
   cond (!decide ((P3 signsL kind)=[])) (
    2) (
    (-1)))
  cond (decide (kind=3)) (
   j true) (
   cond (decide (kind=15)) (
   j true) (
   j (decide (kind=16)))))
 cond (decide (kind=1)) (
  j1 true) (
  j1 (decide (kind=2)))
theorem Bd8(x:HV [.int .i64]):Xp x=some (parts x):=by
 first
  |exact rfl
  |simp only[Xp,parts,A0]
def Ayf:FT [.int .i64] [.int .i64]:=λx=>some (parts x)
theorem A3n:FO 125 [.int .i64] [.int .i64] Ayf :=.fin0 Bev λx _ _ hx=>(Bd8 x).trans hx
mutual
def A1:Xpr->Nat
 |.mk _ _ _ l=>1+esizes l
def esizes:List Xpr->Nat
 |[]=>0
 |x::l=>1+A1 x+esizes l
end
theorem Bg:∀{l:List Xpr}{x:Xpr},x∈l->A1 x<esizes l
 |y::l,x,h=>by
  simp only[List.mem_cons] at h;simp only[esizes];rcases h with rfl|h
  ·omega
  ·have:=Bg h;omega
theorem Ej:∀(l:List Xpr),l.length<=esizes l
 |[]=>by simp
 |x::l=>by have:=Ej l;simp only[esizes,Zf1];omega
theorem B5(e:Xpr) : 0<A1 e:=by cases e;simp only[A1];omega
theorem Bv(e:Xpr):A1 e=1+esizes e.l:=by cases e;simp only[A1,Xpr.l]
theorem Aao{e:Xpr}(h:BdExpr e):ln e.l.length/\∀x,x∈e.l->BdExpr x:=by obtain⟨_,_,_,_,_,_,_,h4,h5⟩:=h;exact⟨h4,h5⟩
def Afu:Sig:=⟨19,[(0,.sl .expr false),(4,.int .i64),(7,.int .i64),(8,.int .i64)],[(1,.fn 227 [.ptr 1 0])],[(1,.cells [.int .i64])],80,80,400,[],[]⟩
abbrev Pz:=List Xpr×Int×Int×Int×Int
def My{R:Type}(rf:FT [.sv .expr,.int .i64] [.bool])(rec:Pz->Option R)(kx:Ex->Pz->Option R)(v:Pz):Option R:=match v with
 |(v,v1,v2,v3,w) =>
 cond (decide (v3<v2)) (
  chk (inb v3 v.length) (
  (rf ((at' .expr v v3),(wr .i64 (w-1)))).bind λx =>
   cond (!x) (
   kx .ret (v,v3,v2,v3,w)) (
   rec (v,v1,v2,(wr .i64 (v3+1)),w)))) (
  kx (.exit 0) (v,v1,v2,v3,w))
def Qp(R:Type)(_k:Nat)(rf:FT [.sv .expr,.int .i64] [.bool]):Px R:=pxO [(168,cA rf)] [] [] []
noncomputable def Xe(R:Type)(k:Nat)(rf:FT [.sv .expr,.int .i64] [.bool]):Px R:=pxO [(227,A2 120 600 (Qp R k rf) Tryz.f227)] [] [(2,Am k Afu (My rf))] []
noncomputable def Ag7(R:Type)(k:Nat)(rf:FT [.sv .expr,.int .i64] [.bool]):Px R:=pxO [(237,A2 80 400 (Xe R k rf) Tryz.f237)] [] [] []
noncomputable def Au3(R:Type)(k:Nat)(rf:FT [.sv .expr,.int .i64] [.bool]):Px R:=pxO [(226,cA Apt),(113,cA O9),(193,A2 40 200 (Ag7 R k rf) Tryz.f193)] [(125,qA Ayf)] [] []
def Gx(k:Nat)(rf:FT [.sv .expr,.int .i64] [.bool])(x:HV [.sv .expr,.int .i64]):Option (HV [.bool]):=match x with
 |(e,most) =>
 cond (decide (most=0)) (
  some false) (
  cond (!decide ((e.l.length:Int)=(parts e.kind))) (
  some false) (
  let j2:=λ(_:Unit) =>
   let j1:=λ(_:Unit) =>
   Al (λrec=>My rf rec (λe vz=>match vz with|(_,v5,_,_,_)=>match e with
    |.ret =>
    some (!(decide (0<=v5)))
    |.exit 0 =>
    some true
    |_=>none)) k (e.l,0,(e.l.length:Int),0,most)
   let j:=λ(p5:Bool) =>
   cond (p5) (
    some false) (
    cond (!decide (e.kind=2)) (
    cond (!decide (e.name=[])) (
     some false) (
     j1 ())) (
    j1 ()))
   cond (decide (e.kind=2)) (
   j (!(Df e.name))) (
   j false)
  cond (decide (e.kind=1)) (
   cond (!decide ((Ei e.v)=0)) (
   some false) (
   cond (decide (e.v.kind=3)) (
    cond (decide (e.v.n<0)) (
    some false) (
    j2 ())) (
    j2 ()))) (
   cond (!decide (e.v=(Val.mk 0 0 []))) (
   some false) (
   j2 ()))))
theorem A75(k:Nat)(rf:FT [.sv .expr,.int .i64] [.bool])(hrf:FO 168 [.sv .expr,.int .i64] [.bool] rf):FO 168 [.sv .expr,.int .i64] [.bool] (Gx k rf):=fR (px:=Au3 _ k rf) (n:=0) Tryz.func168 rfl (λcx H=>by have h3:Lv cx (Qp (HV [.bool]) k rf):=lv H (c1 H hrf Ae) Ab Aa;have h2:Lv cx (Xe (HV [.bool]) k rf):=lv H (Az (cR H h3 Tryz.func227 rfl (n:=0) (Ah)) Ae) Ab Aa;have hleright_0:=lO H h2 (b:=lp Tryz.f237 0) (k:=k) (n:=0) (s:=Afu) (step:=My rf) (λ_ _ _ (_,_,_,_,_)=>by kernel_rfl) Ah;have h1:Lv cx (Ag7 (HV [.bool]) k rf):=lv H (Az (cR H h2 Tryz.func237 rfl (n:=1) ((A5 Ah hleright_0))) Ae) Ab Aa;have h0:Lv cx (Au3 (HV [.bool]) k rf):=lv H (c1 H Asd (c1 H Tg (Az (cR H h1 Tryz.func193 rfl (n:=0) (Ah)) Ae))) (q1 H A3n Ab) Aa;exact⟨h0,Ah⟩) λ(_,_)=>by kernel_rfl
def eok(k:Int)(v:Val)(nm:Str):Bool:=cond (decide (k=1)) (decide (Ei v=0) && !(decide (v.kind=3)&&decide (v.n<0))) (decide (v=⟨0,0,[]⟩))&&cond (decide (k=2)) (Df nm) (decide (nm=[]))
mutual
def A8:Xpr->Int->Bool
 |.mk k v nm l,m => !decide (m=0)&&decide ((l.length:Int)=parts k)&&eok k v nm&&erights l (wr .i64 (m-1))
def erights:List Xpr->Int->Bool
 |[],_=>true
 |x::l,m=>A8 x m&&erights l m
end
def Ti:FT [.sv .expr,.int .i64] [.bool]:=λx=>some (A8 x.1 x.2)
theorem Ag3{R:Type}{rf:FT [.sv .expr,.int .i64] [.bool]}{kx:Ex->Pz->Option R}{l:List Xpr}{m:Int}{a b:Option R}(hn:ln l.length)(hrf:∀x,x∈l->rf (x,wr .i64 (m-1))=some (A8 x (wr .i64 (m-1))))(h1:∀(j:Nat),kx .ret (l,(j:Int),(l.length:Int),(j:Int),m)=a)(h2:∀q j,kx (.exit 0) (l,q,(l.length:Int),j,m)=b):∀(k i:Nat) q,i<=l.length->l.length-i<k->Al (λrec=>My rf rec kx) k (l,q,(l.length:Int),(i:Int),m)=cond (erights (l.drop i) (wr .i64 (m-1))) b a
 |0,i,q,_,h=>by omega
 |k+1,i,q,hi,h=>by
  rw[Bb];by_cases hl:i<l.length
  ·have ih:=Ag3 hn hrf h1 h2 k (i+1) q (by omega) (by omega);simp only[My,Au hl hn,ih,h1,Ak hl,As (c :=.expr) hl,Aw hl,chk,Af,Bool.cond_decide,erights,hrf _ (List.getElem_mem hl),Zc1];rw[if_pos (by omega)];cases A8 l[i] (wr .i64 (m-1))<;>rfl
  ·simp only[My,h2,Bool.cond_decide];rw[if_neg (by omega),Zk1 (by omega)];rfl
theorem Mf(e:Xpr)(m:Int):A8 e m=(!decide (m=0)&&decide ((e.l.length:Int)=parts e.kind)&&eok e.kind e.v e.name&&erights e.l (wr .i64 (m-1))):=by cases e;simp only[A8];rfl
theorem Aja(k:Nat):∀(n:Nat) (e:Xpr) (m:Int),BdExpr e->A1 e<=n->A1 e<=k->Al (Gx k) n (e,m)=some (A8 e m)
 |0,e,m,_,h,_=>by have:=B5 e;omega
 |n+1,e,m,hb,h,hk=>by
  obtain⟨hb4,hb5⟩:=Aao hb;rw[Bv] at h hk;have hl:=Ej e.l;have hrf:∀x,x∈e.l->∀m,Al (Gx k) n (x,m)=some (A8 x m):=λx hx m=>Aja k n x m (hb5 x hx) (by have:=Bg hx;omega) (by have:=Bg hx;omega);have hloop:=Ag3 (R:=Bool) (rf:=Al (Gx k) n) (l:=e.l) (m:=m) (a:=some false) (b:=some true) (kx:=λe v=>match v with
   |(_,v5,_,_,_)=>match e with
    |.ret=>some (!(decide (0<=v5)))
    |.exit 0=>some true
    |_=>none) hb4 (λx hx=>hrf x hx _) (λj=>by simp) (λ_ _=>rfl) k 0 0 (Nat.zero_le _) (by omega)
  have e0:((0:Nat):Int)=0:=rfl;rw[e0] at hloop;rw[Bb,Mf];simp only[Gx] at hloop ⊢;rw[hloop];simp only[Zq1,eok];by_cases hm:m=0
  ·simp[hm]
  ·rw[Zd1 hm];simp only[Ag,Zs1,Bool.true_and];by_cases hp:(e.l.length:Int)=parts e.kind
   ·rw[Ze1 hp];by_cases h1:e.kind=1
    ·have h2:¬e.kind=2:=by omega
     rw[Ze1 h1,Zd1 h2];simp only[Af,Ag,Zs1,Zt1,Bool.true_and];cases decide (Ei e.v=0)<;>cases decide (e.v.kind=3)<;>cases decide (e.v.n<0)<;>cases decide (e.name=[])<;>cases erights e.l (wr .i64 (m-1))<;>rfl
    ·rw[Zd1 h1];simp only[Ag,Zt1,Bool.true_and];cases decide (e.v=Val.mk 0 0 [])<;>cases decide (e.kind=2)<;>cases decide (e.name=[])<;>cases Df e.name<;>cases erights e.l (wr .i64 (m-1))<;>rfl
   ·rw[Zd1 hp];rfl
theorem Wm:FO 168 [.sv .expr,.int .i64] [.bool] Ti:=by refine .fin (ι:=Nat) 0 (F:=λn=>Al (Gx n) n) (λn=>FnOk.rec' (Sx.enters_of Tryz.func168 rfl rfl) (λrf hrf=>A75 n rf hrf) n) λ(e,m) r hb hx=>⟨A1 e,?_⟩;exact(Aja (A1 e) (A1 e) e m hb.1 (Zn1 _) (Zn1 _)).trans hx
def Bkv(R:Type):Px R:=pxO [(168,cA Ti)] [] [] []
def Xu(x:HV [.sv .expr]):Option (HV [.int .i64]):=match x with
 |e =>
 cond (!(A8 e 30)) (
  some 2) (
  some 0)
theorem Bfw:FO 104 [.sv .expr] [.int .i64] (Xu):=fR (px:=Bkv _) (n:=0) Tryz.func104 rfl (λ_ H=>⟨lv H (c1 H Wm Ae) Ab Aa,Ah⟩) λ_=>by kernel_rfl
def De(e:Xpr):Int :=
 cond (!(A8 e 30)) (
  2) (
  0)
theorem Bf1(x:HV [.sv .expr]):Xu x=some (De x):=by
 first
  |exact rfl
  |simp only[Xu,De,A0]
def Av1:FT [.sv .expr] [.int .i64]:=λx=>some (De x)
theorem Azm:FO 104 [.sv .expr] [.int .i64] Av1 :=.fin0 Bfw λx _ _ hx=>(Bf1 x).trans hx
def Ajd:Sig:=⟨41,[(1,.int .i64),(5,.int .i64),(6,.int .i64)],[(2,.ptr 0 0)],[(0,.one (.sv .expr))],1,0,0,[],[]⟩
abbrev Uw:=Int×Int×Int×Xpr
def V1{R:Type}(rf:FT [.sv .expr,.int .i64] [.int .i64])(rec:Uw->Option R)(kx:Ex->Uw->Option R)(v:Uw):Option R:=match v with
 |(v,v1,v2,w) =>
 cond (decide (v2<(w.l.length:Int))) (
  cond (decide (v1<v)) (
  chk (inb v2 w.l.length) (
   (rf ((at' .expr w.l v2),(wr .i64 (v-v1)))).bind λx =>
   rec (v,(wr .i64 (v1+x)),(wr .i64 (v2+1)),w))) (
  kx (.exit 0) (v,v1,v2,w))) (
  kx (.exit 0) (v,v1,v2,w))
def A2s(R:Type)(k:Nat)(rf:FT [.sv .expr,.int .i64] [.int .i64]):Px R:=pxO [(52,cA rf)] [] [(3,Am k Ajd (V1 rf))] []
def Kh(k:Nat)(rf:FT [.sv .expr,.int .i64] [.int .i64])(x:HV [.sv .expr,.int .i64]):Option (HV [.int .i64]):=match x with
 |(e,most) =>
 Al (λrec=>V1 rf rec (λe vz=>match vz with|(_,v4,_,_)=>match e with
  |.exit 0 =>
  some v4
  |_=>none)) k (most,(wr .i64 (1+(wr .i64 (Int.tdiv (wr .i64 ((e.v.s.length:Int)+(e.name.length:Int))) 30)))),0,e)
theorem Bh5(k:Nat)(rf:FT [.sv .expr,.int .i64] [.int .i64])(hrf:FO 52 [.sv .expr,.int .i64] [.int .i64] rf):FO 52 [.sv .expr,.int .i64] [.int .i64] (Kh k rf):=fR (px:=A2s _ k rf) (n:=1) Tryz.func52 rfl (λcx H=>by have h0:Lv cx (A2s (HV [.int .i64]) k rf):=lv H (c1 H hrf Ae) Ab Aa;have hlmuch1_0:=lO H h0 (b:=lp Tryz.f52 0) (k:=k) (n:=0) (s:=Ajd) (step:=V1 rf) (λ_ _ _ (_,_,_,_)=>by kernel_rfl) Ah;exact⟨h0,(A5 Ah hlmuch1_0)⟩) λ(_,_)=>by kernel_rfl
mutual
def Cj:Xpr->Int->Int
 |.mk _ v nm l,most=>muchL l most (wr .i64 (1+wr .i64 (Int.tdiv (wr .i64 ((v.s.length:Int)+(nm.length:Int))) 30)))
def muchL:List Xpr->Int->Int->Int
 |[],_,n=>n
 |x::l,most,n=>cond (decide (n<most)) (muchL l most (wr .i64 (n+Cj x (wr .i64 (most-n))))) n
end
def Axs:FT [.sv .expr,.int .i64] [.int .i64]:=λx=>some (Cj x.1 x.2)
theorem Aor{R:Type}{rf:FT [.sv .expr,.int .i64] [.int .i64]}{kx:Ex->Uw->Option R}{e:Xpr}{most:Int}{g:Int->Option R}(hn:ln e.l.length)(hrf:∀x,x∈e.l->∀m,rf (x,m)=some (Cj x m))(h2:∀n j,kx (.exit 0) (most,n,j,e)=g n):∀(k i:Nat) n,i<=e.l.length->e.l.length-i<k->Al (λrec=>V1 rf rec kx) k (most,n,(i:Int),e)=g (muchL (e.l.drop i) most n)
 |0,i,n,_,h=>by omega
 |k+1,i,n,hi,h=>by
  rw[Bb];by_cases hl:i<e.l.length
  ·have ih:=λn=>Aor hn hrf h2 k (i+1) n (by omega) (by omega);simp only[V1,Au hl hn,ih,h2,Ak hl,As (c :=.expr) hl,Aw hl,chk,Af,Bool.cond_decide,muchL,hrf _ (List.getElem_mem hl),Zc1];rw[if_pos (by omega)];split<;>rfl
  ·simp only[V1,h2,Bool.cond_decide];rw[if_neg (by omega),Zk1 (by omega)];rfl
theorem Atl(k:Nat):∀(n:Nat) (e:Xpr) (m:Int),BdExpr e->A1 e<=n->A1 e<=k->Al (Kh k) n (e,m)=some (Cj e m)
 |0,e,m,_,h,_=>by have:=B5 e;omega
 |n+1,.mk kd v nm l,m,hb,h,hk=>by
  obtain⟨_,_,_,_,hb1,hb2,hb3,hb4,hb5⟩:=hb;simp only[A1] at h hk;have hl:=Ej l;have hrf:∀x,x∈l->∀m,Al (Kh k) n (x,m)=some (Cj x m):=λx hx m=>Atl k n x m (hb5 x hx) (by have:=Bg hx;omega) (by have:=Bg hx;omega);rw[Bb];simp only[Kh];refine(Aor (e :=.mk kd v nm l) (g:=some) hb4 hrf ?_ k 0 _ (Nat.zero_le _) (by simp only[Xpr.l];omega)).trans ?_
  ·exactλ_ _=>rfl
  ·simp only[Cj,Xpr.l,Zq1,Xpr.v,Xpr.name]
theorem A4a:FO 52 [.sv .expr,.int .i64] [.int .i64] Axs:=by refine .fin (ι:=Nat) 0 (F:=λn=>Al (Kh n) n) (λn=>FnOk.rec' (Sx.enters_of Tryz.func52 rfl rfl) (λrf hrf=>Bh5 n rf hrf) n) λ(e,m) r hb hx=>⟨A1 e,?_⟩;exact(Atl (A1 e) (A1 e) e m hb.1 (Zn1 _) (Zn1 _)).trans hx
def Bkf(R:Type):Px R:=pxO [] [] [] []
def Zc(x:HV [.int .i64,.int .i64]):Option (HV [.bool]):=match x with
 |(k,want) =>
 cond (decide (k=want)) (
  some true) (
  some (decide (k=1)))
theorem Be2:FO 170 [.int .i64,.int .i64] [.bool] (Zc):=fR (px:=Bkf _) (n:=0) Tryz.func170 rfl (λ_ H=>⟨lv H Ae Ab Aa,Ah⟩) λ(_,_)=>by kernel_rfl
def C5(k:Int)(want:Int):Bool :=
 cond (decide (k=want)) (
  true) (
  (decide (k=1)))
theorem Be0(x:HV [.int .i64,.int .i64]):Zc x=some (C5 x.1 x.2):=by
 first
  |exact rfl
  |simp only[Zc,C5,A0]
def Baa:FT [.int .i64,.int .i64] [.bool]:=λx=>some (C5 x.1 x.2)
theorem Bqr:FO 170 [.int .i64,.int .i64] [.bool] Baa :=.fin0 Be2 λx _ _ hx=>(Be0 x).trans hx
def Bjf(R:Type):Px R:=pxO [] [] [] []
def X8(x:HV [.bool]):Option (HV [.sv .val]):=match x with
 |b =>
 cond (b) (
  some (Val.mk 2 1 [])) (
  some (Val.mk 2 0 []))
theorem Bef:FO 171 [.bool] [.sv .val] (X8):=fR (px:=Bjf _) (n:=0) Tryz.func171 rfl (λ_ H=>⟨lv H Ae Ab Aa,Ah⟩) λ_=>by kernel_rfl
def D8(b:Bool):Val :=
 cond (b) (
  (Val.mk 2 1 [])) (
  (Val.mk 2 0 []))
theorem Bik(x:HV [.bool]):X8 x=some (D8 x):=by
 first
  |exact rfl
  |simp only[X8,D8,A0]
def Avq:FT [.bool] [.sv .val]:=λx=>some (D8 x)
theorem A4m:FO 171 [.bool] [.sv .val] Avq :=.fin0 Bef λx _ _ hx=>(Bik x).trans hx
def Bhw(R:Type):Px R:=pxO [] [] [] []
def S4(x:HV [.int .i64,.int .i64]):Option (HV [.bool]):=match x with
 |(kind,n) =>
 cond (decide (kind=6)) (
  some (decide (n=0))) (
  cond (decide (kind=7)) (
  some (!decide (n=0))) (
  cond (decide (kind=8)) (
   some (decide (n<0))) (
   cond (decide (kind=9)) (
   some (decide (n<=0))) (
   cond (decide (kind=10)) (
    some (decide (0<n))) (
    some (decide (0<=n)))))))
theorem A5z:FO 174 [.int .i64,.int .i64] [.bool] (S4):=fR (px:=Bhw _) (n:=0) Tryz.func174 rfl (λ_ H=>⟨lv H Ae Ab Aa,Ah⟩) λ(_,_)=>by kernel_rfl
def Tb(kind:Int)(n:Int):Bool :=
 cond (decide (kind=6)) (
  (decide (n=0))) (
  cond (decide (kind=7)) (
  (!decide (n=0))) (
  cond (decide (kind=8)) (
   (decide (n<0))) (
   cond (decide (kind=9)) (
   (decide (n<=0))) (
   cond (decide (kind=10)) (
    (decide (0<n))) (
    (decide (0<=n)))))))
theorem A5x(x:HV [.int .i64,.int .i64]):S4 x=some (Tb x.1 x.2):=by
 first
  |exact rfl
  |simp only[S4,Tb,A0]
def A1h:FT [.int .i64,.int .i64] [.bool]:=λx=>some (Tb x.1 x.2)
theorem Bf8:FO 174 [.int .i64,.int .i64] [.bool] A1h :=.fin0 A5z λx _ _ hx=>(A5x x).trans hx
def Brn(R:Type):Px R:=pxO [(228,cA A8u),(229,cA Bm3),(230,cA A47)] [] [] []
def Adk(x:HV [.int .i64,.int .i64,.int .i64]):Option (HV [.sv .val,.int .i64]):=match x with
 |(kind,a,b) =>
 cond (decide (kind=12)) (
  cond (!decide ((Wp a b).2=0)) (
  some ((Val.mk 0 0 []),(Wp a b).2)) (
  some ((Val.mk 3 ((Wp a b).1) []),0))) (
  cond (decide (kind=13)) (
  cond (!decide ((M3 a b).2=0)) (
   some ((Val.mk 0 0 []),(M3 a b).2)) (
   some ((Val.mk 3 ((M3 a b).1) []),0))) (
  cond (decide (kind=14)) (
   cond (!decide ((Tn a b).2=0)) (
   some ((Val.mk 0 0 []),(Tn a b).2)) (
   some ((Val.mk 3 ((Tn a b).1) []),0))) (
   cond (!decide ((M3 0 a).2=0)) (
   some ((Val.mk 0 0 []),(M3 0 a).2)) (
   some ((Val.mk 3 ((M3 0 a).1) []),0)))))
theorem Bov:FO 173 [.int .i64,.int .i64,.int .i64] [.sv .val,.int .i64] (Adk):=fR (px:=Brn _) (n:=0) Tryz.func173 rfl (λ_ H=>⟨lv H (c1 H Baz (c1 H Btk (c1 H Bbi Ae))) Ab Aa,Ah⟩) λ(_,_,_)=>by kernel_rfl
def F1(kind:Int)(a:Int)(b:Int):Val×Int :=
 cond (decide (kind=12)) (
  cond (!decide ((Wp a b).2=0)) (
  ((Val.mk 0 0 []),(Wp a b).2)) (
  ((Val.mk 3 ((Wp a b).1) []),0))) (
  cond (decide (kind=13)) (
  cond (!decide ((M3 a b).2=0)) (
   ((Val.mk 0 0 []),(M3 a b).2)) (
   ((Val.mk 3 ((M3 a b).1) []),0))) (
  cond (decide (kind=14)) (
   cond (!decide ((Tn a b).2=0)) (
   ((Val.mk 0 0 []),(Tn a b).2)) (
   ((Val.mk 3 ((Tn a b).1) []),0))) (
   cond (!decide ((M3 0 a).2=0)) (
   ((Val.mk 0 0 []),(M3 0 a).2)) (
   ((Val.mk 3 ((M3 0 a).1) []),0)))))
theorem Bnk(x:HV [.int .i64,.int .i64,.int .i64]):Adk x=some (F1 x.1 x.2.1 x.2.2):=by
 first
  |exact rfl
  |simp only[Adk,F1,A0]
def Bmb:FT [.int .i64,.int .i64,.int .i64] [.sv .val,.int .i64]:=λx=>some (F1 x.1 x.2.1 x.2.2)
theorem Bsf:FO 173 [.int .i64,.int .i64,.int .i64] [.sv .val,.int .i64] Bmb :=.fin0 Bov λx _ _ hx=>(Bnk x).trans hx
def Aq1:Sig:=⟨20,[(1,.str),(4,.int .i64),(7,.sl .col false),(8,.int .i64),(9,.int .i64)],[],[],0,0,0,[],[]⟩
abbrev Aaw:=Str×Int×List Col×Int×Int
def Ad3{R:Type}(rec:Aaw->Option R)(kx:Ex->Aaw->Option R)(v:Aaw):Option R:=match v with
 |(v,v1,v2,v3,v4) =>
 cond (decide (v4<v3)) (
  chk (inb v4 v2.length) (
  cond (decide (((at' .col v2 v4).name)=v)) (
   kx .ret (v,v4,v2,v3,v4)) (
   rec (v,v1,v2,v3,(wr .i64 (v4+1)))))) (
  kx (.exit 0) (v,v1,v2,v3,v4))
def Bbs(R:Type)(k:Nat):Px R:=pxO [] [] [(2,Am k Aq1 (Ad3))] []
def Asw(k:Nat)(x:HV [.sl .col false,.str]):Option (HV [.int .i64]):=match x with
 |(cols,name) =>
 Al (λrec=>Ad3 rec (λe vz=>match vz with|(_,v6,_,_,_)=>match e with
  |.ret =>
  some v6
  |.exit 0 =>
  some (-1)
  |_=>none)) k (name,0,cols,(cols.length:Int),0)
theorem Bps(k:Nat):FO 169 [.sl .col false,.str] [.int .i64] (Asw k):=fR (px:=Bbs _ k) (n:=1) Tryz.func169 rfl (λcx H=>by have h0:Lv cx (Bbs (HV [.int .i64]) k):=lv H Ae Ab Aa;have hlfind_0:=lO H h0 (b:=lp Tryz.f169 0) (k:=k) (n:=0) (s:=Aq1) (step:=Ad3) (λ_ _ _ (_,_,_,_,_)=>by kernel_rfl) Ah;exact⟨h0,(A5 Ah hlfind_0)⟩) λ(_,_)=>by kernel_rfl
def Be:List Col->Str->Nat->Int
 |[],_,_ => -1
 |c::l,s,i=>if c.name=s then(i:Int) else Be l s (i+1)
def Cd(cols:List Col)(name:Str):Int:=Be cols name 0
def A7q:FT [.sl .col false,.str] [.int .i64]:=λx=>some (Cd x.1 x.2)
theorem Auo{R:Type}{kx:Ex->Aaw->Option R}{s:Str}{cols:List Col}{g:Int->Option R}(hn:ln cols.length)(h1:∀j,kx .ret (s,j,cols,(cols.length:Int),j)=g j)(h2:∀q j,kx (.exit 0) (s,q,cols,(cols.length:Int),j)=g (-1)):∀(k i:Nat) q,i<=cols.length->cols.length-i<k->Al (λrec=>Ad3 rec kx) k (s,q,cols,(cols.length:Int),(i:Int))=g (Be (cols.drop i) s i)
 |0,i,q,_,h=>by omega
 |k+1,i,q,hi,h=>by
  rw[Bb];by_cases hl:i<cols.length
  ·have ih:=Auo hn h1 h2 k (i+1) q (by omega) (by omega);simp only[Ad3,Au hl hn,ih,h1,Ak hl,As (c :=.col) hl,Aw hl,chk,Af,Bool.cond_decide,Be];rw[if_pos (by omega)];split<;>rfl
  ·simp only[Ad3,h2,Bool.cond_decide];rw[if_neg (by omega),Zk1 (by omega)];rfl
theorem Baw:FO 169 [.sl .col false,.str] [.int .i64] A7q :=.fin 0 Bps λ(cols,s) r hb hx=>⟨cols.length+1,by
 simp only[Asw];refine(Auo (g:=some) hb.1.1 ?_ ?_ (cols.length+1) 0 0 (Nat.zero_le _) (by omega)).trans hx
 ·exactλ_=>rfl
 ·exactλ_ _=>rfl⟩
def Aa5:Sig:=⟨28,[(1,.sl .val false),(4,.bool),(12,.sl .col false),(13,.int .i64),(14,.int .i64)],[],[],0,0,0,[],[]⟩
abbrev Ku:=List Val×Bool×List Col×Int×Int
def Jg{R:Type}(rec:Ku->Option R)(kx:Ex->Ku->Option R)(v:Ku):Option R:=match v with
 |(v,v1,v2,v3,v4) =>
 cond (decide (v4<v3)) (
  chk (inb v4 v2.length) (
  chk (inb v4 v.length) (
   cond (!(Nv (at' .val v v4) ((at' .col v2 v4).kind))) (
   kx .ret (v,false,v2,v3,v4)) (
   rec (v,v1,v2,v3,(wr .i64 (v4+1))))))) (
  kx (.exit 0) (v,v1,v2,v3,v4))
def Akr(R:Type)(k:Nat):Px R:=pxO [(102,cA Bal)] [] [(4,Am k Aa5 (Jg))] []
def Ab5(k:Nat)(x:HV [.sl .col false,.sl .val false]):Option (HV [.bool]):=match x with
 |(cols,row) =>
 cond (!decide ((cols.length:Int)=(row.length:Int))) (
  some false) (
  Al (λrec=>Jg rec (λe vz=>match vz with|(_,v6,_,_,_)=>match e with
  |.ret =>some v6
  |.exit 0 =>some true
  |_=>none)) k (row,false,cols,(cols.length:Int),0))
theorem A4q(k:Nat):FO 40 [.sl .col false,.sl .val false] [.bool] (Ab5 k):=fR (px:=Akr _ k) (n:=1) Tryz.func40 rfl (λcx H=>by have h0:Lv cx (Akr (HV [.bool]) k):=lv H (c1 H Bn9 Ae) Ab Aa;have hlrowfits_0:=lO H h0 (b:=lp Tryz.f40 0) (k:=k) (n:=0) (s:=Aa5) (step:=Jg) (λ_ _ _ (_,_,_,_,_)=>by kernel_rfl) Ah;exact⟨h0,(A5 Ah hlrowfits_0)⟩) λ(_,_)=>by kernel_rfl
def Dh:List Col->List Val->Bool
 |[],[]=>true
 |c::cs,v::vs=>Nv v c.kind&&Dh cs vs
 |_,_=>false
def Dc(cols:List Col)(row:List Val):Bool:=Dh cols row
def U7:FT [.sl .col false,.sl .val false] [.bool]:=λx=>some (Dc x.1 x.2)
theorem E0:∀{cols:List Col}{row:List Val},Dh cols row=true->cols.length=row.length
 |[],[],_=>rfl
 |_::cs,_::vs,h=>by simp only[Dh,Zb1] at h;simp[E0 h.2]
 |[],_::_,h=>by simp[Dh] at h
 |_::_,[],h=>by simp[Dh] at h
theorem Abv{R:Type}{kx:Ex->Ku->Option R}{row:List Val}{cols:List Col}{a b:Option R}(hn:ln cols.length)(he:cols.length=row.length)(h1:∀j,kx .ret (row,false,cols,(cols.length:Int),j)=a)(h2:∀q j,kx (.exit 0) (row,q,cols,(cols.length:Int),j)=b):∀(k i:Nat) q,i<=cols.length->cols.length-i<k->Al (λrec=>Jg rec kx) k (row,q,cols,(cols.length:Int),(i:Int))=cond (Dh (cols.drop i) (row.drop i)) b a
 |0,i,q,_,h=>by omega
 |k+1,i,q,hi,h=>by
  rw[Bb];by_cases hl:i<cols.length
  ·have ih:=Abv hn he h1 h2 k (i+1) q (by omega) (by omega);have hl2:i<row.length:=by omega
   simp only[Jg,Au hl hn,ih,h1,Ak hl,Ak hl2,As (c :=.col) hl,As (c :=.val) hl2,Aw hl,Aw hl2,chk,Af,Bool.cond_decide,Dh];rw[if_pos (by omega)];cases Nv row[i] cols[i].kind<;>rfl
  ·simp only[Jg,h2,Bool.cond_decide];rw[if_neg (by omega),Zk1 (by omega),Zk1 (by omega)];rfl
theorem Ajo:FO 40 [.sl .col false,.sl .val false] [.bool] U7 :=.fin 0 A4q λ(cols,row) r hb hx=>⟨cols.length+1,by
 simp only[U7,Za1,Dc] at hx;simp only[Ab5];by_cases he:cols.length=row.length
 ·rw[Ze1 (by omega)];simp only[Zt1,Ag];refine(Abv (a:=some false) (b:=some true) hb.1.1 he ?_ ?_ (cols.length+1) 0 false (Nat.zero_le _) (by omega)).trans ?_
  ·exactλ_=>rfl
  ·exactλ_ _=>rfl
  ·rw[<-hx];simp only[Zq1];cases Dh cols row<;>rfl
 ·rw[Zd1 (by omega)];have:Dh cols row=false:=by cases hf:Dh cols row with|false=>rfl|true=>exact absurd (E0 hf) he
  rw[<-hx,this];rfl⟩
def Ans:Sig:=⟨34,[(0,.int .i64),(6,.bool),(12,.sl .val false),(13,.int .i64),(14,.int .i64)],[(4,.ptr 0 0),(5,.ptr 1 0)],[(0,.one (.sv .val)),(1,.one (.sv .val))],2,0,0,[],[]⟩
abbrev U6:=Int×Bool×List Val×Int×Int×Val×Val
def V2{R:Type}(rec:U6->Option R)(kx:Ex->U6->Option R)(v:U6):Option R:=match v with
 |(v,v1,v2,v3,v4,w,w1) =>
 cond (decide (v4<v3)) (
  chk (inb v4 v2.length) (
  cond (decide ((at' .val v2 v4)=w1)) (
   kx .ret (v,v1,v2,v3,v4,w1,w1)) (
   cond (v1) (
   rec (v,true,v2,v3,(wr .i64 (v4+1)),w,w1)) (
   rec (v,decide ((at' .val v2 v4).kind=1),v2,v3,(wr .i64 (v4+1)),w,w1))))) (
  kx (.exit 0) (v,v1,v2,v3,v4,w,w1))
def Ay9(R:Type)(k:Nat):Px R:=pxO [(171,cA Avq)] [] [(4,Am k Ans (V2))] []
def Aoo(k:Nat)(x:HV [.int .i64,.sl .val false]):Option (HV [.sv .val]):=match x with
 |(kind,l) =>
 Al (λrec=>V2 rec (λe vz=>match vz with|(v5,v6,_,_,_,a,_)=>match e with
  |.ret =>
  some a
  |.exit 0 =>
  cond (v6) (
   some (Val.mk 1 0 [])) (
   some (D8 (!decide (v5=5))))
  |_=>none)) k (kind,false,l,(l.length:Int),0,(Val.mk 0 0 []),(D8 (decide (kind=5))))
theorem Bha(k:Nat):FO 172 [.int .i64,.sl .val false] [.sv .val] (Aoo k):=fR (px:=Ay9 _ k) (n:=1) Tryz.func172 rfl (λcx H=>by have h0:Lv cx (Ay9 (HV [.sv .val]) k):=lv H (c1 H A4m Ae) Ab Aa;have hllogic_0:=lO H h0 (b:=lp Tryz.f172 0) (k:=k) (n:=0) (s:=Ans) (step:=V2) (λ_ _ _ (_,_,_,_,_,_,_)=>by kernel_rfl) Ah;exact⟨h0,(A5 Ah hllogic_0)⟩) λ(_,_)=>by kernel_rfl
def D3(v:Val):Bool:=decide (v.kind=1)
def R3(kind:Int)(l:List Val):Val:=cond (l.any λv=>decide (v=D8 (decide (kind=5)))) (D8 (decide (kind=5))) (cond (l.any D3) ⟨1,0,[]⟩ (D8 (!decide (kind=5))))
def Axo:FT [.int .i64,.sl .val false] [.sv .val]:=λx=>some (R3 x.1 x.2)
theorem An8{R:Type}{kx:Ex->U6->Option R}{kd:Int}{l:List Val}{e:Val}{a:Option R}{b:Bool->Option R}(hn:ln l.length)(h1:∀q j,kx .ret (kd,q,l,(l.length:Int),j,e,e)=a)(h2:∀q j z,kx (.exit 0) (kd,q,l,(l.length:Int),j,z,e)=b q):∀(k i:Nat) (u:Bool) z,i<=l.length->l.length-i<k->Al (λrec=>V2 rec kx) k (kd,u,l,(l.length:Int),(i:Int),z,e)=cond ((l.drop i).any λv=>decide (v=e)) a (b (u||(l.drop i).any D3))
 |0,i,u,z,_,h=>by omega
 |k+1,i,u,z,hi,h=>by
  rw[Bb];by_cases hl:i<l.length
  ·have ih:=λu=>An8 hn h1 h2 k (i+1) u z (by omega) (by omega);simp only[V2,Au hl hn,ih,h1,Ak hl,As (c :=.val) hl,Aw hl,chk,Af,Bool.cond_decide,List.any_cons];rw[if_pos (by omega)];by_cases he:l[i]=e
   ·rw[if_pos he,Ze1 he];rfl
   ·rw[if_neg he,Zd1 he];cases u<;>simp[D3]
  ·simp only[V2,h2,Bool.cond_decide];rw[if_neg (by omega),Zk1 (by omega)];simp
theorem Bky:FO 172 [.int .i64,.sl .val false] [.sv .val] Axo :=.fin 0 Bha λ(kd,l) r hb hx=>⟨l.length+1,by
 simp only[Axo,Za1,R3] at hx;simp only[Aoo];refine(An8 (a:=some (D8 (decide (kd=5)))) (b:=λq=>cond q (some ⟨1,0,[]⟩) (some (D8 (!decide (kd=5))))) hb.2.1 ?_ ?_ (l.length+1) 0 false _ (Nat.zero_le _) (by omega)).trans ?_
 ·exactλ_ _=>rfl
 ·exactλ_ _ _=>rfl
 rw[<-hx];simp only[Zq1,Bool.false_or];cases (l.any λv=>decide (v=D8 (decide (kd=5))))<;>cases l.any D3<;>rfl⟩
theorem Kc:∀(l:List Col) (s:Str) (i:Nat),Be l s i = -1\/((i:Int)<=Be l s i/\Be l s i<(i+l.length:Nat))
 |[],_,_ =>.inl rfl
 |c::l,s,i=>by
  simp only[Be,Zf1];split
  ·right;omega
  ·have:=Kc l s (i+1);omega
theorem Pw(l:List Col)(s:Str):Cd l s = -1\/(0<=Cd l s/\Cd l s<(l.length:Int)):=by have:=Kc l s 0;simpa[Cd] using this
theorem Bo7{l:List Col}{s:Str}(h:¬Cd l s<0):inb (Cd l s) l.length=true:=by have:=Pw l s;simp only[inb,Zb1,Zg1];omega
def Am2:Sig:=⟨102,[(1,.sl .col false),(4,.int .i64),(5,.int .i64),(12,.sl .expr false),(13,.int .i64),(14,.int .i64)],[(2,.ptr 0 0),(6,.ptr 1 0)],[(0,.one (.sv .expr)),(1,.one (.rw .int 2))],2,0,0,[],[]⟩
abbrev Vd:=List Col×Int×Int×List Xpr×Int×Int×Xpr×List Int
def F7{R:Type}(rf:FT [.sv .expr,.sl .col false] [.int .i64,.int .i64])(rec:Vd->Option R)(kx:Ex->Vd->Option R)(v:Vd):Option R:=match v with
 |(v,v1,v2,v3,v4,v5,w,w1) =>
 cond (decide (v5<v4)) (
  chk (inb v5 v3.length) (
  (rf ((at' .expr v3 v5),v)).bind λ(x,x1) =>
   chk (inb v5 2) (
   cond (!decide (x1=0)) (
    kx .ret (v,0,x1,v3,v4,v5,w,(w1.set (v5:Int).toNat x))) (
    cond (decide (v5=1)) (
    kx (.exit 0) (v,v1,v2,v3,v4,v5,w,(w1.set (v5:Int).toNat x))) (
    rec (v,v1,v2,v3,v4,(wr .i64 (v5+1)),w,(w1.set (v5:Int).toNat x))))))) (
  kx (.exit 0) (v,v1,v2,v3,v4,v5,w,w1))
def Az8(R:Type)(k:Nat)(rf:FT [.sv .expr,.sl .col false] [.int .i64,.int .i64]):Px R:=pxO [(105,cA rf),(169,cA A7q),(170,cA Baa)] [] [(3,Am k Am2 (F7 rf))] []
def J8(k:Nat)(rf:FT [.sv .expr,.sl .col false] [.int .i64,.int .i64])(x:HV [.sv .expr,.sl .col false]):Option (HV [.int .i64,.int .i64]):=match x with
 |(e,cols) =>
 Al (λrec=>F7 rf rec (λe vz=>match vz with|(v6,v7,v8,_,_,_,a,b)=>match e with
  |.ret =>
  some (v7,v8)
  |.exit 0 =>
  let j2:=λ(q:List Int) =>
   cond (decide (a.kind=1)) (
   some (a.v.kind,0)) (
   cond (decide (a.kind=2)) (
    cond (decide ((Cd v6 a.name)<0)) (
    some (0,150)) (
    chk (inb (Cd v6 a.name) v6.length) (
     some ((at' .col v6 (Cd v6 a.name)).kind,0)))) (
    cond (decide (a.kind=16)) (
    some (2,0)) (
    let j1:=λ(p:Bool) =>
     cond (p) (
     cond ((C5 (at' .int q 0) 2)) (
      cond ((C5 (at' .int q 1) 2)) (
      some (2,0)) (
      some (0,151))) (
      some (0,151))) (
     let j:=λ(p3:Bool) =>
      cond (p3) (
      cond ((C5 (at' .int q 0) 3)) (
       cond ((C5 (at' .int q 1) 3)) (
       some (3,0)) (
       some (0,151))) (
       some (0,151))) (
      cond (decide ((at' .int q 0)=(at' .int q 1))) (
       some (2,0)) (
       cond (decide ((at' .int q 0)=1)) (
       some (2,0)) (
       cond (decide ((at' .int q 1)=1)) (
        some (2,0)) (
        some (0,151)))))
     cond (decide (a.kind=12)) (
      j (decide (a.kind=12))) (
      cond (decide (a.kind=13)) (
      j (decide (a.kind=13))) (
      cond (decide (a.kind=14)) (
       j (decide (a.kind=14))) (
       j (decide (a.kind=15))))))
    cond (decide (a.kind=3)) (
     j1 (decide (a.kind=3))) (
     cond (decide (a.kind=4)) (
     j1 (decide (a.kind=4))) (
     j1 (decide (a.kind=5)))))))
  cond (decide ((a.l.length:Int)=1)) (
   j2 (b.set (1:Int).toNat (at' .int b 0))) (
   j2 b)
  |_=>none)) k (cols,0,0,e.l,(e.l.length:Int),0,e,[0,0])
theorem Bi7(k:Nat)(rf:FT [.sv .expr,.sl .col false] [.int .i64,.int .i64])(hrf:FO 105 [.sv .expr,.sl .col false] [.int .i64,.int .i64] rf):FO 105 [.sv .expr,.sl .col false] [.int .i64,.int .i64] (J8 k rf):=fR (px:=Az8 _ k rf) (n:=1) Tryz.func105 rfl (λcx H=>by have h0:Lv cx (Az8 (HV [.int .i64,.int .i64]) k rf):=lv H (c1 H hrf (c1 H Baw (c1 H Bqr Ae))) Ab Aa;have hlkindE_0:=lO H h0 (b:=lp Tryz.f105 0) (k:=k) (n:=0) (s:=Am2) (step:=F7 rf) (λ_ _ _ (_,_,_,_,_,_,_,_)=>by kernel_rfl) Ah;exact⟨h0,(A5 Ah hlkindE_0)⟩) λ(_,_)=>by kernel_rfl
def G2(e:Xpr)(cols:List Col)(a b:Int):Int×Int :=
 if e.kind=1 then(e.v.kind,0)
 else if e.kind=2 then(if Cd cols e.name<0 then(0,150) else((at' .col cols (Cd cols e.name)).kind,0))
 else if e.kind=16 then(2,0)
 else if e.kind=3\/e.kind=4\/e.kind=5 then(if C5 a 2&&C5 b 2 then(2,0) else(0,151))
 else if e.kind=12\/e.kind=13\/e.kind=14\/e.kind=15 then(if C5 a 3&&C5 b 3 then(3,0) else(0,151))
 else if a=b\/a=1\/b=1 then(2,0) else(0,151)
def Tt(e:Xpr)(cols:List Col):List (Int×Int)->Int×Int
 |[]=>G2 e cols 0 0
 |[(a,f)]=>if f=0 then G2 e cols a a else(0,f)
 |(a,f)::(b,g)::_=>if f=0 then(if g=0 then G2 e cols a b else(0,g)) else(0,f)
mutual
def A7:Xpr->List Col->Int×Int
 |.mk k v nm l,cols=>Tt (.mk k v nm l) cols (kindL l cols)
def kindL:List Xpr->List Col->List (Int×Int)
 |[],_=>[]
 |x::l,cols=>A7 x cols::kindL l cols
end
theorem Ip(e:Xpr)(cols:List Col):A7 e cols=Tt e cols (kindL e.l cols):=by cases e;simp only[A7,Xpr.l]
def Awq:FT [.sv .expr,.sl .col false] [.int .i64,.int .i64]:=λx=>some (A7 x.1 x.2)
def Ba7(a:Xpr)(v6:List Col)(q:List Int):Option (Int×Int) :=
   cond (decide (a.kind=1)) (
   some (a.v.kind,0)) (
   cond (decide (a.kind=2)) (
    cond (decide ((Cd v6 a.name)<0)) (
    some (0,150)) (
    chk (inb (Cd v6 a.name) v6.length) (
     some ((at' .col v6 (Cd v6 a.name)).kind,0)))) (
    cond (decide (a.kind=16)) (
    some (2,0)) (
    let j1:=λ(p:Bool) =>
     cond (p) (
     cond ((C5 (at' .int q 0) 2)) (
      cond ((C5 (at' .int q 1) 2)) (
      some (2,0)) (
      some (0,151))) (
      some (0,151))) (
     let j:=λ(p3:Bool) =>
      cond (p3) (
      cond ((C5 (at' .int q 0) 3)) (
       cond ((C5 (at' .int q 1) 3)) (
       some (3,0)) (
       some (0,151))) (
       some (0,151))) (
      cond (decide ((at' .int q 0)=(at' .int q 1))) (
       some (2,0)) (
       cond (decide ((at' .int q 0)=1)) (
       some (2,0)) (
       cond (decide ((at' .int q 1)=1)) (
        some (2,0)) (
        some (0,151)))))
     cond (decide (a.kind=12)) (
      j (decide (a.kind=12))) (
      cond (decide (a.kind=13)) (
      j (decide (a.kind=13))) (
      cond (decide (a.kind=14)) (
       j (decide (a.kind=14))) (
       j (decide (a.kind=15))))))
    cond (decide (a.kind=3)) (
     j1 (decide (a.kind=3))) (
     cond (decide (a.kind=4)) (
     j1 (decide (a.kind=4))) (
     j1 (decide (a.kind=5)))))))
theorem Ae0(e:Xpr)(cols:List Col)(a b:Int):Ba7 e cols [a,b]=some (G2 e cols a b):=by
 have ha:at' .int [a,b] 0=a:=rfl;have hb:at' .int [a,b] 1=b:=rfl;simp only[Ba7,G2,ha,hb];generalize e.kind=k;by_cases h1:k=1
 ·simp[h1]
 by_cases h2:k=2
 ·simp only[h2];by_cases hf:Cd cols e.name<0
  ·simp[hf]
  ·rw[Bo7 hf];simp[hf,chk]
 by_cases h16:k=16
 ·simp[h16]
 rw[Zd1 h1,Zd1 h2,Zd1 h16,if_neg h1,if_neg h2,if_neg h16];simp only[Ag];by_cases h3:k=3
 ·subst h3;cases C5 a 2<;>cases C5 b 2<;>rfl
 by_cases h4:k=4
 ·subst h4;cases C5 a 2<;>cases C5 b 2<;>rfl
 by_cases h5:k=5
 ·subst h5;cases C5 a 2<;>cases C5 b 2<;>rfl
 rw[Zd1 h3,Zd1 h4,Zd1 h5,if_neg (by omega)];simp only[Ag];by_cases h12:k=12
 ·subst h12;cases C5 a 3<;>cases C5 b 3<;>rfl
 by_cases h13:k=13
 ·subst h13;cases C5 a 3<;>cases C5 b 3<;>rfl
 by_cases h14:k=14
 ·subst h14;cases C5 a 3<;>cases C5 b 3<;>rfl
 by_cases h15:k=15
 ·subst h15;cases C5 a 3<;>cases C5 b 3<;>rfl
 rw[Zd1 h12,Zd1 h13,Zd1 h14,Zd1 h15,if_neg (by omega)];simp only[Ag];by_cases c1:a=b
 ·simp[c1]
 by_cases c2:a=1
 ·simp[c2]
 by_cases c3:b=1
 ·simp[c3]
 simp[c1,c2,c3]
def Ak5{R:Type}(ga:Int->Option R)(gb:Int->Int->Option R):List (Int×Int)->Option R
 |[]=>gb 0 0
 |[(a,f)]=>if f=0 then gb a 0 else ga f
 |(a,f)::(b,g)::_=>if f=0 then(if g=0 then gb a b else ga g) else ga f
theorem Bhg{R:Type}{rf:FT [.sv .expr,.sl .col false] [.int .i64,.int .i64]}{kx:Ex->Vd->Option R}{cols:List Col}{e:Xpr}{ga:Int->Option R}{gb:Int->Int->Option R}(hn:ln e.l.length)(hrf:∀x,x∈e.l->rf (x,cols)=some (A7 x cols))(h1:∀f i ks,kx .ret (cols,0,f,e.l,(e.l.length:Int),i,e,ks)=ga f)(h2:∀i a b,kx (.exit 0) (cols,0,0,e.l,(e.l.length:Int),i,e,[a,b])=gb a b)(k:Nat):Al (λrec=>F7 rf rec kx) (k+3) (cols,0,0,e.l,(e.l.length:Int),0,e,[0,0])=Ak5 ga gb (kindL e.l cols):=by
 rw[Bb];generalize e.l=l at *;match l with
 |[] =>simp only[F7,kindL,Ak5];exact h2 0 0 0
 |[x] =>
  simp only[F7,Zf1,Zi1];have e1:at' .expr [x] 0=x:=rfl;rw[e1,hrf x (by simp)];simp only[Zc1,kindL,Ak5];show cond (!decide ((A7 x cols).2=0)) (kx .ret (cols,0,(A7 x cols).2,[x],1,0,e,[(A7 x cols).1,0])) (Al (λrec=>F7 rf rec kx) (k+2) (cols,0,0,[x],1,1,e,[(A7 x cols).1,0]))=_;have h1':=λf i ks=>h1 f i ks;have h2':=λi a b=>h2 i a b;have hl:(([x]:List Xpr).length:Int)=1:=rfl;rw[hl] at h1' h2';rw[h1',Bb];have:F7 rf (Al (λrec=>F7 rf rec kx) (k+1)) kx (cols,0,0,[x],1,1,e,[(A7 x cols).1,0])=kx (.exit 0) (cols,0,0,[x],1,1,e,[(A7 x cols).1,0]):=rfl;rw[this,h2'];by_cases hf:(A7 x cols).2=0
  ·simp[hf]
  ·simp[hf]
 |x::y::t =>
  simp only[F7];have hlen:(0:Int)<((x::y::t).length:Int):=by simp;omega
  have hlen1:(1:Int)<((x::y::t).length:Int):=by simp;omega
  have e1:at' .expr (x::y::t) 0=x:=rfl;have e2:at' .expr (x::y::t) 1=y:=rfl;rw[Ze1 hlen,e1,hrf x (by simp)];have i1:inb 0 (x::y::t).length=true:=Aw (i:=0) (by simp);have i2:inb 1 (x::y::t).length=true:=Aw (i:=1) (by simp);rw[i1];simp only[Af,chk,Zc1,kindL,Ak5];show cond (!decide ((A7 x cols).2=0)) (kx .ret (cols,0,(A7 x cols).2,x::y::t,_,0,e,[(A7 x cols).1,0])) (Al (λrec=>F7 rf rec kx) (k+2) (cols,0,0,x::y::t,((x::y::t).length:Int),1,e,[(A7 x cols).1,0]))=_;rw[h1,Bb];simp only[F7];rw[Ze1 hlen1,e2,hrf y (by simp),i2];simp only[Af,chk,Zc1];show cond (!decide ((A7 x cols).2=0)) (ga (A7 x cols).2) (cond (!decide ((A7 y cols).2=0)) (kx .ret (cols,0,(A7 y cols).2,x::y::t,_,1,e,_)) (kx (.exit 0) (cols,0,0,x::y::t,_,1,e,[(A7 x cols).1,(A7 y cols).1])))=_;rw[h1,h2];by_cases hf:(A7 x cols).2=0
  ·by_cases hg:(A7 y cols).2=0
   ·simp[hf,hg]
   ·simp[hf,hg]
  ·simp[hf]
theorem Ars(k:Nat):∀(n:Nat) (e:Xpr) (cols:List Col),BdExpr e->A1 e<=n->Al (J8 (k+3)) n (e,cols)=some (A7 e cols)
 |0,e,cols,_,h=>by have:=B5 e;omega
 |n+1,e,cols,hb,h=>by
  obtain⟨hb4,hb5⟩:=Aao hb;rw[Bv] at h;have hrf:∀x,x∈e.l->Al (J8 (k+3)) n (x,cols)=some (A7 x cols):=λx hx=>Ars k n x cols (hb5 x hx) (by have:=Bg hx;omega);rw[Bb,Ip];simp only[J8];refine(Bhg (ga:=λf=>some (0,f)) (gb:=λa b=>cond (decide ((e.l.length:Int)=1)) (Ba7 e cols [a,a]) (Ba7 e cols [a,b])) hb4 hrf ?_ ?_ k).trans ?_
  ·exactλ_ _ _=>rfl
  ·exactλ_ _ _=>rfl
  ·generalize e.l=l;match l with
   |[]=>simp[kindL,Ak5,Tt,Ae0]
   |[x] =>simp only[kindL,Ak5,Tt,Ae0];split<;>simp
   |x::y::t =>
    simp only[kindL,Ak5,Tt,Ae0];have:¬(((x::y::t).length:Int)=1):=by simp;omega
    rw[Zd1 this];split
    ·split<;>rfl
    ·rfl
theorem A4l:FO 105 [.sv .expr,.sl .col false] [.int .i64,.int .i64] Awq:=by refine .fin (ι:=Nat) 0 (F:=λn=>Al (J8 3) n) (λn=>FnOk.rec' (Sx.enters_of Tryz.func105 rfl rfl) (λrf hrf=>Bi7 3 rf hrf) n) λ(e,cols) r hb hx=>⟨A1 e,?_⟩;exact(Ars 0 (A1 e) e cols hb.1 (Zn1 _)).trans hx
def Bpa(R:Type):Px R:=pxO [(104,cA Av1),(105,cA Awq)] [] [] []
def Ze(x:HV [.sv .expr,.sl .col false]):Option (HV [.int .i64,.int .i64]):=match x with
 |(e,cols) =>
 cond (!decide ((De e)=0)) (
  some (0,(De e))) (
  some ((A7 e cols).1,(A7 e cols).2))
theorem Bfi:FO 86 [.sv .expr,.sl .col false] [.int .i64,.int .i64] (Ze):=fR (px:=Bpa _) (n:=0) Tryz.func86 rfl (λ_ H=>⟨lv H (c1 H Azm (c1 H A4l Ae)) Ab Aa,Ah⟩) λ(_,_)=>by kernel_rfl
def Ci(e:Xpr)(cols:List Col):Int×Int :=
 cond (!decide ((De e)=0)) (
  (0,(De e))) (
  ((A7 e cols).1,(A7 e cols).2))
theorem Bfj(x:HV [.sv .expr,.sl .col false]):Ze x=some (Ci x.1 x.2):=by
 first
  |exact rfl
  |simp only[Ze,Ci,A0]
def Bar:FT [.sv .expr,.sl .col false] [.int .i64,.int .i64]:=λx=>some (Ci x.1 x.2)
theorem Bnw:FO 86 [.sv .expr,.sl .col false] [.int .i64,.int .i64] Bar :=.fin0 Bfi λx _ _ hx=>(Bfj x).trans hx
def Ams:Sig:=⟨133,[(1,.sl .col false),(2,.sl .val false),(7,.int .i64),(8,.sl .val true),(9,.bool),(15,.sl .expr false),(16,.int .i64),(17,.int .i64)],[(3,.ptr 0 0),(6,.ptr 1 0)],[(0,.one (.sv .expr)),(1,.one (.sv .val))],2,0,0,[],[]⟩
abbrev Un:=List Col×List Val×Int×List Val×Bool×List Xpr×Int×Int×Xpr×Val
def V8{R:Type}(rf:FT [.sv .expr,.sl .col false,.sl .val false] [.sv .val,.int .i64])(rec:Un->Option R)(kx:Ex->Un->Option R)(v:Un):Option R:=match v with
 |(v,v1,v2,v3,v4,v5,v6,v7,w,w1) =>
 cond (decide (v7<v6)) (
  chk (inb v7 v5.length) (
  (rf ((at' .expr v5 v7),v,v1)).bind λ(x,x1) =>
   cond (!decide (x1=0)) (
   kx .ret (v,v1,x1,v3,v4,v5,v6,v7,w,(Val.mk 0 0 []))) (
   chk (decide (v3.length+1<=Ao)) (
    cond (v4) (
    rec (v,v1,v2,(v3++[x]),true,v5,v6,(wr .i64 (v7+1)),w,w1)) (
    rec (v,v1,v2,(v3++[x]),decide (x.kind=1),v5,v6,(wr .i64 (v7+1)),w,w1)))))) (
  kx (.exit 0) (v,v1,v2,v3,v4,v5,v6,v7,w,w1))
def A1b(R:Type)(k:Nat)(rf:FT [.sv .expr,.sl .col false,.sl .val false] [.sv .val,.int .i64]):Px R:=pxO [(106,cA rf),(169,cA A7q),(171,cA Avq),(172,cA Axo),(174,cA A1h)] [(173,qA Bmb),(43,qA A7n)] [(4,Am k Ams (V8 rf))] []
def Jv(k:Nat)(rf:FT [.sv .expr,.sl .col false,.sl .val false] [.sv .val,.int .i64])(x:HV [.sv .expr,.sl .col false,.sl .val false]):Option (HV [.sv .val,.int .i64]):=match x with
 |(e,cols,row) =>
 Al (λrec=>V8 rf rec (λe vz=>match vz with|(v8,v9,d,b,c,_,_,_,a,f)=>match e with
  |.ret =>
  some (f,d)
  |.exit 0 =>
  cond (decide (a.kind=1)) (
   some (a.v,0)) (
   cond (decide (a.kind=2)) (
   chk (inb (Cd v8 a.name) v9.length) (
    some ((at' .val v9 (Cd v8 a.name)),0))) (
   cond (decide (a.kind=16)) (
    some ((D8 c),0)) (
    let j:=λ(p5:Bool) =>
    cond (p5) (
     some ((R3 a.kind b),0)) (
     cond (c) (
     some ((Val.mk 1 0 []),0)) (
     cond (decide (a.kind=3)) (
      chk (inb 0 b.length) (
      some ((D8 (decide ((at' .val b 0).n=0))),0))) (
      cond (decide (a.kind=15)) (
      chk (inb 0 b.length) (
       some ((F1 a.kind ((at' .val b 0).n) 0).1,(F1 a.kind ((at' .val b 0).n) 0).2))) (
      cond (decide (12<=a.kind)) (
       chk (inb 0 b.length) (
       chk (inb 1 b.length) (
        some ((F1 a.kind ((at' .val b 0).n) ((at' .val b 1).n)).1,(F1 a.kind ((at' .val b 0).n) ((at' .val b 1).n)).2)))) (
       chk (inb 0 b.length) (
       chk (inb 1 b.length) (
        some ((D8 (Tb a.kind (O3 (at' .val b 0) (at' .val b 1)))),0))))))))
    cond (decide (a.kind=4)) (
    j true) (
    j (decide (a.kind=5))))))
  |_=>none)) k (cols,row,0,[],false,e.l,(e.l.length:Int),0,e,(Val.mk 0 0 []))
theorem Bf9(k:Nat)(rf:FT [.sv .expr,.sl .col false,.sl .val false] [.sv .val,.int .i64])(hrf:FO 106 [.sv .expr,.sl .col false,.sl .val false] [.sv .val,.int .i64] rf):FO 106 [.sv .expr,.sl .col false,.sl .val false] [.sv .val,.int .i64] (Jv k rf):=fR (px:=A1b _ k rf) (n:=1) Tryz.func106 rfl (λcx H=>by have h0:Lv cx (A1b (HV [.sv .val,.int .i64]) k rf):=lv H (c1 H hrf (c1 H Baw (c1 H A4m (c1 H Bky (c1 H Bf8 Ae))))) (q1 H Bsf (q1 H Bbr Ab)) Aa;have hlevalE_0:=lO H h0 (b:=lp Tryz.f106 0) (k:=k) (n:=0) (s:=Ams) (step:=V8 rf) (λ_ _ _ (_,_,_,_,_,_,_,_,_,_)=>by kernel_rfl) Ah;exact⟨h0,(A5 Ah hlevalE_0)⟩) λ(_,_,_)=>by kernel_rfl
def Qy(a:Xpr)(v8:List Col)(v9:List Val)(b:List Val)(c:Bool):Option (Val×Int) :=
  cond (decide (a.kind=1)) (
   some (a.v,0)) (
   cond (decide (a.kind=2)) (
   chk (inb (Cd v8 a.name) v9.length) (
    some ((at' .val v9 (Cd v8 a.name)),0))) (
   cond (decide (a.kind=16)) (
    some ((D8 c),0)) (
    let j:=λ(p3:Bool) =>
    cond (p3) (
     some ((R3 a.kind b),0)) (
     cond (c) (
     some ((Val.mk 1 0 []),0)) (
     cond (decide (a.kind=3)) (
      chk (inb 0 b.length) (
      some ((D8 (decide ((at' .val b 0).n=0))),0))) (
      cond (decide (a.kind=15)) (
      chk (inb 0 b.length) (
       some (((F1 a.kind ((at' .val b 0).n) 0).1),(F1 a.kind ((at' .val b 0).n) 0).2))) (
      cond (decide (12<=a.kind)) (
       chk (inb 0 b.length) (
       chk (inb 1 b.length) (
        some (((F1 a.kind ((at' .val b 0).n) ((at' .val b 1).n)).1),(F1 a.kind ((at' .val b 0).n) ((at' .val b 1).n)).2)))) (
       chk (inb 0 b.length) (
       chk (inb 1 b.length) (
        some ((D8 (Tb a.kind (O3 (at' .val b 0) (at' .val b 1)))),0))))))))
    cond (decide (a.kind=4)) (
    j true) (
    j (decide (a.kind=5))))))
mutual
def H9:Xpr->List Col->List Val->Option (Val×Int)
 |.mk k v nm l,cols,row=>match evalL l cols row with|some (f,vs)=>chk (decide (l.length<=Ao)) (if f=0 then Qy (.mk k v nm l) cols row vs (vs.any D3) else some (⟨0,0,[]⟩,f))|none=>none
def evalL:List Xpr->List Col->List Val->Option (Int×List Val)
 |[],_,_=>some (0,[])
 |x::l,cols,row=>match H9 x cols row with
  |some (v,f)=>if f=0 then(match evalL l cols row with
   |some (g,vs)=>some (g,v::vs)
   |none=>none) else some (f,[])
  |none=>none
end
theorem Aa4(e:Xpr)(cols:List Col)(row:List Val):H9 e cols row=match evalL e.l cols row with
  |some (f,vs)=>chk (decide (e.l.length<=Ao)) (if f=0 then Qy e cols row vs (vs.any D3) else some (⟨0,0,[]⟩,f))
  |none=>none:=by
 cases e;simp only[H9,Xpr.l];rfl
def Bak:FT [.sv .expr,.sl .col false,.sl .val false] [.sv .val,.int .i64]:=λx=>H9 x.1 x.2.1 x.2.2
theorem Are{R:Type}{rf:FT [.sv .expr,.sl .col false,.sl .val false] [.sv .val,.int .i64]}{kx:Ex->Un->Option R}{cols:List Col}{row:List Val}{e:Xpr}{ga:Int->Option R}{gb:List Val->Bool->Option R}(hn:ln e.l.length)(hm:e.l.length<=Ao)(hrf:∀x,x∈e.l->∀r,H9 x cols row=some r->rf (x,cols,row)=some r)(h1:∀f vs u j,kx .ret (cols,row,f,vs,u,e.l,(e.l.length:Int),j,e,⟨0,0,[]⟩)=ga f)(h2:∀vs u j z,kx (.exit 0) (cols,row,0,vs,u,e.l,(e.l.length:Int),j,e,z)=gb vs u):∀(k i:Nat) (acc:List Val) (u:Bool) z f vs,acc.length=i->i<=e.l.length->e.l.length-i<k->evalL (e.l.drop i) cols row=some (f,vs)->Al (λrec=>V8 rf rec kx) k (cols,row,0,acc,u,e.l,(e.l.length:Int),(i:Int),e,z)=if f=0 then gb (acc++vs) (u||vs.any D3) else ga f
 |0,i,_,_,_,_,_,_,_,h,_=>by omega
 |k+1,i,acc,u,z,f,vs,ha,hi,h,hev=>by
  rw[Bb];by_cases hl:i<e.l.length
  ·rw[Ak hl] at hev;simp only[evalL] at hev;split at hev
   ·rename_i v f' hx;have hr:=hrf _ (List.getElem_mem hl) _ hx;simp only[V8,As (c :=.expr) hl,Aw hl,hr,Zc1,chk,Af,Bool.cond_decide];rw[if_pos (by omega)];split at hev
    ·rename_i hf;subst hf;split at hev
     ·rename_i g vs' hrest;simp only[Za1,Zp1] at hev;obtain⟨rfl,rfl⟩:=hev;have ih:=λu=>Are hn hm hrf h1 h2 k (i+1) (acc++[v]) u z g vs' (by simp[ha]) (by omega) (by omega) hrest;rw[if_pos (by simp only[Ao] at *;omega)];simp only[decide_true,Zt1,Ag,Au hl hn,ih,Zj1,List.singleton_append,List.any_cons];cases u<;>simp[D3]
     ·cases hev
    ·rename_i hf;simp only[Za1,Zp1] at hev;obtain⟨rfl,rfl⟩:=hev;rw[Zd1 hf,if_neg hf];simp only[Zs1,Af,h1]
   ·cases hev
  ·rw[Zk1 (by omega)] at hev;simp only[evalL,Za1,Zp1] at hev;obtain⟨rfl,rfl⟩:=hev;simp only[V8,h2,Bool.cond_decide];rw[if_neg (by omega)];simp
theorem Aur(k:Nat):∀(n:Nat) (e:Xpr) (cols:List Col) (row:List Val) r,BdExpr e->A1 e<=n->A1 e<=k->H9 e cols row=some r->Al (Jv k) n (e,cols,row)=some r
 |0,e,_,_,_,_,h,_,_=>by have:=B5 e;omega
 |n+1,e,cols,row,r,hb,h,hk,he=>by
  obtain⟨hb4,hb5⟩:=Aao hb;rw[Bv] at h hk;have hl:=Ej e.l;have hrf:∀x,x∈e.l->∀r,H9 x cols row=some r->Al (Jv k) n (x,cols,row)=some r:=λx hx r hr=>Aur k n x cols row r (hb5 x hx) (by have:=Bg hx;omega) (by have:=Bg hx;omega) hr;rw[Bb];simp only[Jv];rw[Aa4] at he;split at he
  ·rename_i f vs hev;obtain⟨hc,he⟩:=Ba he;simp only[Zg1] at hc;refine(Are (ga:=λf=>some (⟨0,0,[]⟩,f)) (gb:=λvs u=>Qy e cols row vs u) hb4 hc hrf ?_ ?_ k 0 [] false _ f vs rfl (Nat.zero_le _) (by omega) (by simpa using hev)).trans ?_
   ·exactλ_ _ _ _=>rfl
   ·exactλ_ _ _ _=>rfl
   ·simpa using he
  ·cases he
theorem Bp0:FO 106 [.sv .expr,.sl .col false,.sl .val false] [.sv .val,.int .i64] Bak:=by refine .fin (ι:=Nat) 0 (F:=λn=>Al (Jv n) n) (λn=>FnOk.rec' (Sx.enters_of Tryz.func106 rfl rfl) (λrf hrf=>Bf9 n rf hrf) n) λ(e,cols,row) r hb hx=>⟨A1 e,?_⟩;exact Aur (A1 e) (A1 e) e cols row r hb.1 (Zn1 _) (Zn1 _) hx
theorem P9(k:Int):(parts k=0/\(k=1\/k=2))\/(parts k=1/\(k=3\/k=15\/k=16))\/(parts k=2/\4<=k/\k<=14)\/parts k = -1:=by
 by_cases h1:k=1
 ·subst h1;left;decide
 by_cases h2:k=2
 ·subst h2;left;decide
 by_cases h3:k=3
 ·subst h3;right;left;decide
 by_cases h15:k=15
 ·subst h15;right;left;decide
 by_cases h16:k=16
 ·subst h16;right;left;decide
 right;right;by_cases h : 4<=k/\k<=14
 ·left;refine⟨?_,h⟩;have:k=4\/k=5\/k=6\/k=7\/k=8\/k=9\/k=10\/k=11\/k=12\/k=13\/k=14:=by omega
  rcases this with rfl|rfl|rfl|rfl|rfl|rfl|rfl|rfl|rfl|rfl|rfl<;>decide
 ·right;have hm:P3 signsL k=[]:=by simp only[signsL,P3];rw[Zd1 (by omega),Zd1 (by omega),Zd1 (by omega),Zd1 (by omega),Zd1 (by omega),Zd1 (by omega),Zd1 (by omega),Zd1 (by omega),Zd1 (by omega),Zd1 (by omega),Zd1 (by omega)]
  simp[parts,hm,h1,h2,h3,h15,h16]
theorem He{e:Xpr}{m:Int}(h:A8 e m=true):(e.l.length:Int)=parts e.kind/\eok e.kind e.v e.name=true/\erights e.l (wr .i64 (m-1))=true:=by rw[Mf] at h;simp only[Zb1,Zg1] at h;exact⟨h.1.1.2,h.1.2,h.2⟩
theorem Mm{e:Xpr}:De e=0↔A8 e 30=true:=by simp only[De];cases A8 e 30<;>simp
theorem Za:∀{cols:List Col}{row:List Val},Dh cols row=true->∀(i:Nat) (h1:i<cols.length) (h2:i<row.length),Nv row[i] cols[i].kind=true
 |[],_,_,i,h1,_=>by simp at h1
 |_::_,[],_,i,_,h2=>by simp at h2
 |c::cs,v::vs,h,i,h1,h2=>by simp only[Dh,Zb1] at h;cases i with|zero=>exact h.1|succ i=>exact Za h.2 i (by simpa using h1) (by simpa using h2)
theorem Aul{v:Val}{k:Int}:Nv v k=true↔Bo v=true/\(v.kind=1\/v.kind=k):=by simp only[Nv];cases Bo v<;>simp
theorem Yt{v:Val}:Ei v=0↔Bo v=true:=by simp only[Ei];cases Bo v<;>simp
theorem Afz(b:Bool):Bo (D8 b)=true/\(D8 b).kind=2:=by cases b<;>decide
theorem A8z:Bo ⟨1,0,[]⟩=true:=by decide
theorem Bf2(n:Int):Bo ⟨3,n,[]⟩=true:=by simp[Bo]
theorem Bv2(a b:Int):(Wp a b).2=0\/(Wp a b).2=20:=by simp only[Wp];cases decide (decide (a<wr .i64 (a+b))=decide (0<b))<;>simp
theorem Bpl(a b:Int):(M3 a b).2=0\/(M3 a b).2=20:=by simp only[M3];cases decide (decide (wr .i64 (a-b)<a)=decide (0<b))<;>simp
theorem Bw7(a b:Int):(Tn a b).2=0\/(Tn a b).2=20:=by simp only[Tn];generalize decide (0<(Hm (Cy a) (Cy b)).1)=p;generalize decide ((Hm (Cy a) (Cy b)).2=9223372036854775808)=q;generalize decide (9223372036854775808<(Hm (Cy a) (Cy b)).2)=r;generalize (!decide ((decide (a<0))=(decide (b<0))))=t;cases p<;>cases q<;>cases r<;>cases t<;>simp
theorem Bro(k a b:Int):(∃n,F1 k a b=(⟨3,n,[]⟩,0))\/F1 k a b=(⟨0,0,[]⟩,20):=by
 have h1:=Bv2 a b;have h2:=Bpl a b;have h3:=Bw7 a b;have h4:=Bpl 0 a;simp only[F1,Bool.cond_decide];split
 ·rcases h1 with h|h<;>simp[h]
 ·split
  ·rcases h2 with h|h<;>simp[h]
  ·split
   ·rcases h3 with h|h<;>simp[h]
   ·rcases h4 with h|h<;>simp[h]
theorem A31(k:Int)(l:List Val):(∃b,R3 k l=D8 b)\/R3 k l=⟨1,0,[]⟩:=by
 simp only[R3];cases l.any λv=>decide (v=D8 (decide (k=5)))
 ·cases l.any D3
  ·exact .inl ⟨_,rfl⟩
  ·exact .inr rfl
 ·exact .inl ⟨_,rfl⟩
def Bfs(v:Val)(f k:Int):Prop:=(f=0/\Bo v=true/\(v.kind=1\/v.kind=k))\/(f=20/\v=⟨0,0,[]⟩)
theorem Ov(b:Bool):Bfs (D8 b) 0 2 :=.inl ⟨rfl,(Afz b).1,.inr (Afz b).2⟩
theorem Ve(k:Int):Bfs ⟨1,0,[]⟩ 0 k :=.inl ⟨rfl,A8z,.inl rfl⟩
theorem A4p(k a b:Int):Bfs (F1 k a b).1 (F1 k a b).2 3:=by
 rcases Bro k a b with ⟨n,h⟩|h
 ·rw[h];exact .inl ⟨rfl,Bf2 n,.inr rfl⟩
 ·rw[h];exact .inr ⟨rfl,rfl⟩
theorem Aos(k:Int)(l:List Val):Bfs (R3 k l) 0 2:=by
 rcases A31 k l with ⟨b,h⟩|h
 ·rw[h];exact Ov b
 ·rw[h];exact Ve 2
theorem Bu3{e:Xpr}{cols:List Col}{a b:Int}(h:(G2 e cols a b).2=0)(h3:e.kind=3\/e.kind=4\/e.kind=5):G2 e cols a b=(2,0):=by
 simp only[G2] at h ⊢;rw[if_neg (by omega),if_neg (by omega),if_neg (by omega),if_pos h3] at h ⊢;split at h
 ·rename_i hc;rw[if_pos hc]
 ·simp at h
theorem Bur{e:Xpr}{cols:List Col}{a b:Int}(h:(G2 e cols a b).2=0)(h3:e.kind=12\/e.kind=13\/e.kind=14\/e.kind=15):G2 e cols a b=(3,0):=by
 simp only[G2] at h ⊢;rw[if_neg (by omega),if_neg (by omega),if_neg (by omega),if_neg (by omega),if_pos h3] at h ⊢;split at h
 ·rename_i hc;rw[if_pos hc]
 ·simp at h
theorem Bx4{e:Xpr}{cols:List Col}{a b:Int}(h:(G2 e cols a b).2=0)(h3 : 6<=e.kind/\e.kind<=11):G2 e cols a b=(2,0):=by
 simp only[G2] at h ⊢;rw[if_neg (by omega),if_neg (by omega),if_neg (by omega),if_neg (by omega),if_neg (by omega)] at h ⊢;split at h
 ·rename_i hc;rw[if_pos hc]
 ·simp at h
theorem Bwk{e:Xpr}{cols:List Col}{a b:Int}(h3:e.kind=16):G2 e cols a b=(2,0):=by simp only[G2];rw[if_neg (by omega),if_neg (by omega),if_pos h3]
theorem Gl{cols:List Col}{row:List Val}(hf:Dh cols row=true):∀(n:Nat) (e:Xpr) (m:Int),A1 e<=n->A8 e m=true->(A7 e cols).2=0->∃v f,H9 e cols row=some (v,f)/\Bfs v f (A7 e cols).1
 |0,e,_,h,_,_=>by have:=B5 e;omega
 |n+1,e,m,h,hr,hk=>by
  obtain⟨hp,hok,hs⟩:=He hr;rw[Bv] at h;rw[Ip] at hk ⊢;rw[Aa4];have i1:∀v:Val,inb 0 [v].length=true:=λv=>rfl;have i2:∀v u:Val,inb 0 [v,u].length=true:=λv u=>rfl;have i3:∀v u:Val,inb 1 [v,u].length=true:=λv u=>rfl;rcases P9 e.kind with ⟨h0,hk0⟩|⟨h0,hk1⟩|⟨h0,hk2⟩|h0
  ·
   have hl:e.l=[]:=List.eq_nil_of_length_eq_zero (by omega);rw[hl] at hk ⊢;simp only[kindL,Tt,evalL] at hk ⊢;have hc:chk (decide (([]:List Xpr).length<=Ao))=λx:Option (Val×Int)=>x:=rfl;rw[hc];simp only[if_true];rcases hk0 with h1|h2
   ·refine⟨e.v,0,by simp[Qy,h1],.inl ⟨rfl,?_,.inr ?_⟩⟩
    ·simp only[eok,h1] at hok;simp only[decide_true,Af,Zb1,Zg1] at hok;exact Yt.1 hok.1.1
    ·simp[G2,h1]
   ·simp only[G2,h2] at hk ⊢;simp only[show ¬((2:Int)=1) by decide,if_false,if_true] at hk ⊢;by_cases hfd:Cd cols e.name<0
    ·simp[hfd] at hk
    ·rw[if_neg hfd];have hlen:=E0 hf;have hrg:=Pw cols e.name;obtain⟨i,hi⟩:∃i:Nat,Cd cols e.name=(i:Int):=⟨(Cd cols e.name).toNat,by omega⟩;have h1:i<cols.length:=by omega
     have h2':i<row.length:=by omega
     have hfit:=Za hf i h1 h2';rw[Aul] at hfit;refine⟨row[i],0,?_,.inl ⟨rfl,hfit.1,?_⟩⟩
     ·simp only[Qy,h2];rw[hi,Aw h2',As (c :=.val) h2'];rfl
     ·rw[hi,As (c :=.col) h1];exact hfit.2
  ·
   obtain⟨x,hl⟩:∃x,e.l=[x]:=List.length_eq_one_iff.1 (by omega);rw[hl] at hk hs ⊢;simp only[kindL,Tt,erights,Bool.and_true] at hk hs ⊢;have hx0:(A7 x cols).2=0:=by
    by_cases hx:(A7 x cols).2=0
    ·exact hx
    ·rw[if_neg hx] at hk;exact absurd hk hx
   rw[if_pos hx0] at hk ⊢;obtain⟨v,f,hv,hg⟩:=Gl hf n x _ (by rw[hl] at h;simp only[esizes] at h;omega) hs hx0;simp only[evalL,hv];rcases hg with ⟨rfl,hg⟩|⟨rfl,rfl⟩
   ·simp only[if_true];have hc:chk (decide (([x]:List Xpr).length<=Ao))=λy:Option (Val×Int)=>y:=rfl;rw[hc];simp only[Qy];have at0:at' .val [v] 0=v:=rfl;rcases hk1 with h3|h15|h16
    ·rw[Bu3 hk (.inl h3)];simp only[h3,show decide ((3:Int)=1)=false from rfl,show decide ((3:Int)=2)=false from rfl,show decide ((3:Int)=16)=false from rfl,show decide ((3:Int)=4)=false from rfl,show decide ((3:Int)=5)=false from rfl,Ag,decide_true,Af,i1,chk,at0];cases [v].any D3
     ·exact⟨_,_,rfl,Ov _⟩
     ·exact⟨_,_,rfl,Ve _⟩
    ·rw[Bur hk (.inr (.inr (.inr h15)))];simp only[h15,show decide ((15:Int)=1)=false from rfl,show decide ((15:Int)=2)=false from rfl,show decide ((15:Int)=16)=false from rfl,show decide ((15:Int)=3)=false from rfl,show decide ((15:Int)=4)=false from rfl,show decide ((15:Int)=5)=false from rfl,Ag,decide_true,Af,i1,chk,at0];cases [v].any D3
     ·exact⟨_,_,rfl,A4p _ _ _⟩
     ·exact⟨_,_,rfl,Ve _⟩
    ·rw[Bwk h16];simp only[h16,show decide ((16:Int)=1)=false from rfl,show decide ((16:Int)=2)=false from rfl,decide_true,Ag,Af];exact⟨_,_,rfl,Ov _⟩
   ·exact⟨_,_,rfl,.inr ⟨rfl,rfl⟩⟩
  ·
   obtain⟨x,y,hl⟩:∃x y,e.l=[x,y]:=by match hq:e.l,(show e.l.length=2 by omega) with|[x,y],_=>exact⟨x,y,rfl⟩
   rw[hl] at hk hs ⊢;simp only[kindL,Tt,erights,Bool.and_true,Zb1] at hk hs ⊢;have hx0:(A7 x cols).2=0:=by
    by_cases hx:(A7 x cols).2=0
    ·exact hx
    ·rw[if_neg hx] at hk;exact absurd hk hx
   rw[if_pos hx0] at hk ⊢;have hy0:(A7 y cols).2=0:=by
    by_cases hy:(A7 y cols).2=0
    ·exact hy
    ·rw[if_neg hy] at hk;exact absurd hk hy
   rw[if_pos hy0] at hk ⊢;have hsz:A1 x<=n/\A1 y<=n:=by rw[hl] at h;simp only[esizes] at h;omega
   obtain⟨v,f,hv,hg⟩:=Gl hf n x _ hsz.1 hs.1 hx0;obtain⟨u,g,hu,hg'⟩:=Gl hf n y _ hsz.2 hs.2 hy0;simp only[evalL,hv,hu];rcases hg with ⟨rfl,hg⟩|⟨rfl,rfl⟩
   ·simp only[if_true];rcases hg' with ⟨rfl,hg'⟩|⟨rfl,rfl⟩
    ·simp only[if_true];have hc:chk (decide (([x,y]:List Xpr).length<=Ao))=λz:Option (Val×Int)=>z:=rfl;rw[hc];simp only[Qy];have at0:at' .val [v,u] 0=v:=rfl;have at1:at' .val [v,u] 1=u:=rfl;rw[Zd1 (show ¬e.kind=1 by omega),Zd1 (show ¬e.kind=2 by omega),Zd1 (show ¬e.kind=16 by omega),Zd1 (show ¬e.kind=3 by omega),Zd1 (show ¬e.kind=15 by omega)];simp only[Ag,i2,i3,chk,Af,at0,at1];by_cases h45:e.kind=4\/e.kind=5
     ·rw[Bu3 hk (.inr h45)];rcases h45 with h4|h5
      ·simp only[h4,decide_true,Af];exact⟨_,_,rfl,Aos _ _⟩
      ·simp only[h5,show decide ((5:Int)=4)=false from rfl,decide_true,Af,Ag];exact⟨_,_,rfl,Aos _ _⟩
     ·rw[Zd1 (show ¬e.kind=4 by omega),Zd1 (show ¬e.kind=5 by omega)];simp only[Ag];cases hn:[v,u].any D3
      ·simp only[Ag];by_cases h12 : 12<=e.kind
       ·rw[Bur hk (by omega),Ze1 h12];exact⟨_,_,rfl,A4p _ _ _⟩
       ·rw[Bx4 hk (by omega),Zd1 h12];exact⟨_,_,rfl,Ov _⟩
      ·exact⟨_,_,rfl,Ve _⟩
    ·exact⟨_,_,rfl,.inr ⟨rfl,rfl⟩⟩
   ·exact⟨_,_,rfl,.inr ⟨rfl,rfl⟩⟩
  ·omega
end Go.Proofs.YtbkinkalnmbpjaaGreatDoor
