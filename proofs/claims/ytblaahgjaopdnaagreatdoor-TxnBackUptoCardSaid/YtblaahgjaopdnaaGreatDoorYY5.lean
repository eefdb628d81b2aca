/- Texts of the proof,one behind the other: AxRn,SxL,SxM,AxIn,Cg,AxTh,Pf,Lo,AxOw,Tw,Si,Sk,Sn,Ck,Kr,Pa,Lc,Na,Lm,Ar,Shp,Sr,Dg,Nc,Eb,Fc,Fk. -/
import Derived.Test.YtblaahgjaopdnaaGreatDoorYY4
import Derived.KernelRfl
import Derived.Laws.Cover3
import Derived.Lib.Overlaps
import Derived.Lib.AppendZerosOnto
import Derived.Test.YtblaahgjaopdnaaGreatDoorProg
import Derived.Lib.Walk
import Derived.Lib.BytesEntry
import Derived.Lib.Bytealg
import Derived.Laws.Externs
import Derived.Shelf.Strings.Replace
set_option linter.all false
namespace Go.Ax
structure Hx (P:Program) (el:Ck->TypeId) (gl:Nat->Option Gv) (tt:Nat->Ty) (cx:Cx):Prop where
 p:cx.P=P
 e:cx.el=el
 g:cx.gl=gl
 t:∀t,Ch P el tt t=true
 m:P.follows .mixedOrders=true
structure Lv {R:Type}(cx:Cx) (px:Px R):Prop where
 p:PxOk cx px
 c:Dh cx px
 q:CallQOk cx px
section
variable {R:Type}{P:Program}{el:Ck->TypeId}{gl:Nat->Option Gv}{tt:Nat->Ty}{cx:Cx}
theorem lv{px:Px R}{l:List (Nat×Gx R)}{lq:List (Nat×Fw R)}{lw:List (Nat×Q0 R)}(H:Hx P el gl tt cx)(h:∀g f,(g,f)∈l->G2 cx g f)(hq:∀g f,(g,f)∈lq->Q6 cx g f)(hw:∀g f,(g,f)∈lw->F0 cx g f)(h1:px.tt=tt:=by rfl)(h2:px.gl=gl:=by rfl)(h3:px.call=A74 l:=by rfl)(h4:px.callQ=Atk lq:=by rfl)(h5:px.callW=tbl lw:=by rfl):Lv cx px :=⟨⟨λt=>by rw[h1,H.p,H.e];exact H.t t,by rw[h2,H.g]⟩,Bkg h3 h,Bac h4 h5 hq hw⟩
theorem cO(H:Hx P el gl tt cx){g:Nat}{sa sr:List Sg}{F:HV sa->Option (HV sr)}(h:FnOk P el gl g sa sr F)(hsa:C2 (Bb 0 sa) []=true:=by kernel_rfl):G2 (R:=R) cx g (Ac9 sa sr F):=Bs4 (by rw[H.p,H.e,H.g];exact h) hsa
theorem cL(H:Hx P el gl tt cx){g:Nat}{sg so:Sig}{F:FL sg so}(h:FnLn P el gl g sg so F)(hok:lnB sg so=true:=by kernel_rfl):G2 (R:=R) cx g (Aj sg so F):=Bs3 (by rw[H.p,H.e,H.g];exact h) hok
theorem cT(H:Hx P el gl tt cx){g:Nat}{sa:List Sg}{c:Ck}{F:HV sa->Option (HV [.sl c true])}(h:FnOk P el gl g sa [.sl c true] F)(hsa:C2 (Bb 0 sa) []=true:=by kernel_rfl)(hfl:Bj1 c=true:=by rfl):G2 (R:=R) cx g (K7 sa c F):=Bnu (by rw[H.p,H.e,H.g];exact h) hsa hfl
theorem cR(H:Hx P el gl tt cx){nb nt:Nat}{pc:Px R}{g:Nat}{fn:Func}{c:Code}{n:Nat}(h:Lv cx pc)(hf:P.funcs[g]? = some fn)(hb:fn.body=some c)(hl:∀i,i<n->B3 cx pc (lp fn i))(hname:(fn.name == "runtime.NumGoroutine")=false:=by kernel_rfl)(hcode:Q9 fn=true:=by kernel_rfl)(hn:Ks fn=n:=by kernel_rfl):G2 cx g (Aq nb nt pc fn):=Bqt h.p h.c h.q (by rw[H.p];exact H.m) (by rw[H.p];exact hf) hb hname hcode hn hl
theorem c1(H:Hx P el gl tt cx){g:Nat}{sa sr:List Sg}{F:HV sa->Option (HV sr)}{l:List (Nat×Gx R)}(h:FnOk P el gl g sa sr F)(hl:∀g f,(g,f)∈l->G2 cx g f)(hsa:C2 (Bb 0 sa) []=true:=by kernel_rfl):∀g' f',(g',f')∈(g,Ac9 sa sr F)::l->G2 cx g' f':=Al (cO H h hsa) hl
theorem l1(H:Hx P el gl tt cx){g:Nat}{sg so:Sig}{F:FL sg so}{l:List (Nat×Gx R)}(h:FnLn P el gl g sg so F)(hl:∀g f,(g,f)∈l->G2 cx g f)(hok:lnB sg so=true:=by kernel_rfl):∀g' f',(g',f')∈(g,Aj sg so F)::l->G2 cx g' f':=Al (cL H h hok) hl
theorem q1(H:Hx P el gl tt cx){g:Nat}{sa sr:List Sg}{F:HV sa->Option (HV sr)}{l:List (Nat×Fw R)}(h:FnOk P el gl g sa sr F)(hl:∀g f,(g,f)∈l->Q6 cx g f)(hsa:C2 (Bb 0 sa) []=true:=by kernel_rfl):∀g' f',(g',f')∈(g,Aac sa sr F)::l->Q6 cx g' f':=A9s (Bq8 (by rw[H.p,H.e,H.g];exact h) hsa) hl
theorem w1(H:Hx P el gl tt cx){g:Nat}{sg so:Sig}{F:HV sg.sgs->Option (HV so.sgs)}{l:List (Nat×Q0 R)}(h:FnLn P el gl g sg so F)(hl:∀g f,(g,f)∈l->F0 cx g f)(hok:lnB sg so=true:=by kernel_rfl):∀g' f',(g',f')∈(g,Cv sg so F)::l->F0 cx g' f':=Aci (Bp2 (by rw[H.p,H.e,H.g];exact h) hok) hl
theorem lO{px:Px R}(H:Hx P el gl tt cx)(h:Lv cx px){b:Code}{k n:Nat}{s:Sig}{step:Amj (HV s.sgs) R}(hround:∀fr rec kx v,Ot px s b fr rec kx v=step rec kx v)(hin:∀i,i<n->B3 cx px (lpC b i))(hpx:∀st K,px.loop b st K=Am k s step st K:=by exactλ_ _=>by kernel_rfl)(hs:U2 s=true:=by kernel_rfl)(hn:(Bl b).length=n:=by kernel_rfl):B3 cx px b:=Box h.p h.c h.q (by rw[H.p];exact H.m) hpx hs hround (Hl hn hin)
theorem fO{f:FuncId}{fn:Func}{c:Code}{sa sr:List Sg}{px:Px (HV sr)}{F:FT sa sr}{n:Nat}(ht:∀t,Ch P el tt t=true)(hm:P.follows .mixedOrders=true)(hf:P.funcs[f]? = some fn)(hb:fn.body=some c)(hname:(fn.name == "runtime.NumGoroutine")=false)(hchk:(Q9 fn&&Nat.ble sa.length fn.ntmps&&C2 (Bb 0 sa) [])=true)(hn:Ks fn=n)
  (h:∀cx,Hx P el gl tt cx->Lv cx px/\∀i,i<n->B3 cx px (lp fn i)) (hF:∀x,A19 px fn sa sr x some=F x):FnOk P el gl f sa sr F :=
 Bj7 hf hb hname hm hchk hn (λcx a b c _=>by obtain⟨h1,h2⟩:=h cx ⟨a,b,c,ht,hm⟩;exact⟨h1.p,h1.c,h1.q,h2⟩) hF
theorem fL{f:FuncId}{fn:Func}{c:Code}{sg so:Sig}{px:Px (HV so.sgs)}{F:FL sg so}{n:Nat}(ht:∀t,Ch P el tt t=true)(hm:P.follows .mixedOrders=true)(hf:P.funcs[f]? = some fn)(hb:fn.body=some c)(hname:(fn.name == "runtime.NumGoroutine")=false)(hchk:(Q9 fn&&Nat.ble sg.n fn.ntmps)=true)(hn:Ks fn=n)
  (h:∀cx,Hx P el gl tt cx->Lv cx px/\∀i,i<n->B3 cx px (lp fn i)) (hF:∀x,Anx px fn sg so x some=F x):FnLn P el gl f sg so F :=
 Bf2 hf hb hname hm hchk hn (λcx a b c=>by obtain⟨h1,h2⟩:=h cx ⟨a,b,c,ht,hm⟩;exact⟨h1.p,h1.c,h1.q,h2⟩) hF
end
end Go.Ax
namespace Go.Sx
open Go.RowKit
section
variable {cx:Cx}{k:List KI}{e:Env}{L:Loc}{F:World->Prop}{Q:Exit->Act->World->Prop}{ops:Array Oper}{l:List Oper}{w:World}
theorem StOk.swap{x y:Ent}(h:StOk cx (x::L) F w)(hfp:y.fp=x.fp)(hok:y.ok w):StOk cx (y::L) F w:=by
 have he:fps (y::L)=fps (x::L):=by simp[fps,hfp]
 refine⟨h.chg,?_,by rw[he];exact h.nodup,by rw[he];exact h.own,h.away,by rw[he];exact h.rob⟩;intro z hz;simp at hz;rcases hz with rfl|hz
 ·exact hok
 ·exact h.ok z (Zu1 _ hz)
theorem StOk.blkrow{b:Nat}{u:TypeId}(sz:Nat)(h:StOk cx (.blk b [] u::L) F w):StOk cx (.row (.slice (some ⟨b,0,none⟩) 0 0) u sz 0 []::L) F w :=h.swap rfl ⟨by simp,.inr ⟨b,0, #[],rfl,Nat.zero_le _,h.ok _ Zr1,Zn1 _,Nat.zero_le _,by simp,by simp⟩⟩
theorem Hu{b:Nat}{u:TypeId}(sz:Nat)(h:O cx ops l k e (.row (.slice (some ⟨b,0,none⟩) 0 0) u sz 0 []::L) F Q):O cx ops l k e (.blk b [] u::L) F Q :=.mk λa w he hs=>h.run a w he (hs.blkrow sz)
theorem Fj{P:Program}{t t':TypeId}{x y:Operand}{a:Option Addr}{n c:Nat}(sz:Nat)(ht:(elSz P t == some sz)=true)(hx:Env.ev e x=some (.slice a n c))(hy:Env.ev e y=some (.slice none 0 0)):Pure P e (.binOp .eql t x y t') (.bool a.isNone):=by obtain⟨u,hu,_⟩:=L4 (n:=sz) (by simpa using ht);refine p_bin hx hy (λw=>rfl) λw =>?_;have:=run_equal_slice_nil (P:=P) w t u a n c hu;simp[binOp,this]
end
theorem Au0{P:Program}(w:World)(dT sT ty elem:TypeId)(i0:TypeInfo)(g o dLen dCap:Nat)(a:Addr)(sLen sCap:Nat)(cur:Array Value)(t:TypeId)(cs:List Value)(hu:P.underlying dT=some (.slice elem))(hi:P.info? elem=some i0)
  (hg:w.heap[g]? = some (.cells cur t (0,0))) (hn:cs.length=Nat.min sLen dLen*i0.size) (hsrc:∀j v,cs[j]? = some v->w.cell? (a.add j)=some v) (hfit:o+cs.length<=cur.size) (h1:∀v∈cs,v.oneCell' = true) :
  (Builtin.copy_ #[dT,sT] ty #[.slice (some ⟨g,o,none⟩) dLen dCap,.slice (some a) sLen sCap]).run P w =
   .ok (goInt (Nat.min sLen dLen)) (w.setRow g (cur.toList.take o++cs++cur.toList.drop (o+cs.length)).toArray):=by
 have hl:=run_firstCells_some (P:=P) w i0.size (Nat.min sLen dLen) a sLen sCap cs hn hsrc;have hst:=run_storeCells_at P g o t cs 0 cur w hg (by simpa using hfit) h1;simp at hst;simp[Builtin.copy_,run_underlying hu,Builtin.lenOf,sizeOf,typeInfo,hi,hl,hst]
section
variable {cx:Cx}{k:List KI}{e:Env}{L:Loc}{F:World->Prop}{Q:Exit->Act->World->Prop}{ops:Array Oper}{rest:List Oper}
def Aak(cx:Cx)(L:Loc)(F:World->Prop)(b off:Nat)(zs:List Value):Prop:=∀w,StOk cx L F w->∀(j:Nat) v,zs[j]? = some v->w.cell? ⟨b,off+j,none⟩=some v
theorem Anq{b off n:Nat}{cs:List Value}{t:TypeId}(i:Nat)(hi:L[i]? = some (.blk b cs t)):Aak cx L F b off ((cs.drop off).take n):=λw hs j v hj=>by
 refine Ajy (hs.ok _ (List.mem_of_getElem? hi)) ?_;rw[List.getElem?_take] at hj;split at hj
 ·grind
 ·cases hj
theorem Bm6(w:World)(g:Nat)(cs:Array Value):Chg [g] w (w.setRow g cs) :=⟨rfl,rfl,rfl,by simp,λk _ hn=>setRow_other w g k cs (by simpa using hn)⟩
theorem StOk.setRow{w:World}{g:Nat}{cs cs':List Value}{t:TypeId}(h:StOk cx L F w)(i:Nat)(hi:L[i]? = some (.blk g cs t)):StOk cx (L.set i (.blk g cs' t)) F (w.setRow g cs'.toArray) :=h.updAt i hi (Bm6 w g _) (setRow_heap w g _ _ t (0,0) (h.ok _ (List.mem_of_getElem? hi))) (by simp[Ent.fp]) (λb hb =>.inl hb)
theorem Aui{dst:Nat}{d s:Operand}{t t' ty u u':TypeId}{pos:String}{after:Array Edge}{g':Option (Nat×Bool)}{g o dl dc b off sl sc sz by_:Nat}{cs zs:List Value}(i:Nat)(hg:Gd ops e g' = some true)(hd:Nat.blt dst cx.n=true)(hT:ElTy cx.P t u sz by_)
  (hx:Env.ev e d=some (.slice (some ⟨g,o,none⟩) dl dc)) (hy:Env.ev e s=some (.slice (some ⟨b,off,none⟩) sl sc)) (hi:L[i]? = some (.blk g cs u')) (hsrc:Aak cx L F b off zs) (hl:zs.length=Nat.min sl dl*sz) (hfit:o+zs.length<=cs.length) (h1:∀v,v∈zs->one v=true)
  (h:O cx ops rest k ((dst,goInt (Nat.min sl dl))::e) (L.set i (.blk g (cs.take o++zs++cs.drop (o+zs.length)) u')) F Q) :
  O cx ops (⟨some dst,.call ⟨.builtin .copy, #[d,s], #[t,t']⟩,ty,pos,after,g'⟩::rest) k e L F Q:=by
 refine T4 (λr L' F'=>r=goInt (Nat.min sl dl)/\L' = L.set i (.blk g (cs.take o++zs++cs.drop (o+zs.length)) u')/\F' = F) hg hd (λa w he hst =>?_) (λr L' F' ⟨hr,hL,hF⟩=>by rw[hr,hL,hF];exact h);obtain⟨hu,i0,z,hi0,hz,hsz,hby,hzs,hpos⟩:=hT;have hgh:w.heap[g]? = some (.cells cs.toArray u' (0,0)):=hst.ok _ (List.mem_of_getElem? hi);have hrun:=Au0 (P:=cx.P) w t t' ty u i0 g o dl dc ⟨b,off,none⟩ sl sc cs.toArray u' zs hu hi0 hgh (by rw[hsz];exact hl) (λj v hj=>by rw[add_mk];exact hsrc w hst j v hj) (by simpa using hfit) (λv hv=>one_oneCell (h1 v hv));refine⟨_,_,_,F,?_,hst.setRow (cs':=cs.take o++zs++cs.drop (o+zs.length)) i hi,rfl,rfl,rfl⟩;simp[execOp,resolve,invoke,builtin,he.ev hx,he.ev hy,hrun]
theorem A9k{dst:Nat}{d s:Operand}{t ty u u':TypeId}{pos:String}{after:Array Edge}{g':Option (Nat×Bool)}{g n cap b off m sc sz by_:Nat}{cs zs:List Value}(i:Nat)(hg:Gd ops e g' = some true)(hd:Nat.blt dst cx.n=true)(hT:ElTy cx.P t u sz by_)
  (hx:Env.ev e d=some (.slice (some ⟨g,0,none⟩) n cap)) (hy:Env.ev e s=some (.slice (some ⟨b,off,none⟩) m sc)) (hi:L[i]? = some (.blk g cs u)) (hsrc:Aak cx L F b off zs) (hl:zs.length=m*sz) (hroom:n+m<=cap) (hfit:n*sz+zs.length<=cs.length) (h1:∀v,v∈zs->one v=true) (_hu':u' = u)
  (h:O cx ops rest k ((dst,.slice (some ⟨g,0,none⟩) (n+m) cap)::e) (L.set i (.blk g (cs.take (n*sz)++zs++cs.drop (n*sz+zs.length)) u)) F Q) :
  O cx ops (⟨some dst,.call ⟨.builtin .append, #[d,s], #[t,t]⟩,ty,pos,after,g'⟩::rest) k e L F Q:=by
 refine T4 (λr L' F'=>r = .slice (some ⟨g,0,none⟩) (n+m) cap/\L' = L.set i (.blk g (cs.take (n*sz)++zs++cs.drop (n*sz+zs.length)) u)/\F' = F) hg hd (λa w he hst =>?_) (λr L' F' ⟨hr,hL,hF⟩=>by rw[hr,hL,hF];exact h);obtain⟨hu,i0,z,hi0,hz,hsz,hby,hzs,hpos⟩:=hT;have hgh:w.heap[g]? = some (.cells cs.toArray u (0,0)):=hst.ok _ (List.mem_of_getElem? hi);have hrun:=run_append_room (P:=cx.P) w t ty u i0 hu hi0 g n cap cs.toArray hgh ⟨b,off,none⟩ m sc zs (by rw[hsz];exact hl) (λj v hj=>by rw[add_mk];exact hsrc w hst j v hj) (λv hv=>one_oneCell (h1 v hv)) hroom (by rw[hsz];simpa using hfit);rw[hsz] at hrun;refine⟨_,_,_,F,?_,hst.setRow (cs':=cs.take (n*sz)++zs++cs.drop (n*sz+zs.length)) i hi,rfl,rfl,rfl⟩;simp[execOp,resolve,invoke,builtin,he.ev hx,he.ev hy,hrun]
theorem Bbn{dst:Nat}{d s:Operand}{t ty u u':TypeId}{pos:String}{after:Array Edge}{g':Option (Nat×Bool)}{g n cap b off m sc sz by_:Nat}{cs zs:List Value}(i:Nat)(hg:Gd ops e g' = some true)(hd:Nat.blt dst cx.n=true)(hT:ElTy cx.P t u sz by_)
  (hx:Env.ev e d=some (.slice (some ⟨g,0,none⟩) n cap)) (hy:Env.ev e s=some (.slice (some ⟨b,off,none⟩) m sc)) (hi:L[i]? = some (.blk g cs u')) (hsrc:Aak cx L F b off zs) (hl:zs.length=m*sz) (hn:n*sz<=cs.length) (hroom:cap<n+m) (h63:n+m<=maxLen) (hbig:(n+m)*by_<=140737488355328)
  (h:∀b' q tl,n+m<=q->q<=maxLen->tl.length=(q-(n+m))*sz->O cx ops rest k ((dst,.slice (some ⟨b',0,none⟩) (n+m) q)::e) (.blk b' (cs.take (n*sz)++zs++tl) u::L) F Q) :
  O cx ops (⟨some dst,.call ⟨.builtin .append, #[d,s], #[t,t]⟩,ty,pos,after,g'⟩::rest) k e L F Q:=by
 refine T4 (λr L' F'=>∃b' q tl,n+m<=q/\q<=maxLen/\tl.length=(q-(n+m))*sz/\r = .slice (some ⟨b',0,none⟩) (n+m) q/\L' = .blk b' (cs.take (n*sz)++zs++tl) u::L/\F' = F) hg hd (λa w he hst =>?_) (λr L' F' ⟨b',q,tl,a1,a2,a3,hr,hL,hF⟩=>by rw[hr,hL,hF];exact h b' q tl a1 a2 a3);obtain⟨hu,i0,z,hi0,hz,hsz,hby,hzs,hpos⟩:=hT;have hok:(Ent.blk g cs u').ok w:=hst.ok _ (List.mem_of_getElem? hi);have hrun:=run_append_grow (P:=cx.P) w t ty u i0 z hu hi0 hz ⟨g,0,none⟩ n cap (cs.take (n*sz)) (by rw[hsz,List.length_take];exact Nat.min_eq_left hn) (λj v hj=>by
  rw[add_mk,Nat.zero_add];refine Ajy hok ?_;rw[List.getElem?_take] at hj;split at hj
  ·exact hj
  ·cases hj) ⟨b,off,none⟩ m sc zs (by rw[hsz];exact hl) (λj v hj=>by rw[add_mk];exact hsrc w hst j v hj) hroom (by simp[maxLen] at h63;omega) (by rw[hby];exact growslice_fits hroom hbig)
 refine⟨_,_,_,F,?_,(hst.quiet (Chg.drew [] w)).alloc (cs.take (n*sz)++zs++(Builtin.zeroCells z.cells (grownCap w (n+m) cap u-(n+m))).toList) u,w.heap.size,grownCap w (n+m) cap u,_,(grownCap_ge w (n+m) cap u),grownCap_le_maxLen w _ _ _ h63,?_,rfl,rfl,rfl⟩
 ·simp[execOp,resolve,invoke,builtin,he.ev hx,he.ev hy,hrun];congr 3;apply Array.ext';simp
 ·simp[Builtin.zeroCells,hzs]
theorem A4i{dst:Nat}{d s:Operand}{t ty u:TypeId}{pos:String}{after:Array Edge}{g':Option (Nat×Bool)}{a0:Option Addr}{b off m sc sz by_:Nat}{zs:List Value}(hg:Gd ops e g' = some true)(hd:Nat.blt dst cx.n=true)(hT:ElTy cx.P t u sz by_)
  (hx:Env.ev e d=some (.slice a0 0 0)) (hy:Env.ev e s=some (.slice (some ⟨b,off,none⟩) m sc)) (hsrc:Aak cx L F b off zs) (hl:zs.length=m*sz) (hm : 0<m) (h63:m<=maxLen) (hbig:m*by_<=140737488355328) (h1:∀v,v∈zs->one v=true)
  (h:∀b' q tl,m<=q->q<=maxLen->tl.length=(q-m)*sz->O cx ops rest k ((dst,.slice (some ⟨b',0,none⟩) m q)::e) (.blk b' (zs++tl) u::L) F Q) :
  O cx ops (⟨some dst,.call ⟨.builtin .append, #[d,s], #[t,t]⟩,ty,pos,after,g'⟩::rest) k e L F Q:=by
 refine T4 (λr L' F'=>∃b' q tl,m<=q/\q<=maxLen/\tl.length=(q-m)*sz/\r = .slice (some ⟨b',0,none⟩) m q/\L' = .blk b' (zs++tl) u::L/\F' = F) hg hd (λa w he hst =>?_) (λr L' F' ⟨b',q,tl,a1,a2,a3,hr,hL,hF⟩=>by rw[hr,hL,hF];exact h b' q tl a1 a2 a3);obtain⟨hu,i0,z,hi0,hz,hsz,hby,hzs,hpos⟩:=hT;have hsr:Src cx.P i0.size t (.slice (some ⟨b,off,none⟩) m sc) m zs w:=Src.ofSlice w hu ⟨b,off,none⟩ m sc zs (by rw[hsz];exact hl) (λj v hj=>by rw[add_mk];exact hsrc w hst j v hj) (λv hv=>one_oneCell (h1 v hv));have hold:(Builtin.firstCells i0.size 0 (.slice a0 0 0)).run cx.P w.drew = .ok ([]:List Value).toArray w.drew:=by cases a0 with|none=>exact run_firstCells_none w.drew i0.size 0 0 0|some p=>exact run_firstCells_some w.drew i0.size 0 p 0 0 [] (by simp) (by simp)
 have hrun:=run_append_grow_src (P:=cx.P) w t t ty u i0 z hu hi0 hz a0 0 0 [] hold _ m zs hsr (by omega) (by simp[maxLen] at h63;omega) (by rw[hby];exact growslice_fits (by omega) (by simpa using hbig));rw[Nat.zero_add] at hrun;refine⟨_,_,_,F,?_,(hst.quiet (Chg.drew [] w)).alloc (zs++(Builtin.zeroCells z.cells (grownCap w m 0 u-m)).toList) u,w.heap.size,grownCap w m 0 u,_,(grownCap_ge w m 0 u),grownCap_le_maxLen w _ _ _ h63,?_,rfl,rfl,rfl⟩
 ·simp[execOp,resolve,invoke,builtin,he.ev hx,he.ev hy,hrun];congr 3;apply Array.ext';simp
 ·simp[Builtin.zeroCells,hzs]
theorem Su{P:Program}{x y:Operand}{t u:TypeId}{sz by_:Nat}{g c:Nat}{ad:Option Addr}(hT:ElTy P t u sz by_)(hx:Env.ev e x=some (.slice (some ⟨g,0,none⟩) 0 0))(hy:Env.ev e y=some (.slice ad 0 c)):Pure P e (.call ⟨.builtin .append, #[x,y], #[t,t]⟩) (.slice (some ⟨g,0,none⟩) 0 0):=λn a w o he ho=>by
 obtain⟨hu,i0,z,hi0,hz,hsz,hby,hzs,hpos⟩:=hT;have hr:∀ty,(Builtin.append_ #[t,t] ty #[.slice (some ⟨g,0,none⟩) 0 0,.slice ad 0 c]).run P w = .ok (.slice (some ⟨g,0,none⟩) 0 0) w:=λty=>by cases ad<;>simp[ run_underlying hu,go_sem,sizeOf,typeInfo,hi0,loadCells]
 simp[execOp,ho,resolve,invoke,builtin,he.ev hx,he.ev hy,hr]
theorem A1u{dst:Nat}{d s:Operand}{t tn ty u u':TypeId}{kn kq:IntKind}{pos:String}{after:Array Edge}{g':Option (Nat×Bool)}{g n cap sz by_:Nat}{m:Int}{cs:List Value}(i:Nat)(hg:Gd ops e g' = some true)(hd:Nat.blt dst cx.n=true)(hT:ElTy cx.P t u sz by_)(htn:(match cx.P.underlying tn with|some (.int k')=>decide (k' = kn)|_=>false)=true)
  (hx:Env.ev e d=some (.slice (some ⟨g,0,none⟩) n cap)) (hy:Env.ev e s=some (.int kq m)) (hi:L[i]? = some (.blk g cs u')) (hm : 0<m) (hn:n*sz<=cs.length) (hroom:cap<n+m.toNat) (h63:n+m.toNat<=maxLen) (hbig:(n+m.toNat)*by_<=140737488355328)
  (h:∀b' q tl,n+m.toNat<=q->q<=maxLen->tl.length=(q-n)*sz->O cx ops rest k ((dst,.slice (some ⟨b',0,none⟩) (n+m.toNat) q)::e) (.blk b' (cs.take (n*sz)++tl) u::L) F Q) :
  O cx ops (⟨some dst,.call ⟨.builtin .append, #[d,s], #[t,tn]⟩,ty,pos,after,g'⟩::rest) k e L F Q:=by
 obtain⟨j,rfl⟩:∃j:Nat,m=j:=⟨m.toNat,by omega⟩;simp at hroom h63 hbig h;refine T4 (λr L' F'=>∃b' q tl,n+j<=q/\q<=maxLen/\tl.length=(q-n)*sz/\r = .slice (some ⟨b',0,none⟩) (n+j) q/\L' = .blk b' (cs.take (n*sz)++tl) u::L/\F' = F) hg hd (λa w he hst =>?_) (λr L' F' ⟨b',q,tl,a1,a2,a3,hr,hL,hF⟩=>by rw[hr,hL,hF];exact h b' q tl a1 a2 a3);obtain⟨hu,i0,z,hi0,hz,hsz,hby,hzs,hpos⟩:=hT;have htn':cx.P.underlying tn=some (.int kn):=by grind
 have hok:(Ent.blk g cs u').ok w:=hst.ok _ (List.mem_of_getElem? hi);have hold:(Builtin.firstCells i0.size n (.slice (some ⟨g,0,none⟩) n cap)).run cx.P w.drew = .ok (cs.take (n*sz)).toArray w.drew:=run_firstCells_some (P:=cx.P) w.drew i0.size n ⟨g,0,none⟩ n cap (cs.take (n*sz)) (by rw[hsz,List.length_take];exact Nat.min_eq_left hn) (λj v hj=>by
  rw[add_mk,Nat.zero_add];have hc:w.cell? ⟨g,j,none⟩=some v:=by
   refine Ajy hok ?_;rw[List.getElem?_take] at hj;split at hj
   ·exact hj
   ·cases hj
  simpa using hc)
 have hrun:=Lib.run_append_grow_zeros (P:=cx.P) w t tn ty u i0 z kq kn hu htn' hi0 hz (some ⟨g,0,none⟩) n cap (cs.take (n*sz)) hold j (by omega) (by omega) hroom (by simp[maxLen] at h63;omega) (by rw[hby];have:j*by_<=(n+j)*by_:=Nat.mul_le_mul_right _ (by omega);omega) (by rw[hby];exact growslice_fits hroom hbig)
 have hge:=grownCap_ge w (n+j) cap u;refine⟨_,_,_,F,?_,(hst.quiet (Chg.drew [] w)).alloc (cs.take (n*sz)++((Builtin.zeroCells z.cells j).toList++(Builtin.zeroCells z.cells (grownCap w (n+j) cap u-(n+j))).toList)) u,w.heap.size,grownCap w (n+j) cap u,_,hge,grownCap_le_maxLen w _ _ _ h63,?_,rfl,rfl,rfl⟩
 ·simp[execOp,resolve,invoke,builtin,he.ev hx,he.ev hy,hrun];congr 3;apply Array.ext';simp
 ·simp[ Builtin.zeroCells];rw[<-Nat.add_mul];congr 1;omega
theorem Ajz{P:Program}{x:Operand}{t:TypeId}{a:Option Addr}{n c:Nat}(sz:Nat)(ht:(elSz P t == some sz)=true)(hx:Env.ev e x=some (.slice a n c)):Pure P e (.call ⟨.builtin .cap, #[x], #[t]⟩) (.int .i64 c):=λm a' w o he ho=>by obtain⟨u,hu,hs⟩:=L4 (n:=sz) (by simpa using ht);simp[execOp,ho,resolve,invoke,builtin,he.ev hx,Builtin.cap_,run_underlying hu,goInt]
theorem A0p{P:Program}{t:TypeId}{x z:Operand}{a:Option Addr}{n c:Nat}{jk:IntKind}{j:Int}(sz:Nat)(ht:(elSz P t == some sz)=true)(hx:Env.ev e x=some (.slice a n c))(hz:Env.ev e z=some (.int jk j))(h : 0<=j/\j<=n) :
  Pure P e (.slice t x (some z) none none) (.slice (if c=j.toNat then a else a.map (λp=>p.add (j.toNat*sz))) (n-j.toNat) (c-j.toNat)):=λn' a' w o he ho=>by
 obtain⟨u,hu,hs⟩:=L4 (n:=sz) (by simpa using ht);have hr:(Instr.sliceAt t (.slice a n c) (some (.int jk j)) none none).run P w = .ok (.slice (if c=j.toNat then a else a.map (λp=>p.add (j.toNat*sz))) (n-j.toNat) (c-j.toNat)) w:=by simp[Instr.sliceAt,Instr.slice,Sem.run_bind,run_underlying hu,Result.andThen_ok,Instr.sliceBounds,Instr.sliceBound,asIntOf,Sem.run_pure,if_pos h,run_sizeOf hs]
 simp[execOp,ho,Sem.run_bind,he.ev hx,he.ev hz,Zl2,Option.map_none,hr,Result.andThen_ok,Sem.run_pure]
theorem M3{P:Program}{t:TypeId}{x z:Operand}{g off n c:Nat}{jk:IntKind}{j:Int}(sz:Nat)(ht:(elSz P t == some sz)=true)(hx:Env.ev e x=some (.slice (some ⟨g,off,none⟩) n c))(hz:Env.ev e z=some (.int jk j))(h : 0<=j/\j<=n/\j<c) :
  Pure P e (.slice t x (some z) none none) (.slice (some ⟨g,off+j.toNat*sz,none⟩) (n-j.toNat) (c-j.toNat)):=by
 have:=A0p (P:=P) sz ht hx hz ⟨h.1,h.2.1⟩;rw[if_neg (by omega),Zl2,add_mk] at this;exact this
end
end Go.Sx
namespace Go.Ax
open Go.RowKit
structure ClOk (P:Program) (f:FuncId) (t:TypeId) (sz:Nat):Prop where
 enters:Sx.Enters P f
 con:∀(a:Option Addr) (n c:Nat) (xs:List Value),xs.all Sx.one=true->n<=1000000->Sx.Con P f [.slice a n c] [] (Sx.RdS (.slice a n c) sz n xs) (λv L _=>L=[.row v t sz n xs])
def Ae0(P:Program)(f:FuncId):Prop:=∀(a:Option Addr) (c:Nat),Sx.Con P f [.slice a 0 c] [] (λ_=>True) (λv _ _=>∃a',v = .slice a' 0 0)
theorem Brd{x:Vx}{c:Ck}{ys:List (El c)}{v:Value}(h:RF x.S x.w (.sl c ys .no) v):∃a cap vs,v = .slice a ys.length cap/\Bg x c ys vs/\∀w':World,(∀k,k<x.w.heap.size->w'.heap[k]? = x.w.heap[k]?)->Sx.RdS v (csz c) ys.length vs w':=by
 obtain⟨a,cap,vs,rfl,hrow,hcell⟩:=Eu h;refine⟨a,cap,vs,rfl,hrow,λw' hb=>⟨hrow.1,a,cap,rfl,?_⟩⟩;obtain⟨a',cap',he,hf⟩:=B2 h;simp only[Value.slice.injEq] at he;rcases hf with rfl|⟨b,o,e,hle,_⟩
 ·exact .inl rfl
 ·by_cases h0:ys=[]
  ·grind
  ·refine .inr ⟨b,o,he.1.trans e,by rw[he.2.2];exact hle.1,λj u hj =>?_⟩;have hc:=hcell b o (he.1.trans e) h0 j u hj;rw[World.cell?_of_block (a:=⟨b,o+j,none⟩) (hb b (R9 hc))];exact hc
theorem Aoe{P:Program}{Pre:World->Prop}{w:World}(h:∀w':World,(∀k,k<w.heap.size->w'.heap[k]? = w.heap[k]?)->Pre w'):Sx.StOk ⟨P,0,w,Sx.fps [],[]⟩ [] Pre w :=⟨Sx.Chg.refl _ _,by simp,by simp[Sx.fps],by simp[Sx.fps],by simp,λw' hc=>h w' λk hk=>hc.block k hk (by simp[Sx.fps])⟩
theorem S4{w w':World}(h:Sx.Chg [] w w'):Chg Cf w w' :=.of_blocks h.os h.tape h.output h.size λk hk=>h.block k hk (by simp)
theorem Qu{P:Program}{f:FuncId}{x:Vx}{c:Ck}{ys:List (El c)}{v:Value}(h:ClOk P f (x.el c) (csz c))(hrf:RF x.S x.w (.sl c ys .no) v)(hn:ys.length<=1000000) :
  ∃vs,Bg x c ys vs/\Calls P f #[v] x.w λen w'=>∃u,en = .returned u/\Chg Cf x.w w'/\((u = .slice none 0 0/\ys=[])\/∃g cap cur,u = .slice (some ⟨g,0,none⟩) ys.length cap/\(x.w.heap.size<=g/\g<w'.heap.size)/\w'.heap[g]? = some (.cells cur (x.el c) (0,0))/\cur.size=cap*csz c/\ys.length<=cap/\cap<=maxLen/\cur.toList.take (ys.length*csz c)=vs):=by
 obtain⟨a,cap,vs,rfl,hrow,hrd⟩:=Brd hrf;refine⟨vs,hrow,((h.con a ys.length cap vs (Zg2.2 hrow.one) hn).run x.w [] (Aoe hrd)).mono ?_⟩;rintro en w' ⟨u,L',F',rfl,rfl,hs⟩;refine⟨u,rfl,S4 (by simpa[Sx.fps] using hs.chg),?_⟩;have hok:w'.ownsRow 0 (x.el c) (csz c) u ys.length vs:=hs.ok (.row u (x.el c) (csz c) ys.length vs) (by simp);rcases hok.2 with ⟨rfl,h0⟩|⟨g,cap',cur,rfl,_,hh,hle,hm,hsz,htk⟩
 ·grind
 ·refine .inr ⟨g,cap',cur,rfl,⟨?_,(Zh2.1 hh).1⟩,hh,hsz,hle,hm,htk⟩;rcases hs.own g (by simp[Sx.fps,Sx.Ent.fp]) with h1|h1
  ·cases h1
  ·exact h1
def A1z(c:Ck):FT [.sl c false] [.sl c true]:=λ(ys:List (El c))=>cond (decide (ys.length<=1000000)) (some ys) none
theorem Zx{P:Program}{el:Ck->TypeId}{gl:Nat->Option Gv}{f:FuncId}{c:Ck}(h:ClOk P f (el c) (csz c)):FnOk P el gl f [.sl c false] [.sl c true] (A1z c):=by
 refine⟨h.enters,λx r hx w M vs hM _ hr =>?_⟩;have hx:cond (decide (List.length (α:=El c) x<=1000000)) (some x) none=some r:=hx;cases hd:decide (List.length (α:=El c) x<=1000000) with
 |false=>rw[hd] at hx;cases hx
 |true =>
  rw[hd] at hx;simp at hx;subst hx;simp at hd;simp[Br,Ce] at hr;obtain⟨v,_,rfl,hv,rfl⟩:=hr;obtain⟨us,hrow,hc⟩:=Qu (x:=v0 el M w) h hv.1 hd;refine hc.mono ?_;rintro en w' ⟨u,rfl,hch,hu⟩;rcases hu with ⟨rfl,h0⟩|⟨g,cap,cur,rfl,⟨hg1,hg2⟩,hh,hsz,hle,hm,htk⟩
  ·refine⟨_,⟨λ_=>0,λ_=>none⟩,rfl,hch,λp g o _ hg=>by simp at hg,λp q g o o' _ _ hg=>by simp at hg,?_⟩;subst h0;exact⟨λ_ _ =>.nil _ _ _ _ trivial,by simp[vr],λ_ =>.inl ⟨rfl,rfl,rfl⟩⟩
  ·let m:Mp:=⟨λ_=>0,λp=>if p=0 then some (g,List.length (α:=El c) x*csz c) else none⟩;have hmt:∀p b o,m.tk p=some (b,o)->p=0/\b=g/\o=List.length (α:=El c) x*csz c:=λp b o hp=>by grind
   refine⟨_,m,rfl,hch,λp b o _ hp =>?_,λp q b o o' _ _ hp hq=>by rw[(hmt p b o hp).1,(hmt q b o' hq).1],?_⟩
   ·obtain⟨_,rfl,_⟩:=hmt p b o hp;exact⟨hg1,hg2⟩
   ·simp[Eh,Rep];have hrow2:Bg (vr el M m [.sl c true] w') c x us:=⟨hrow.1,λi y j d hy hd=>by
     obtain⟨z,hz,hf⟩:=hrow.2 i y j d hy hd;refine⟨z,hz,RF.later hf (hch.mono λ_ _ h=>h.elim) λb i hi =>?_⟩;rcases hi with hi|⟨p,o,_,hp,_⟩
     ·exact .inl hi
     ·obtain⟨_,rfl,_⟩:=hmt p b o hp;exact .inr hg1⟩
    refine⟨Akr hrow2 ⟨hle,hm⟩ (λj z hj =>?_) (λi hi =>?_),by simp[vr],λ_ =>.inr ⟨g,cap,cur,rfl,by simp[vr,m],hh,hsz,hle,hm⟩⟩
    ·show w'.cell? _=_;simp[World.cell?,hh]
     grind
    ·rintro(hMi|⟨p,o,_,hp,ho⟩)
     ·have:=hM g i hMi;have hg1:w.heap.size<=g:=hg1;omega
     ·grind
section
variable {R:Type}{cx:Cx}
def Vf(c:Ck)(args:List D)(st:St)(K:List D->St->Option R):Option R:=match args with
 |[.sl c' xs _]=>match decide (c' = c)&&decide (xs.length<=1000000) with|true=>cond (List.isEmpty xs) (K [.sl c' [] .z] st) (K [.osl st.nb c' 0 ((xs.length:Nat):Int)] (Gp st (.dyn c' xs)))|false=>none
 |_=>none
theorem Agb{x:Vx}{c:Ck}{ys:List (El c)}{vs:List Value}{g cap:Nat}{cur:Array Value}(hrow:Bg x c ys vs)(hh:x.w.heap[g]? = some (.cells cur (x.el c) (0,0)))(hsz:cur.size=cap*csz c)(hle:ys.length<=cap)(hm:cap<=maxLen)(htk:cur.toList.take (ys.length*csz c)=vs):Ia x g (.dyn c ys):=by
 refine⟨Nat.le_trans hle hm,cur.toList,x.el c,by rw[Array.toArray_toList];exact hh,(by have hq:=Nat.mul_le_mul_right (csz c) hle;rw[<-hsz] at hq;simpa using hq),λi y j d hy hd =>?_⟩;obtain⟨u,hu,hf⟩:=hrow.2 i y j d hy hd;refine⟨u,?_,hf⟩;rw[<-htk,List.getElem?_take] at hu;split at hu
 ·exact hu
 ·cases hu
theorem Bd6{g:Nat}{c:Ck}(h:ClOk cx.P g (cx.el c) (csz c))(h0:Ae0 cx.P g){args:List D}{st:St}{K:List D->St->Option R}{r:R}(hc:Vf c args st K=some r):Hg cx g args st K r:=by
 unfold Vf at hc;split at hc
 ·rename_i c' xs tk;split at hc
  ·rename_i hcc;simp at hcc;obtain⟨rfl,hn⟩:=hcc;refine⟨h.enters,λm a as_ w vs hr hargs =>?_⟩;simp only[Reps] at hargs;obtain⟨v,_,rfl,⟨hrf,_⟩,rfl⟩:=hargs;by_cases he:xs=[]
   ·subst he;obtain⟨ad,cap,rfl,_⟩:=hrf.here.slice;refine((h0 ad cap).run w [] (Aoe λ_ _=>trivial)).mono ?_;rintro en w' ⟨u,L',F',rfl,⟨a',rfl⟩,hs⟩;have hch:Chg Cf w w':=S4 (by simpa[Sx.fps] using hs.chg);refine⟨_,rfl,_,st,m,hc,⟨rfl,rfl,rfl,rfl,rfl⟩,hr.quiet hch,?_⟩;simp[Eh];exact⟨λ_ _ =>.nil _ _ _ _ trivial,rfl,a',rfl⟩
   ·have hie:List.isEmpty xs=false:=by cases xs with|nil=>exact absurd rfl he|cons _ _=>rfl
    rw[hie] at hc;obtain⟨us,hrow,hcl⟩:=Qu (x:=vx cx m (fs st) w) h hrf hn;refine hcl.mono ?_;rintro en w' ⟨u,rfl,hch,hu⟩;rcases hu with ⟨_,e⟩|⟨g2,cap,cur,rfl,⟨hg1,hg2⟩,hh,hsz,hle,hm,htk⟩
    ·exact absurd e he
    ·obtain⟨m',h1,h2⟩:=hr.newAt (k :=.dyn c' xs) (g:=g2) hch hg1 hg2 (λx' nx hw=>Agb (hrow.later nx) (by rw[hw,nx.el];exact hh) hsz hle hm htk);rw[<-A2u] at h1 h2;refine⟨_,rfl,_,_,m',hc,⟨rfl,rfl,rfl,rfl,rfl⟩,h1,?_⟩;simp only[Rep] at h2;simp[Eh];obtain⟨k1,k2⟩:=h2;simp at k2;have hbl:(vx cx m' (fs (Gp st (.dyn c' xs))) w').m.bl st.nb=g2:=k2.symm;refine⟨k1,Int.le_refl _,Int.natCast_nonneg _,by have:=Nat.le_trans hle hm;omega,some ⟨g2,0,none⟩,cap,by simp,.inr (by rw[hbl];simp),by simpa using hle,hm,cur,(0,0),by rw[hbl];exact hh,by simpa using hsz⟩
  ·cases hc
 ·cases hc
def Aga(c:Ck)(args:List D)(st:St)(K:D->List Nat->St->Option R):Option R:=match args with
 |[.sl c' xs _]=>match decide (c' = c)&&decide (xs.length<=1000000) with
  |true=>cond (List.isEmpty xs) (K (.sl c' [] .z) [] st) (match blk st.bl st.nb with
   |none=>K (.osl st.nb c' 0 ((xs.length:Nat):Int)) [] (Gp st (.dyn c' xs))
   |some _=>none)
  |false=>none
 |_=>none
theorem Bc8{st:St}(k:Blk)(h:blk st.bl st.nb=none):∀b,b∉([]:List Nat)->Ea (fs st) (fs (Gp st k)) b:=λb _=>by
 have e:∀q,(fs (Gp st k)).bl q=if q=st.nb then some k else(fs st).bl q:=λq=>Az st.bl st.nb q k
 refine⟨λq hq =>?_,λq hq hlt =>?_⟩
 ·rw[e];by_cases hb:b=st.nb
  ·subst hb;have hq:blk st.bl st.nb=some q:=hq;rw[h] at hq;cases hq
  ·rw[if_neg hb];exact hq
 ·have hlt:b<st.nb:=hlt;rw[e,if_neg (by omega)] at hq;exact hq
theorem A3o{g:Nat}{c:Ck}(h:ClOk cx.P g (cx.el c) (csz c))(h0:Ae0 cx.P g):F0 (R:=R) cx g (Aga c):=by
 intro args st K r hc;unfold Aga at hc;split at hc
 ·rename_i c' xs tk;split at hc
  ·rename_i hcc;simp at hcc;obtain⟨rfl,hn⟩:=hcc;by_cases he:xs=[]
   ·subst he;refine⟨_,[],st,hc,⟨rfl,rfl,rfl,rfl,rfl⟩,Zn1 _,λb _=>Ea.of_bl rfl b,h.enters,λs m a as_ w vs hW hr hargs =>?_⟩;simp only[Reps] at hargs;obtain⟨v,_,rfl,⟨hrf,_⟩,rfl⟩:=hargs;obtain⟨ad,cap,rfl,_⟩:=hrf.here.slice;refine((h0 ad cap).run w [] (Aoe λ_ _=>trivial)).mono ?_;rintro en w' ⟨u,L',F',rfl,⟨a',rfl⟩,hs⟩;have hch:Chg Cf w w':=S4 (by simpa[Sx.fps] using hs.chg);rw[Iw hW];refine⟨_,rfl,m,hr.quiet hch,?_⟩;simp[Rep];exact⟨λ_ _ =>.nil _ _ _ _ trivial,rfl,a',rfl⟩
   ·have hie:List.isEmpty xs=false:=by cases xs with|nil=>exact absurd rfl he|cons _ _=>rfl
    rw[hie] at hc;cases hfr:blk st.bl st.nb with
    |some k=>rw[hfr] at hc;cases hc
    |none =>
    rw[hfr] at hc;refine⟨_,[],Gp st (.dyn c' xs),hc,⟨rfl,rfl,rfl,rfl,rfl⟩,Nat.le_succ _,Bc8 _ hfr,h.enters,λs m a as_ w vs hW hr hargs =>?_⟩;simp only[Reps] at hargs;obtain⟨v,_,rfl,⟨hrf,_⟩,rfl⟩:=hargs;obtain⟨us,hrow,hcl⟩:=Qu (x:=vx cx m s w) h hrf hn;refine hcl.mono ?_;rintro en w' ⟨u,rfl,hch,hu⟩;rcases hu with ⟨_,e⟩|⟨g2,cap,cur,rfl,⟨hg1,hg2⟩,hh,hsz,hle,hm,htk⟩
    ·exact absurd e he
    ·obtain⟨m',h1,h2⟩:=hr.newAt (k :=.dyn c' xs) (g:=g2) hch hg1 hg2 (λx' nx hw=>Agb (hrow.later nx) (by rw[hw,nx.el];exact hh) hsz hle hm htk);rw[Nn st _ s hW];refine⟨_,rfl,m',h1,?_⟩;simp only[Rep] at h2 ⊢;obtain⟨k1,k2⟩:=h2;simp at k2;have hnb:st.nb=s.nb:=hW.2.1.symm;rw[hnb];have hbl:(vx cx m' { s with bl:=λb=>if b=s.nb then some (.dyn c' xs) else s.bl b,nb:=s.nb+1 } w').m.bl s.nb=g2:=k2.symm;refine⟨k1,Int.le_refl _,Int.natCast_nonneg _,by have:=Nat.le_trans hle hm;omega,some ⟨g2,0,none⟩,cap,by simp,.inr (by rw[hbl];simp),by simpa using hle,hm,cur,(0,0),by rw[hbl];exact hh,by simpa using hsz⟩
  ·cases hc
 ·cases hc
theorem A4s{α:Type}(l:List α):cut l 0 (0+((l.length:Nat):Int))=l:=by simp[cut]
theorem A5l{m:Mp}{a:Act}{as_:List Act}{st:St}{w:World}(hr:Rel cx m a as_ (fs st) w){b cap:Nat}{c:Ck}{xs:List (El c)}(hb:blk st.bl b=some (.dyn c xs)){cur:Array Value}(hh:w.heap[m.bl b]? = some (.cells cur (cx.el c) (0,0)))(hsz:cur.size=cap*csz c)(hle:xs.length<=cap)(hm:cap<=maxLen) :
  Rel cx m a as_ (fs { st with bl:=Bm st.bl b }) w/\Rep (vx cx m (fs { st with bl:=Bm st.bl b }) w) (.sl c xs .no) (.slice (some ⟨m.bl b,0,none⟩) xs.length cap):=by
 have hd:Rep (vx cx m (fs st) w) (.osl b c 0 ((xs.length:Nat):Int)) (.slice (some ⟨m.bl b,0,none⟩) xs.length cap):=by simp only[Rep];exact⟨(hr.blks b _ hb).1,Int.le_refl _,Int.natCast_nonneg _,by have:=Nat.le_trans hle hm;omega,some ⟨m.bl b,0,none⟩,cap,by simp,.inr (by simp[vx]),by simpa using hle,hm,cur,(0,0),hh,by simpa using hsz⟩
 have hf:Bbd st.bl (.osl b c 0 ((xs.length:Nat):Int)) (λd bl=>some (d,bl))=some (.sl c xs .no,Bm st.bl b):=by simp only[Bbd,hb];rw[A4s];refine(Ayv ?_);simp
 obtain⟨d',bl',hk,hrel,_,hrep,_⟩:=Atu hr hd hf;simp at hk;obtain⟨rfl,rfl⟩:=hk;exact⟨hrel,hrep⟩
theorem Blb{m:Mp}{a:Act}{as_:List Act}{st:St}{w w':World}(hr:Rel cx m a as_ (fs st) w){b cap:Nat}{c:Ck}{xs xs':List (El c)}{vs':List Value}(hb:blk st.bl b=some (.dyn c xs))(hch:Chg (λq _=>q=m.bl b) w w')(hh:w'.heap[m.bl b]? = some (.cells vs'.toArray (cx.el c) (0,0)))(hl:vs'.length=cap*csz c)(hrow:Bg (vx cx m (fs st) w) c xs' (vs'.take (xs'.length*csz c)))(hle:xs'.length<=cap)(hm:cap<=maxLen) :
  ∃m',Rel cx m' a as_ (fs { st with bl:=Bm st.bl b,nb:=st.nb+1 }) w'/\Rep (vx cx m' (fs { st with bl:=Bm st.bl b,nb:=st.nb+1 }) w') (.sl c xs' .no) (.slice (some ⟨m.bl b,0,none⟩) xs'.length cap):=by
 have hrel1:=hr.write (k :=.dyn c xs') (b:=b) hb hch (λx' nx hw=>Agb (hrow.later nx) (by rw[hw,nx.el];exact hh) (by simpa using hl) hle hm (by simp));have e1:fs { st with bl:=Ge st.bl b (.dyn c xs') }={ fs st with bl:=λq=>if q=b then some (.dyn c xs') else(fs st).bl q }:=by
  refine FS.eq rfl rfl rfl rfl rfl ?_ rfl rfl rfl;funext q;show blk (Ge st.bl b _) q=_;rw[Hn];by_cases hq:q=b
  ·subst hq;simp[hb]
  ·simp[hq];rfl
 rw[<-e1] at hrel1;have hb1:blk (Ge st.bl b (.dyn c xs')) b=some (.dyn c xs'):=by rw[Hn,if_pos rfl,hb];rfl
 obtain⟨h1,h2⟩:=A5l (st:={ st with bl:=Ge st.bl b (.dyn c xs') }) hrel1 hb1 hh (by simpa using hl) hle hm;have e2:fs { st with bl:=Bm (Ge st.bl b (.dyn c xs')) b }=fs { st with bl:=Bm st.bl b }:=by refine FS.eq rfl rfl rfl rfl rfl ?_ rfl rfl rfl;funext q;show blk (Bm (Ge st.bl b _) b) q=blk (Bm st.bl b) q;rw[Ds,Ds,Hn];by_cases hq:q=b<;>simp[hq]
 have h1:Rel cx m a as_ (fs { st with bl:=Bm st.bl b }) w':=by rw[<-e2];exact h1
 have h3:=Rel.raise (st:={ st with bl:=Bm st.bl b }) (nb:=st.nb+1) (nt:=st.nt) (Nat.le_succ _) (Zn1 _) h1;refine⟨m,h3,?_⟩;simp at h2 ⊢;refine⟨?_,trivial⟩;have hS:(vx cx m (fs { st with bl:=Bm (Ge st.bl b (.dyn c xs')) b }) w').S=(vx cx m (fs { st with bl:=Bm st.bl b,nb:=st.nb+1 }) w').S:=by show(vx cx m (fs { st with bl:=Bm (Ge st.bl b (.dyn c xs')) b }) w').S=(vx cx m (fs { st with bl:=Bm st.bl b }) w').S;rw[e2]
 rw[<-hS];exact h2.1
theorem Bjm{m:Mp}{a:Act}{as_:List Act}{st:St}{w w':World}(hr:Rel cx m a as_ (fs st) w){b g cap:Nat}{c:Ck}{xs':List (El c)}{vs':List Value}(hch:Chg Cf w w')(hg1:w.heap.size<=g)(hh:w'.heap[g]? = some (.cells vs'.toArray (cx.el c) (0,0)))(hl:vs'.length=cap*csz c)(hrow:Bg (vx cx m (fs st) w) c xs' (vs'.take (xs'.length*csz c)))(hle:xs'.length<=cap)(hm:cap<=maxLen) :
  ∃m',Rel cx m' a as_ (fs { st with bl:=Bm st.bl b,nb:=st.nb+1 }) w'/\Rep (vx cx m' (fs { st with bl:=Bm st.bl b,nb:=st.nb+1 }) w') (.sl c xs' .no) (.slice (some ⟨g,0,none⟩) xs'.length cap):=by
 obtain⟨m',h1,h2⟩:=hr.newAt (k :=.dyn c xs') (g:=g) hch hg1 (Zh2.1 hh).1 (λx' nx hw=>Agb (hrow.later nx) (by rw[hw,nx.el];exact hh) (by simpa using hl) hle hm (by simp));rw[<-A2u] at h1 h2;simp only[Rep] at h2;have k2:=h2.2;simp at k2;have hbl:m'.bl st.nb=g:=k2.symm;have hb1:blk (Gp st (.dyn c xs')).bl st.nb=some (.dyn c xs'):=by show blk ((st.nb,_)::st.bl) st.nb=_;rw[Az,if_pos rfl]
 obtain⟨h3,h4⟩:=A5l (st:=Gp st (.dyn c xs')) h1 hb1 (by rw[hbl];exact hh) (by simpa using hl) hle hm;rw[hbl] at h4;obtain⟨h5,nx⟩:=h3.drop b;have h6:=Rep.later nx _ _ h4;have hnone:blk st.bl st.nb=none:=by cases hk:blk st.bl st.nb with|none=>rfl|some k=>exact absurd (hr.blks st.nb k hk).1 (Nat.lt_irrefl _)
 have e:fs { { Gp st (.dyn c xs') with bl:=Bm (Gp st (.dyn c xs')).bl st.nb } with bl:=Bm (Bm (Gp st (.dyn c xs')).bl st.nb) b }=fs { st with bl:=Bm st.bl b,nb:=st.nb+1 }:=by
  refine FS.eq rfl rfl rfl rfl rfl ?_ rfl rfl rfl;funext q;show blk (Bm (Bm ((st.nb,_)::st.bl) st.nb) b) q=blk (Bm st.bl b) q;rw[Ds,Ds,Ds,Az];by_cases hq:q=b
  ·simp[hq]
  ·rw[if_neg hq,if_neg hq];by_cases hn:q=st.nb
   ·rw[if_pos hn,hn,hnone]
   ·rw[if_neg hn,if_neg hn]
 rw[e] at h5 h6;exact⟨m',h5,h6⟩
theorem A5n{x:Vx}{c:Ck}{xs:List (El c)}{vs:List Value}(hl:xs.length*csz c<=vs.length)(h:∀i y j d,xs[i]? = some y->(enc c y)[j]? = some d->∃u,vs[i*csz c+j]? = some u/\RF x.S x.w d u):Bg x c xs (vs.take (xs.length*csz c)):=by
 refine⟨by rw[List.length_take];exact Nat.min_eq_left hl,λi y j d hy hd =>?_⟩;obtain⟨u,hu,hf⟩:=h i y j d hy hd;refine⟨u,?_,hf⟩;have hi:i<xs.length:=(Zi2.1 hy).1;have hj:j<csz c:=by rw[<-B7 c y];exact(Zi2.1 hd).1
 have:i*csz c+j<xs.length*csz c:=by have h1:(i+1)*csz c<=xs.length*csz c:=Nat.mul_le_mul_right _ hi;rw[Nat.add_mul] at h1;omega
 rw[List.getElem?_take_of_lt this];exact hu
theorem Bg.take{x:Vx}{c:Ck}{xs:List (El c)}{vs:List Value}(h:Bg x c xs vs)(k:Nat)(hk:k<=xs.length):Bg x c (xs.take k) (vs.take (k*csz c)):=by
 have hkl:(xs.take k).length=k:=by rw[List.length_take];exact Nat.min_eq_left hk
 have:=A5n (x:=x) (c:=c) (xs:=xs.take k) (vs:=vs) (by rw[hkl,h.1];exact Nat.mul_le_mul_right _ hk) (λi y j d hy hd=>by
  rw[List.getElem?_take] at hy;split at hy
  ·exact h.2 i y j d hy hd
  ·cases hy)
 rwa[hkl] at this
theorem Bg.drop{x:Vx}{c:Ck}{xs:List (El c)}{vs:List Value}(h:Bg x c xs vs)(k:Nat):Bg x c (xs.drop k) (vs.drop (k*csz c)):=by refine⟨by rw[Za2,Za2,h.1,Nat.sub_mul],λi y j d hy hd =>?_⟩;rw[List.getElem?_drop] at hy;obtain⟨u,hu,hf⟩:=h.2 (k+i) y j d hy hd;refine⟨u,?_,hf⟩;rw[List.getElem?_drop,<-hu];congr 1;rw[Nat.add_mul,Nat.add_assoc]
theorem Bgz{w:World}{d:D}(h:FV w d (.tuple #[])):False:=by cases h
theorem Bhh{x:Vx}{c:Ck}{y:El c}{ys:List (El c)}{b o n cap g:Nat}{cs:Array Value}{t:TypeId}(h:RF x.S x.w (.sl c (y::ys) .no) (.slice (some ⟨b,o,none⟩) n cap))(hg:∀i,x.S g i)(hh:x.w.heap[g]? = some (.cells cs t (0,0))):b≠g:=by
 intro e;subst e;have hch:Chg x.S x.w (x.w.setRow b (List.replicate cs.size (.tuple #[])).toArray):=by have hsx:Sx.Chg [b] x.w (x.w.setRow b (List.replicate cs.size (.tuple #[])).toArray):=⟨rfl,rfl,rfl,by simp,λk _ hn=>setRow_other x.w b k _ (by simpa using hn)⟩;refine(Mj hsx (vs:=cs.toList) (us:=List.replicate cs.size (.tuple #[])) (t:=t) (by rw[Array.toArray_toList];exact hh) (setRow_heap _ b _ _ t (0,0) hh) (by simp)).mono λq i hq =>?_;subst hq;exact hg i
 obtain⟨a',cap',e,hf⟩:=(h _ hch).slice;rcases hf with e0|⟨b',o',rfl,_,hat⟩
 ·cases e0
 ·simp at e;obtain⟨⟨rfl,rfl⟩,_⟩:=e;have hlt : 0<(enc c y).length:=by rw[B7];exact Afy c
  obtain⟨u,hu,hfv⟩:=hat 0 y rfl 0 _ (Zo1 hlt);simp only[World.cell?,(setRow_heap x.w b _ (List.replicate cs.size (Value.tuple #[])).toArray t (0,0) hh)] at hu;simp at hu;have:u = .tuple #[]:=by obtain⟨hq,hu⟩:=Zh2.1 hu;simp at hu;exact hu.symm
  subst this;exact Bgz hfv
structure InsOk (P:Program) (f:FuncId) (t:TypeId):Prop where
 enters:Sx.Enters P f
 con:∀(g n i cap vb vo vc:Nat) (cs ys:List Value),0<n->i<=n->n<=cap->cs.length=cap*2->(∀v,v∈cs.take (n*2)->Sx.one v=true)->ys.length=2->(∀v,v∈ys->Sx.one v=true)->vb≠g->n<=1000000 ->
  Sx.Con P f [.slice (some ⟨g,0,none⟩) n cap,.int .i64 i,.slice (some ⟨vb,vo,none⟩) 1 vc] [.blk g cs t] (λw=>∀(j:Nat) v,ys[j]? = some v->w.cell? ⟨vb,vo+j,none⟩=some v) (λv L _ =>
   (∃cs',v = .slice (some ⟨g,0,none⟩) (n+1) cap/\n+1<=cap/\L=[.blk g cs' t]/\cs'.length=cs.length/\cs'.take ((n+1)*2)=cs.take (i*2)++ys++(cs.drop (i*2)).take ((n-i)*2)) \/
   (∃b cap' cs',v = .slice (some ⟨b,0,none⟩) (n+1) cap'/\n+1<=cap'/\cap'<=maxLen/\L=[.blk b cs' t,.blk g cs t]/\cs'.length=cap'*2/\cs'.take ((n+1)*2)=cs.take (i*2)++ys++(cs.drop (i*2)).take ((n-i)*2)))
 con0:∀(a:Option Addr) (vb vo vc:Nat) (ys:List Value),ys.length=2->(∀v,v∈ys->Sx.one v=true) ->
  Sx.Con P f [.slice a 0 0,.int .i64 0,.slice (some ⟨vb,vo,none⟩) 1 vc] [] (λw=>∀(j:Nat) v,ys[j]? = some v->w.cell? ⟨vb,vo+j,none⟩=some v) (λv L _=>∃b cap' cs',v = .slice (some ⟨b,0,none⟩) 1 cap'/\1<=cap'/\cap'<=maxLen/\L=[.blk b cs' t]/\cs'.length=cap'*2/\cs'.take 2=ys)
def Agm(args:List D)(st:St)(K:List D->St->Option R):Option R:=match args with
 |[.osl b .idx p n,.int .i64 i,.sl .idx [y] _]=>match blk st.bl b with
  |some (.dyn .idx xs)=>chk (decide (p=0)&&decide (0<n)&&decide (n=(xs.length:Int))&&decide (0<=i)&&decide (i<=n)&&decide (n<=1000000)) (K [.sl .idx (xs.take i.toNat++y::xs.drop i.toNat) .no] { st with bl:=Bm st.bl b,nb:=st.nb+1 })
  |_=>none
 |[.sl .idx [] .z,.int .i64 i,.sl .idx [y] _]=>chk (decide (i=0)) (K [.sl .idx [y] .no] st)
 |_=>none
theorem Apa{x:Vx}{y:El .idx}{v:Value}(h:RF x.S x.w (.sl .idx [y] .no) v):∃vb vo vc us,v = .slice (some ⟨vb,vo,none⟩) 1 vc/\Bg x .idx [y] us/\us.length=2/\(∀z,z∈us->Sx.one z=true)/\∀(j:Nat) u,us[j]? = some u->x.w.cell? ⟨vb,vo+j,none⟩=some u:=by
 obtain⟨a,cap,us,rfl,hrow,hcell⟩:=Eu h;obtain⟨a',cap',e,hf⟩:=B2 h;simp at e;rcases hf with e0|⟨b,o,e1,_⟩
 ·cases e0
 ·have ha:=e.1.trans e1;subst ha;exact⟨b,o,cap,us,rfl,hrow,by rw[hrow.1];rfl,hrow.one,hcell b o rfl (by simp)⟩
theorem A0g{g:Nat}(h:InsOk cx.P g (cx.el .idx)){args:List D}{st:St}{K:List D->St->Option R}{r:R}(hc:Agm args st K=some r):Hg cx g args st K r:=by
 unfold Agm at hc;split at hc
 ·rename_i b p n i y tk;split at hc
  ·rename_i xs hb;obtain⟨hk,hK⟩:=A1 hc;simp at hk;obtain⟨⟨⟨⟨⟨hp,hn⟩,hnl⟩,hi0⟩,hin⟩,hbig⟩:=hk;subst hp hnl;obtain⟨i,rfl⟩:∃k:Nat,i=k:=⟨i.toNat,by omega⟩;refine⟨h.enters,λm a as_ w vs hr hargs =>?_⟩;simp only[Reps] at hargs;obtain⟨v1,_,rfl,⟨hb1,_,_,_,ad,cap,rfl,had,hle,hcm,cur,f,hh1,hsz⟩,v2,_,rfl,⟨rfl,_⟩,v3,_,rfl,⟨hrf,_⟩,rfl⟩:=hargs;obtain⟨_,hlen,vs,t,hh2,hvl,hel⟩:=hr.blks b _ hb;have hh1:w.heap[m.bl b]? = some (.cells cur (cx.el .idx) f):=hh1;have hh2:w.heap[m.bl b]? = some (.cells vs.toArray t (0,0)):=hh2;rw[hh1] at hh2;simp at hh2;obtain⟨rfl,rfl,rfl⟩:=hh2;obtain rfl:=had.resolve_left (by omega);have hsz2:vs.length=cap*2:=by simpa[csz] using hsz
   simp at hle;have hrowx:=A5n (x:=vx cx m (fs st) w) hvl hel;obtain⟨vb,vo,vc,us,rfl,hrow3,hul,hu1,hucell⟩:=Apa hrf;have hbn:(fs st).bl b≠none:=by rw[show(fs st).bl b=some _ from hb];simp
   have hne:vb≠m.bl b:=Bhh (x:=vx cx m (fs st) w) hrf (λ_ =>.inr (.inl ⟨b,hbn,rfl⟩)) hh1;have hx1:∀v,v∈vs.take (xs.length*2)->Sx.one v=true:=hrowx.one;have hst:Sx.StOk ⟨cx.P,0,w,Sx.fps [.blk (m.bl b) vs (cx.el .idx)],[]⟩ [.blk (m.bl b) vs (cx.el .idx)] (λw=>∀(j:Nat) v,us[j]? = some v->w.cell? ⟨vb,vo+j,none⟩=some v) w:=by
    refine⟨Sx.Chg.refl _ _,λq hq =>?_,by simp[Sx.fps,Sx.Ent.fp],λq hq =>.inl hq,by simp,λw' hc' j v hj =>?_⟩
    ·simp at hq;subst hq;exact hh1
    ·refine hc'.cell (hucell j v hj) ?_;simpa[Sx.fps,Sx.Ent.fp] using hne
   have hargs:([.slice (some ⟨m.bl b,(0:Int).toNat*csz .idx,none⟩) ((xs.length:Nat):Int).toNat cap,.int .i64 (i:Int),.slice (some ⟨vb,vo,none⟩) 1 vc]:List Value)=[.slice (some ⟨m.bl b,0,none⟩) xs.length cap,.int .i64 i,.slice (some ⟨vb,vo,none⟩) 1 vc]:=by simp
   show Calls cx.P g ([.slice (some ⟨m.bl b,(0:Int).toNat*csz .idx,none⟩) ((xs.length:Nat):Int).toNat cap,.int .i64 (i:Int),.slice (some ⟨vb,vo,none⟩) 1 vc]:List Value).toArray w _;rw[hargs];refine((h.con (m.bl b) xs.length i cap vb vo vc vs us (by omega) (by omega) hle hsz2 hx1 hul hu1 hne (by omega)).run w [] hst).mono ?_;rintro en w' ⟨u,L',F',rfl,hpost,hs⟩;have hsc:Sx.Chg [m.bl b] w w':=by simpa[Sx.fps,Sx.Ent.fp] using hs.chg
   have hil:i<=xs.length:=by omega
   have hnew:Bg (vx cx m (fs st) w) .idx (xs.take i++y::xs.drop i) (vs.take (i*2)++us++(vs.drop (i*2)).take ((xs.length-i)*2)):=by
    have e3:=((hrowx.take i hil).append hrow3).append (hrowx.drop i);rw[Zj1,List.singleton_append] at e3;have q1:(vs.take (xs.length*csz .idx)).take (i*csz .idx)=vs.take (i*2):=by rw[List.take_take,Nat.min_eq_left (Nat.mul_le_mul_right _ hil)];rfl
    have q2:(vs.take (xs.length*csz .idx)).drop (i*csz .idx)=(vs.drop (i*2)).take ((xs.length-i)*2):=by rw[List.drop_take];show(vs.drop (i*2)).take (xs.length*2-i*2)=_;rw[<-Nat.sub_mul]
    rw[q1,q2] at e3;exact e3
   have hnl:(xs.take i++y::xs.drop i).length=xs.length+1:=by simp;omega
   simp at hK;rcases hpost with ⟨cs',rfl,hroom,rfl,hcl,htk⟩|⟨b',cap',cs',rfl,hroom,hcm',rfl,hcl,htk⟩
   ·have hh':w'.heap[m.bl b]? = some (.cells cs'.toArray (cx.el .idx) (0,0)):=hs.ok (.blk (m.bl b) cs' (cx.el .idx)) (by simp);obtain⟨m',k1,k2⟩:=Blb (c :=.idx) (xs':=xs.take i++y::xs.drop i) hr hb (Mj hsc hh1 hh' hcl) hh' (cap:=cap) (by rw[hcl];exact hsz2) (by rw[hnl];show Bg _ _ _ (cs'.take ((xs.length+1)*2));rw[htk];exact hnew) (by rw[hnl];exact hroom) hcm;rw[hnl] at k2;exact⟨_,rfl,_,_,m',hK,⟨rfl,rfl,rfl,rfl,rfl⟩,k1,k2⟩
   ·have hh':w'.heap[b']? = some (.cells cs'.toArray (cx.el .idx) (0,0)):=hs.ok (.blk b' cs' (cx.el .idx)) (by simp);have hho:w'.heap[m.bl b]? = some (.cells vs.toArray (cx.el .idx) (0,0)):=hs.ok (.blk (m.bl b) vs (cx.el .idx)) (by simp);have hbb:b'≠m.bl b:=by have:=hs.nodup;simpa[Sx.fps,Sx.Ent.fp] using this
    have hg1:w.heap.size<=b':=by
     rcases hs.own b' (by simp[Sx.fps,Sx.Ent.fp]) with h1|h1
     ·exact absurd (by simpa[Sx.fps,Sx.Ent.fp] using h1) hbb
     ·exact h1
    have hch:Chg Cf w w' :=.of_blocks hsc.os hsc.tape hsc.output hsc.size λk hk=>by
     by_cases hkb:k=m.bl b
     ·rw[hkb,hho,hh1]
     ·exact hsc.block k hk (by simpa using hkb)
    obtain⟨m',k1,k2⟩:=Bjm (b:=b) (c :=.idx) (xs':=xs.take i++y::xs.drop i) hr hch hg1 hh' (cap:=cap') hcl (by rw[hnl];show Bg _ _ _ (cs'.take ((xs.length+1)*2));rw[htk];exact hnew) (by rw[hnl];exact hroom) hcm';rw[hnl] at k2;exact⟨_,rfl,_,_,m',hK,⟨rfl,rfl,rfl,rfl,rfl⟩,k1,k2⟩
  ·cases hc
 ·rename_i i y tk;obtain⟨hk,hK⟩:=A1 hc;simp at hk;subst hk;refine⟨h.enters,λm a as_ w vs hr hargs =>?_⟩;simp only[Reps] at hargs;obtain⟨v1,_,rfl,⟨_,_,ad,rfl⟩,v2,_,rfl,⟨rfl,_⟩,v3,_,rfl,⟨hrf,_⟩,rfl⟩:=hargs;obtain⟨vb,vo,vc,us,rfl,hrow3,hul,hu1,hucell⟩:=Apa hrf;refine((h.con0 ad vb vo vc us hul hu1).run w [] (Aoe λw' hb j v hj =>?_)).mono ?_
  ·have hcv:=hucell j v hj;rw[World.cell?_of_block (a:=⟨vb,vo+j,none⟩) (hb vb (R9 hcv))];exact hcv
  ·rintro en w' ⟨u,L',F',rfl,⟨b',cap',cs',rfl,hroom,hcm',rfl,hcl,htk⟩,hs⟩;have hch:Chg Cf w w':=S4 (by simpa[Sx.fps] using hs.chg);have hh':w'.heap[b']? = some (.cells cs'.toArray (cx.el .idx) (0,0)):=hs.ok (.blk b' cs' (cx.el .idx)) (by simp);have hg1:w.heap.size<=b':=by
    rcases hs.own b' (by simp[Sx.fps,Sx.Ent.fp]) with h1|h1
    ·cases h1
    ·exact h1
   have nx:Nx (vx cx m (fs st) w) (vx cx m (fs st) w'):=⟨hch.mono (λ_ _ h=>h.elim),λb i hi =>.inl hi,rfl,λ_ _=>rfl,Zn1 _,Zn1 _,λt _ ha=>⟨ha,rfl,λg o hg=>hch.block g (hr.own_t ha hg) (λ_ h=>h)⟩⟩;refine⟨_,rfl,_,st,m,hK,⟨rfl,rfl,rfl,rfl,rfl⟩,hr.quiet hch,?_⟩;simp[Eh];refine⟨Akr (x:=vx cx m (fs st) w') (hrow3.later nx) ⟨hroom,hcm'⟩ (λj z hj =>?_) (λi _=>Ann hr hg1 i),trivial⟩;show w'.cell? _=_;simp[World.cell?,hh'];rw[<-htk,List.getElem?_take] at hj;split at hj
   ·simpa using hj
   ·cases hj
 ·cases hc
end
section
variable {R:Type}{P:Program}{el:Ck->TypeId}{gl:Nat->Option Gv}{tt:Nat->Ty}{cx:Cx}
theorem cCl(H:Hx P el gl tt cx){g:Nat}{c:Ck}(h:ClOk P g (el c) (csz c))(h0:Ae0 P g):G2 (R:=R) cx g (Vf c):=λ_ _ _ _ hc=>Bd6 (by rw[H.p,H.e];exact h) (by rw[H.p];exact h0) hc
theorem Bt9(H:Hx P el gl tt cx){g:Nat}{c:Ck}(h:ClOk P g (el c) (csz c))(h0:Ae0 P g):F0 (R:=R) cx g (Aga c):=A3o (by rw[H.p,H.e];exact h) (by rw[H.p];exact h0)
theorem Bt4(H:Hx P el gl tt cx){g:Nat}(h:InsOk P g (el .idx)):G2 (R:=R) cx g Agm:=λ_ _ _ _ hc=>A0g (by rw[H.p,H.e];exact h) hc
end
end Go.Ax
namespace Go.Sx
open Go.RowKit
section
variable {cx:Cx}{k:List KI}{e:Env}{L:Loc}{F:World->Prop}{Q:Exit->Act->World->Prop}{ops:Array Oper}{rest:List Oper}
theorem At2{dst:Nat}{d s:Operand}{t tn ty u:TypeId}{kn kq:IntKind}{pos:String}{after:Array Edge}{g':Option (Nat×Bool)}{sz by_:Nat}{m:Int}(hg:Gd ops e g' = some true)(hd:Nat.blt dst cx.n=true)(hT:ElTy cx.P t u sz by_)(htn:(match cx.P.underlying tn with|some (.int k')=>decide (k' = kn)|_=>false)=true)
  (hx:Env.ev e d=some (.slice none 0 0)) (hy:Env.ev e s=some (.int kq m)) (hm : 0<m) (h63:m.toNat<=maxLen) (hbig:m.toNat*by_<=140737488355328)
  (h:∀b' q cs,m.toNat<=q->q<=maxLen->List.length cs=q*sz->O cx ops rest k ((dst,.slice (some ⟨b',0,none⟩) m.toNat q)::e) (.blk b' cs u::L) F Q) :
  O cx ops (⟨some dst,.call ⟨.builtin .append, #[d,s], #[t,tn]⟩,ty,pos,after,g'⟩::rest) k e L F Q:=by
 obtain⟨j,rfl⟩:∃j:Nat,m=j:=⟨m.toNat,by omega⟩;simp at h63 hbig h;refine T4 (λr L' F'=>∃b' q cs,j<=q/\q<=maxLen/\List.length cs=q*sz/\r = .slice (some ⟨b',0,none⟩) j q/\L' = .blk b' cs u::L/\F' = F) hg hd (λa w he hst =>?_) (λr L' F' ⟨b',q,cs,a1,a2,a3,hr,hL,hF⟩=>by rw[hr,hL,hF];exact h b' q cs a1 a2 a3);obtain⟨hu,i0,z,hi0,hz,hsz,hby,hzs,hpos⟩:=hT;have htn':cx.P.underlying tn=some (.int kn):=by grind
 have hold:(Builtin.firstCells i0.size 0 (.slice none 0 0)).run cx.P w.drew = .ok ([]:List Value).toArray w.drew:=by simp[Builtin.firstCells,Sem.run_pure]
 have hrun:=Lib.run_append_grow_zeros (P:=cx.P) w t tn ty u i0 z kq kn hu htn' hi0 hz none 0 0 [] hold j (by omega) (by omega) (by omega) (by simp[maxLen] at h63;omega) (by rw[hby];omega) (by rw[hby];exact growslice_fits (by omega) (by simpa using hbig))
 have hge:=grownCap_ge w (0+j) 0 u;have hq2:=grownCap_le_maxLen w (0+j) 0 u (by simpa using h63);rw[Nat.zero_add] at hge hq2 hrun;refine⟨_,_,_,F,?_,(hst.quiet (Chg.drew [] w)).alloc ((Builtin.zeroCells z.cells j).toList++(Builtin.zeroCells z.cells (grownCap w j 0 u-j)).toList) u,w.heap.size,grownCap w j 0 u,_,hge,hq2,?_,rfl,rfl,rfl⟩
 ·simp[execOp,resolve,invoke,builtin,he.ev hx,he.ev hy,hrun];congr 3;apply Array.ext';simp
 ·simp[Builtin.zeroCells];rw[<-Nat.add_mul];congr 1;omega
end
end Go.Sx
namespace Go.Ax
open Go.RowKit
structure GrOk (P:Program) (f:FuncId) (t:TypeId) (sz:Nat):Prop where
 enters:Sx.Enters P f
 con:∀n:Int,0<n->n<=1000000->Sx.Con P f [.slice none 0 0,.int .i64 n] [] (λ_=>True) (λv L _=>∃b q cs,v = .slice (some ⟨b,0,none⟩) 0 q/\q<=maxLen/\List.length cs=q*sz/\L=[.blk b cs t])
 con0:Sx.Con P f [.slice none 0 0,.int .i64 0] [] (λ_=>True) (λv _ _=>v = .slice none 0 0)
section
variable {R:Type}{cx:Cx}
def Anc(c:Ck)(args:List D)(st:St)(K:List D->St->Option R):Option R:=match args with
 |[.sl c' [] .nil,.int .i64 n]=>match decide (c' = c)&&decide (0<=n)&&decide (n<=1000000) with|true=>K [.sl c' [] (.id st.nt)] (Cz st)|false=>none
 |_=>none
theorem Bpy(st:St):fs (Cz st)={ fs st with al:=λt=>((fs st).al t/\(none:Option Nat)≠some t)\/t=(fs st).nt,nt:=(fs st).nt+1 }:=by refine FS.eq rfl rfl rfl rfl rfl rfl rfl ?_ rfl;funext t;simp[fs,Cz];exact or_comm
theorem Bix{g:Nat}{c:Ck}(h:GrOk cx.P g (cx.el c) (csz c)){args:List D}{st:St}{K:List D->St->Option R}{r:R}(hc:Anc c args st K=some r):Hg cx g args st K r:=by
 unfold Anc at hc;split at hc
 ·rename_i c' n;split at hc
  ·rename_i hcc;simp at hcc;obtain⟨⟨rfl,hn0⟩,hn⟩:=hcc;refine⟨h.enters,λm a as_ w vs hr hargs =>?_⟩;simp only[Reps] at hargs;obtain⟨v1,_,rfl,⟨hb1,hb2⟩,v2,_,rfl,hb3,rfl⟩:=hargs;obtain⟨rfl,_⟩:=hb2;simp only[Rep] at hb3;obtain⟨rfl,_⟩:=hb3;obtain rfl|hpos:n=0\/0<n:=by omega
   ·refine(h.con0.run w [] (Aoe λ_ _=>trivial)).mono ?_;rintro en w' ⟨u,L',F',rfl,rfl,hs⟩;have hch:Chg Cf w w':=S4 (by simpa[Sx.fps] using hs.chg);obtain⟨hrel,nx⟩:=hr.right (t0:=none) (p:=none) (hch.mono (λ_ _ h=>h.elim)) (λg o hg=>by simp at hg);rw[<-Bpy st] at hrel nx;refine⟨_,rfl,_,_,_,hc,⟨rfl,rfl,rfl,rfl,rfl⟩,hrel,?_⟩;simp[Eh,Rep];exact⟨λ_ _ =>.nil _ _ _ _ trivial,by simp[vx,fs,Cz],λ_ =>.inl ⟨rfl,by simp[vx,fs],rfl⟩⟩
   ·refine((h.con n hpos hn).run w [] (Aoe λ_ _=>trivial)).mono ?_;rintro en w' ⟨u,L',F',rfl,⟨b,q,cs,rfl,hq,hl,rfl⟩,hs⟩;have hch:Chg Cf w w':=S4 (by simpa[Sx.fps] using hs.chg);have hh:w'.heap[b]? = some (.cells cs.toArray (cx.el c') (0,0)):=hs.ok (.blk b cs (cx.el c')) (by simp);have hbw:w.heap.size<=b:=by
     rcases hs.own b (by simp[Sx.fps,Sx.Ent.fp]) with h1|h1
     ·cases h1
     ·exact h1
    obtain⟨hrel,nx⟩:=hr.right (t0:=none) (p:=some (b,0)) (hch.mono (λ_ _ h=>h.elim)) (λg o hg=>by simp at hg;obtain⟨rfl,rfl⟩:=hg;exact⟨(Zh2.1 hh).1,.inl hbw⟩)
    rw[<-Bpy st] at hrel nx;refine⟨_,rfl,_,_,_,hc,⟨rfl,rfl,rfl,rfl,rfl⟩,hrel,?_⟩;simp[Eh,Rep];exact⟨λ_ _ =>.nil _ _ _ _ trivial,by simp[vx,fs,Cz],λ_ =>.inr ⟨b,q,cs.toArray,rfl,by simp[vx,fs],hh,by simpa using hl,by simp,hq⟩⟩
  ·cases hc
 ·cases hc
theorem Bjq{P:Program}{el:Ck->TypeId}{gl:Nat->Option Gv}{tt:Nat->Ty}(H:Hx P el gl tt cx){g:Nat}{c:Ck}(h:GrOk P g (el c) (csz c)):G2 (R:=R) cx g (Anc c):=λ_ _ _ _ hc=>Bix (by rw[H.p,H.e];exact h) hc
end
section
variable {R:Type}{px px2:Px R}{cx:Cx}
end
end Go.Ax
namespace Go.Ax
theorem C3{s:Str}{i:Nat}(h:i<s.length):bat s (i:Int)=((s[i]'h).toNat:Int):=by simp[bat,List.getD_eq_getElem?_getD,h]
theorem Aw{c:Ck}{xs:List (El c)}{i:Nat}(h:i<xs.length):at' c xs (i:Int)=xs[i]'h:=by simp[at',List.getD_eq_getElem?_getD,h]
theorem Bi8{n:Nat}(h:ln n):wr .i64 (n:Int)=(n:Int):=B0 (by simp only[ln,inI] at *;omega)
theorem As{i n:Nat}(h:i<n)(hn:ln n):wr .i64 ((i:Int)+1)=((i+1:Nat):Int):=by rw[B0 (by simp only[ln,inI] at *;omega)];rfl
theorem Av{α:Type}{l:List α}{i:Nat}(h:i<l.length):l.drop i=l[i]'h::l.drop (i+1):=List.drop_eq_getElem_cons h
theorem Ay{i n:Nat}(h:i<n):inb (i:Int) n=true:=by simp[Bnl,h]
theorem A8{V R:Type}{step:(V->Option R)->V->Option R}{k:Nat}{v:V}:Ak step (k+1) v=step (Ak step k) v:=rfl
theorem Ah{α:Type}{a b : α}:cond true a b=a:=rfl
theorem Af{α:Type}{a b : α}:cond false a b=b:=rfl
theorem A0{α:Type}{c:Bool}{a b : α}:cond c (some a) (some b)=some (cond c a b):=by cases c<;>rfl
theorem Ara{R:Type}{px:Px R}{cx:Cx}{b:Code}(h:∀st K,px.loop b st K=none):B3 cx px b:=λst K r hk=>by rw[h] at hk;cases hk
theorem I6{V R β:Type}{step:(V->Option R)->V->Option R}(n:Nat)(st:Nat->β->V)(Inv:Nat->β->Prop)(F:Nat->β->Option R)
  (hs:∀i,i<n->∀a,Inv i a->∀rec,(∀a',Inv (i+1) a'->rec (st (i+1) a')=F (i+1) a')->step rec (st i a)=F i a)
  (he:∀a,Inv n a->∀rec,step rec (st n a)=F n a):∀(k i:Nat) (a : β),i<=n->n-i<k->Inv i a->Ak step k (st i a)=F i a
 |0,_,_,_,h,_=>absurd h (Zm1 _)
 |k+1,i,a,hi,h,ha=>by
  rw[A8];by_cases hl:i<n
  ·exact hs i hl a ha _ λa' ha'=>I6 n st Inv F hs he k (i+1) a' (by omega) (by omega) ha'
  ·obtain rfl:i=n:=by omega
   exact he a ha _
theorem Bu{V R:Type}{step:(V->Option R)->V->Option R}(n:Nat)(st:Nat->V)(F:Nat->Option R)
  (hs:∀i,i<n->∀rec,rec (st (i+1))=F (i+1)->step rec (st i)=F i) (he:∀rec,step rec (st n)=F n):∀(k i:Nat),i<=n->n-i<k->Ak step k (st i)=F i:=λk i hi hk =>
 I6 n (λi (_:Unit)=>st i) (λ_ _=>True) (λi _=>F i) (λi hi _ _ rec h=>hs i hi rec (h () trivial)) (λ_ _ rec=>he rec) k i () hi hk trivial
theorem C6{i n:Nat}(h:i<n):decide ((i:Int)<(n:Int))=true:=Ze1 (by omega)
theorem E6(n:Nat):decide ((n:Int)<(n:Int))=false:=Zd1 (by omega)
def O0(e:Xpr):Xpr:=Xpr.mk e.kind ⟨e.v.kind,e.v.n,e.v.s⟩ e.name e.l
theorem Td(e:Xpr):O0 e=e:=by cases e;rfl
section
variable {R:Type}{cx:Cx}
def Afz(sa:List Sg)(c:Ck)(F:HV sa->Option (HV [.sl c true]))(args:List D)(st:St)(K:D->List Nat->St->Option R):Option R:=match K9 sa [] args with|some x=>(F x).bind λr=>K (.sl c r (.id st.nt)) [] (Cz st)|none=>none
theorem A06{g:Nat}{sa:List Sg}{c:Ck}{F:HV sa->Option (HV [.sl c true])}(h:FnOk cx.P cx.el cx.gl g sa [.sl c true] F)(hsa:C2 (Bb 0 sa) []=true):F0 (R:=R) cx g (Afz sa c F):=by
 intro args st K r hc;unfold Afz at hc;split at hc
 ·rename_i x hx;cases hF:F x with
  |none=>rw[hF] at hc;cases hc
  |some r0 =>
   rw[hF,Zc1] at hc;refine⟨_,[],_,hc,⟨rfl,rfl,rfl,rfl,rfl⟩,Zn1 _,λb _=>Ea.of_bl rfl b,h.enters,λs m a as_ w vs hW hr hargs =>?_⟩;obtain⟨hM,hgl⟩:=Hc hr;have hin:Reps (v0 cx.el (vx cx m s w).S w) (Br 0 sa x) vs:=Fa (X:=vx cx m s w) (X':=v0 cx.el (vx cx m s w).S w) (λ_ _ h=>h) rfl rfl 0 hx (λt ht=>by cases ht) hargs (λp hp=>by rw[(Gb hsa)] at hp;cases hp);refine(h.run x r0 hF w _ vs hM hgl hin).mono ?_;rintro en w' ⟨v,mc,rfl,hch,hfresh,_,hrep⟩;have h0:(0:Nat)∈Bb 0 [Sg.sl c true]:=by simp[Bb]
   obtain⟨hrel,nx⟩:=hr.right (t0:=none) (p:=mc.tk 0) (hch.mono (λ_ _ h=>h.elim)) (λg o hg=>⟨(hfresh 0 g o h0 hg).2,.inl (hfresh 0 g o h0 hg).1⟩);have hfs:=Aat st st.tk none s hW (λt=>by simp);have hnt:st.nt=s.nt:=hW.2.2.2.symm;refine⟨v,rfl,{ m with tk:=λt=>if t=s.nt then mc.tk 0 else m.tk t },?_,?_⟩
   ·rw[show Cz st=Cz { st with tk:=st.tk } from rfl,hfs];exact hrel
   ·rw[show Cz st=Cz { st with tk:=st.tk } from rfl,hfs];obtain⟨us,rfl,hreps⟩:=X2 hrep;have:=Vy (x:=vr cx.el (vx cx m s w).S mc [.sl c true] w') (x':=vx cx { m with tk:=λt=>if t=s.nt then mc.tk 0 else m.tk t } { s with al:=λt=>(s.al t/\(none:Option Nat)≠some t)\/t=s.nt,nt:=s.nt+1 } w') (n:=s.nt) (by
     rintro b i (h|⟨q,hq,rfl⟩|⟨t,o,h1,h2,h3⟩)
     ·exact .inl (.inl h)
     ·exact .inl (.inr (.inl ⟨q,hq,rfl⟩))
     ·by_cases ht:t=s.nt
      ·subst ht;simp at h2;exact .inr ⟨0,o,h0,h2,h3⟩
      ·rcases h1 with ⟨h1,_⟩|h1
       ·simp[ht] at h2;exact .inl (.inr (.inr ⟨t,o,h1,h2,h3⟩))
       ·exact absurd h1 ht) rfl rfl 0 hreps (λp hp=>by
     have hp0:p=0:=by simpa[Bb] using hp
     subst hp0;refine⟨hp,?_,?_⟩
     ·show s.nt+0<s.nt+1;omega
     ·simp[vx,vr])
    rw[Nat.add_zero] at this;rw[hnt];exact Gl this
 ·cases hc
end
section
variable {R:Type}{P:Program}{el:Ck->TypeId}{gl:Nat->Option Gv}{tt:Nat->Ty}{cx:Cx}
theorem wo1(H:Hx P el gl tt cx){g:Nat}{sa:List Sg}{c:Ck}{F:HV sa->Option (HV [.sl c true])}{l:List (Nat×Q0 R)}(h:FnOk P el gl g sa [.sl c true] F)(hl:∀g f,(g,f)∈l->F0 cx g f)(hsa:C2 (Bb 0 sa) []=true:=by kernel_rfl):∀g' f',(g',f')∈(g,Afz sa c F)::l->F0 cx g' f':=Aci (A06 (by rw[H.p,H.e,H.g];exact h) hsa) hl
end
end Go.Ax
namespace Go.Proofs.YtblaahgjaopdnaaGreatDoor
open Go.Ax
def signsL:List (Int×Str):=[(4,[65,78,68]),(5,[79,82]),(6,[61]),(7,[60,62]),(8,[60]),(9,[60,61]),(10,[62]),(11,[62,61]),(12,[43]),(13,[45]),(14,[42])]
def wordsL:List Str:=[[65,68,68],[65,78,68],[65,83,67],[66,79,79,76],[66,89],[66,89,84,69,83],[67,72,69,67,75],[67,82,69,65,84,69],[68,69,76,69,84,69],[68,69,83,67],[68,82,79,80],[70,65,76,83,69],[70,82,79,77],[73,78,68,69,88],[73,78,83,69,82,84],[73,78,84],[73,78,84,79],[73,83],[75,69,89],[76,73,77,73,84],[78,79,84],[78,85,76,76],[79,78],[79,82],[79,82,68,69,82],[80,82,73,77,65,82,89],[82,69,70,69,82,69,78,67,69,83],[83,69,76,69,67,84],[83,69,84],[84,65,66,76,69],[84,69,88,84],[84,82,85,69],[85,78,73,81,85,69],[85,80,68,65,84,69],[86,65,76,85,69,83],[87,72,69,82,69]]
def Asa:List Str:=[[],[],[66,79,79,76],[73,78,84],[84,69,88,84],[66,89,84,69,83]]
def ttL:List (Nat×Ax.Ty):=[
 (1,.fn),
 (3,.int .i64),
 (4,.bool),
 (5,.int .u8),
 (9,.str),
 (21,.int .i32),
 (22,.sl .res),
 (24,.st (some .outc) [(0,3),(1,3),(2,22)] [.int .i64 0,.int .i64 0,.sl .res [] .nil]),
 (25,.sl .byte),
 (27,.fn),
 (28,.int .i64),
 (40,.int .u64),
 (42,.sl .vals),
 (44,.st (some .res) [(0,42),(1,3)] [.sl .vals [] .nil,.int .i64 0]),
 (45,.sl .val),
 (47,.st (some .val) [(0,3),(1,3),(2,9)] [.int .i64 0,.int .i64 0,.str []]),
 (48,.ptr),
 (51,.sl .node),
 (53,.st (some .node) [(0,3),(1,25),(2,4),(3,25),(4,51),(5,25)] [.int .i64 0,.sl .byte [] .nil,.bool false,.sl .byte [] .nil,.sl .node [] .nil,.sl .byte [] .nil]),
 (57,.int .u64),
 (61,.ptr),
 (63,.st none [(0,25),(1,3),(2,4)] [.sl .byte [] .nil,.int .i64 0,.bool false]),
 (77,.st (some .stt) [(0,53)] [.int .i64 0,.sl .byte [] .nil,.bool false,.sl .byte [] .nil,.sl .node [] .nil,.sl .byte [] .nil]),
 (78,.sl .stt),
 (80,.st none [(0,77),(6,78),(7,25)] [.int .i64 0,.sl .byte [] .nil,.bool false,.sl .byte [] .nil,.sl .node [] .nil,.sl .byte [] .nil,.sl .stt [] .nil,.sl .byte [] .nil]),
 (81,.sl .str),
 (83,.sl .col),
 (84,.sl .expr),
 (85,.sl .exprs),
 (86,.sl .set),
 (88,.st (some .expr) [(0,3),(1,47),(4,9),(5,84)] [.int .i64 0,.int .i64 0,.int .i64 0,.str [],.str [],.sl .expr [] .nil]),
 (89,.sl .bool),
 (91,.st (some .stmt) [(0,3),(1,9),(2,9),(3,83),(4,81),(5,84),(6,85),(7,86),(8,4),(9,88),(15,81),(16,89),(17,3)] [.int .i64 0,.str [],.str [],.sl .col [] .nil,.sl .str [] .nil,.sl .expr [] .nil,.sl .exprs [] .nil,.sl .set [] .nil,.bool false,.int .i64 0,.int .i64 0,.int .i64 0,.str [],.str [],.sl .expr [] .nil,.sl .str [] .nil,.sl .bool [] .nil,.int .i64 0]),
 (96,.sl .bytes),
 (117,.ptr),
 (121,.sl .tok),
 (123,.st none [(0,121),(1,3)] [.sl .tok [] .nil,.int .i64 0]),
 (125,.st none [(0,123),(2,4),(3,3)] [.sl .tok [] .nil,.int .i64 0,.bool false,.int .i64 0]),
 (127,.ptr),
 (129,.st none [(0,48),(1,28)] [.nilp,.int .i64 0]),
 (141,.fn),
 (147,.fn),
 (149,.ptr),
 (159,.fn),
 (165,.ptr),
 (167,.st none [(0,25),(1,3),(2,28)] [.sl .byte [] .nil,.int .i64 0,.int .i64 0]),
 (174,.fn),
 (177,.st (some .tok) [(0,3),(1,3),(2,9),(3,3)] [.int .i64 0,.int .i64 0,.str [],.int .i64 0]),
 (180,.ptr),
 (183,.fn),
 (185,.st (some .set) [(0,9),(1,88)] [.str [],.int .i64 0,.int .i64 0,.int .i64 0,.str [],.str [],.sl .expr [] .nil]),
 (187,.fn),
 (190,.st (some .col) [(0,9),(1,3),(2,4),(3,4),(4,9)] [.str [],.int .i64 0,.bool false,.bool false,.str []]),
 (195,.fn),
 (197,.fn),
 (201,.fn),
 (203,.sl .idx),
 (205,.st (some .tbl) [(0,9),(1,83),(2,81),(3,84),(4,203)] [.str [],.sl .col [] .nil,.sl .str [] .nil,.sl .expr [] .nil,.sl .idx [] .nil]),
 (215,.sl .tbl),
 (221,.st (some .idx) [(0,9),(1,81)] [.str [],.sl .str [] .nil]),
 (233,.fn),
 (248,.st (some .pair) [(0,9),(1,3)] [.str [],.int .i64 0]),
 (265,.sl .kv),
 (269,.st (some .kv) [(0,25),(1,25)] [.sl .byte [] .nil,.sl .byte [] .nil]),
 (273,.fn),
 (280,.fn),
 (294,.arr 36 .str),
 (296,.arr 6 .str),
 (297,.sl .pair),
 (298,.map),
 (322,.fn),
 (328,.st (some .lay) [(0,265),(1,28)] [.sl .kv [] .nil,.int .i64 0]),
 (345,.arr 2 .int),
 (348,.ptr),
 (350,.st none [(0,348),(1,25)] [.nilp,.sl .byte [] .nil]),
 (352,.st none [(0,350)] [.nilp,.sl .byte [] .nil]),
 (356,.fn),
 (359,.st none [(0,25),(1,25),(2,4)] [.sl .byte [] .nil,.sl .byte [] .nil,.bool false]),
 (362,.sl .lay),
 (374,.sl .kvs),
 (381,.ptr),
 (389,.ptr),
 (390,.fn),
 (393,.st none [(0,269),(2,25)] [.sl .byte [] .nil,.sl .byte [] .nil,.sl .byte [] .nil]),
 (400,.ptr),
 (403,.int .i64),
 (410,.int .u32),
 (415,.arr 2 .str),
 (419,.fn),
 (423,.ptr),
 (425,.int .u64),
 (429,.ptr),
 (437,.ptr),
 (442,.arr 256 .byte),
 (444,.st none [(0,5),(1,5)] [.int .u8 0,.int .u8 0]),
 (447,.fn)]
def elT:Ck->TypeId
 |.byte=>5
 |.int=>3
 |.u64=>57
 |.str=>9
 |.bool=>4
 |.val=>47
 |.tok=>177
 |.col=>190
 |.expr=>88
 |.set=>185
 |.stmt=>91
 |.pair=>248
 |.idx=>221
 |.tbl=>205
 |.node=>53
 |.stt=>77
 |.kv=>269
 |.kvs=>265
 |.lay=>328
 |.res=>44
 |.outc=>24
 |.vals=>45
 |.exprs=>84
 |.strs=>81
 |.bytes=>25
 |_=>0
theorem Aia:(ttL.all λp=>Ch Tryz.prog elT (Ams ttL) p.1)=true:=by kernel_rfl
def glT:Nat->Option Gv:=tbl [(0,.arr .str wordsL),(1,.map signsL),(2,.num .i64),(3,.arr .str Asa)]
theorem follows:Tryz.prog.follows .mixedOrders=true:=by kernel_rfl
abbrev FO:=FnOk Tryz.prog elT glT
abbrev FM:=FnLn Tryz.prog elT glT
abbrev HX:=Hx Tryz.prog elT glT (Ams ttL)
def pxO{R:Type}(c:List (Nat×Gx R))(q:List (Nat×Fw R))(l:List (Nat×Bi2 R))(w:List (Nat×Q0 R)):Px R:=⟨Ams ttL,glT,A74 c,Atk q,Bs1 l,tbl w⟩
abbrev cA{R:Type}{sa sr:List Sg}(F:FT sa sr):Gx R:=Ac9 sa sr F
abbrev qA{R:Type}{sa sr:List Sg}(F:FT sa sr):Fw R:=Aac sa sr F
theorem fR{f:FuncId}{fn:Func}{c:Code}{sa sr:List Sg}{px:Px (HV sr)}{F:FT sa sr}{n:Nat}(hf:Tryz.prog.funcs[f]? = some fn)(hb:fn.body=some c)(h:∀cx,HX cx->Lv cx px/\∀i,i<n->B3 cx px (lp fn i))(hF:∀x,A19 px fn sa sr x some=F x)(hname:(fn.name == "runtime.NumGoroutine")=false:=by kernel_rfl)(hchk:(Q9 fn&&Nat.ble sa.length fn.ntmps&&C2 (Bb 0 sa) [])=true:=by kernel_rfl)(hn:Ks fn=n:=by kernel_rfl):FO f sa sr F:=fO (Axk Aia) follows hf hb hname hchk hn h hF
theorem fRL{f:FuncId}{fn:Func}{c:Code}{sg so:Sig}{px:Px (HV so.sgs)}{F:FL sg so}{n:Nat}(hf:Tryz.prog.funcs[f]? = some fn)(hb:fn.body=some c)(h:∀cx,HX cx->Lv cx px/\∀i,i<n->B3 cx px (lp fn i))(hF:∀x,Anx px fn sg so x some=F x)(hname:(fn.name == "runtime.NumGoroutine")=false:=by kernel_rfl)(hchk:(Q9 fn&&Nat.ble sg.n fn.ntmps)=true:=by kernel_rfl)(hn:Ks fn=n:=by kernel_rfl):FM f sg so F:=fL (Axk Aia) follows hf hb hname hchk hn h hF
end Go.Proofs.YtblaahgjaopdnaaGreatDoor
namespace Go.Proofs.YtblaahgjaopdnaaGreatDoor
open Go.Sx Go.RowKit
theorem Bp3:ElTy Tryz.prog 81 9 1 16:=elTy_of (by kernel_rfl)
theorem Bqc:ElTy Tryz.prog 83 190 5 48:=elTy_of (by kernel_rfl)
theorem A8a:ElTy Tryz.prog 84 88 6 80:=elTy_of (by kernel_rfl)
theorem Ox:ElTy Tryz.prog 203 221 2 40:=elTy_of (by kernel_rfl)
def Cb(t:TypeId)(sz n:Nat)(xs:List Value):Value->Sx.Loc->(World->Prop)->Prop:=λv L _=>L=[.row v t sz n xs]
theorem Ga{cx:Sx.Cx}{L:Sx.Loc}{F:World->Prop}{t:TypeId}{sz n:Nat}{xs:List Value}{Φ:Sx.Loc->(World->Prop)->Prop}(hF:∀w,F w->n=0/\xs=[])(h : Φ (.row (.slice none 0 0) t sz n xs::L) F):Rt cx L F Φ :=.mk λw hs=>by obtain⟨h1,h2⟩:=hF w hs.here;subst h1 h2;exact⟨_,_,h,hs.newRow t sz⟩
theorem Ki{a:Option Addr}{n c sz:Nat}{xs:List Value}(ha:a.isNone=true)(w:World)(h:RdS (.slice a n c) sz n xs w):n=0/\xs=[]:=by
 obtain⟨hl,a',c',he,hr⟩:=h;have h0:n=0:=by
  rcases hr with h0|⟨b,off,e,_⟩
  ·exact h0
  ·simp only[Value.slice.injEq] at he;rw[he.1,e] at ha;cases ha
 subst h0;exact⟨rfl,List.eq_nil_of_length_eq_zero (by simpa using hl)⟩
set_option maxRecDepth 20000 in
theorem Aub(a:Option Addr)(n c:Nat)(xs:List Value)(h1:xs.all one=true)(hbig:n<=1000000):Con Tryz.prog 189 [.slice a n c] [] (RdS (.slice a n c) 1 n xs) (Cb 9 1 n xs):=by
 refine Bf Tryz.func189 Tryz.ntmps189 rfl (by kernel_rfl) rfl λw M =>?_
 repeat' (first|(refine Dx ?_;(first|refine Bz ?_|(apply Ao rfl rfl;(first|exact p_move rfl|exact p_assign rfl))|(apply Ao rfl rfl;exact Fj 1 (by dsimp only;decide +kernel) rfl rfl)|(refine D5 rfl rfl Bp3 rfl rfl rfl rfl ?_;intro b)))|(refine Dw ?_;(first|refine C9 ?_|refine Bc ?_|refine Dd ?_|(refine E5 rfl ?_ ?_<;>intro hc<;>try contradiction)|refine Bt rfl rfl ?_))|(refine Dy ?_;(first|refine B1 ?_))|fail)
 ·exact Ga (Ki (by assumption)) rfl
 ·refine Hu 1 ?_;refine Hw 0 rfl rfl Bp3 rfl rfl rfl (Ho (λw h=>h)) h1 (by omega) (by omega) ?_;intro v'
  repeat' (first|(refine Dx ?_;(first|refine Bz ?_|(apply Ao rfl rfl;(first|exact p_assign rfl))))|(refine Dw ?_;(first|refine Bt rfl rfl ?_))|(refine Dy ?_;(first|refine B1 ?_))|fail)
  refine Bn ?_;simp[Cb]
set_option maxRecDepth 20000 in
theorem At3(a:Option Addr)(n c:Nat)(xs:List Value)(h1:xs.all one=true)(hbig:n<=1000000):Con Tryz.prog 188 [.slice a n c] [] (RdS (.slice a n c) 5 n xs) (Cb 190 5 n xs):=by
 refine Bf Tryz.func188 Tryz.ntmps188 rfl (by kernel_rfl) rfl λw M =>?_
 repeat' (first|(refine Dx ?_;(first|refine Bz ?_|(apply Ao rfl rfl;(first|exact p_move rfl|exact p_assign rfl))|(apply Ao rfl rfl;exact Fj 5 (by dsimp only;decide +kernel) rfl rfl)|(refine D5 rfl rfl Bqc rfl rfl rfl rfl ?_;intro b)))|(refine Dw ?_;(first|refine C9 ?_|refine Bc ?_|refine Dd ?_|(refine E5 rfl ?_ ?_<;>intro hc<;>try contradiction)|refine Bt rfl rfl ?_))|(refine Dy ?_;(first|refine B1 ?_))|fail)
 ·exact Ga (Ki (by assumption)) rfl
 ·refine Hu 5 ?_;refine Hw 0 rfl rfl Bqc rfl rfl rfl (Ho (λw h=>h)) h1 (by omega) (by omega) ?_;intro v'
  repeat' (first|(refine Dx ?_;(first|refine Bz ?_|(apply Ao rfl rfl;(first|exact p_assign rfl))))|(refine Dw ?_;(first|refine Bt rfl rfl ?_))|(refine Dy ?_;(first|refine B1 ?_))|fail)
  refine Bn ?_;simp[Cb]
set_option maxRecDepth 20000 in
theorem Atn(a:Option Addr)(n c:Nat)(xs:List Value)(h1:xs.all one=true)(hbig:n<=1000000):Con Tryz.prog 239 [.slice a n c] [] (RdS (.slice a n c) 6 n xs) (Cb 88 6 n xs):=by
 refine Bf Tryz.func239 Tryz.ntmps239 rfl (by kernel_rfl) rfl λw M =>?_
 repeat' (first|(refine Dx ?_;(first|refine Bz ?_|(apply Ao rfl rfl;(first|exact p_move rfl|exact p_assign rfl))|(apply Ao rfl rfl;exact Fj 6 (by dsimp only;decide +kernel) rfl rfl)|(refine D5 rfl rfl A8a rfl rfl rfl rfl ?_;intro b)))|(refine Dw ?_;(first|refine C9 ?_|refine Bc ?_|refine Dd ?_|(refine E5 rfl ?_ ?_<;>intro hc<;>try contradiction)|refine Bt rfl rfl ?_))|(refine Dy ?_;(first|refine B1 ?_))|fail)
 ·exact Ga (Ki (by assumption)) rfl
 ·refine Hu 6 ?_;refine Hw 0 rfl rfl A8a rfl rfl rfl (Ho (λw h=>h)) h1 (by omega) (by omega) ?_;intro v'
  repeat' (first|(refine Dx ?_;(first|refine Bz ?_|(apply Ao rfl rfl;(first|exact p_assign rfl))))|(refine Dw ?_;(first|refine Bt rfl rfl ?_))|(refine Dy ?_;(first|refine B1 ?_))|fail)
  refine Bn ?_;simp[Cb]
set_option maxRecDepth 20000 in
theorem Asq(a:Option Addr)(n c:Nat)(xs:List Value)(h1:xs.all one=true)(hbig:n<=1000000):Con Tryz.prog 211 [.slice a n c] [] (RdS (.slice a n c) 2 n xs) (Cb 221 2 n xs):=by
 refine Bf Tryz.func211 Tryz.ntmps211 rfl (by kernel_rfl) rfl λw M =>?_
 repeat' (first|(refine Dx ?_;(first|refine Bz ?_|(apply Ao rfl rfl;(first|exact p_move rfl|exact p_assign rfl))|(apply Ao rfl rfl;exact Fj 2 (by dsimp only;decide +kernel) rfl rfl)|(refine D5 rfl rfl Ox rfl rfl rfl rfl ?_;intro b)))|(refine Dw ?_;(first|refine C9 ?_|refine Bc ?_|refine Dd ?_|(refine E5 rfl ?_ ?_<;>intro hc<;>try contradiction)|refine Bt rfl rfl ?_))|(refine Dy ?_;(first|refine B1 ?_))|fail)
 ·exact Ga (Ki (by assumption)) rfl
 ·refine Hu 2 ?_;refine Hw 0 rfl rfl Ox rfl rfl rfl (Ho (λw h=>h)) h1 (by omega) (by omega) ?_;intro v'
  repeat' (first|(refine Dx ?_;(first|refine Bz ?_|(apply Ao rfl rfl;(first|exact p_assign rfl))))|(refine Dw ?_;(first|refine Bt rfl rfl ?_))|(refine Dy ?_;(first|refine B1 ?_))|fail)
  refine Bn ?_;simp[Cb]
set_option maxRecDepth 20000 in
theorem Amk(a:Option Addr)(c:Nat):Con Tryz.prog 239 [.slice a 0 c] [] (λ_=>True) (λv _ _=>∃a',v = .slice a' 0 0):=by
 refine Bf Tryz.func239 Tryz.ntmps239 rfl (by kernel_rfl) rfl λw M =>?_
 repeat' (first|(refine Dx ?_;(first|refine Bz ?_|(apply Ao rfl rfl;(first|exact p_move rfl|exact p_assign rfl))|(apply Ao rfl rfl;exact Fj 6 (by dsimp only;decide +kernel) rfl rfl)|(refine D5 rfl rfl A8a rfl rfl rfl rfl ?_;intro b)|(apply Ao rfl rfl;exact Su A8a rfl rfl)))|(refine Dw ?_;(first|refine C9 ?_|refine Bc ?_|refine Dd ?_|(refine E5 rfl ?_ ?_<;>intro hc<;>try contradiction)|refine Bt rfl rfl ?_))|(refine Dy ?_;(first|refine B1 ?_))|fail)
 ·exact Bn ⟨_,rfl⟩
 ·exact Bn ⟨_,rfl⟩
set_option maxRecDepth 20000 in
theorem Amq(a:Option Addr)(c:Nat):Con Tryz.prog 211 [.slice a 0 c] [] (λ_=>True) (λv _ _=>∃a',v = .slice a' 0 0):=by
 refine Bf Tryz.func211 Tryz.ntmps211 rfl (by kernel_rfl) rfl λw M =>?_
 repeat' (first|(refine Dx ?_;(first|refine Bz ?_|(apply Ao rfl rfl;(first|exact p_move rfl|exact p_assign rfl))|(apply Ao rfl rfl;exact Fj 2 (by dsimp only;decide +kernel) rfl rfl)|(refine D5 rfl rfl Ox rfl rfl rfl rfl ?_;intro b)|(apply Ao rfl rfl;exact Su Ox rfl rfl)))|(refine Dw ?_;(first|refine C9 ?_|refine Bc ?_|refine Dd ?_|(refine E5 rfl ?_ ?_<;>intro hc<;>try contradiction)|refine Bt rfl rfl ?_))|(refine Dy ?_;(first|refine B1 ?_))|fail)
 ·exact Bn ⟨_,rfl⟩
 ·exact Bn ⟨_,rfl⟩
theorem Aba{P:Program}(w:World)(tS tR e:TypeId)(ht:P.underlying tS=some (.slice e))(size:Nat)(hz:∀w,(Go.sizeOf e).run P w = .ok size w)
  (a b:Addr) (la ca lb cb:Nat) (hne:a.block≠b.block) (c1 c2:Array Value) (t1 t2:TypeId) (f1:Nat×Nat)
  (ha:w.heap[a.block]? = some (.cells c1 t1 f1)) (hb:w.heap[b.block]? = some (.cells c2 t2 (0,0))) (h1:c1.size≠0) :
  (Extern.SlicesOverlaps.overlaps #[tS,tS] #[tR] #[.slice (some a) la ca,.slice (some b) lb cb]).run P w = .ok (.bool false) w:=by
 have hnb:(a.block != b.block)=true:=by simpa using hne
 have hnb':(a.block == b.block)=false:=by simpa using hne
 have hsa:w.shape? a.block=some (t1,c1.size):=by simp[World.shape?,ha]
 have hsb:w.shape? b.block=some (t2,c2.size):=by simp[World.shape?,hb]
 have hfb:∀o sp,w.frozen? ⟨b.block,o,sp⟩=false:=λo sp=>by simp[World.frozen?,hb]
 change Sem.run P (α:=Value) (do
  let some t:=(#[tS,tS]:Array TypeId)[0]? | stuck "slices.overlaps: no parameter types"
  let .slice elem <-underlying t|stuck "slices.overlaps: slice type expected"
  let size <-sizeOf elem;match(some a:Option Addr),(some b:Option Addr) with
  |some a,some b =>
   if la=0\/lb=0\/size=0 then pure (Value.bool false)
   else if a.block != b.block&&(<-frozen a)&&(<-frozen b) then unsupported .addressObserved
   else do
    if a.block != b.block then do
     noView a;noView b
     if <-mayBeOne a b then return Value.bool ((<-choose (.extern "sameAddr.stringBytes" 2)) == 1)
    pure (Value.bool (a.block == b.block&&a.off<b.off+lb*size&&b.off<a.off+la*size))
  |_,_=>pure (Value.bool false)) w=_
 by_cases h0:la=0\/lb=0\/size=0
 ·simp[run_underlying ht,hz,h0]
 ·obtain⟨k1,hk1⟩:∃k1,c1.size=k1+1:=⟨c1.size-1,by omega⟩;cases hf1:w.frozen? a<;>simp[run_underlying ht,hz,h0,hnb,hnb',frozen,noView,viewAt,mayBeOne,stringish,shape,Sem.run,hsa,hsb,hfb,hf1,hk1]
section
variable {cx:Sx.Cx}{k:List KI}{e:Sx.Env}{L:Sx.Loc}{F:World->Prop}{Q:Exit->Act->World->Prop}{ops:Array Oper}{rest:List Oper}
theorem Bnp{dst:Nat}{fo x y:Operand}{ts:Array TypeId}{t tS tR elem u':TypeId}{pos:String}{after:Array Edge}{g':Option (Nat×Bool)}{f:FuncId}{g go lb cb vb vo la ca sz:Nat}{cs:List Value}(i:Nat)(hg:Gd ops e g' = some true)(hd:Nat.blt dst cx.n=true)
  (hf:Env.ev e fo=some (.func (.func f) #[] #[])) (hx:Env.ev e x=some (.slice (some ⟨vb,vo,none⟩) la ca)) (hy:Env.ev e y=some (.slice (some ⟨g,go,none⟩) lb cb)) (hi:L[i]? = some (.blk g cs u')) (hne:vb≠g) (hsrc:∀w,F w->∃u,w.cell? ⟨vb,vo,none⟩=some u)
  (hrun:∀args w,(callFunc f args).run cx.P w=((Extern.SlicesOverlaps.overlaps #[tS,tS] #[tR] args).run cx.P w).andThen λv w' =>.ok (.value v) w') (ht:cx.P.underlying tS=some (.slice elem)) (hz:tySz cx.P elem=some sz)
  (h:O cx ops rest k ((dst,.bool false)::e) L F Q):O cx ops (⟨some dst,.call ⟨.value fo, #[x,y],ts⟩,t,pos,after,g'⟩::rest) k e L F Q:=by
 refine T4 (λr L' F'=>r = .bool false/\L' = L/\F' = F) hg hd (λa w he hst=>⟨.bool false,w,L,F,?_,hst,rfl,rfl,rfl⟩) (λr L' F' ⟨hr,hL,hF⟩=>by rw[hr,hL,hF];exact h);have hgh:w.heap[g]? = some (.cells cs.toArray u' (0,0)):=hst.ok _ (List.mem_of_getElem? hi);obtain⟨u,hu⟩:=hsrc w hst.here;obtain⟨c1,t1,f1,hh,hc1⟩:∃c1 t1 f1,w.heap[vb]? = some (.cells c1 t1 f1)/\c1.size≠0:=by
  unfold World.cell? at hu;split at hu
  ·rename_i c t' f' hh;refine⟨c,t',f',hh,λh0 =>?_⟩;simp only[Option.isSome_none,Zj2,if_false] at hu;have:=(Zh2.1 hu).1;omega
  ·cases hu
 have hov:=Aba (P:=cx.P) w tS tR elem ht sz (λw=>Sx.run_sizeOf hz w) ⟨vb,vo,none⟩ ⟨g,go,none⟩ la ca lb cb hne c1 _ t1 u' f1 hh hgh hc1;simp only[execOp,resolve,he.ev hf,he.ev hx,he.ev hy,Deferred.ofValue,Sem.run_bind,Sem.run_pure,Result.andThen_ok,invoke,List.map_toArray,Zw1,List.map_nil];rw[show(#[] ++ #[Value.slice (some ⟨vb,vo,none⟩) la ca,Value.slice (some ⟨g,go,none⟩) lb cb] ++ #[]:Array Value) = #[Value.slice (some ⟨vb,vo,none⟩) la ca,Value.slice (some ⟨g,go,none⟩) lb cb] by simp,hrun,hov];rfl
end
def put(c z:List Value)(o:Nat):List Value:=c.take o++z++c.drop (o+z.length)
theorem Nv{c z:List Value}{o:Nat}(h:o+z.length<=c.length):(put c z o).length=c.length:=by simp only[put,Zh1,List.length_take,Za2];omega
theorem Af7{c z:List Value}{o:Nat}(h:o+z.length<=c.length)(q:Nat):(put c z o)[q]? = if o<=q/\q<o+z.length then z[q-o]? else c[q]? := by
 have ht:(c.take o).length=o:=by simp;omega
 simp only[put,Zj1];by_cases h1:q<o
 ·rw[List.getElem?_append_left (by omega),if_neg (by omega),List.getElem?_take,if_pos h1]
 ·rw[List.getElem?_append_right (by omega),ht];by_cases h2:q<o+z.length
  ·rw[List.getElem?_append_left (by omega),if_pos (by omega)]
  ·rw[List.getElem?_append_right (by omega),if_neg (by omega),List.getElem?_drop];congr 1;omega
def Awr(cs ys:List Value)(i n:Nat):List Value:=cs.take (i*2)++ys++(cs.drop (i*2)).take ((n-i)*2)
theorem Av4{cs ys:List Value}{i n:Nat}(hin:i<=n)(hl:n*2<=cs.length)(hy:ys.length=2)(q:Nat):(Awr cs ys i n)[q]? = if q<i*2 then cs[q]? else if q<i*2+2 then ys[q-i*2]? else if q<(n+1)*2 then cs[q-2]? else none:=by
 have ht:(cs.take (i*2)).length=i*2:=by simp;omega
 have hd:((cs.drop (i*2)).take ((n-i)*2)).length=(n-i)*2:=by simp;omega
 simp only[Awr,Zj1];by_cases h1:q<i*2
 ·rw[List.getElem?_append_left (by omega),if_pos h1,List.getElem?_take,if_pos h1]
 ·rw[List.getElem?_append_right (by omega),ht,if_neg h1];by_cases h2:q<i*2+2
  ·rw[List.getElem?_append_left (by omega),if_pos h2]
  ·rw[List.getElem?_append_right (by omega),if_neg h2,hy,List.getElem?_take,List.getElem?_drop];by_cases h3:q<(n+1)*2
   ·rw[if_pos h3,if_pos (by omega)];congr 1;omega
   ·rw[if_neg h3,if_neg (by omega)]
theorem Bg0{cs ys Z:List Value}{i n:Nat}(hin:i<=n)(hl:(n+1)*2<=cs.length)(hy:ys.length=2)(hZ:Z=(cs.drop (i*2)).take ((n-i)*2)):(put (put cs Z ((i+1)*2)) ys (i*2)).length=cs.length/\(put (put cs Z ((i+1)*2)) ys (i*2)).take ((n+1)*2)=Awr cs ys i n:=by
 have hZl:Z.length=(n-i)*2:=by rw[hZ];simp;omega
 have h1:(i+1)*2+Z.length<=cs.length:=by omega
 have h2:i*2+ys.length<=(put cs Z ((i+1)*2)).length:=by rw[Nv h1];omega
 refine⟨by rw[Nv h2,Nv h1],List.ext_getElem? λq =>?_⟩;rw[List.getElem?_take,Av4 hin (by omega) hy,Af7 h2,Af7 h1,hZl,hy,hZ,List.getElem?_take,List.getElem?_drop];by_cases a1:q<(n+1)*2
 ·rw[if_pos a1];by_cases a2:q<i*2
  ·rw[if_neg (by omega),if_neg (by omega),if_pos a2]
  ·rw[if_neg a2];by_cases a3:q<i*2+2
   ·rw[if_pos (by omega),if_pos a3]
   ·rw[if_neg (by omega),if_neg a3,if_pos a1,if_pos (by omega),if_pos (by omega)];congr 1;omega
 ·rw[if_neg a1,if_neg (by omega),if_neg (by omega),if_neg a1]
theorem Bna{cs ys c1 Z:List Value}{i n q:Nat}(hin:i<=n)(hl:n*2<=cs.length)(hy:ys.length=2)(hZ:Z=(cs.drop (i*2)).take ((n-i)*2))(hc1:c1.take (i*2)=cs.take (i*2))(hq:n+1<=q)(hcl:c1.length=q*2):(put (put c1 ys (i*2)) Z ((i+1)*2)).length=q*2/\(put (put c1 ys (i*2)) Z ((i+1)*2)).take ((n+1)*2)=Awr cs ys i n:=by
 have hZl:Z.length=(n-i)*2:=by rw[hZ];simp;omega
 have h2:i*2+ys.length<=c1.length:=by omega
 have h1:(i+1)*2+Z.length<=(put c1 ys (i*2)).length:=by rw[Nv h2];omega
 refine⟨by rw[Nv h1,Nv h2,hcl],List.ext_getElem? λk =>?_⟩;rw[List.getElem?_take,Av4 hin hl hy,Af7 h1,Af7 h2,hZl,hy,hZ,List.getElem?_take,List.getElem?_drop];have hck:k<i*2->c1[k]? = cs[k]? :=λhk=>by have:=congrArg (·[k]?) hc1;simpa[List.getElem?_take,hk] using this
 by_cases a1:k<(n+1)*2
 ·rw[if_pos a1];by_cases a2:k<i*2
  ·rw[if_neg (by omega),if_neg (by omega),if_pos a2,hck a2]
  ·rw[if_neg a2];by_cases a3:k<i*2+2
   ·rw[if_neg (by omega),if_pos (by omega),if_pos a3]
   ·rw[if_pos (by omega),if_pos (by omega),if_neg a3,if_pos a1];congr 1;omega
 ·rw[if_neg a1,if_neg (by omega),if_neg (by omega),if_neg a1]
def Bnx(t:TypeId)(g n i cap:Nat)(cs ys:List Value):Value->Sx.Loc->(World->Prop)->Prop:=λv L _ =>
 (∃cs',v = .slice (some ⟨g,0,none⟩) (n+1) cap/\n+1<=cap/\L=[.blk g cs' t]/\cs'.length=cs.length/\cs'.take ((n+1)*2)=Awr cs ys i n) \/
 (∃b cap' cs',v = .slice (some ⟨b,0,none⟩) (n+1) cap'/\n+1<=cap'/\cap'<=maxLen/\L=[.blk b cs' t,.blk g cs t]/\cs'.length=cap'*2/\cs'.take ((n+1)*2)=Awr cs ys i n)
theorem Bsa(args:Array Value)(w:World):(callFunc 304 args).run Tryz.prog w=((Extern.SlicesOverlaps.overlaps #[203,203] #[4] args).run Tryz.prog w).andThen λv w' =>.ok (.value v) w':=run_callFunc_extern Tryz.func304 (by kernel_rfl) rfl (by kernel_rfl) (e:=Extern.SlicesOverlaps.overlaps #[203,203] #[4]) (by kernel_rfl) args w
theorem Bp4{cs:List Value}{n i:Nat}(h1:∀v,v∈cs.take (n*2)->one v=true)(hin:i<=n){v:Value}(hv:v∈(cs.drop (i*2)).take ((n-i)*2)):one v=true:=by
 refine h1 v ?_;obtain⟨q,hq⟩:=List.getElem?_of_mem hv;rw[List.getElem?_take] at hq;split at hq
 ·rw[List.getElem?_drop] at hq;exact List.mem_of_getElem? ((List.getElem?_take_of_lt (by omega)).trans hq)
 ·cases hq
set_option maxRecDepth 20000 in
theorem Bnk(g n i cap vb vo vc:Nat)(cs ys:List Value)(hn : 0<n)(hin:i<=n)(hnc:n<=cap)(hl:cs.length=cap*2)(h1:∀v,v∈cs.take (n*2)->one v=true)(hy:ys.length=2)(hy1:∀v,v∈ys->one v=true)(hne:vb≠g)(hbig:n<=1000000) :
  Con Tryz.prog 257 [.slice (some ⟨g,0,none⟩) n cap,.int .i64 i,.slice (some ⟨vb,vo,none⟩) 1 vc] [.blk g cs 221] (λw=>∀(j:Nat) v,ys[j]? = some v->w.cell? ⟨vb,vo+j,none⟩=some v) (Bnx 221 g n i cap cs ys):=by
 refine Bf Tryz.func257 Tryz.ntmps257 rfl (by kernel_rfl) rfl λw M =>?_
 repeat' (first|(refine Dx ?_;(first|refine Bz ?_|(apply Ao rfl rfl;(first|exact p_move rfl|exact p_assign rfl|exact p_lensl (by dsimp only;decide +kernel) rfl|exact p_eql rfl rfl|exact p_gtr rfl rfl|exact Yk rfl rfl (by omega)|exact Ie rfl rfl (by omega)))|(apply Ao rfl rfl;exact Kt 2 (by dsimp only;decide +kernel) rfl rfl (by omega))|(apply Ao rfl rfl;exact Ajz 2 (by dsimp only;decide +kernel) rfl)|(apply Ao rfl rfl;exact M3 2 (by dsimp only;decide +kernel) rfl rfl (by omega))|(apply Ao rfl rfl;exact A0p 2 (by dsimp only;decide +kernel) rfl rfl (by omega))))|(refine Dw ?_;(first|refine C9 ?_|refine Bc ?_|refine Dd ?_|(refine Hf rfl ?_ ?_<;>intro hc<;>try (first|contradiction))))|(refine Dy ?_;(first|refine B1 ?_))|fail)
 ·obtain rfl:i=n:=by omega
  have hin':cs.take (i*2)++ys=Awr cs ys i i:=by simp[Awr]
  by_cases hr:i+1<=cap
  ·refine A9k (zs:=ys) 0 rfl rfl Ox rfl rfl rfl (λw hs=>hs.here) (by rw[hy]) hr (by omega) hy1 rfl ?_
   repeat' (first|(refine Dx ?_;(first|refine Bz ?_|(apply Ao rfl rfl;(first|exact p_assign rfl))))|(refine Dw ?_;(first|refine Bt rfl rfl ?_))|(refine Dy ?_;(first|refine B1 ?_))|fail)
   refine Bn (.inl ⟨_,rfl,hr,rfl,Nv (z:=ys) (o:=i*2) (by omega),?_⟩);rw[<-hin'];exact List.take_left' (by simp;omega)
  ·refine Bbn (zs:=ys) 0 rfl rfl Ox rfl rfl rfl (λw hs=>hs.here) (by rw[hy]) (by omega) (by omega) (by simp only[maxLen];omega) (by omega) ?_;intro b' q tl hq1 hq2 htl
   repeat' (first|(refine Dx ?_;(first|refine Bz ?_|(apply Ao rfl rfl;(first|exact p_assign rfl))))|(refine Dw ?_;(first|refine Bt rfl rfl ?_))|(refine Dy ?_;(first|refine B1 ?_))|fail)
   refine Bn (.inr ⟨_,_,_,rfl,hq1,hq2,rfl,by simp;omega,?_⟩);rw[<-hin'];exact List.take_left' (by simp;omega)
 ·refine A1u (kn :=.i64) 0 rfl rfl Ox (by dsimp only;decide +kernel) rfl rfl rfl (by omega) (by omega) (by omega) (by simp only[maxLen];omega) (by omega) ?_;intro b' q tl hq1 hq2 htl
  repeat' (first|(refine Dx ?_;(first|refine Bz ?_|(apply Ao rfl rfl;(first|exact p_move rfl|exact p_assign rfl))|(apply Ao rfl rfl;exact M3 2 (by dsimp only;decide +kernel) rfl rfl (by omega))))|(refine Dw ?_;(first|refine C9 ?_|refine Bc ?_))|(refine Dy ?_;(first|refine B1 ?_))|fail)
  refine Aui (zs:=ys) 0 rfl rfl Ox rfl rfl rfl (λw hs=>hs.here) ?_ ?_ hy1 ?_
  ·rw[hy,show Nat.min 1 _=1 from Nat.min_eq_left (by omega)]
  ·simp only[Zh1,List.length_take];omega
  ·repeat' (first|(refine Dx ?_;(first|refine Bz ?_))|(refine Dw ?_;(first|refine C9 ?_|refine A68 (by dsimp only;decide +kernel) Ih ?_))|(refine Dy ?_;(first|refine B1 ?_))|(refine Bpf ?_;(first|(apply E7 0 rfl rfl rfl (by decide +kernel);(first|exact p_move rfl))|(apply E7 1 rfl rfl rfl (by decide +kernel);(first|exact p_move rfl))|(apply E7 2 rfl rfl rfl (by decide +kernel);(first|exact p_move rfl))|(apply E7 3 rfl rfl rfl (by decide +kernel);(first|exact Yk rfl rfl (by omega)))|(apply E7 5 rfl rfl rfl (by decide +kernel);(first|exact p_move rfl))|(apply E7 6 rfl rfl rfl (by decide +kernel);(first|exact p_move rfl))))|fail)
   apply E7 4 rfl rfl rfl (by decide +kernel) (M3 2 (by dsimp only;decide +kernel) rfl rfl (by omega));apply E7 7 rfl rfl rfl (by decide +kernel) (M3 2 (by dsimp only;decide +kernel) rfl rfl (by omega));refine Bqj 8 rfl (by decide +kernel) ?_;refine Aui 0 rfl rfl Ox rfl rfl rfl (Anq (n:=(n-i)*2) 1 rfl) ?_ ?_ ?_ ?_
   ·have:Nat.min (n-(i:Int).toNat) ((i:Int).toNat+((n:Int)+((1:Nat):Int)-(i:Int)).toNat-((i:Int)+((1:Nat):Int)).toNat)=n-i:=(Nat.min_eq_left (by omega)).trans (by omega);rw[this,List.length_take,Za2];omega
   ·simp only[Zh1,List.length_take,Za2];omega
   ·intro v hv;exact Bp4 h1 hin (by simpa using hv)
   ·repeat' (first|(refine Dx ?_;(first|refine Bz ?_|(apply Ao rfl rfl;(first|exact p_move rfl|exact p_assign rfl))))|(refine Dw ?_;(first|refine C9 ?_|refine Bc ?_|refine Bt rfl rfl ?_))|(refine Dy ?_;(first|refine B1 ?_|(refine A76 Ih ?_)))|(refine Bpf ?_;(first|refine Bqh (by decide +kernel) ?_))|fail)
    have e1:i+((n:Int)+((1:Nat):Int)-(i:Int)).toNat=n+1:=by omega
    have e2:((i:Int)+((1:Nat):Int)).toNat=i+1:=by omega
    simp only[e1,e2,Int.toNat_natCast,Nat.zero_add] at hq1 htl ⊢;have hd:=Bna (c1:=cs.take (i*2)++tl) (q:=q) hin (by omega) hy rfl (List.take_left' (by simp;omega)) hq1 (by simp;omega);refine Bn (.inr ⟨_,_,_,rfl,hq1,hq2,rfl,hd.1,hd.2⟩)
 ·refine Bnp 0 rfl rfl rfl rfl rfl rfl hne (λw h=>⟨_,h 0 _ (Zo1 (by omega))⟩) Bsa rfl rfl ?_
  repeat' (first|(refine Dx ?_;(first|refine Bz ?_|(apply Ao rfl rfl;(first|exact p_not rfl))))|(refine Dw ?_;(first|refine C9 ?_|refine A68 (by dsimp only;decide +kernel) Ih ?_|(refine E5 rfl ?_ ?_<;>intro hc<;>try contradiction)))|(refine Dy ?_;(first|refine B1 ?_))|(refine Bpf ?_;(first|(apply E7 0 rfl rfl rfl (by decide +kernel);(first|exact p_move rfl))|(apply E7 1 rfl rfl rfl (by decide +kernel);(first|exact p_move rfl))|(apply E7 2 rfl rfl rfl (by decide +kernel);(first|exact p_move rfl))|(apply E7 3 rfl rfl rfl (by decide +kernel);(first|exact Yk rfl rfl (by omega)))|(apply E7 5 rfl rfl rfl (by decide +kernel);(first|exact p_move rfl))|(apply E7 6 rfl rfl rfl (by decide +kernel);(first|exact p_move rfl))))|fail)
  apply E7 4 rfl rfl rfl (by decide +kernel) (M3 2 (by dsimp only;decide +kernel) rfl rfl (by omega));apply E7 7 rfl rfl rfl (by decide +kernel) (M3 2 (by dsimp only;decide +kernel) rfl rfl (by omega));refine Bqj 8 rfl (by decide +kernel) ?_;refine Aui 0 rfl rfl Ox rfl rfl rfl (Anq (n:=(n-i)*2) 0 rfl) ?_ ?_ ?_ ?_
  ·have:Nat.min (((n:Int)+((1:Nat):Int)).toNat-(i:Int).toNat) (((n:Int)+((1:Nat):Int)).toNat-((i:Int)+((1:Nat):Int)).toNat)=n-i:=(Nat.min_eq_right (by omega)).trans (by omega);rw[this,List.length_take,Za2];omega
  ·simp only[List.length_take,Za2];omega
  ·intro v hv;exact Bp4 h1 hin (by simpa using hv)
  ·repeat' (first|(refine Dx ?_;(first|refine Bz ?_|(apply Ao rfl rfl;(first|exact p_move rfl))|(apply Ao rfl rfl;exact M3 2 (by dsimp only;decide +kernel) rfl rfl (by omega))))|(refine Dw ?_;(first|refine C9 ?_|refine Bc ?_))|(refine Dy ?_;(first|refine B1 ?_|(refine A76 Ih ?_)))|(refine Bpf ?_;(first|refine Bqh (by decide +kernel) ?_))|fail)
   refine Aui (zs:=ys) 0 rfl rfl Ox rfl rfl rfl (λw hs=>hs.here) ?_ ?_ hy1 ?_
   ·rw[hy,show Nat.min 1 _=1 from Nat.min_eq_left (by omega)]
   ·simp only[Zh1,List.length_take,Za2];omega
   ·repeat' (first|(refine Dx ?_;(first|refine Bz ?_|(apply Ao rfl rfl;(first|exact p_move rfl|exact p_assign rfl))))|(refine Dw ?_;(first|refine C9 ?_|refine Bc ?_|refine Bt rfl rfl ?_))|(refine Dy ?_;(first|refine B1 ?_))|fail)
    have e1:((n:Int)+((1:Nat):Int)).toNat=n+1:=by omega
    have e2:((i:Int)+((1:Nat):Int)).toNat=i+1:=by omega
    simp only[e1,e2,Int.toNat_natCast,Nat.zero_add];have hd:=Bg0 (cs:=cs) hin (by omega) hy rfl;exact Bn (.inl ⟨_,rfl,by omega,rfl,hd.1,hd.2⟩)
set_option maxRecDepth 20000 in
theorem Bgu(a:Option Addr)(vb vo vc:Nat)(ys:List Value)(hy:ys.length=2)(hy1:∀v,v∈ys->one v=true) :
  Con Tryz.prog 257 [.slice a 0 0,.int .i64 0,.slice (some ⟨vb,vo,none⟩) 1 vc] [] (λw=>∀(j:Nat) v,ys[j]? = some v->w.cell? ⟨vb,vo+j,none⟩=some v) (λv L _=>∃b cap' cs',v = .slice (some ⟨b,0,none⟩) 1 cap'/\1<=cap'/\cap'<=maxLen/\L=[.blk b cs' 221]/\cs'.length=cap'*2/\cs'.take 2=ys):=by
 refine Bf Tryz.func257 Tryz.ntmps257 rfl (by kernel_rfl) rfl λw M =>?_
 repeat' (first|(refine Dx ?_;(first|refine Bz ?_|(apply Ao rfl rfl;(first|exact p_move rfl|exact p_assign rfl|exact p_lensl (by dsimp only;decide +kernel) rfl|exact p_eql rfl rfl))|(apply Ao rfl rfl;exact A0p 2 (by dsimp only;decide +kernel) rfl rfl (by omega))))|(refine Dw ?_;(first|refine C9 ?_|refine Bc ?_|refine Dd ?_|(refine Hf rfl ?_ ?_<;>intro hc<;>try (first|contradiction))))|(refine Dy ?_;(first|refine B1 ?_))|fail)
 refine A4i (zs:=ys) rfl rfl Ox rfl rfl (λw hs=>hs.here) (by rw[hy]) (by omega) (by simp only[maxLen];omega) (by omega) hy1 ?_;intro b' q tl hq1 hq2 htl
 repeat' (first|(refine Dx ?_;(first|refine Bz ?_|(apply Ao rfl rfl;(first|exact p_assign rfl))))|(refine Dw ?_;(first|refine Bt rfl rfl ?_))|(refine Dy ?_;(first|refine B1 ?_))|fail)
 refine Bn ⟨_,_,_,rfl,hq1,hq2,rfl,by simp;omega,?_⟩;exact List.take_left' hy
end Go.Proofs.YtblaahgjaopdnaaGreatDoor
namespace Go.Proofs.YtblaahgjaopdnaaGreatDoor
open Go.Ax
theorem Avz:ClOk Tryz.prog 189 (elT .str) (csz .str):=⟨Sx.enters_of Tryz.func189 rfl (by kernel_rfl),Aub⟩
def K8(l:List (Str)):Option (List (Str)):=cond (decide (l.length<=1000000)) (some l) none
def V4:FT [.sl .str false] [.sl .str true]:=λx=>K8 x
theorem Adt:FO 189 [.sl .str false] [.sl .str true] V4:=Zx Avz
theorem Ayi:ClOk Tryz.prog 188 (elT .col) (csz .col):=⟨Sx.enters_of Tryz.func188 rfl (by kernel_rfl),At3⟩
def Aka(l:List (Col)):Option (List (Col)):=cond (decide (l.length<=1000000)) (some l) none
def Akv:FT [.sl .col false] [.sl .col true]:=λx=>Aka x
theorem Aze:FO 188 [.sl .col false] [.sl .col true] Akv:=Zx Ayi
theorem Afn:ClOk Tryz.prog 239 (elT .expr) (csz .expr):=⟨Sx.enters_of Tryz.func239 rfl (by kernel_rfl),Atn⟩
theorem Av6:ClOk Tryz.prog 211 (elT .idx) (csz .idx):=⟨Sx.enters_of Tryz.func211 rfl (by kernel_rfl),Asq⟩
theorem Aad:Ae0 Tryz.prog 239:=Amk
theorem Arr:Ae0 Tryz.prog 211:=Amq
theorem Brf:InsOk Tryz.prog 257 (elT .idx):=⟨Sx.enters_of Tryz.func257 rfl (by kernel_rfl),λ_ _ _ _ _ _ _ _ _ h1 h2 h3 h4 h5 h6 h7 h8 h9=>Bnk _ _ _ _ _ _ _ _ _ h1 h2 h3 h4 h5 h6 h7 h8 h9,λ_ _ _ _ _ h1 h2=>Bgu _ _ _ _ _ h1 h2⟩
end Go.Proofs.YtblaahgjaopdnaaGreatDoor
namespace Go.Proofs.YtblaahgjaopdnaaGreatDoor
open Go.Sx Go.RowKit
theorem Bqd:ElTy Tryz.prog 25 5 1 1:=elTy_of (by kernel_rfl)
set_option maxRecDepth 20000 in
theorem Asl(a:Option Addr)(n c:Nat)(xs:List Value)(h1:xs.all one=true)(hbig:n<=1000000):Con Tryz.prog 282 [.slice a n c] [] (RdS (.slice a n c) 1 n xs) (Cb 5 1 n xs):=by
 refine Bf Tryz.func282 Tryz.ntmps282 rfl (by kernel_rfl) rfl λw M =>?_
 repeat' (first|(refine Dx ?_;(first|refine Bz ?_|(apply Ao rfl rfl;(first|exact p_move rfl|exact p_assign rfl))|(apply Ao rfl rfl;exact Fj 1 (by dsimp only;decide +kernel) rfl rfl)|(refine D5 rfl rfl Bqd rfl rfl rfl rfl ?_;intro b)))|(refine Dw ?_;(first|refine C9 ?_|refine Bc ?_|refine Dd ?_|(refine E5 rfl ?_ ?_<;>intro hc<;>try contradiction)|refine Bt rfl rfl ?_))|(refine Dy ?_;(first|refine B1 ?_))|fail)
 ·exact Ga (Ki (by assumption)) rfl
 ·refine Hu 1 ?_;refine Hw 0 rfl rfl Bqd rfl rfl rfl (Ho (λw h=>h)) h1 (by omega) (by omega) ?_;intro v'
  repeat' (first|(refine Dx ?_;(first|refine Bz ?_|(apply Ao rfl rfl;(first|exact p_assign rfl))))|(refine Dw ?_;(first|refine Bt rfl rfl ?_))|(refine Dy ?_;(first|refine B1 ?_))|fail)
  refine Bn ?_;simp[Cb]
theorem Bqg:ElTy Tryz.prog 25 5 1 1:=elTy_of (by kernel_rfl)
set_option maxRecDepth 20000 in
theorem Atm(a:Option Addr)(n c:Nat)(xs:List Value)(h1:xs.all one=true)(hbig:n<=1000000):Con Tryz.prog 52 [.slice a n c] [] (RdS (.slice a n c) 1 n xs) (Cb 5 1 n xs):=by
 refine Bf Tryz.func52 Tryz.ntmps52 rfl (by kernel_rfl) rfl λw M =>?_
 repeat' (first|(refine Dx ?_;(first|refine Bz ?_|(apply Ao rfl rfl;(first|exact p_move rfl|exact p_assign rfl))|(apply Ao rfl rfl;exact Fj 1 (by dsimp only;decide +kernel) rfl rfl)|(refine D5 rfl rfl Bqg rfl rfl rfl rfl ?_;intro b)))|(refine Dw ?_;(first|refine C9 ?_|refine Bc ?_|refine Dd ?_|(refine E5 rfl ?_ ?_<;>intro hc<;>try contradiction)|refine Bt rfl rfl ?_))|(refine Dy ?_;(first|refine B1 ?_))|fail)
 ·exact Ga (Ki (by assumption)) rfl
 ·refine Hu 1 ?_;refine Hw 0 rfl rfl Bqg rfl rfl rfl (Ho (λw h=>h)) h1 (by omega) (by omega) ?_;intro v'
  repeat' (first|(refine Dx ?_;(first|refine Bz ?_|(apply Ao rfl rfl;(first|exact p_assign rfl))))|(refine Dw ?_;(first|refine Bt rfl rfl ?_))|(refine Dy ?_;(first|refine B1 ?_))|fail)
  refine Bn ?_;simp[Cb]
theorem A8f:ElTy Tryz.prog 51 53 6 112:=elTy_of (by kernel_rfl)
set_option maxRecDepth 20000 in
theorem As1(a:Option Addr)(n c:Nat)(xs:List Value)(h1:xs.all one=true)(hbig:n<=1000000):Con Tryz.prog 334 [.slice a n c] [] (RdS (.slice a n c) 6 n xs) (Cb 53 6 n xs):=by
 refine Bf Tryz.func334 Tryz.ntmps334 rfl (by kernel_rfl) rfl λw M =>?_
 repeat' (first|(refine Dx ?_;(first|refine Bz ?_|(apply Ao rfl rfl;(first|exact p_move rfl|exact p_assign rfl))|(apply Ao rfl rfl;exact Fj 6 (by dsimp only;decide +kernel) rfl rfl)|(refine D5 rfl rfl A8f rfl rfl rfl rfl ?_;intro b)))|(refine Dw ?_;(first|refine C9 ?_|refine Bc ?_|refine Dd ?_|(refine E5 rfl ?_ ?_<;>intro hc<;>try contradiction)|refine Bt rfl rfl ?_))|(refine Dy ?_;(first|refine B1 ?_))|fail)
 ·exact Ga (Ki (by assumption)) rfl
 ·refine Hu 6 ?_;refine Hw 0 rfl rfl A8f rfl rfl rfl (Ho (λw h=>h)) h1 (by omega) (by omega) ?_;intro v'
  repeat' (first|(refine Dx ?_;(first|refine Bz ?_|(apply Ao rfl rfl;(first|exact p_assign rfl))))|(refine Dw ?_;(first|refine Bt rfl rfl ?_))|(refine Dy ?_;(first|refine B1 ?_))|fail)
  refine Bn ?_;simp[Cb]
set_option maxRecDepth 20000 in
theorem Amy(a:Option Addr)(c:Nat):Con Tryz.prog 334 [.slice a 0 c] [] (λ_=>True) (λv _ _=>∃a',v = .slice a' 0 0):=by
 refine Bf Tryz.func334 Tryz.ntmps334 rfl (by kernel_rfl) rfl λw M =>?_
 repeat' (first|(refine Dx ?_;(first|refine Bz ?_|(apply Ao rfl rfl;(first|exact p_move rfl|exact p_assign rfl))|(apply Ao rfl rfl;exact Fj 6 (by dsimp only;decide +kernel) rfl rfl)|(refine D5 rfl rfl A8f rfl rfl rfl rfl ?_;intro b)|(apply Ao rfl rfl;exact Su A8f rfl rfl)))|(refine Dw ?_;(first|refine C9 ?_|refine Bc ?_|refine Dd ?_|(refine E5 rfl ?_ ?_<;>intro hc<;>try contradiction)|refine Bt rfl rfl ?_))|(refine Dy ?_;(first|refine B1 ?_))|fail)
 ·exact Bn ⟨_,rfl⟩
 ·exact Bn ⟨_,rfl⟩
theorem A54:ElTy Tryz.prog 45 47 3 32:=elTy_of (by kernel_rfl)
set_option maxRecDepth 20000 in
theorem Ar0(a:Option Addr)(n c:Nat)(xs:List Value)(h1:xs.all one=true)(hbig:n<=1000000):Con Tryz.prog 158 [.slice a n c] [] (RdS (.slice a n c) 3 n xs) (Cb 47 3 n xs):=by
 refine Bf Tryz.func158 Tryz.ntmps158 rfl (by kernel_rfl) rfl λw M =>?_
 repeat' (first|(refine Dx ?_;(first|refine Bz ?_|(apply Ao rfl rfl;(first|exact p_move rfl|exact p_assign rfl))|(apply Ao rfl rfl;exact Fj 3 (by dsimp only;decide +kernel) rfl rfl)|(refine D5 rfl rfl A54 rfl rfl rfl rfl ?_;intro b)))|(refine Dw ?_;(first|refine C9 ?_|refine Bc ?_|refine Dd ?_|(refine E5 rfl ?_ ?_<;>intro hc<;>try contradiction)|refine Bt rfl rfl ?_))|(refine Dy ?_;(first|refine B1 ?_))|fail)
 ·exact Ga (Ki (by assumption)) rfl
 ·refine Hu 3 ?_;refine Hw 0 rfl rfl A54 rfl rfl rfl (Ho (λw h=>h)) h1 (by omega) (by omega) ?_;intro v'
  repeat' (first|(refine Dx ?_;(first|refine Bz ?_|(apply Ao rfl rfl;(first|exact p_assign rfl))))|(refine Dw ?_;(first|refine Bt rfl rfl ?_))|(refine Dy ?_;(first|refine B1 ?_))|fail)
  refine Bn ?_;simp[Cb]
set_option maxRecDepth 20000 in
theorem Amm(a:Option Addr)(c:Nat):Con Tryz.prog 158 [.slice a 0 c] [] (λ_=>True) (λv _ _=>∃a',v = .slice a' 0 0):=by
 refine Bf Tryz.func158 Tryz.ntmps158 rfl (by kernel_rfl) rfl λw M =>?_
 repeat' (first|(refine Dx ?_;(first|refine Bz ?_|(apply Ao rfl rfl;(first|exact p_move rfl|exact p_assign rfl))|(apply Ao rfl rfl;exact Fj 3 (by dsimp only;decide +kernel) rfl rfl)|(refine D5 rfl rfl A54 rfl rfl rfl rfl ?_;intro b)|(apply Ao rfl rfl;exact Su A54 rfl rfl)))|(refine Dw ?_;(first|refine C9 ?_|refine Bc ?_|refine Dd ?_|(refine E5 rfl ?_ ?_<;>intro hc<;>try contradiction)|refine Bt rfl rfl ?_))|(refine Dy ?_;(first|refine B1 ?_))|fail)
 ·exact Bn ⟨_,rfl⟩
 ·exact Bn ⟨_,rfl⟩
theorem Bse:ElTy Tryz.prog 25 5 1 1:=elTy_of (by kernel_rfl)
set_option maxRecDepth 20000 in
theorem Axm(n:Int)(h0 : 0<n)(hbig:n<=1000000):Con Tryz.prog 322 [.slice none 0 0,.int .i64 n] [] (λ_=>True) (λv L _=>∃b q cs,v = .slice (some ⟨b,0,none⟩) 0 q/\q<=maxLen/\List.length cs=q*1/\L=[.blk b cs 5]):=by
 refine Bf Tryz.func322 Tryz.ntmps322 rfl (by kernel_rfl) rfl λw M =>?_
 repeat' (first|(refine Dx ?_;(first|refine Bz ?_|(apply Ao rfl rfl;(first|exact p_move rfl|exact p_assign rfl|exact p_lensl (by dsimp only;decide +kernel) rfl|exact p_lss rfl rfl|exact p_gtr rfl rfl|exact Ie rfl rfl (by omega)))|(apply Ao rfl rfl;exact Ajz 1 (by dsimp only;decide +kernel) rfl)|(apply Ao rfl rfl;exact Kt 1 (by dsimp only;decide +kernel) rfl rfl (by omega))))|(refine Dw ?_;(first|refine C9 ?_|refine Bc ?_|refine Dd ?_|(refine Hf rfl ?_ ?_<;>intro hc<;>try (first|(exfalso;omega)))))|(refine Dy ?_;(first|refine B1 ?_))|fail)
 refine At2 (kn :=.i64) rfl rfl Bse (by dsimp only;decide +kernel) rfl rfl (by omega) (by simp only[maxLen];omega) (by omega) ?_;intro b' q cs hq1 hq2 hcs
 repeat' (first|(refine Dx ?_;(first|refine Bz ?_|(apply Ao rfl rfl;(first|exact p_move rfl|exact p_assign rfl|exact p_lensl (by dsimp only;decide +kernel) rfl))|(apply Ao rfl rfl;exact Kt 1 (by dsimp only;decide +kernel) rfl rfl (by omega))))|(refine Dw ?_;(first|refine C9 ?_|refine Bc ?_|refine Bt rfl rfl ?_))|(refine Dy ?_;(first|refine B1 ?_))|fail)
 exact Bn ⟨_,_,_,rfl,hq2,hcs,rfl⟩
set_option maxRecDepth 20000 in
theorem Arx:Con Tryz.prog 322 [.slice none 0 0,.int .i64 0] [] (λ_=>True) (λv _ _=>v = .slice none 0 0):=by
 refine Bf Tryz.func322 Tryz.ntmps322 rfl (by kernel_rfl) rfl λw M =>?_
 repeat' (first|(refine Dx ?_;(first|refine Bz ?_|(apply Ao rfl rfl;(first|exact p_move rfl|exact p_assign rfl|exact p_lensl (by dsimp only;decide +kernel) rfl|exact p_lss rfl rfl|exact p_gtr rfl rfl|exact Ie rfl rfl (by omega)))|(apply Ao rfl rfl;exact Ajz 1 (by dsimp only;decide +kernel) rfl)|(apply Ao rfl rfl;exact Kt 1 (by dsimp only;decide +kernel) rfl rfl (by omega))))|(refine Dw ?_;(first|refine C9 ?_|refine Bc ?_|refine Dd ?_|refine Bt rfl rfl ?_|(refine Hf rfl ?_ ?_<;>intro hc<;>try (first|(exfalso;omega)))))|(refine Dy ?_;(first|refine B1 ?_))|fail)
 exact Bn rfl
theorem A2w:Go.Ax.GrOk Tryz.prog 322 (elT .byte) (Go.Ax.csz .byte):=⟨Sx.enters_of Tryz.func322 rfl (by kernel_rfl),Axm,Arx⟩
theorem Bso:ElTy Tryz.prog 45 47 3 32:=elTy_of (by kernel_rfl)
set_option maxRecDepth 20000 in
theorem Ayd(n:Int)(h0 : 0<n)(hbig:n<=1000000):Con Tryz.prog 332 [.slice none 0 0,.int .i64 n] [] (λ_=>True) (λv L _=>∃b q cs,v = .slice (some ⟨b,0,none⟩) 0 q/\q<=maxLen/\List.length cs=q*3/\L=[.blk b cs 47]):=by
 refine Bf Tryz.func332 Tryz.ntmps332 rfl (by kernel_rfl) rfl λw M =>?_
 repeat' (first|(refine Dx ?_;(first|refine Bz ?_|(apply Ao rfl rfl;(first|exact p_move rfl|exact p_assign rfl|exact p_lensl (by dsimp only;decide +kernel) rfl|exact p_lss rfl rfl|exact p_gtr rfl rfl|exact Ie rfl rfl (by omega)))|(apply Ao rfl rfl;exact Ajz 3 (by dsimp only;decide +kernel) rfl)|(apply Ao rfl rfl;exact Kt 3 (by dsimp only;decide +kernel) rfl rfl (by omega))))|(refine Dw ?_;(first|refine C9 ?_|refine Bc ?_|refine Dd ?_|(refine Hf rfl ?_ ?_<;>intro hc<;>try (first|(exfalso;omega)))))|(refine Dy ?_;(first|refine B1 ?_))|fail)
 refine At2 (kn :=.i64) rfl rfl Bso (by dsimp only;decide +kernel) rfl rfl (by omega) (by simp only[maxLen];omega) (by omega) ?_;intro b' q cs hq1 hq2 hcs
 repeat' (first|(refine Dx ?_;(first|refine Bz ?_|(apply Ao rfl rfl;(first|exact p_move rfl|exact p_assign rfl|exact p_lensl (by dsimp only;decide +kernel) rfl))|(apply Ao rfl rfl;exact Kt 3 (by dsimp only;decide +kernel) rfl rfl (by omega))))|(refine Dw ?_;(first|refine C9 ?_|refine Bc ?_|refine Bt rfl rfl ?_))|(refine Dy ?_;(first|refine B1 ?_))|fail)
 exact Bn ⟨_,_,_,rfl,hq2,hcs,rfl⟩
set_option maxRecDepth 20000 in
theorem Ar5:Con Tryz.prog 332 [.slice none 0 0,.int .i64 0] [] (λ_=>True) (λv _ _=>v = .slice none 0 0):=by
 refine Bf Tryz.func332 Tryz.ntmps332 rfl (by kernel_rfl) rfl λw M =>?_
 repeat' (first|(refine Dx ?_;(first|refine Bz ?_|(apply Ao rfl rfl;(first|exact p_move rfl|exact p_assign rfl|exact p_lensl (by dsimp only;decide +kernel) rfl|exact p_lss rfl rfl|exact p_gtr rfl rfl|exact Ie rfl rfl (by omega)))|(apply Ao rfl rfl;exact Ajz 3 (by dsimp only;decide +kernel) rfl)|(apply Ao rfl rfl;exact Kt 3 (by dsimp only;decide +kernel) rfl rfl (by omega))))|(refine Dw ?_;(first|refine C9 ?_|refine Bc ?_|refine Dd ?_|refine Bt rfl rfl ?_|(refine Hf rfl ?_ ?_<;>intro hc<;>try (first|(exfalso;omega)))))|(refine Dy ?_;(first|refine B1 ?_))|fail)
 exact Bn rfl
theorem A1s:Go.Ax.GrOk Tryz.prog 332 (elT .val) (Go.Ax.csz .val):=⟨Sx.enters_of Tryz.func332 rfl (by kernel_rfl),Ayd,Ar5⟩
theorem Bto:ElTy Tryz.prog 265 269 2 48:=elTy_of (by kernel_rfl)
set_option maxRecDepth 20000 in
theorem A38(n:Int)(h0 : 0<n)(hbig:n<=1000000):Con Tryz.prog 312 [.slice none 0 0,.int .i64 n] [] (λ_=>True) (λv L _=>∃b q cs,v = .slice (some ⟨b,0,none⟩) 0 q/\q<=maxLen/\List.length cs=q*2/\L=[.blk b cs 269]):=by
 refine Bf Tryz.func312 Tryz.ntmps312 rfl (by kernel_rfl) rfl λw M =>?_
 repeat' (first|(refine Dx ?_;(first|refine Bz ?_|(apply Ao rfl rfl;(first|exact p_move rfl|exact p_assign rfl|exact p_lensl (by dsimp only;decide +kernel) rfl|exact p_lss rfl rfl|exact p_gtr rfl rfl|exact Ie rfl rfl (by omega)))|(apply Ao rfl rfl;exact Ajz 2 (by dsimp only;decide +kernel) rfl)|(apply Ao rfl rfl;exact Kt 2 (by dsimp only;decide +kernel) rfl rfl (by omega))))|(refine Dw ?_;(first|refine C9 ?_|refine Bc ?_|refine Dd ?_|(refine Hf rfl ?_ ?_<;>intro hc<;>try (first|(exfalso;omega)))))|(refine Dy ?_;(first|refine B1 ?_))|fail)
 refine At2 (kn :=.i64) rfl rfl Bto (by dsimp only;decide +kernel) rfl rfl (by omega) (by simp only[maxLen];omega) (by omega) ?_;intro b' q cs hq1 hq2 hcs
 repeat' (first|(refine Dx ?_;(first|refine Bz ?_|(apply Ao rfl rfl;(first|exact p_move rfl|exact p_assign rfl|exact p_lensl (by dsimp only;decide +kernel) rfl))|(apply Ao rfl rfl;exact Kt 2 (by dsimp only;decide +kernel) rfl rfl (by omega))))|(refine Dw ?_;(first|refine C9 ?_|refine Bc ?_|refine Bt rfl rfl ?_))|(refine Dy ?_;(first|refine B1 ?_))|fail)
 exact Bn ⟨_,_,_,rfl,hq2,hcs,rfl⟩
set_option maxRecDepth 20000 in
theorem Awe:Con Tryz.prog 312 [.slice none 0 0,.int .i64 0] [] (λ_=>True) (λv _ _=>v = .slice none 0 0):=by
 refine Bf Tryz.func312 Tryz.ntmps312 rfl (by kernel_rfl) rfl λw M =>?_
 repeat' (first|(refine Dx ?_;(first|refine Bz ?_|(apply Ao rfl rfl;(first|exact p_move rfl|exact p_assign rfl|exact p_lensl (by dsimp only;decide +kernel) rfl|exact p_lss rfl rfl|exact p_gtr rfl rfl|exact Ie rfl rfl (by omega)))|(apply Ao rfl rfl;exact Ajz 2 (by dsimp only;decide +kernel) rfl)|(apply Ao rfl rfl;exact Kt 2 (by dsimp only;decide +kernel) rfl rfl (by omega))))|(refine Dw ?_;(first|refine C9 ?_|refine Bc ?_|refine Dd ?_|refine Bt rfl rfl ?_|(refine Hf rfl ?_ ?_<;>intro hc<;>try (first|(exfalso;omega)))))|(refine Dy ?_;(first|refine B1 ?_))|fail)
 exact Bn rfl
theorem A80:Go.Ax.GrOk Tryz.prog 312 (elT .kv) (Go.Ax.csz .kv):=⟨Sx.enters_of Tryz.func312 rfl (by kernel_rfl),A38,Awe⟩
open Go.Ax
theorem Avm:ClOk Tryz.prog 282 (elT .byte) (csz .byte):=⟨Sx.enters_of Tryz.func282 rfl (by kernel_rfl),Asl⟩
theorem Avd:ClOk Tryz.prog 52 (elT .byte) (csz .byte):=⟨Sx.enters_of Tryz.func52 rfl (by kernel_rfl),Atm⟩
theorem Awo:ClOk Tryz.prog 334 (elT .node) (csz .node):=⟨Sx.enters_of Tryz.func334 rfl (by kernel_rfl),As1⟩
theorem Ay5:ClOk Tryz.prog 158 (elT .val) (csz .val):=⟨Sx.enters_of Tryz.func158 rfl (by kernel_rfl),Ar0⟩
theorem Ar4:Ae0 Tryz.prog 158:=Amm
theorem Asn:Ae0 Tryz.prog 334:=Amy
theorem Awk:FO 282 [.sl .byte false] [.sl .byte true] (A1z .byte):=Zx Avm
theorem Axx:FO 52 [.sl .byte false] [.sl .byte true] (A1z .byte):=Zx Avd
end Go.Proofs.YtblaahgjaopdnaaGreatDoor
namespace Go.Ax
theorem Aol{P:Program}{S:Fp}{w:World}{l:Str}{t:Tk}{v:Value}(h:RF S w (.sl .byte l t) v):(Extern.Bytes.bytesOf v).run P w = .ok ⟨l.toArray⟩ w:=by
 obtain⟨a,cap,rfl,hf⟩:=h.here.slice;cases l with
 |nil=>cases a<;>simp[Extern.Bytes.bytesOf,Extern.Bytes.loadBytes,go_sem]<;>rfl
 |cons x l =>
  rcases hf with h|⟨b,o,rfl,_,hat⟩
  ·cases h
  ·have hl:=Lib.run_loadBytesX (P:=P) w ((x::l).map λb=>(b.toNat:Int)) ⟨b,o,none⟩ .empty (λj y hj=>by rw[List.getElem?_map] at hj;obtain⟨z,hz,rfl⟩:=Option.map_eq_some_iff.1 hj;obtain⟨u,hu,hf⟩:=hat j z hz 0 (.int .u8 (z.toNat:Int)) rfl;cases hf;rw[Sx.add_mk];simpa[csz] using hu)
   have e:Lib.bytesOf ((x::l).map λb=>(b.toNat:Int))=x::l:=by simp[Lib.bytesOf,Function.comp_def]
   rw[e,List.length_map] at hl;simp only[Extern.Bytes.bytesOf,hl];congr 1;apply ByteArray.ext;simp
theorem Bdy{P:Program}{S:Fp}{w:World}{l:Str}{t:Tk}{v:Value}(h:RF S w (.sl .byte l t) v)(c:Int):(Extern.BytealgCount.count #[v,.int .u8 c]).run P w = .ok (.int .i64 (Lib.countByte l c.toNat.toUInt8)) w:=by
 have hs:=Lib.run_countString (P:=P) ⟨l.toArray⟩ c w;have hb:=Aol (P:=P) h;change Sem.run P (do
  let b <-Extern.Bytes.bytesOf v;let c' <-Extern.Bytes.asByte (.int .u8 c)
  pure (goInt (b.foldl (λn x=>if x == c' then n+1 else n) (0:Nat)))) w=_
 change Sem.run P (do
  let b <-Extern.Bytes.bytesOf (.string ⟨l.toArray⟩);let c' <-Extern.Bytes.asByte (.int .u8 c)
  pure (goInt (b.foldl (λn x=>if x == c' then n+1 else n) (0:Nat)))) w=_ at hs
 rw[Sem.run_bind] at hs ⊢;rw[hb];exact hs
theorem Bbm{P:Program}{S:Fp}{w:World}{l:Str}{t:Tk}{v:Value}(h:RF S w (.sl .byte l t) v)(c:Int):(Extern.BytealgIndexByte.indexByte #[v,.int .u8 c]).run P w = .ok (.int .i64 (Lib.indexByte l c.toNat.toUInt8)) w:=by
 have hs:=Lib.run_indexByteString (P:=P) ⟨l.toArray⟩ c w;have hb:=Aol (P:=P) h;change Sem.run P (do
  let b <-Extern.Bytes.bytesOf v;let c' <-Extern.Bytes.asByte (.int .u8 c);match(List.range b.size).find? λi=>b[i]! == c' with
  |some i=>pure (goInt i)
  |none=>pure (goInt (-1))) w=_
 change Sem.run P (do
  let b <-Extern.Bytes.bytesOf (.string ⟨l.toArray⟩);let c' <-Extern.Bytes.asByte (.int .u8 c);match(List.range b.size).find? λi=>b[i]! == c' with
  |some i=>pure (goInt i)
  |none=>pure (goInt (-1))) w=_ at hs
 rw[Sem.run_bind] at hs ⊢;rw[hb];exact hs
end Go.Ax
namespace Go.Proofs.YtblaahgjaopdnaaGreatDoor
open Go.Ax
def At7(s sep:Str):Option Int:=match sep with|[c]=>some (Lib.countByte s c)|_=>none
def Ajb:FT [.sl .byte false,.sl .byte false] [.int .i64]:=λx=>At7 x.1 x.2
theorem A99:FO 353 [.sl .byte false,.sl .byte false] [.int .i64] Ajb:=by
 refine⟨Sx.enters_of Tryz.func353 rfl (by kernel_rfl),λx r hx w M vs hM hgl hr =>?_⟩;obtain⟨s,sep⟩:=x;obtain⟨c,rfl⟩:∃c,sep=[c]:=by
  cases sep with
  |nil=>cases hx
  |cons c tl=>cases tl with|nil=>exact⟨c,rfl⟩|cons _ _=>cases hx
 simp only[Ajb,At7,Za1] at hx;subst hx;simp only[Br,Ce,Reps,Rep] at hr;obtain⟨u,us,rfl,⟨h1,_⟩,u2,us2,rfl,⟨h2,_⟩,rfl⟩:=hr;have h1:RF (v0 elT M w).S w (.sl .byte s .no) u:=h1;have h2:RF (v0 elT M w).S w (.sl .byte [c] .no) u2:=h2;have walk:Calls Tryz.prog 353 #[u,u2] w λe w'=>e = .returned (.int .i64 (Lib.countByte s c))/\w' = w:=by
  have hrun:=Bdy (P:=Tryz.prog) h1 (c.toNat:Int);have e1:(Int.toNat (c.toNat:Int)).toUInt8=c:=by simp
  rw[e1] at hrun;obtain⟨a2,cap2,rfl,hf2⟩:=h2.here.slice;rcases hf2 with h|⟨b2,o2,rfl,_,hat⟩
  ·cases h
  obtain⟨q,hc2,hq⟩:=hat 0 c rfl 0 (.int .u8 (c.toNat:Int)) rfl;cases hq;have hc2:w.cell? ⟨b2,o2,none⟩=some (.int .u8 (c.toNat:Int)):=by simpa using hc2
  obtain⟨a,cap,rfl,_⟩:=h1.here.slice;have mixed:=follows;have t0:=Tryz.underlying5;simp only[List.length_singleton];clear h1 h2 hat hM hgl
  set_option maxRecDepth 100000 in go_enter Tryz.func353,Tryz.ntmps353
  set_option maxRecDepth 100000 in go_wp2
  rw[run_callFunc_extern Tryz.func376 (by kernel_rfl) (by kernel_rfl) (by kernel_rfl) (e:=Extern.BytealgCount.count) (by kernel_rfl),hrun];simp only[Result.andThen];rw[Oper.upon_value]
  set_option maxRecDepth 100000 in go_wp2
  go_ret
  exact⟨rfl,rfl⟩
 refine Calls.mono walk ?_;rintro en w' ⟨rfl,rfl⟩;refine⟨_,⟨λ_=>0,λ_=>Option.none⟩,rfl,Chg.refl _ _,λp g o hp=>(by simp[Bb] at hp),λp q g o o2 hp=>(by simp[Bb] at hp),?_⟩;simp only[Eh,Br,Ce,Rep];have hl:Lib.countByte s c<=s.length:=List.count_le_length;have hs:=h1.here.len;exact⟨trivial,Pw (Nat.le_trans hl hs)⟩
theorem Blh(l:Str)(c:UInt8) : -1<=Lib.indexByte l c/\Lib.indexByte l c<=l.length:=by
 induction l with
 |nil=>simp[Lib.indexByte]
 |cons b l ih =>
  simp only[Lib.indexByte,Zf1];split
  ·omega
  ·split<;>omega
def Abc(s:Str)(c:Int):Int:=Lib.indexByte s c.toNat.toUInt8
def Aib:FT [.sl .byte false,.int .u8] [.int .i64]:=λx=>some (Abc x.1 x.2)
theorem Ba3:FO 377 [.sl .byte false,.int .u8] [.int .i64] Aib:=by
 refine⟨Sx.enters_of Tryz.func377 rfl (by kernel_rfl),λx r hx w M vs hM hgl hr =>?_⟩;obtain⟨s,c⟩:=x;simp only[Aib,Za1] at hx;subst hx;simp only[Br,Ce,Reps,Rep] at hr;obtain⟨u,us,rfl,⟨h1,_⟩,u2,us2,rfl,⟨rfl,_⟩,rfl⟩:=hr;have h1:RF (v0 elT M w).S w (.sl .byte s .no) u:=h1;have walk:Calls Tryz.prog 377 #[u,.int .u8 c] w λe w'=>e = .returned (.int .i64 (Abc s c))/\w' = w:=by
  have hrun:=Bbm (P:=Tryz.prog) h1 c;obtain⟨a,cap,rfl,_⟩:=h1.here.slice;have mixed:=follows;clear h1 hM hgl
  set_option maxRecDepth 100000 in go_enter Tryz.func377,Tryz.ntmps377
  set_option maxRecDepth 100000 in go_wp2
  rw[run_callFunc_extern Tryz.func392 (by kernel_rfl) (by kernel_rfl) (by kernel_rfl) (e:=Extern.BytealgIndexByte.indexByte) (by kernel_rfl),hrun];simp only[Result.andThen];rw[Oper.upon_value]
  set_option maxRecDepth 100000 in go_wp2
  go_ret
  exact⟨rfl,rfl⟩
 refine Calls.mono walk ?_;rintro en w' ⟨rfl,rfl⟩;refine⟨_,⟨λ_=>0,λ_=>Option.none⟩,rfl,Chg.refl _ _,λp g o hp=>(by simp[Bb] at hp),λp q g o o2 hp=>(by simp[Bb] at hp),?_⟩;simp only[Eh,Br,Ce,Rep];have hs:=h1.here.len;refine⟨trivial,Anm ?_⟩;have hb:=Blh s c.toNat.toUInt8;have hm:maxLen=9223372036854775807:=rfl;simp only[IntKind.min,IntKind.max,IntKind.signed,IntKind.bits,Abc];simp only[if_true];omega
def Bjy(R:Type):Px R:=pxO [(377,cA Aib)] [] [] []
def A1l(x:HV [.sl .byte false,.sl .byte false]):Option (HV [.int .i64]):=match x with
 |(s,sep) =>
 cond (decide ((sep.length:Int)=0)) (
  some 0) (
  cond (decide ((sep.length:Int)=1)) (
  chk (inb 0 sep.length) (
   some (Abc s ((at' .byte sep 0).toNat:Int)))) (
  cond (decide ((sep.length:Int)=(s.length:Int))) (
   none) (
   cond (decide ((s.length:Int)<(sep.length:Int))) (
   some (-1)) (
   none))))
theorem A98:FO 354 [.sl .byte false,.sl .byte false] [.int .i64] (A1l):=fR (px:=Bjy _) (n:=2) Tryz.func354 rfl (λ_ H=>⟨lv H (c1 H Ba3 Ae) Aa Ab,(A5 (A5 Ag (Ara (λ_ _=>by kernel_rfl))) (Ara (λ_ _=>by kernel_rfl)))⟩) λ(_,_)=>by kernel_rfl
def A4z(s sep:Str):Option Int:=match sep with|[c]=>some (Lib.indexByte s c)|_=>none
def A8q:FT [.sl .byte false,.sl .byte false] [.int .i64]:=λx=>A4z x.1 x.2
theorem Blf:FO 354 [.sl .byte false,.sl .byte false] [.int .i64] A8q :=.fin0 A98 λ(s,sep) r _ hx=>by
 obtain⟨c,rfl⟩:∃c,sep=[c]:=by
  cases sep with
  |nil=>cases hx
  |cons c tl=>cases tl with|nil=>exact⟨c,rfl⟩|cons _ _=>cases hx
 rw[<-hx];show(some (Abc s ((at' .byte [c] 0).toNat:Int)):Option Int)=some (Lib.indexByte s c);simp[Abc,at']
def esc(s:Str):Str:=s.flatMap λb=>if b=0 then [0,255] else [b]
theorem N9(a b:Str):esc (a++b)=esc a++esc b:=by simp[esc]
theorem Bh4(l:Str):esc (0::l)=0::255::esc l:=by simp[esc]
theorem Avv{b:UInt8}(h:b≠0)(l:Str):esc (b::l)=b::esc l:=by simp[esc,h]
theorem Ar6:∀{a:Str},(0:UInt8)∉a->esc a=a
 |[],_=>rfl
 |b::a,h=>by simp only[List.mem_cons,not_or] at h;rw[Avv (Ne.symm h.1),Ar6 h.2]
theorem A7b(s:Str):(esc s).length=s.length+s.count 0:=by
 induction s with
 |nil=>rfl
 |cons b s ih =>
  by_cases h:b=0
  ·subst h;rw[Bh4];simp only[Zf1,ih,List.count_cons_self];omega
  ·rw[Avv h,List.count_cons_of_ne h];simp only[Zf1,ih];omega
theorem Aim:∀{l:Str},0<l.count 0->∃a b,l=a++0::b/\(0:UInt8)∉a/\Lib.indexByte l 0=(a.length:Int)/\l.count 0=b.count 0+1
 |[],h=>by simp at h
 |x::l,h=>by
  by_cases hx:x=0
  ·subst hx;exact⟨[],l,rfl,by simp,by simp[Lib.indexByte],by simp⟩
  ·rw[List.count_cons_of_ne hx] at h;obtain⟨a,b,e,h1,h2,h3⟩:=Aim h;refine⟨x::a,b,by rw[e];rfl,by simp[h1,Ne.symm hx],?_,by rw[List.count_cons_of_ne hx];exact h3⟩;have h4:¬(a.length:Int) = -1:=by omega
   simp[Lib.indexByte,hx,h2,h4]
theorem Qk{α:Type}(xs:List α)(o:Nat)(l:List α)(h:o+l.length<=xs.length):(Cd xs o l).take (o+l.length)=xs.take o++l:=by
 have h1:(xs.take o).length=o:=by simp;omega
 simp only[Cd];rw[<-Zj1,List.take_append_of_le_length (by simp;omega)];rw[List.take_of_length_le (by simp;omega)]
def Aii:Sig:=⟨132,[(0,.sl .byte false),(2,.sl .byte false),(11,.int .i64),(12,.int .i64),(88,.int .i64),(89,.int .i64)],[],[(0,.one (.dn .byte))],1,0,0,[],[(10,0,.byte)]⟩
abbrev Abb:=List UInt8×List UInt8×Int×Int×Int×Int×List UInt8×Int×Int
def Auh{R:Type}(_:Abb->Option R)(kx:Ex->Abb->Option R)(v:Abb):Option R:=match v with
 |(a,e,f,b,c,d,w3,w4,w5) =>
 cond (decide (d<c)) (
  chk (upto b a.length a.length) (
  none)) (
  kx (.exit 2) (a,e,f,b,c,d,w3,w4,w5))
def Akg:Sig:=⟨132,[(0,.sl .byte false),(1,.sl .byte false),(2,.sl .byte false),(11,.int .i64),(12,.int .i64),(48,.int .i64),(49,.int .i64)],[],[(0,.one (.dn .byte))],1,0,0,[],[(10,0,.byte)]⟩
abbrev Im:=List UInt8×List UInt8×List UInt8×Int×Int×Int×Int×List UInt8×Int×Int
def Of{R:Type}(rec:Im->Option R)(kx:Ex->Im->Option R)(v:Im):Option R:=match v with
 |(v,v1,v2,v3,v4,v5,v6,w,w1,w2) =>
 cond (decide (v6<v5)) (
  chk (upto v4 v.length v.length) (
  (A4z (v.drop (v4:Int).toNat) v1).bind λx1 =>
   chk (upI v3 w2 w2) (
   chk (upto v4 (wr .i64 (v4+x1)) v.length) (
    chk (decide ((0:Int)<=(w1+v3))&&decide ((0:Int)<=(w2-v3))&&decide ((w1+v3)+(w2-v3)<=(w.length:Int))) (
    chk (upI (wr .i64 (v3+((min ((w2-v3):Int).toNat (cut v v4 (wr .i64 (v4+x1))).length:Nat):Int))) w2 w2) (
     chk (decide ((0:Int)<=(w1+(wr .i64 (v3+((min ((w2-v3):Int).toNat (cut v v4 (wr .i64 (v4+x1))).length:Nat):Int)))))&&decide ((0:Int)<=(w2-(wr .i64 (v3+((min ((w2-v3):Int).toNat (cut v v4 (wr .i64 (v4+x1))).length:Nat):Int)))))&&decide ((w1+(wr .i64 (v3+((min ((w2-v3):Int).toNat (cut v v4 (wr .i64 (v4+x1))).length:Nat):Int))))+(w2-(wr .i64 (v3+((min ((w2-v3):Int).toNat (cut v v4 (wr .i64 (v4+x1))).length:Nat):Int))))<=((Cd w ((w1+v3):Int).toNat ((cut v v4 (wr .i64 (v4+x1))).take ((w2-v3):Int).toNat)).length:Int))) (
     rec (v,v1,v2,(wr .i64 ((wr .i64 (v3+((min ((w2-v3):Int).toNat (cut v v4 (wr .i64 (v4+x1))).length:Nat):Int)))+((min ((w2-(wr .i64 (v3+((min ((w2-v3):Int).toNat (cut v v4 (wr .i64 (v4+x1))).length:Nat):Int)))):Int).toNat v2.length:Nat):Int))),(wr .i64 ((wr .i64 (v4+x1))+(v1.length:Int))),v5,(wr .i64 (v6+1)),(Cd (Cd w ((w1+v3):Int).toNat ((cut v v4 (wr .i64 (v4+x1))).take ((w2-v3):Int).toNat)) ((w1+(wr .i64 (v3+((min ((w2-v3):Int).toNat (cut v v4 (wr .i64 (v4+x1))).length:Nat):Int)))):Int).toNat (v2.take ((w2-(wr .i64 (v3+((min ((w2-v3):Int).toNat (cut v v4 (wr .i64 (v4+x1))).length:Nat):Int)))):Int).toNat)),w1,w2)))))))) (
  kx (.exit 0) (v,v1,v2,v3,v4,v5,v6,w,w1,w2))
def Avo(R:Type)(k:Nat):Px R:=pxO [(353,cA Ajb),(354,cA A8q)] [] [(13,Am k Akg (Of)),(21,Am k Aii (Auh))] []
def V3(k:Nat)(x:HV [.sl .byte false,.sl .byte false,.sl .byte false,.int .i64]):Option (HV [.sl .byte true]):=match x with
 |(s,old,new,n) =>
 let j2:=λ(p:Int) =>
  cond (decide (p=0)) (
  chk (decide (0+s.length<=Ai)) (
   some ([]++s))) (
  let j1:=λ(p3:Int) =>
   chk (upI 0 (wr .i64 ((s.length:Int)+(wr .i64 (p3*(wr .i64 ((new.length:Int)-(old.length:Int))))))) (wr .i64 ((s.length:Int)+(wr .i64 (p3*(wr .i64 ((new.length:Int)-(old.length:Int)))))))&&decide ((wr .i64 ((s.length:Int)+(wr .i64 (p3*(wr .i64 ((new.length:Int)-(old.length:Int)))))))<=(Ai:Int))) (
   let j:=λ(p4:List UInt8) (p5:Int) (p6:Int) (p7:Int) (p8:Int) (q:List UInt8) =>
    chk (upI p7 p6 p6) (
    chk (upto p8 p4.length p4.length) (
     chk (decide ((0:Int)<=(p5+p7))&&decide ((0:Int)<=(p6-p7))&&decide ((p5+p7)+(p6-p7)<=(q.length:Int))) (
     chk (upI 0 (wr .i64 (p7+((min ((p6-p7):Int).toNat (p4.drop (p8:Int).toNat).length:Nat):Int))) p6) (
      chk (decide (((p5+0):Int)=0)&&decide ((0:Int)<((wr .i64 (p7+((min ((p6-p7):Int).toNat (p4.drop (p8:Int).toNat).length:Nat):Int)))-0))&&decide (((wr .i64 (p7+((min ((p6-p7):Int).toNat (p4.drop (p8:Int).toNat).length:Nat):Int)))-0)<=((Cd q ((p5+p7):Int).toNat ((p4.drop (p8:Int).toNat).take ((p6-p7):Int).toNat)).length:Int))) (
      some ((Cd q ((p5+p7):Int).toNat ((p4.drop (p8:Int).toNat).take ((p6-p7):Int).toNat)).take (((wr .i64 (p7+((min ((p6-p7):Int).toNat (p4.drop (p8:Int).toNat).length:Nat):Int)))-0):Int).toNat))))))
   cond (decide (0<(old.length:Int))) (
    Ak (λrec=>Of rec (λe vz=>match vz with|(v7,_,_,a,b,_,_,c,d,f)=>match e with
    |.exit 0 =>j v7 d f a b c
    |_=>none)) k (s,old,new,0,0,p3,0,(List.replicate ((wr .i64 ((s.length:Int)+(wr .i64 (p3*(wr .i64 ((new.length:Int)-(old.length:Int))))))):Int).toNat (zer .byte)),0,(wr .i64 ((s.length:Int)+(wr .i64 (p3*(wr .i64 ((new.length:Int)-(old.length:Int))))))))) (
    chk (upI 0 (wr .i64 ((s.length:Int)+(wr .i64 (p3*(wr .i64 ((new.length:Int)-(old.length:Int))))))) (wr .i64 ((s.length:Int)+(wr .i64 (p3*(wr .i64 ((new.length:Int)-(old.length:Int)))))))) (
    chk (decide ((0:Int)<=0)&&decide ((0:Int)<=((wr .i64 ((s.length:Int)+(wr .i64 (p3*(wr .i64 ((new.length:Int)-(old.length:Int)))))))-0))&&decide (0+((wr .i64 ((s.length:Int)+(wr .i64 (p3*(wr .i64 ((new.length:Int)-(old.length:Int)))))))-0)<=((List.replicate ((wr .i64 ((s.length:Int)+(wr .i64 (p3*(wr .i64 ((new.length:Int)-(old.length:Int))))))):Int).toNat (zer .byte)).length:Int))) (
     Ak (λrec=>Auh rec (λe vz=>match vz with|(g,_,h,i,_,_,l,m,o)=>match e with
     |.exit 2 =>j g m o h i l
     |_=>none)) k (s,new,(wr .i64 (0+((min (((wr .i64 ((s.length:Int)+(wr .i64 (p3*(wr .i64 ((new.length:Int)-(old.length:Int)))))))-0):Int).toNat new.length:Nat):Int))),0,(wr .i64 (p3-1)),0,(Cd (List.replicate ((wr .i64 ((s.length:Int)+(wr .i64 (p3*(wr .i64 ((new.length:Int)-(old.length:Int))))))):Int).toNat (zer .byte)) (0:Int).toNat (new.take (((wr .i64 ((s.length:Int)+(wr .i64 (p3*(wr .i64 ((new.length:Int)-(old.length:Int)))))))-0):Int).toNat)),0,(wr .i64 ((s.length:Int)+(wr .i64 (p3*(wr .i64 ((new.length:Int)-(old.length:Int))))))))))))
  cond (decide (n<0)) (
   j1 p) (
   cond (decide (p<n)) (
   j1 p) (
   j1 n)))
 cond (!decide (n=0)) (
  (At7 s old).bind λx =>
  j2 x) (
  j2 0)
theorem Bdk(k:Nat):FO 323 [.sl .byte false,.sl .byte false,.sl .byte false,.int .i64] [.sl .byte true] (V3 k):=fR (px:=Avo _ k) (n:=2) Tryz.func323 rfl (λcx H=>by have h0:Lv cx (Avo (HV [.sl .byte true]) k):=lv H (c1 H A99 (c1 H Blf Ae)) Aa Ab;have hlbrepl_0:=lO H h0 (b:=lp Tryz.f323 0) (k:=k) (n:=0) (s:=Akg) (step:=Of) (λ_ _ _ (_,_,_,_,_,_,_,_,_,_)=>by kernel_rfl) Ag;have hlbrepl_1:=lO H h0 (b:=lp Tryz.f323 1) (k:=k) (n:=0) (s:=Aii) (step:=Auh) (λ_ _ _ (_,_,_,_,_,_,_,_,_)=>by kernel_rfl) Ag;exact⟨h0,(A5 (A5 Ag hlbrepl_0) hlbrepl_1)⟩) λ(_,_,_,_)=>by kernel_rfl
def Axi(s old new:Str)(n:Int):Option Str:=cond (decide (old=[0])&&decide (new=[0,255])&&decide (n = -1)&&decide (s.length<=68719476736)) (some (esc s)) none
def At9:FT [.sl .byte false,.sl .byte false,.sl .byte false,.int .i64] [.sl .byte true]:=λx=>Axi x.1 x.2.1 x.2.2.1 x.2.2.2
theorem A07{R:Type}{rec:Im->Option R}{kx:Ex->Im->Option R}{s A B:Str}{p L N m i:Nat}{w:Str}(hs:s.length<=68719476736)(hN:N<=137438953472)(hi:i<m)(hm:ln m)(hp:s.drop p=A++0::B)(hA:Lib.indexByte (A++0::B) 0=(A.length:Int))(hL:L+A.length+2<=N)(hw:w.length=N):Of rec kx (s,[0],[0,255],(L:Int),(p:Int),(m:Int),(i:Int),w,0,(N:Int))=rec (s,[0],[0,255],((L+A.length+2:Nat):Int),((p+A.length+1:Nat):Int),(m:Int),((i+1:Nat):Int),Cd (Cd w L A) (L+A.length) [0,255],0,(N:Int)):=by
 have hpl:p+(A.length+1+B.length)=s.length:=by have:=congrArg List.length hp;simp only[Za2,Zh1,Zf1] at this;omega
 have e1:upto (p:Int) (s.length:Int) s.length=true:=by rw[Alo];simp;omega
 have e2:A4z (s.drop p) [0]=some (A.length:Int):=by simp only[A4z,hp,hA]
 have e3:wr .i64 ((p:Int)+(A.length:Int))=((p+A.length:Nat):Int):=by rw[B0 (by simp only[inI];omega)];rfl
 have e4:cut s (p:Int) ((p+A.length:Nat):Int)=A:=by simp only[cut,Int.toNat_natCast,hp];rw[show p+A.length-p=A.length by omega];simp
 have e5:upto (p:Int) ((p+A.length:Nat):Int) s.length=true:=by rw[Alo];simp;omega
 have e6:min ((N:Int)-(L:Int)).toNat A.length=A.length:=by omega
 have e7:wr .i64 ((L:Int)+(A.length:Int))=((L+A.length:Nat):Int):=by rw[B0 (by simp only[inI];omega)];rfl
 have e8:upI (L:Int) (N:Int) (N:Int)=true:=by simp only[upI,Zb1,Zg1];omega
 have e9:upI ((L+A.length:Nat):Int) (N:Int) (N:Int)=true:=by simp only[upI,Zb1,Zg1];omega
 have e10:A.take ((N:Int)-(L:Int)).toNat=A:=List.take_of_length_le (by omega);have e11:([0,255]:Str).take ((N:Int)-((L+A.length:Nat):Int)).toNat=[0,255]:=List.take_of_length_le (by simp;omega);have e12:min ((N:Int)-((L+A.length:Nat):Int)).toNat 2=2:=by omega
 have e13:wr .i64 (((L+A.length:Nat):Int)+2)=((L+A.length+2:Nat):Int):=by rw[B0 (by simp only[inI];omega)];rfl
 have e14:wr .i64 (((p+A.length:Nat):Int)+1)=((p+A.length+1:Nat):Int):=by rw[B0 (by simp only[inI];omega)];rfl
 have e15:wr .i64 ((i:Int)+1)=((i+1:Nat):Int):=As hi hm;have e16:decide ((i:Int)<(m:Int))=true:=Ze1 (by omega);have e17:(0:Int)+(L:Int)=(L:Int):=Int.zero_add _;have e18:(0:Int)+((L+A.length:Nat):Int)=((L+A.length:Nat):Int):=Int.zero_add _;have hsl:(Cd w L A).length=N:=by rw[Ej _ _ _ (by omega)];exact hw
 have e19:(decide ((0:Int)<=(L:Int))&&decide ((0:Int)<=((N:Int)-(L:Int)))&&decide ((L:Int)+((N:Int)-(L:Int))<=(N:Int)))=true:=by simp only[Zb1,Zg1];omega
 have e20:(decide ((0:Int)<=((L+A.length:Nat):Int))&&decide ((0:Int)<=((N:Int)-((L+A.length:Nat):Int)))&&decide (((L+A.length:Nat):Int)+((N:Int)-((L+A.length:Nat):Int))<=(N:Int)))=true:=by simp only[Zb1,Zg1];omega
 have e21:((2:Nat):Int)=2:=rfl;have e22:((1:Nat):Int)=1:=rfl;have l2:([0,255]:Str).length=2:=rfl;have l1:([0]:Str).length=1:=rfl;simp only[Of,e16,Ah,e1,chk,Int.toNat_natCast,e2,Zc1,e8,e3,e5,e4,e6,e7,e17,hw,e19,e9,e10,e18,hsl,e20,l1,l2,e11,e12,e21,e22,e13,e14,e15]
theorem Ai3{R:Type}{kx:Ex->Im->Option R}{s:Str}{c:Option R}{N m:Nat}(hs:s.length<=68719476736)(hN:N=(esc s).length)(hm:m<=s.length)(h0:∀(L p:Nat) (w:Str),p<=s.length->L=(esc (s.take p)).length->w.length=N->w.take L=esc (s.take p)->(s.drop p).count 0=0->kx (.exit 0) (s,[0],[0,255],(L:Int),(p:Int),(m:Int),(m:Int),w,0,(N:Int))=c) :
  ∀(k i L p:Nat) (w:Str),(s.drop p).count 0=m-i->i<=m->m-i<k->p<=s.length->L=(esc (s.take p)).length->w.length=N->w.take L=esc (s.take p)->Ak (λrec=>Of rec kx) k (s,[0],[0,255],(L:Int),(p:Int),(m:Int),(i:Int),w,0,(N:Int))=c
 |0,i,L,p,w,_,_,h,_,_,_,_=>by omega
 |k+1,i,L,p,w,hc,him,hk,hp,hL,hw,ht=>by
  have hcl:s.count 0<=s.length:=List.count_le_length;have hNs:N<=137438953472:=by rw[hN,A7b];omega
  rw[A8];by_cases hi:i<m
  ·obtain⟨A,B,hd,hA,hix,hcb⟩:=Aim (l:=s.drop p) (by omega);have e1:s.take (p+A.length+1)=s.take p++(A++[0]):=by rw[Nat.add_assoc,List.take_add,hd];congr 1;rw[show A++0::B=(A++[0])++B by simp];exact List.take_left' (by simp)
   have e2:s.drop (p+A.length+1)=B:=by rw[Nat.add_assoc,<-List.drop_drop,hd,show A++0::B=(A++[0])++B by simp];exact List.drop_left' (by simp)
   have e3:esc (s.take (p+A.length+1))=esc (s.take p)++(A++[0,255]):=by rw[e1,N9,N9,Ar6 hA];rfl
   have hpl:p+A.length+1<=s.length:=by have:=congrArg List.length hd;simp only[Za2,Zh1,Zf1] at this;omega
   have hL2:L+A.length+2=(esc (s.take (p+A.length+1))).length:=by rw[e3,Zh1,<-hL];simp;omega
   have hLN:L+A.length+2<=N:=by
    have:esc s=esc (s.take (p+A.length+1))++esc (s.drop (p+A.length+1)):=by rw[<-N9,List.take_append_drop]
    rw[hN,this,Zh1];omega
   have hsl:(Cd w L A).length=N:=by rw[Ej _ _ _ (by omega)];exact hw
   rw[A07 hs hNs hi (by simp only[ln];omega) hd (hd▸hix) hLN hw];refine Ai3 hs hN hm h0 k (i+1) (L+A.length+2) (p+A.length+1) _ ?_ (by omega) (by omega) hpl hL2 ?_ ?_
   ·rw[e2];omega
   ·rw[Ej _ _ _ (by rw[hsl];simp;omega)];exact hsl
   ·rw[show L+A.length+2=(L+A.length)+([0,255]:Str).length by rfl,Qk _ _ _ (by rw[hsl];simp;omega),Qk _ _ _ (by omega),ht,e3];simp
  ·have him:i=m:=by omega
   subst him;simp only[Of,Zd1 (show ¬((i:Nat):Int)<(i:Int) by omega),Af];exact h0 L p w hp hL hw ht (by omega)
theorem Bjk:FO 323 [.sl .byte false,.sl .byte false,.sl .byte false,.int .i64] [.sl .byte true] At9 :=.fin 0 Bdk λ(s,old,new,n) r hb hx=>⟨s.count 0+1,by
 simp only[At9,Axi] at hx;cases hc:decide (old=[0])&&decide (new=[0,255])&&decide (n = -1)&&decide (s.length<=68719476736) with
 |false=>rw[hc] at hx;cases hx
 |true =>
  rw[hc] at hx;simp only[Zb1,Zg1] at hc;obtain⟨⟨⟨rfl,rfl⟩,rfl⟩,hs⟩:=hc;have hx:some (esc s)=some r:=hx;rw[<-hx];have hcl:s.count 0<=s.length:=List.count_le_length;have hNl:=A7b s;have ecount:At7 s [0]=some ((s.count 0:Nat):Int):=rfl;have l2:([0,255]:Str).length=2:=rfl;have l1:([0]:Str).length=1:=rfl;by_cases h0:s.count 0=0
  ·have hno:(0:UInt8)∉s:=List.count_eq_zero.1 h0;have c1:decide (0+s.length<=Ai)=true:=Ze1 (by simp only[Ai];omega);have c2:decide (((s.count 0:Nat):Int)=0)=true:=Ze1 (by omega);simp only[V3,ecount,Zc1,c2,Ah,c1,chk,Ar6 hno];rfl
  ·have c2:decide (((s.count 0:Nat):Int)=0)=false:=Zd1 (by omega);have c3:wr .i64 (((2:Nat):Int)-((1:Nat):Int))=1:=by decide
   have c4:wr .i64 (((s.count 0:Nat):Int)*1)=((s.count 0:Nat):Int):=by rw[Int.mul_one,B0 (by simp only[inI];omega)]
   have c5:wr .i64 ((s.length:Int)+((s.count 0:Nat):Int))=(((esc s).length:Nat):Int):=by rw[B0 (by simp only[inI];omega),hNl];rfl
   have c6:(upI 0 (((esc s).length:Nat):Int) (((esc s).length:Nat):Int)&&decide ((((esc s).length:Nat):Int)<=(Ai:Int)))=true:=by
    have h1:(((esc s).length:Nat):Int)<=274877906944:=by rw[hNl];omega
    simp only[upI,Zb1,Zg1];exact⟨⟨⟨Int.le_refl _,Int.natCast_nonneg _⟩,Int.le_refl _⟩,h1⟩
   have c7:decide ((0:Int)<((1:Nat):Int))=true:=rfl;have c8:decide ((-1:Int)<0)=true:=rfl;have c9:(!decide ((-1:Int)=0))=true:=rfl;simp only[V3,c9,ecount,Zc1,c2,Ah,Af,c8,l1,l2,c3,c4,c5,c6,chk,c7];refine Ai3 (c:=some (esc s)) (N:=(esc s).length) (m:=s.count 0) hs rfl hcl (λL p w hp hL hw ht hz =>?_) (s.count 0+1) 0 0 0 _ (by simp) (Nat.zero_le _) (by omega) (Nat.zero_le _) (by simp[esc]) (by simp) (by simp[esc]);have hdn:(0:UInt8)∉s.drop p:=List.count_eq_zero.1 hz;have hes:esc s=esc (s.take p)++s.drop p:=by rw[<-Ar6 hdn,<-N9,List.take_append_drop]
   have hNL:(esc s).length=L+(s.drop p).length:=by rw[hes,Zh1,<-hL]
   have hdl:(s.drop p).length=s.length-p:=Za2;have e1:upI (L:Int) (((esc s).length:Nat):Int) (((esc s).length:Nat):Int)=true:=by simp only[upI,Zb1,Zg1];omega
   have e2:upto (p:Int) (s.length:Int) s.length=true:=by rw[Alo];simp;omega
   have e3:(decide ((0:Int)<=(L:Int))&&decide ((0:Int)<=((((esc s).length:Nat):Int)-(L:Int)))&&decide ((L:Int)+((((esc s).length:Nat):Int)-(L:Int))<=(((esc s).length:Nat):Int)))=true:=by simp only[Zb1,Zg1];omega
   have e4:min ((((esc s).length:Nat):Int)-(L:Int)).toNat (s.drop p).length=(s.drop p).length:=by omega
   have e5:wr .i64 ((L:Int)+(((s.drop p).length:Nat):Int))=(((esc s).length:Nat):Int):=by rw[B0 (by simp only[inI];omega)];omega
   have e6:upI 0 (((esc s).length:Nat):Int) (((esc s).length:Nat):Int)=true:=by simp only[upI,Zb1,Zg1];omega
   have e7:(s.drop p).take ((((esc s).length:Nat):Int)-(L:Int)).toNat=s.drop p:=List.take_of_length_le (by omega);have hsl:(Cd w L (s.drop p)).length=(esc s).length:=by rw[Ej _ _ _ (by omega)];exact hw
   have e8:decide ((0:Int)<(((esc s).length:Nat):Int))=true:=Ze1 (by omega);have e10:decide ((((esc s).length:Nat):Int)<=(((esc s).length:Nat):Int))=true:=Ze1 (Int.le_refl _);have e9:(Cd w L (s.drop p)).take (esc s).length=esc s:=by have:=Qk w L (s.drop p) (by omega);rw[<-hNL,ht] at this;rw[this,hes]
   simp only[Int.zero_add,Int.add_zero,Int.sub_zero,Int.toNat_natCast,hw,e1,e2,e3,e4,e5,e6,e7,hsl,e8,e9,e10,decide_true,Bool.true_and,Ah]⟩
def Bdz(R:Type):Px R:=pxO [(323,cA At9)] [] [] []
def Adr(x:HV [.sl .byte false,.sl .byte false,.sl .byte false]):Option (HV [.sl .byte true]):=match x with
 |(s,old,new) =>
 (Axi s old new (-1)).bind λx =>some x
theorem A31:FO 286 [.sl .byte false,.sl .byte false,.sl .byte false] [.sl .byte true] (Adr):=fR (px:=Bdz _) (n:=0) Tryz.func286 rfl (λ_ H=>⟨lv H (c1 H Bjk Ae) Aa Ab,Ag⟩) λ(_,_,_)=>by kernel_rfl
def Bfn(s old new:Str):Option Str:=Axi s old new (-1)
def Ain:FT [.sl .byte false,.sl .byte false,.sl .byte false] [.sl .byte true]:=λx=>Bfn x.1 x.2.1 x.2.2
theorem Bat:FO 286 [.sl .byte false,.sl .byte false,.sl .byte false] [.sl .byte true] Ain :=.fin0 A31 λ(s,old,new) r _ hx=>by rw[<-hx];simp only[Adr,Ain,Bfn];cases Axi s old new (-1)<;>rfl
def Atx(s:Str):Option Str:=cond (decide (s.length<=1000000)) (some s) none
def Qc:FT [.sl .byte false] [.sl .byte true]:=λx=>Atx x
theorem Rl:FO 52 [.sl .byte false] [.sl .byte true] Qc:=Axx
def Bqz(s:Str):Option Str:=cond (decide (s.length<=1000000)) (some s) none
def Ai1:FT [.sl .byte false] [.sl .byte true]:=λx=>Bqz x
theorem Aob:FO 282 [.sl .byte false] [.sl .byte true] Ai1:=Awk
theorem Bsg{c:UInt8}(n:UInt8):decide ((c.toNat:Int)=(n.toNat:Int))=decide (c=n):=by refine Zy1.2 ⟨λe=>UInt8.toNat_inj.1 (by omega),λe=>by rw[e]⟩
def nxt:Str->Str
 |[]=>[]
 |c::l=>if nxt l=[] then(if c=255 then [] else [c+1]) else c::nxt l
theorem Aug:∀n:Nat,nxt (List.replicate n 255)=[]
 |0=>rfl
 |n+1=>by simp[List.replicate_succ,nxt,Aug n]
theorem Awj{c:UInt8}(h:c≠255)(n:Nat):∀l:Str,nxt (l++c::List.replicate n 255)=l++[c+1]
 |[]=>by simp[nxt,Aug,h]
 |d::l=>by simp[nxt,Awj h n l]
def Wh:Sig:=⟨35,[],[],[(0,.one (.dn .byte))],1,0,0,[],[(3,0,.byte)]⟩
abbrev G8:=List UInt8×Int×Int
def N8{R:Type}(rec:G8->Option R)(kx:Ex->G8->Option R)(v:G8):Option R:=match v with
 |(w,w1,w2) =>
 cond (decide (0<w2)) (
  chk (inO (wr .i64 (w2-1)) w2) (
  chk (inb (w1+(wr .i64 (w2-1))) w.length) (
   cond (decide (((at' .byte w (w1+(wr .i64 (w2-1)))).toNat:Int)=255)) (
   chk (upI 0 (wr .i64 (w2-1)) w2) (
    rec (w,w1,(wr .i64 (w2-1))))) (
   kx (.exit 0) (w,w1,w2))))) (
  kx (.exit 0) (w,w1,w2))
noncomputable def Ao6(R:Type)(_k:Nat):Px R:=pxO [(52,K7 [.sl .byte false] .byte Qc)] [] [] []
noncomputable def Ya(R:Type)(k:Nat):Px R:=pxO [(52,K7 [.sl .byte false] .byte Qc)] [] [(2,As2 (Ao6 R k) (lp Tryz.f199 0) k Wh (N8))] []
theorem A4o(R:Type)(k:Nat):∀(fr:List Fr) (rec:G8->Option R) (kx:Ex->G8->Option R) (v:G8),Ot (Ya R k) Wh (lp Tryz.f199 0) fr rec kx v=N8 rec kx v
 |fr,rec,kx,(w,w1,w2)=>by kernel_rfl
def Aju(k:Nat)(x:HV [.sl .byte false]):Option (HV [.sl .byte false]):=match x with
 |b =>
 (Atx b).bind λx =>
  cond (List.isEmpty x) (
  some []) (
  Ak (λrec=>N8 rec (λe vz=>match vz with|(v,v1,v2)=>match e with
   |.exit 0 =>
   cond (decide (0<v2)) (
    chk (inO (wr .i64 (v2-1)) v2) (
    chk (inb (v1+(wr .i64 (v2-1))) v.length) (
     chk (inO (wr .i64 (v2-1)) v2) (
     chk (inb (v1+(wr .i64 (v2-1))) v.length) (
      chk (decide ((0:Int)<=v1)&&decide ((0:Int)<=v2)&&decide ((v1+v2)<=((v.set ((v1+(wr .i64 (v2-1))):Int).toNat (UInt8.ofNat ((wr .u8 (((at' .byte v (v1+(wr .i64 (v2-1)))).toNat:Int)+1)):Int).toNat)).length:Int))) (
      some (cut (v.set ((v1+(wr .i64 (v2-1))):Int).toNat (UInt8.ofNat ((wr .u8 (((at' .byte v (v1+(wr .i64 (v2-1)))).toNat:Int)+1)):Int).toNat)) v1 (v1+v2)))))))) (
    chk (decide ((0:Int)<=v1)&&decide ((0:Int)<=v2)&&decide ((v1+v2)<=(v.length:Int))) (
    some (cut v v1 (v1+v2))))
   |_=>none)) k (x,0,(x.length:Int)))
theorem Bcr(k:Nat):FO 199 [.sl .byte false] [.sl .byte false] (Aju k):=fR (px:=Ya _ k) (n:=1) Tryz.func199 rfl (λcx H=>by have h0:Lv cx (Ya (HV [.sl .byte false]) k):=lv H (Al (cT H Rl) Ae) Aa Ab;have h00:Lv cx (Ao6 (HV [.sl .byte false]) k):=lv H (Al (cT H Rl) Ae) Aa Ab;have hlknext_0:B3 cx (Ya (HV [.sl .byte false]) k) (lp Tryz.f199 0):=Alg h0.p h0.c h0.q (by rw[H.p];exact follows) h00.p h00.c h00.q (λ_ _ _=>rfl) (k:=k) (s:=Wh) (step:=N8) (λ_ _=>by kernel_rfl) (by kernel_rfl) (A4o _ k) (Hl (n:=0) (by kernel_rfl) Ag);exact⟨h0,(A5 Ag hlknext_0)⟩) λ_=>by kernel_rfl
def Bqk(b:Str):Option Str:=cond (decide (b.length<=1000000)) (some (nxt b)) none
def Arp:FT [.sl .byte false] [.sl .byte false]:=λx=>Bqk x
theorem A3d{w:Str}{n:Nat}(hn:n<w.length)(h:w.drop (n+1)=List.replicate (w.length-(n+1)) 255)(h2:w[n]=255):w.drop n=List.replicate (w.length-n) 255:=by rw[Av hn,h2,h,show w.length-n=(w.length-(n+1))+1 by omega,List.replicate_succ]
theorem Ajs{R:Type}{kx:Ex->G8->Option R}{w:Str}{c:Option R}(hw:w.length<=1000000)(h:∀m:Nat,m<=w.length->w.drop m=List.replicate (w.length-m) 255->(∀(h:m-1<w.length),0<m->w[m-1]≠255)->kx (.exit 0) (w,0,(m:Int))=c) :
  ∀(k n:Nat),n<=w.length->n<k->w.drop n=List.replicate (w.length-n) 255->Ak (λrec=>N8 rec kx) k (w,0,(n:Int))=c
 |0,n,_,h,_=>by omega
 |k+1,n,hn,hk,hd=>by
  rw[A8];by_cases h0 : 0<n
  ·have hl:n-1<w.length:=by omega
   have e0:wr .i64 ((n:Int)-1)=((n-1:Nat):Int):=by rw[B0 (by simp only[inI];omega)];omega
   have e1:decide ((0:Int)<(n:Int))=true:=Ze1 (by omega);have e2:inO ((n-1:Nat):Int) (n:Int)=true:=by simp only[inO,Zb1,Zg1];omega
   have e3:upI 0 ((n-1:Nat):Int) (n:Int)=true:=by simp only[upI,Zb1,Zg1];omega
   simp only[N8,e1,Ah,e0,e2,chk,Int.zero_add,Ay hl,Aw (c :=.byte) hl,e3];have q:decide (((w[n-1]).toNat:Int)=255)=decide (w[n-1]=255):=Bsg 255;rw[q];by_cases hc:w[n-1]=255
   ·rw[Ze1 hc,Ah];refine Ajs hw h k (n-1) (by omega) (by omega) (A3d hl ?_ hc);rw[show n-1+1=n by omega];exact hd
   ·rw[Zd1 hc,Af];exact h n hn hd λ_ _=>hc
  ·have h00:n=0:=by omega
   subst h00;have e1:decide ((0:Int)<((0:Nat):Int))=false:=rfl;simp only[N8,e1,Af];exact h 0 hn hd λ_ h=>absurd h (by omega)
theorem Bry{w:Str}{m:Nat}(hm:m<=w.length)(hd:w.drop m=List.replicate (w.length-m) 255)(h0 : 0<m)(hc:w[m-1]≠255):nxt w=w.take (m-1)++[w[m-1]+1]:=by
 have e:w=w.take (m-1)++w[m-1]::List.replicate (w.length-m) 255:=by
  rw[<-hd]
  conv=>lhs;rw[<-List.take_append_drop (m-1) w]
  rw[Av (show m-1<w.length by omega),show m-1+1=m by omega]
 rw[<-Awj hc (w.length-m) (w.take (m-1)),<-e]
theorem Bjj{w:Str}(hd:w.drop 0=List.replicate (w.length-0) 255):nxt w=[]:=by rw[Zq1] at hd;rw[hd];exact Aug _
theorem Bdn(b:UInt8):UInt8.ofNat (wr .u8 ((b.toNat:Int)+1)).toNat=b+1:=by
 have:wr .u8 ((b.toNat:Int)+1)=(((b.toNat+1) % 256:Nat):Int):=by simp[wr,IntKind.wrap,IntKind.bits,IntKind.signed]
 rw[this,Int.toNat_natCast];apply UInt8.toNat_inj.1;simp
theorem Bml{w:Str}{m:Nat}{c:UInt8}(h0 : 0<m)(hm:m<=w.length):cut (w.set (m-1) c) 0 (m:Int)=w.take (m-1)++[c]:=by
 simp only[cut,Int.toNat_zero,Zq1,Int.toNat_natCast,Nat.sub_zero];rw[List.take_set];have:w.take m=w.take (m-1)++[w[m-1]]:=by
  conv=>lhs;rw[show m=(m-1)+1 by omega]
  exact(List.take_append_getElem _).symm
 have hl:(w.take (m-1)).length=m-1:=by rw[List.length_take];omega
 rw[this,List.set_append_right (h:=by omega),hl,Nat.sub_self];rfl
theorem Bhs:FO 199 [.sl .byte false] [.sl .byte false] Arp :=.fin 0 Bcr λb r hb hx=>⟨b.length+1,by
 simp only[Arp,Bqk] at hx;cases hc:decide (b.length<=1000000) with
 |false=>rw[hc] at hx;cases hx
 |true =>
  rw[hc] at hx;have hl:=of_decide_eq_true hc;have hx:some (nxt b)=some r:=hx;rw[<-hx];have e1:Atx b=some b:=by simp only[Atx];rw[Ze1 hl];rfl
  simp only[Aju,e1,Zc1];by_cases hb0:b=[]
  ·subst hb0;rfl
  ·have e2:List.isEmpty b=false:=by cases b with|nil=>exact absurd rfl hb0|cons _ _=>rfl
   rw[e2,Af];refine Ajs (c:=some (nxt b)) hl (λm hm hd hcc =>?_) (b.length+1) b.length (Zn1 _) (by omega) (by simp);by_cases h0 : 0<m
   ·have hml:m-1<b.length:=by omega
    have f0:wr .i64 ((m:Int)-1)=((m-1:Nat):Int):=by rw[B0 (by simp only[inI];omega)];omega
    have f1:decide ((0:Int)<(m:Int))=true:=Ze1 (by omega);have f2:inO ((m-1:Nat):Int) (m:Int)=true:=by simp only[inO,Zb1,Zg1];omega
    have f3:∀x:UInt8,(decide ((0:Int)<=0)&&decide ((0:Int)<=(m:Int))&&decide ((m:Int)<=(((b.set (m-1) x).length:Nat):Int)))=true:=λx=>by simp only[List.length_set,Zb1,Zg1];omega
    simp only[f1,Ah,f0,f2,chk,Int.zero_add,Ay hml,Aw (c :=.byte) hml,Int.toNat_natCast,f3,Bdn];rw[Bml h0 hm,Bry hm hd h0 (hcc hml h0)]
   ·have hm0:m=0:=by omega
    subst hm0;have f1:decide ((0:Int)<((0:Nat):Int))=false:=rfl;have f3:(decide ((0:Int)<=0)&&decide ((0:Int)<=((0:Nat):Int))&&decide ((0:Int)+((0:Nat):Int)<=((b.length:Nat):Int)))=true:=by simp
    simp only[f1,Af,f3,chk,Ah];rw[Bjj hd];simp[cut]⟩
end Go.Proofs.YtblaahgjaopdnaaGreatDoor
namespace Go.Proofs.YtblaahgjaopdnaaGreatDoor.Lp
open Go.Sx Go.RowKit
abbrev Tok:=Go.Ax.Tok
def pre(l m:List UInt8):Bool:=decide (m.length<=l.length)&&decide (l.take m.length=m)
def inI(n:Int):Prop := -9223372036854775808<=n/\n<=9223372036854775807
instance (n:Int):Decidable (inI n):=by unfold inI;infer_instance
def vis(c:Int):Bool:=decide (32<=c)&&decide (c<=126)
def visF(l:List UInt8):Bool:=l.all λb=>vis b.toNat
def rightF(k n:Int)(s:List UInt8):Bool :=
 if k=1 then n == 0&&decide (s=[]) else if k=2 then(n == 0||n == 1)&&decide (s=[]) else if k=3 then decide (s=[])
 else if k=4 then n == 0&&decide ((s.length:Int)<=1000)&&visF s else if k=5 then n == 0&&decide ((s.length:Int)<=1000) else false
def isUp(c:Int):Bool:=decide (65<=c)&&decide (c<=90)
def isLo(c:Int):Bool:=decide (97<=c)&&decide (c<=122)
def isDi(c:Int):Bool:=decide (48<=c)&&decide (c<=57)
def isIn(c:Int):Bool:=isLo c||isDi c||c == 95
def runTo(p:Int->Bool)(l:List UInt8)(i:Int):Int:=i+((l.drop i.toNat).takeWhile λb=>p b.toNat).length
theorem Hh(l:List UInt8)(j:Int)(h : 0<=j/\j<l.length):l.drop j.toNat=l.getD j.toNat 0::l.drop (j+1).toNat:=by
 have h1:j.toNat<l.length:=by omega
 have h2:(j+1).toNat=j.toNat+1:=by omega
 rw[h2,List.drop_eq_getElem_cons h1];simp[ h1]
theorem runTo_yes{p:Int->Bool}{l:List UInt8}{j:Int}(h : 0<=j/\j<l.length)(hp:p (byt l j)=true):runTo p l (j+1)=runTo p l j:=by unfold runTo;rw[Hh l j h];have:p ((l.getD j.toNat 0).toNat:Int)=true:=hp;simp only[List.takeWhile_cons,this,if_true,Zf1];omega
theorem runTo_no{p:Int->Bool}{l:List UInt8}{j:Int}(h : 0<=j/\j<l.length)(hp:p (byt l j)=false):runTo p l j=j:=by unfold runTo;rw[Hh l j h];have:p ((l.getD j.toNat 0).toNat:Int)=false:=hp;simp only[List.takeWhile_cons,this,Zj2,if_false,Zi1];omega
theorem runTo_end{p:Int->Bool}{l:List UInt8}{j:Int}(h:(l.length:Int)<=j):runTo p l j=j:=by unfold runTo;rw[Zk1 (by omega)];simp
def aloneF(l:List UInt8)(i:Int):Bool:=i == l.length || !isIn (byt l i) && !isUp (byt l i)
def dg(c:Int):Int:=IntKind.i64.wrap (IntKind.u8.wrap (c-48))
theorem Bs8(c:Int) : 0<=dg c/\dg c<=255:=by
 have e1:IntKind.u8.wrap (c-48)=(c-48) % 256:=by simp[IntKind.wrap,IntKind.bits,IntKind.signed]
 unfold dg;rw[e1,IntWalk.i64_in _ (by omega)];omega
def numGo:List UInt8->Int->Option Int
 |[],n=>some n
 |c::r,n=>if inI (n*10)/\inI (n*10+dg c.toNat) then numGo r (n*10+dg c.toNat) else none
theorem inI_dg(c:Int):inI (dg c):=by have:=Bs8 c;unfold inI;omega
def qGo:List UInt8->List UInt8->Int->List UInt8×Int
 |[],_,_=>([], -1)
 |[c],acc,i=>if c=39 then(acc,i+1) else([], -1)
 |c::d::r,acc,i=>if c=39 then(if d=39 then qGo r (acc++[39]) (i+2) else(acc,i+1)) else qGo (d::r) (acc++[c]) (i+1)
theorem Rx{l:List UInt8}{j:Int}{c:UInt8}:byt l j=(c.toNat:Int)↔l.getD j.toNat 0=c:=by unfold byt;rw[<-UInt8.toNat_inj];omega
theorem q_end{l acc:List UInt8}{j:Int}(h:(l.length:Int)<=j):qGo (l.drop j.toNat) acc j=([], -1):=by rw[Zk1 (by omega)];rfl
theorem q_last{l acc:List UInt8}{j:Int}(h : 0<=j)(hl:j+1=l.length)(hc:byt l j=39):qGo (l.drop j.toNat) acc j=(acc,j+1):=by rw[Hh l j (by omega),(Rx (c:=39)).1 hc,Zk1 (by omega)];rfl
theorem q_close{l acc:List UInt8}{j:Int}(h : 0<=j)(hl:j+1<l.length)(hc:byt l j=39)(hd:byt l (j+1)≠39):qGo (l.drop j.toNat) acc j=(acc,j+1):=by have hd':¬l.getD (j+1).toNat 0=39:=λhh=>hd ((Rx (c:=39)).2 hh);rw[Hh l j (by omega),(Rx (c:=39)).1 hc,Hh l (j+1) (by omega)];simp only[qGo,if_true,if_neg hd']
theorem q_two{l acc:List UInt8}{j:Int}(h : 0<=j)(hl:j+1<l.length)(hc:byt l j=39)(hd:byt l (j+1)=39):qGo (l.drop j.toNat) acc j=qGo (l.drop (j+1+1).toNat) (acc++[39]) (j+1+1):=by rw[Hh l j (by omega),(Rx (c:=39)).1 hc,Hh l (j+1) (by omega),(Rx (c:=39)).1 hd];simp[qGo];rw[show j+2=j+1+1 by omega]
theorem q_other{l acc:List UInt8}{j:Int}(h : 0<=j)(hl:j<l.length)(hc:¬byt l j=39):qGo (l.drop j.toNat) acc j=qGo (l.drop (j+1).toNat) (acc++[l.getD j.toNat 0]) (j+1):=by have hc':¬l.getD j.toNat 0=39:=λhh=>hc ((Rx (c:=39)).2 hh);rw[Hh l j (by omega)];cases hd:l.drop (j+1).toNat with|nil=>simp only[qGo,if_neg hc']|cons d r=>simp only[qGo,if_neg hc']
def hexD(c:Int):Option Int:=if 48<=c/\c<=57 then some (c-48) else if 97<=c/\c<=102 then some (c-87) else none
theorem hexD_lt{c n:Int}(h:hexD c=some n) : 0<=n/\n<=15:=by
 unfold hexD at h;split at h
 ·cases h;omega
 ·grind
def unGo:List UInt8->List UInt8->Option (List UInt8)
 |[],acc=>some acc
 |[_],_=>none
 |a::b::r,acc=>match hexD a.toNat,hexD b.toNat with|some x,some y=>unGo r (acc++[UInt8.ofNat (x*16+y).toNat])|_,_=>none
theorem Bnb:∀a b:Fin 16,IntKind.u8.wrap (((BitVec.ofInt IntKind.u8.bits (IntKind.u8.wrap ((a.val:Int)*2 ^ min (4:Int).toNat IntKind.u8.bits)) ||| BitVec.ofInt IntKind.u8.bits (b.val:Int)).toNat:Nat):Int)=((a.val*16+b.val:Nat):Int):=by decide +kernel
theorem joinhex'{x y:Int}(hx : 0<=x/\x<=15)(hy : 0<=y/\y<=15):IntKind.u8.wrap (((BitVec.ofInt IntKind.u8.bits (IntKind.u8.wrap (x*2 ^ min (4:Int).toNat IntKind.u8.bits)) ||| BitVec.ofInt IntKind.u8.bits y).toNat:Nat):Int)=((UInt8.ofNat (x*16+y).toNat).toNat:Int):=by obtain⟨a,rfl⟩:=Int.eq_ofNat_of_zero_le hx.1;obtain⟨b,rfl⟩:=Int.eq_ofNat_of_zero_le hy.1;have:=Bnb ⟨a,by omega⟩ ⟨b,by omega⟩;simp only at this;rw[this];rw[show((a:Int)*16+(b:Int)).toNat=a*16+b by omega,UInt8.toNat_ofNat'];omega
theorem un_step{l acc:List UInt8}{j:Int}(h : 0<=j)(hl:j+1<l.length):unGo (l.drop j.toNat) acc=match hexD (byt l j),hexD (byt l (j+1)) with
  |some x,some y=>unGo (l.drop (j+2).toNat) (acc++[UInt8.ofNat (x*16+y).toNat])
  |_,_=>none:=by
 rw[Hh l j (by omega),Hh l (j+1) (by omega),show j+1+1=j+2 by omega];rfl
def signs:List UInt8:=[40,41,44,42,61,60,62,43,45,59]
def signF(l:List UInt8):Int:=if pre l [60,62]||pre l [60,61]||pre l [62,61] then 2 else if 0<=Lib.indexByte signs (byt l 0).toNat.toUInt8 then 1 else 0
def idx(x:List UInt8):List (List UInt8)->Int->Int
 |[],_ => -1
 |l::r,i=>if x=l then i else idx x r (i+1)
theorem idx_ge(x:List UInt8):∀(ls:List (List UInt8)) (i:Int),0<=i->(0<=idx x ls i↔x∈ls)
 |[],i,_=>by simp[idx]
 |l::r,i,h=>by
  by_cases hx:x=l
  ·simp[idx,hx,h]
  ·simp[idx,hx,idx_ge x r (i+1) (by omega)]
def wordF(l:List UInt8):Bool:=wordsL.contains l
def nameF(l:List UInt8):Bool := !decide (l=[])&&decide ((l.length:Int)<=30)&&isLo (byt l 0)&&(runTo isIn l 0 == l.length)
def tokF(l:List UInt8)(i:Int):Option (Int×List UInt8×Int×Int) :=
 if pre (l.drop i.toNat) [120,39] then
  let n:=Lib.indexByte (l.drop (i+2).toNat) 39
  if n<0 then none else
  let x:=cut l (i+2) (i+2+n);match(if x.length % 2=0 then unGo x [] else none) with|none=>none|some b=>if 1000<(b.length:Int) then none else some (5,b,0,i+3+n)
 else if isUp (byt l i) then
  if wordF (cut l i (runTo isUp l i))&&aloneF l (runTo isUp l i) then some (1,cut l i (runTo isUp l i),0,runTo isUp l i) else none
 else if isLo (byt l i) then
  if nameF (cut l i (runTo isIn l i))&&aloneF l (runTo isIn l i) then some (2,cut l i (runTo isIn l i),0,runTo isIn l i) else none
 else if isDi (byt l i) then
  match numGo (cut l i (runTo isDi l i)) 0 with|none=>none|some n=>if(decide (cut l i (runTo isDi l i)=[48])||byt (cut l i (runTo isDi l i)) 0 != 48)&&aloneF l (runTo isDi l i) then some (3,cut l i (runTo isDi l i),n,runTo isDi l i) else none
 else if byt l i=39 then
  let q:=qGo (l.drop (i+1).toNat) [] (i+1)
  if rightF 4 0 q.1 then(if q.2<0 then none else some (4,q.1,0,q.2)) else none
 else if signF (l.drop i.toNat)=0 then none else some (6,cut l i (i+signF (l.drop i.toNat)),0,i+signF (l.drop i.toNat))
theorem runTo_range(p:Int->Bool)(l:List UInt8)(i:Int)(h : 0<=i/\i<=l.length):i<=runTo p l i/\runTo p l i<=l.length:=by unfold runTo;have h1:=(List.takeWhile_prefix (λb:UInt8=>p b.toNat) (l:=l.drop i.toNat)).length_le;rw[Za2] at h1;omega
theorem runTo_gt{p:Int->Bool}{l:List UInt8}{i:Int}(h : 0<=i/\i<l.length)(hp:p (byt l i)=true):i+1<=runTo p l i:=by have h1:=runTo_yes h hp;have h2:=runTo_range p l (i+1) (by omega);omega
theorem cut_length(l:List UInt8)(a b:Int)(h : 0<=a/\a<=b/\b<=l.length):((cut l a b).length:Int)=b-a:=by unfold cut;rw[List.length_take,Za2];omega
theorem signF_in(l:List UInt8)(h : 0<l.length):signF l=0\/signF l=1\/(signF l=2/\2<=l.length):=by
 unfold signF;split
 ·rename_i hp;right;right;refine⟨rfl,?_⟩;simp[pre] at hp;omega
 ·grind
theorem qGo_in:∀(n:Nat) (l acc:List UInt8) (i:Int),l.length<=n->0<=i->(qGo l acc i).2 = -1\/(i+1<=(qGo l acc i).2/\(qGo l acc i).2<=i+l.length)
 |n,[],acc,i,_,h=>by left;rfl
 |n,[c],acc,i,_,h=>by
  simp[qGo];split
  ·right;simp
  ·left;rfl
 |0,_::_::_,_,_,hn,_=>by simp at hn
 |n+1,c::d::r,acc,i,hn,h=>by
  simp at hn ⊢;simp[qGo];split
  ·split
   ·rcases qGo_in n r (acc++[39]) (i+2) (by omega) (by omega) with h1|h1
    ·exact .inl h1
    ·right;omega
   ·right;simp;omega
  ·rcases qGo_in n (d::r) (acc++[c]) (i+1) (by simp;omega) (by omega) with h1|h1
   ·exact .inl h1
   ·right;simp at h1;omega
theorem indexByte_in:∀(l:List UInt8) (c:UInt8),Lib.indexByte l c = -1\/(0<=Lib.indexByte l c/\Lib.indexByte l c<l.length)
 |[],c =>.inl rfl
 |b::l,c=>by
  simp only[Lib.indexByte,Zf1];split
  ·right;omega
  ·rcases indexByte_in l c with h|h
   ·left;simp[h]
   ·right;have:¬((Lib.indexByte l c == -1)=true):=by simp;omega
    rw[if_neg this];omega
def blankF(c:Int):Bool:=decide (0<=Lib.indexByte [32,9,10,13] c.toNat.toUInt8)
def allGo:Nat->List UInt8->Int->List Tok->Except Int (List Tok)
 |0,_,_,acc =>.ok acc
 |f+1,l,i,acc =>
  if(l.length:Int)<=i then .ok acc
  else if blankF (byt l i) then allGo f l (i+1) acc
  else match tokF l i with|none =>.error i|some (k,s,n,e)=>allGo f l e (acc++[⟨k,i,s,n⟩])
def allF(l:List UInt8):Except Int (List Tok):=allGo (l.length+1) l 0 []
theorem tok_end{l:List UInt8}{i:Int}(h0 : 0<=i/\i<l.length){k:Int}{s:List UInt8}{n e:Int}(h:tokF l i=some (k,s,n,e)):i<e/\e<=l.length:=by
 unfold tokF at h;split at h
 ·rename_i hx;have hdl:(l.drop i.toNat).length=l.length-i.toNat:=Za2;have h2 : 2<=(l.drop i.toNat).length:=by simp[pre] at hx;omega
  have hdl2:(l.drop (i+2).toNat).length=l.length-(i+2).toNat:=Za2;have hib:=indexByte_in (l.drop (i+2).toNat) 39;simp only at h;split at h
  ·cases h
  ·split at h
   ·cases h
   ·split at h
    ·cases h
    ·cases h;omega
 ·split at h
  ·rename_i hu;have hr:=runTo_range isUp l i (by omega);have hg:=runTo_gt h0 hu;split at h
   ·cases h;omega
   ·cases h
  ·split at h
   ·rename_i hlo;have hr:=runTo_range isIn l i (by omega);have hg:=runTo_gt (p:=isIn) h0 (by simp[isIn,hlo]);split at h
    ·cases h;omega
    ·cases h
   ·split at h
    ·rename_i hd;have hr:=runTo_range isDi l i (by omega);have hg:=runTo_gt h0 hd;split at h
     ·cases h
     ·split at h
      ·cases h;omega
      ·cases h
    ·split at h
     ·have hqi:=qGo_in _ (l.drop (i+1).toNat) [] (i+1) (Zn1 _) (by omega);have hdl:(l.drop (i+1).toNat).length=l.length-(i+1).toNat:=Za2;simp only at h;split at h
      ·split at h
       ·cases h
       ·cases h;omega
      ·cases h
     ·split at h
      ·cases h
      ·have hdl:(l.drop i.toNat).length=l.length-i.toNat:=Za2;have hs:=signF_in (l.drop i.toNat) (by omega);cases h;omega
end Go.Proofs.YtblaahgjaopdnaaGreatDoor.Lp
namespace Go.Ax
theorem FnOk.ofIs{P:Program}{el:Ck->TypeId}{gl:Nat->Option Gv}{f:FuncId}{sa sr:List Sg}{F:FT sa sr}(he:Sx.Enters P f)(ho:Bb 0 sr=[])(h:∀x r,F x=some r->∃(us:List Value) (v:Value),(∀X vs,Reps X (Br 0 sa x) vs->vs=us)/\Sx.Con P f us [] (λ_=>True) (Sx.Is v)/\∀X,BdL sa x->Rep X (Eh (Br 0 sr r)) v):FnOk P el gl f sa sr F:=by
 refine⟨he,λx r hx w M vs hM hgl hr =>?_⟩;obtain⟨us,v,h1,h2,h3⟩:=h x r hx;obtain rfl:=h1 _ _ hr;refine(h2.calls w (λ_ _=>trivial)).mono ?_;rintro en w' ⟨u,L',F',rfl,⟨rfl,_,_⟩,_,hb⟩;refine⟨u,⟨λ_=>0,λ_=>Option.none⟩,rfl,Chg.of_below hb,λp g o hp =>?_,λp q g o o' hp =>?_,h3 _ (Ys hr)⟩
 ·rw[ho] at hp;cases hp
 ·rw[ho] at hp;cases hp
end Go.Ax
namespace Go.Proofs.YtblaahgjaopdnaaGreatDoor
open Go.Ax
open Go.Sx (Con S Is Bf Bgw)
theorem Azh(a b:Str)(w:World):(callFunc 351 #[S a,S b]).run Tryz.prog w = .ok (.value (.int .i64 (Lib.compareBytes a b))) w:=by rw[run_callFunc_extern Tryz.func351 (by kernel_rfl) rfl (by kernel_rfl) (e:=Extern.BytealgCompare.compare) (by kernel_rfl)];simp[Lib.run_compareString]
set_option maxRecDepth 20000 in
open Go.Sx in
theorem Aeh(a b:Str):Con Tryz.prog 320 [S a,S b] [] (λ_=>True) (Is (.int .i64 (Lib.compareBytes a b))):=by
 refine Bf Tryz.func320 Tryz.ntmps320 rfl (by kernel_rfl) rfl λw M =>?_
 repeat' (first|refine C9 ?_|refine Bc ?_|refine Bz ?_|refine B1 ?_|refine n_blk ?_|refine g_block ?_|refine Dd ?_|refine g_exit ?_|refine x_here ?_|refine x_seq ?_|refine x_loop ?_|refine x_blk rfl ?_|refine g_scope ?_|refine n_scope ?_|refine x_scope ?_|refine g_label ?_|(apply Ao rfl rfl;(first|exact p_move rfl|exact p_assign rfl|exact p_lens (by dsimp only;decide +kernel) rfl|exact p_lensl (by dsimp only;decide +kernel) rfl|exact p_extract rfl rfl|exact p_pick_t rfl rfl|exact p_pick_f rfl rfl|exact p_eql rfl rfl|exact p_neq rfl rfl|exact p_lss rfl rfl|exact p_leq rfl rfl|exact p_gtr rfl rfl|exact p_geq rfl rfl|exact p_not rfl|exact p_eqls rfl rfl|exact p_neqs rfl rfl|exact Yk rfl rfl (by omega)|exact Ie rfl rfl (by omega)|exact p_index (by dsimp only;decide +kernel) rfl rfl (by omega)|exact p_cut (by dsimp only;decide +kernel) rfl rfl rfl (by omega)|exact p_cutlo (by dsimp only;decide +kernel) rfl rfl (by omega)|exact p_cuthi (by dsimp only;decide +kernel) rfl rfl (by omega)|exact p_fa (fo:=0) (by dsimp only;decide +kernel) rfl|exact p_fa (fo:=1) (by dsimp only;decide +kernel) rfl|exact p_fa (fo:=2) (by dsimp only;decide +kernel) rfl|exact p_fa (fo:=3) (by dsimp only;decide +kernel) rfl|exact p_nil rfl))|refine o_off rfl rfl ?_|refine o_off_none rfl ?_|(apply Ao rfl rfl (A58 rfl rfl (Azh _ _)))|(refine o_gsd rfl rfl ?_ ?_<;>intro hc)|(refine o_gse rfl rfl ?_ ?_<;>intro hc)|(refine o_gsn rfl rfl ?_ ?_<;>intro hc)|(refine o_gsxd rfl rfl ?_ ?_<;>intro hc)|(refine o_gsx rfl rfl ?_ ?_<;>intro hc)|(refine o_gs rfl rfl ?_ ?_<;>intro hc)|refine g_cond_t rfl rfl ?_|refine g_cond_f rfl rfl ?_|refine g_cond_t rfl (Ze1 (by omega)) ?_|refine g_cond_f rfl (Zd1 (by omega)) ?_|(refine Hf rfl ?_ ?_<;>intro hc)|(refine g_conde rfl ?_ ?_<;>intro hc)|(refine g_condn rfl ?_ ?_<;>intro hc)|(refine g_condxd rfl ?_ ?_<;>intro hc)|(refine g_condx rfl ?_ ?_<;>intro hc)|(refine E5 rfl ?_ ?_<;>intro hc)|refine Bt rfl rfl ?_|refine g_ret2 rfl rfl rfl ?_|refine g_ret3 rfl rfl rfl rfl ?_|fail)
 exact Bgw rfl
def Uy(a b:Str):Int:=Lib.compareBytes a b
def A16:FT [.str,.str] [.int .i64]:=λx=>some (Uy x.1 x.2)
theorem Als:∀(a b:Str),Uy a b = -1\/Uy a b=0\/Uy a b=1
 |[],[]=>by simp[Uy,Lib.compareBytes]
 |[],_::_=>by simp[Uy,Lib.compareBytes]
 |_::_,[]=>by simp[Uy,Lib.compareBytes]
 |a::l,b::m=>by
  have ih:=Als l m;simp only[Uy,Lib.compareBytes] at ih ⊢;split
  ·simp
  ·grind
theorem Bom:FO 320 [.str,.str] [.int .i64] A16:=by
 refine FnOk.ofIs (Aeh [] []).enters rfl λx r hx =>?_;obtain⟨a,b⟩:=x;simp only[A16,Za1] at hx;subst hx;refine⟨[S a,S b],_,λX vs h =>?_,Aeh a b,λX hb =>?_⟩
 ·simp only[Br,Ce,Reps,Rep] at h;obtain⟨u,us,rfl,⟨rfl,_⟩,u2,us2,rfl,⟨rfl,_⟩,rfl⟩:=h;rfl
 ·simp only[Eh,Br,Ce];have h:=Als a b;refine Cu (Anm ?_);simp only[IntKind.min,IntKind.max,IntKind.signed,IntKind.bits];simp only[if_true];omega
end Go.Proofs.YtblaahgjaopdnaaGreatDoor
namespace Go.Proofs.YtblaahgjaopdnaaGreatDoor
open Go.Ax
def X7:Sig:=⟨20,[(0,.str),(2,.bool),(5,.int .i64),(6,.int .i64)],[],[],0,0,0,[],[]⟩
abbrev J9:=Str×Bool×Int×Int
def Il{R:Type}(rec:J9->Option R)(kx:Ex->J9->Option R)(v:J9):Option R:=match v with
 |(v,v1,v2,v3) =>
 cond (decide (v3<v2)) (
  chk (inb v3 v.length) (
  cond (decide ((bat v v3)<32)) (
   kx .ret (v,false,v2,v3)) (
   chk (inb v3 v.length) (
   cond (decide (126<(bat v v3))) (
    kx .ret (v,false,v2,v3)) (
    rec (v,v1,v2,(wr .i64 (v3+1)))))))) (
  kx (.exit 0) (v,v1,v2,v3))
def Aid(R:Type)(k:Nat):Px R:=pxO [] [] [(2,Am k X7 (Il))] []
def Aus(k:Nat)(x:HV [.str]):Option (HV [.bool]):=match x with
 |s =>
 Ak (λrec=>Il rec (λe vz=>match vz with|(_,v5,_,_)=>match e with
  |.ret =>
  some v5
  |.exit 0 =>
  some true
  |_=>none)) k (s,false,(s.length:Int),0)
theorem Azn(k:Nat):FO 163 [.str] [.bool] (Aus k):=fR (px:=Aid _ k) (n:=1) Tryz.func163 rfl (λcx H=>by have h0:Lv cx (Aid (HV [.bool]) k):=lv H Ae Aa Ab;have hlvisible_0:=lO H h0 (b:=lp Tryz.f163 0) (k:=k) (n:=0) (s:=X7) (step:=Il) (λ_ _ _ (_,_,_,_)=>by kernel_rfl) Ag;exact⟨h0,(A5 Ag hlvisible_0)⟩) λ_=>by kernel_rfl
def vis(b:UInt8):Bool:=decide (32<=b.toNat)&&decide (b.toNat<=126)
def M4(s:Str):Bool:=s.all vis
def Abz:FT [.str] [.bool]:=λx=>some (M4 x)
theorem X4{R:Type}{kx:Ex->J9->Option R}{s:Str}{a b:Option R}(hs:ln s.length)(h1:∀r j,kx .ret (s,false,r,j)=a)(h2:∀q r j,kx (.exit 0) (s,q,r,j)=b):∀(k i:Nat) q,i<=s.length->s.length-i<k->Ak (λrec=>Il rec kx) k (s,q,(s.length:Int),(i:Int))=cond ((s.drop i).all vis) b a
 |0,i,q,_,h=>by omega
 |k+1,i,q,hi,h=>by
  rw[A8];by_cases hl:i<s.length
  ·simp only[Il,As hl hs,(X4 hs h1 h2 k (i+1) q (by omega) (by omega)),h1,Av hl,C3 hl,Ay hl,Zv1,Bool.cond_decide];rw[if_pos (by omega)];simp only[vis];split
   ·rw[Zd1 (by omega)];rfl
   ·split
    ·rw[Ze1 (by omega),Zd1 (by omega)];rfl
    ·rw[Ze1 (by omega),Ze1 (by omega)];rfl
  ·simp[Il,h2,Bool.cond_decide];rw[if_neg (by omega),Zk1 (by omega)];rfl
theorem A3m:FO 163 [.str] [.bool] Abz :=.fin 0 Azn λx r hb hx=>⟨x.length+1,by simp only[Abz,Za1] at hx;have:=X4 (a:=some false) (b:=some true) hb (kx:=λe v=>match v with|(_,v5,_,_)=>match e with|.ret=>some v5|.exit 0=>some true|_=>none) (λ_ _=>rfl) (λ_ _ _=>rfl) (x.length+1) 0 false (Nat.zero_le _) (by omega);refine Eq.trans this ?_;rw[<-hx,Zq1,M4];cases x.all vis<;>rfl⟩
def A95(R:Type):Px R:=pxO [(163,cA Abz)] [] [] []
def P4(x:HV [.sv .val]):Option (HV [.bool]):=match x with
 |v =>
 cond (decide (v.kind=1)) (
  cond (decide (v.n=0)) (
  some (decide (v.s=[]))) (
  some false)) (
  cond (decide (v.kind=2)) (
  cond (decide (v.n=0)) (
   some (decide (v.s=[]))) (
   cond (decide (v.n=1)) (
   some (decide (v.s=[]))) (
   some false))) (
  cond (decide (v.kind=3)) (
   some (decide (v.s=[]))) (
   cond (decide (v.kind=4)) (
   cond (decide (v.n=0)) (
    cond (decide ((v.s.length:Int)<=1000)) (
    some (M4 v.s)) (
    some false)) (
    some false)) (
   cond (decide (v.kind=5)) (
    cond (decide (v.n=0)) (
    some (decide ((v.s.length:Int)<=1000))) (
    some false)) (
    some false)))))
theorem A4g:FO 101 [.sv .val] [.bool] (P4):=fR (px:=A95 _) (n:=0) Tryz.func101 rfl (λ_ H=>⟨lv H (c1 H A3m Ae) Aa Ab,Ag⟩) λ_=>by kernel_rfl
def Be(v:Val):Bool :=
 cond (decide (v.kind=1)) (
  cond (decide (v.n=0)) (
  (decide (v.s=[]))) (
  false)) (
  cond (decide (v.kind=2)) (
  cond (decide (v.n=0)) (
   (decide (v.s=[]))) (
   cond (decide (v.n=1)) (
   (decide (v.s=[]))) (
   false))) (
  cond (decide (v.kind=3)) (
   (decide (v.s=[]))) (
   cond (decide (v.kind=4)) (
   cond (decide (v.n=0)) (
    cond (decide ((v.s.length:Int)<=1000)) (
    (M4 v.s)) (
    false)) (
    false)) (
   cond (decide (v.kind=5)) (
    cond (decide (v.n=0)) (
    (decide ((v.s.length:Int)<=1000))) (
    false)) (
    false)))))
theorem A0n(x:HV [.sv .val]):P4 x=some (Be x):=by
 first
  |exact rfl
  |simp only[P4,Be,A0]
def Zk:FT [.sv .val] [.bool]:=λx=>some (Be x)
theorem Ack:FO 101 [.sv .val] [.bool] Zk :=.fin0 A4g λx _ _ hx=>(A0n x).trans hx
def Bbl(R:Type):Px R:=pxO [(101,cA Zk)] [] [] []
def Qx(x:HV [.sv .val]):Option (HV [.int .i64]):=match x with
 |v =>
 cond (!(Be v)) (
  some 2) (
  some 0)
theorem A2s:FO 59 [.sv .val] [.int .i64] (Qx):=fR (px:=Bbl _) (n:=0) Tryz.func59 rfl (λ_ H=>⟨lv H (c1 H Ack Ae) Aa Ab,Ag⟩) λ_=>by kernel_rfl
def Gr(v:Val):Int :=
 cond (!(Be v)) (
  2) (
  0)
theorem A3f(x:HV [.sv .val]):Qx x=some (Gr x):=by
 first
  |exact rfl
  |simp only[Qx,Gr,A0]
def Ms:FT [.sv .val] [.int .i64]:=λx=>some (Gr x)
theorem Mt:FO 59 [.sv .val] [.int .i64] Ms :=.fin0 A2s λx _ _ hx=>(A3f x).trans hx
def Bl8(R:Type):Px R:=pxO [(101,cA Zk)] [] [] []
def Wp(x:HV [.sv .val,.int .i64]):Option (HV [.bool]):=match x with
 |(v,kind) =>
 cond ((Be v)) (
  cond (decide (v.kind=1)) (
  some true) (
  some (decide (v.kind=kind)))) (
  some false)
theorem A83:FO 307 [.sv .val,.int .i64] [.bool] (Wp):=fR (px:=Bl8 _) (n:=0) Tryz.func307 rfl (λ_ H=>⟨lv H (c1 H Ack Ae) Aa Ab,Ag⟩) λ(_,_)=>by kernel_rfl
def A8w(v:Val)(kind:Int):Bool :=
 cond ((Be v)) (
  cond (decide (v.kind=1)) (
  true) (
  (decide (v.kind=kind)))) (
  false)
theorem A9h(x:HV [.sv .val,.int .i64]):Wp x=some (A8w x.1 x.2):=by
 first
  |exact rfl
  |simp only[Wp,A8w,A0]
def A5a:FT [.sv .val,.int .i64] [.bool]:=λx=>some (A8w x.1 x.2)
theorem Bie:FO 307 [.sv .val,.int .i64] [.bool] A5a :=.fin0 A83 λx _ _ hx=>(A9h x).trans hx
def Bf7(R:Type):Px R:=pxO [] [] [] []
def Wu(x:HV [.int .i64,.int .i64]):Option (HV [.int .i64]):=match x with
 |(a,b) =>
 cond (decide (a<b)) (
  some (-1)) (
  cond (decide (b<a)) (
  some 1) (
  some 0))
theorem A89:FO 273 [.int .i64,.int .i64] [.int .i64] (Wu):=fR (px:=Bf7 _) (n:=0) Tryz.func273 rfl (λ_ H=>⟨lv H Ae Aa Ab,Ag⟩) λ(_,_)=>by kernel_rfl
def H7(a:Int)(b:Int):Int :=
 cond (decide (a<b)) (
  (-1)) (
  cond (decide (b<a)) (
  1) (
  0))
theorem Ba7(x:HV [.int .i64,.int .i64]):Wu x=some (H7 x.1 x.2):=by
 first
  |exact rfl
  |simp only[Wu,H7,A0]
def A7g:FT [.int .i64,.int .i64] [.int .i64]:=λx=>some (H7 x.1 x.2)
theorem Bjs:FO 273 [.int .i64,.int .i64] [.int .i64] A7g :=.fin0 A89 λx _ _ hx=>(Ba7 x).trans hx
def Bov(R:Type):Px R:=pxO [] [] [] []
def Abr(x:HV [.int .i64,.int .i64]):Option (HV [.int .i64,.int .i64]):=match x with
 |(a,b) =>
 cond (!decide ((decide (a<(wr .i64 (a+b))))=(decide (0<b)))) (
  some (0,20)) (
  some ((wr .i64 (a+b)),0))
theorem Bij:FO 232 [.int .i64,.int .i64] [.int .i64,.int .i64] (Abr):=fR (px:=Bov _) (n:=0) Tryz.func232 rfl (λ_ H=>⟨lv H Ae Aa Ab,Ag⟩) λ(_,_)=>by kernel_rfl
def A0v(a:Int)(b:Int):Int×Int :=
 cond (!decide ((decide (a<(wr .i64 (a+b))))=(decide (0<b)))) (
  (0,20)) (
  ((wr .i64 (a+b)),0))
theorem Bir(x:HV [.int .i64,.int .i64]):Abr x=some (A0v x.1 x.2):=by
 first
  |exact rfl
  |simp only[Abr,A0v,A0]
def Bkf:FT [.int .i64,.int .i64] [.int .i64,.int .i64]:=λx=>some (A0v x.1 x.2)
theorem Bnj:FO 232 [.int .i64,.int .i64] [.int .i64,.int .i64] Bkf :=.fin0 Bij λx _ _ hx=>(Bir x).trans hx
def Bej(R:Type):Px R:=pxO [] [] [] []
def Wz(x:HV [.int .i64]):Option (HV [.int .u64]):=match x with
 |n =>
 cond (decide (n<0)) (
  some (wr .u64 (0-(wr .u64 n)))) (
  some (wr .u64 n))
theorem Bdg:FO 276 [.int .i64] [.int .u64] (Wz):=fR (px:=Bej _) (n:=0) Tryz.func276 rfl (λ_ H=>⟨lv H Ae Aa Ab,Ag⟩) λ_=>by kernel_rfl
def Dq(n:Int):Int :=
 cond (decide (n<0)) (
  (wr .u64 (0-(wr .u64 n)))) (
  (wr .u64 n))
theorem Bak(x:HV [.int .i64]):Wz x=some (Dq x):=by
 first
  |exact rfl
  |simp only[Wz,Dq,A0]
def Auw:FT [.int .i64] [.int .u64]:=λx=>some (Dq x)
theorem Aw5:FO 276 [.int .i64] [.int .u64] Auw :=.fin0 Bdg λx _ _ hx=>(Bak x).trans hx
def Au1(R:Type):Px R:=pxO [(320,cA A16)] [] [] []
def Kq(x:HV [.str,.str]):Option (HV [.int .i64]):=match x with
 |(a,b) =>
 some (Uy a b)
theorem As3:FO 274 [.str,.str] [.int .i64] (Kq):=fR (px:=Au1 _) (n:=0) Tryz.func274 rfl (λ_ H=>⟨lv H (c1 H Bom Ae) Aa Ab,Ag⟩) λ(_,_)=>by kernel_rfl
def Jj(a:Str)(b:Str):Int :=(Uy a b)
theorem Atr(x:HV [.str,.str]):Kq x=some (Jj x.1 x.2):=by
 first
  |exact rfl
  |simp only[Kq,Jj,A0]
def Vo:FT [.str,.str] [.int .i64]:=λx=>some (Jj x.1 x.2)
theorem Adg:FO 274 [.str,.str] [.int .i64] Vo :=.fin0 As3 λx _ _ hx=>(Atr x).trans hx
def Bn2(R:Type):Px R:=pxO [(273,cA A7g),(274,cA Vo)] [] [] []
def Ab7(x:HV [.sv .val,.sv .val]):Option (HV [.int .i64]):=match x with
 |(a,b) =>
 cond (!decide ((H7 a.kind b.kind)=0)) (
  some (H7 a.kind b.kind)) (
  cond (!decide ((H7 a.n b.n)=0)) (
  some (H7 a.n b.n)) (
  some (Jj a.s b.s)))
theorem Bes:FO 226 [.sv .val,.sv .val] [.int .i64] (Ab7):=fR (px:=Bn2 _) (n:=0) Tryz.func226 rfl (λ_ H=>⟨lv H (c1 H Bjs (c1 H Adg Ae)) Aa Ab,Ag⟩) λ(_,_)=>by kernel_rfl
def Bg1(a:Val)(b:Val):Int :=
 cond (!decide ((H7 a.kind b.kind)=0)) (
  (H7 a.kind b.kind)) (
  cond (!decide ((H7 a.n b.n)=0)) (
  (H7 a.n b.n)) (
  (Jj a.s b.s)))
theorem Bkq(x:HV [.sv .val,.sv .val]):Ab7 x=some (Bg1 x.1 x.2):=by
 first
  |exact rfl
  |simp only[Ab7,Bg1,A0]
def Ags:FT [.sv .val,.sv .val] [.int .i64]:=λx=>some (Bg1 x.1 x.2)
theorem Af2:FO 226 [.sv .val,.sv .val] [.int .i64] Ags :=.fin0 Bes λx _ _ hx=>(Bkq x).trans hx
def Bhe(R:Type):Px R:=pxO [] [] [] []
def Vm(x:HV [.int .u64,.int .u64]):Option (HV [.int .u64,.int .u64]):=match x with
 |(a,b) =>
 some ((wr .u64 ((wr .u64 ((wr .u64 ((Dt .u64 a 32)*(Dt .u64 b 32)))+(Dt .u64 (wr .u64 ((wr .u64 ((Dt .u64 a 32)*(Ef .u64 b 4294967295)))+(Dt .u64 (wr .u64 ((Ef .u64 a 4294967295)*(Ef .u64 b 4294967295))) 32))) 32)))+(Dt .u64 (wr .u64 ((Ef .u64 (wr .u64 ((wr .u64 ((Dt .u64 a 32)*(Ef .u64 b 4294967295)))+(Dt .u64 (wr .u64 ((Ef .u64 a 4294967295)*(Ef .u64 b 4294967295))) 32))) 4294967295)+(wr .u64 ((Ef .u64 a 4294967295)*(Dt .u64 b 32))))) 32))),(wr .u64 (a*b)))
theorem A84:FO 275 [.int .u64,.int .u64] [.int .u64,.int .u64] (Vm):=fR (px:=Bhe _) (n:=0) Tryz.func275 rfl (λ_ H=>⟨lv H Ae Aa Ab,Ag⟩) λ(_,_)=>by kernel_rfl
def I1(a:Int)(b:Int):Int×Int :=((wr .u64 ((wr .u64 ((wr .u64 ((Dt .u64 a 32)*(Dt .u64 b 32)))+(Dt .u64 (wr .u64 ((wr .u64 ((Dt .u64 a 32)*(Ef .u64 b 4294967295)))+(Dt .u64 (wr .u64 ((Ef .u64 a 4294967295)*(Ef .u64 b 4294967295))) 32))) 32)))+(Dt .u64 (wr .u64 ((Ef .u64 (wr .u64 ((wr .u64 ((Dt .u64 a 32)*(Ef .u64 b 4294967295)))+(Dt .u64 (wr .u64 ((Ef .u64 a 4294967295)*(Ef .u64 b 4294967295))) 32))) 4294967295)+(wr .u64 ((Ef .u64 a 4294967295)*(Dt .u64 b 32))))) 32))),(wr .u64 (a*b)))
theorem Bco(x:HV [.int .u64,.int .u64]):Vm x=some (I1 x.1 x.2):=by
 first
  |exact rfl
  |simp only[Vm,I1,A0]
def A6q:FT [.int .u64,.int .u64] [.int .u64,.int .u64]:=λx=>some (I1 x.1 x.2)
theorem Bio:FO 275 [.int .u64,.int .u64] [.int .u64,.int .u64] A6q :=.fin0 A84 λx _ _ hx=>(Bco x).trans hx
def Bmy(R:Type):Px R:=pxO [(276,cA Auw),(275,cA A6q)] [] [] []
def Abj(x:HV [.int .i64,.int .i64]):Option (HV [.int .i64,.int .i64]):=match x with
 |(a,b) =>
 let j1:=λ(p3:Bool) =>
  cond (p3) (
  some (0,20)) (
  cond (!decide ((decide (a<0))=(decide (b<0)))) (
   some ((wr .i64 (wr .u64 (0-(I1 (Dq a) (Dq b)).2))),0)) (
   some ((wr .i64 ((I1 (Dq a) (Dq b)).2)),0)))
 let j:=λ(p:Bool) =>
  cond (p) (
  j1 true) (
  cond (decide ((I1 (Dq a) (Dq b)).2=9223372036854775808)) (
   j1 (!(!decide ((decide (a<0))=(decide (b<0)))))) (
   j1 false))
 cond (decide (0<(I1 (Dq a) (Dq b)).1)) (
  j true) (
  j (decide (9223372036854775808<(I1 (Dq a) (Dq b)).2)))
theorem Bih:FO 231 [.int .i64,.int .i64] [.int .i64,.int .i64] (Abj):=fR (px:=Bmy _) (n:=0) Tryz.func231 rfl (λ_ H=>⟨lv H (c1 H Aw5 (c1 H Bio Ae)) Aa Ab,Ag⟩) λ(_,_)=>by kernel_rfl
def Axp(a:Int)(b:Int):Int×Int :=
 let j1:=λ(p3:Bool) =>
  cond (p3) (
  (0,20)) (
  cond (!decide ((decide (a<0))=(decide (b<0)))) (
   ((wr .i64 (wr .u64 (0-(I1 (Dq a) (Dq b)).2))),0)) (
   ((wr .i64 ((I1 (Dq a) (Dq b)).2)),0)))
 let j:=λ(p:Bool) =>
  cond (p) (
  j1 true) (
  cond (decide ((I1 (Dq a) (Dq b)).2=9223372036854775808)) (
   j1 (!(!decide ((decide (a<0))=(decide (b<0)))))) (
   j1 false))
 cond (decide (0<(I1 (Dq a) (Dq b)).1)) (
  j true) (
  j (decide (9223372036854775808<(I1 (Dq a) (Dq b)).2)))
theorem Bh6(x:HV [.int .i64,.int .i64]):Abj x=some (Axp x.1 x.2):=by
 first
  |exact rfl
  |simp only[Abj,Axp,A0]
def Bgy:FT [.int .i64,.int .i64] [.int .i64,.int .i64]:=λx=>some (Axp x.1 x.2)
theorem Bne:FO 231 [.int .i64,.int .i64] [.int .i64,.int .i64] Bgy :=.fin0 Bih λx _ _ hx=>(Bh6 x).trans hx
theorem Awz{i:Int}{n:Nat}(h : 0<=i/\i<n):inb i n=true:=by simp[inb,h]
def Bmb(R:Type):Px R:=pxO [] [] [] []
def W0(x:HV [.int .u8]):Option (HV [.bool]):=match x with
 |c =>
 cond (decide (97<=c)) (
  some (decide (c<=122))) (
  some false)
theorem Bao:FO 119 [.int .u8] [.bool] (W0):=fR (px:=Bmb _) (n:=0) Tryz.func119 rfl (λ_ H=>⟨lv H Ae Aa Ab,Ag⟩) λ_=>by kernel_rfl
def Aaa(c:Int):Bool :=
 cond (decide (97<=c)) (
  (decide (c<=122))) (
  false)
theorem A9w(x:HV [.int .u8]):W0 x=some (Aaa x):=by
 first
  |exact rfl
  |simp only[W0,Aaa,A0]
def Af1:FT [.int .u8] [.bool]:=λx=>some (Aaa x)
theorem Ai9:FO 119 [.int .u8] [.bool] Af1 :=.fin0 Bao λx _ _ hx=>(A9w x).trans hx
def Bl3(R:Type):Px R:=pxO [] [] [] []
def Vq(x:HV [.int .u8]):Option (HV [.bool]):=match x with
 |c =>
 cond (decide (48<=c)) (
  some (decide (c<=57))) (
  some false)
theorem A97:FO 175 [.int .u8] [.bool] (Vq):=fR (px:=Bl3 _) (n:=0) Tryz.func175 rfl (λ_ H=>⟨lv H Ae Aa Ab,Ag⟩) λ_=>by kernel_rfl
def Y4(c:Int):Bool :=
 cond (decide (48<=c)) (
  (decide (c<=57))) (
  false)
theorem A8z(x:HV [.int .u8]):Vq x=some (Y4 x):=by
 first
  |exact rfl
  |simp only[Vq,Y4,A0]
def Af4:FT [.int .u8] [.bool]:=λx=>some (Y4 x)
theorem Akh:FO 175 [.int .u8] [.bool] Af4 :=.fin0 A97 λx _ _ hx=>(A8z x).trans hx
def Bew(R:Type):Px R:=pxO [(119,cA Af1),(175,cA Af4)] [] [] []
def Vb(x:HV [.int .u8]):Option (HV [.bool]):=match x with
 |c =>
 cond ((Aaa c)) (
  some true) (
  cond ((Y4 c)) (
  some true) (
  some (decide (c=95))))
theorem A9p:FO 121 [.int .u8] [.bool] (Vb):=fR (px:=Bew _) (n:=0) Tryz.func121 rfl (λ_ H=>⟨lv H (c1 H Ai9 (c1 H Akh Ae)) Aa Ab,Ag⟩) λ_=>by kernel_rfl
def Aem(c:Int):Bool :=
 cond ((Aaa c)) (
  true) (
  cond ((Y4 c)) (
  true) (
  (decide (c=95))))
theorem A9b(x:HV [.int .u8]):Vb x=some (Aem x):=by
 first
  |exact rfl
  |simp only[Vb,Aem,A0]
def Agi:FT [.int .u8] [.bool]:=λx=>some (Aem x)
theorem Ake:FO 121 [.int .u8] [.bool] Agi :=.fin0 A9p λx _ _ hx=>(A9b x).trans hx
theorem Aj5(c:Int):Aaa c=Lp.isLo c:=by simp only[Aaa,Lp.isLo];cases decide (97<=c)<;>rfl
theorem Ahd(c:Int):Y4 c=Lp.isDi c:=by simp only[Y4,Lp.isDi];cases decide (48<=c)<;>rfl
theorem Ahx(c:Int):Aem c=Lp.isIn c:=by simp[Aem,Lp.isIn,Aj5,Ahd];cases Lp.isLo c<;>cases Lp.isDi c<;>rfl
def Ahp:Sig:=⟨21,[(0,.str),(1,.int .i64)],[(2,.fn 121 [])],[],40,40,200,[],[]⟩
abbrev Rn:=Str×Int
def Tj{R:Type}(rec:Rn->Option R)(kx:Ex->Rn->Option R)(v:Rn):Option R:=match v with
 |(v,v1) =>
 cond (decide (v1<(v.length:Int))) (
  chk (inb v1 v.length) (
  cond ((Aem (bat v v1))) (
   rec (v,(wr .i64 (v1+1)))) (
   kx (.exit 0) (v,v1)))) (
  kx (.exit 0) (v,v1))
def Aih(R:Type)(k:Nat):Px R:=pxO [(121,cA Agi)] [] [(1,Am k Ahp (Tj))] []
noncomputable def Ays(R:Type)(k:Nat):Px R:=pxO [(119,cA Af1),(120,Aq 40 200 (Aih R k) Tryz.f120)] [] [] []
def Aix(k:Nat)(x:HV [.str]):Option (HV [.bool]):=match x with
 |s =>
 let j1:=λ(p:Bool) =>
  let j:=λ(p1:Bool) =>
  cond (p1) (
   Ak (λrec=>Tj rec (λe vz=>match vz with|(_,v3)=>match e with
   |.exit 0 =>some (decide (v3=(s.length:Int)))
   |_=>none)) k (s,0)) (
   some false)
  cond (p) (
  chk (inb 0 s.length) (
   j (Aaa (bat s 0)))) (
  j false)
 cond (!decide (s=[])) (
  j1 (decide ((s.length:Int)<=30))) (
  j1 false)
theorem Bce(k:Nat):FO 83 [.str] [.bool] (Aix k):=fR (px:=Ays _ k) (n:=0) Tryz.func83 rfl (λcx H=>by have h1:Lv cx (Aih (HV [.bool]) k):=lv H (c1 H Ake Ae) Aa Ab;have hllname_0:=lO H h1 (b:=lp Tryz.f120 0) (k:=k) (n:=0) (s:=Ahp) (step:=Tj) (λ_ _ _ (_,_)=>by kernel_rfl) Ag;have h0:Lv cx (Ays (HV [.bool]) k):=lv H (c1 H Ai9 (Al (cR H h1 Tryz.func120 rfl (n:=1) ((A5 Ag hllname_0))) Ae)) Aa Ab;exact⟨h0,Ag⟩) λ_=>by kernel_rfl
abbrev Gh(s:Str):Bool:=Lp.nameF s
def Jz:FT [.str] [.bool]:=λx=>some (Gh x)
theorem X5{R:Type}{kx:Ex->Rn->Option R}{s:Str}  {a:Int->Option R}(hs:ln s.length) (h1:∀j,kx (.exit 0) (s,j)=a j):∀(k i:Nat),i<=s.length->s.length-i<k->Ak (λrec=>Tj rec kx) k (s,(i:Int))=a (Lp.runTo Lp.isIn s i)
 |0,i,_,h=>absurd h (Zm1 _)
 |k+1,i,hi,h=>by
  rw[A8];by_cases hl:i<s.length
  ·have ih:=X5  hs h1 k (i+1) (by omega) (by omega);have eb:Sx.byt s (i:Int)=(s[i].toNat:Int):=C3 hl;simp only[Tj,As hl hs,ih,h1,C3 hl,Ay hl,Ahx];rw[Ze1 (show(i:Int)<(s.length:Int) by omega)];cases hp:Lp.isIn (s[i].toNat:Int) with|true =>have:=Lp.runTo_yes (p:=Lp.isIn) (l:=s) (j:=i) (by omega) (by rw[eb];exact hp);rw[<-this];rfl|false =>have:=Lp.runTo_no (p:=Lp.isIn) (l:=s) (j:=i) (by omega) (by rw[eb];exact hp);rw[this];rfl
  ·have:=Lp.runTo_end (p:=Lp.isIn) (l:=s) (j:=i) (by omega);simp only[Tj,h1];rw[Zd1 (by omega),this];rfl
theorem Mn:FO 83 [.str] [.bool] Jz :=.fin 0 Bce λs r hb hx=>⟨s.length+1,by
 simp only[Jz,Za1] at hx;rw[<-hx];simp only[Aix,Gh,Lp.nameF];by_cases he:s=[]
 ·rw[Ze1 he];rfl
 ·rw[Zd1 he];simp only[Zs1,Ah,Bool.true_and];by_cases h30:(s.length:Int)<=30
  ·have hp : 0<s.length:=List.length_pos_iff.2 he;rw[Ze1 h30,Awz (by omega),Aj5];simp only[chk,Ah,Bool.true_and];have eb:bat s 0=Sx.byt s 0:=rfl;rw[eb];cases Lp.isLo (Sx.byt s 0) with|false=>rfl|true =>simp only[Ah,Bool.true_and];exact X5 (s:=s) (a:=λj=>some (decide (j=(s.length:Int)))) hb (λ_=>rfl) (s.length+1) 0 (Nat.zero_le _) (by omega)
  ·rw[Zd1 h30];rfl⟩
theorem wru(n:Int):wr .u64 n=n % 18446744073709551616:=by simp[wr,IntKind.wrap,IntKind.bits,IntKind.signed]
theorem wri(n:Int):wr .i64 n=if 9223372036854775808<=n % 18446744073709551616 then n % 18446744073709551616-18446744073709551616 else n % 18446744073709551616:=by simp[wr,IntKind.wrap,IntKind.bits,IntKind.signed]
theorem H4{n:Int}(h : 0<=n/\n<=18446744073709551615):wr .u64 n=n:=by rw[wru];omega
theorem Asg{a:Int}(h : 0<=a/\a<=18446744073709551615):Ef .u64 a 4294967295=a % 4294967296:=by
 obtain⟨n,rfl⟩:=Int.eq_ofNat_of_zero_le h.1;have hn:n<18446744073709551616:=by omega
 have e2:(BitVec.ofInt IntKind.u64.bits (n:Int) &&& BitVec.ofInt IntKind.u64.bits 4294967295).toNat=n % 4294967296:=by show(BitVec.ofInt 64 (n:Int) &&& BitVec.ofInt 64 ((4294967295:Nat):Int)).toNat=n % 4294967296;rw[BitVec.toNat_and,BitVec.ofInt_natCast,BitVec.ofInt_natCast,BitVec.toNat_ofNat,BitVec.toNat_ofNat];rw[Nat.mod_eq_of_lt hn,Nat.mod_eq_of_lt (by decide)];exact Nat.and_two_pow_sub_one_eq_mod n 32
 show wr .u64 _=_;simp only[e2];rw[H4 (by omega)];omega
theorem Bni{a:Int}:Dt .u64 a 32=a / 4294967296:=by
 show a.fdiv (2 ^ min (32:Int).toNat IntKind.u64.bits)=_;rw[show(2:Int) ^ min (32:Int).toNat IntKind.u64.bits=4294967296 from by decide]
 grind
theorem Ajr(a b c d:Int)(h : 0<=a/\a<=c)(h' : 0<=b/\b<=d) : 0<=a*b/\a*b<=c*d :=⟨Int.mul_nonneg h.1 h'.1,Int.mul_le_mul h.2 h'.2 h'.1 (by omega)⟩
theorem Av7(x y:Int):x*y=(x / 4294967296)*(y / 4294967296)*18446744073709551616+((x / 4294967296)*(y % 4294967296)+(x % 4294967296)*(y / 4294967296))*4294967296+(x % 4294967296)*(y % 4294967296):=by grind
theorem Bn7(x y:Int)(hx : 0<=x/\x<=18446744073709551615)(hy : 0<=y/\y<=18446744073709551615):I1 x y=(x*y / 18446744073709551616,x*y % 18446744073709551616):=by have b00:=Ajr (x % 4294967296) (y % 4294967296) 4294967295 4294967295 (by omega) (by omega);have b10:=Ajr (x / 4294967296) (y % 4294967296) 4294967295 4294967295 (by omega) (by omega);have b01:=Ajr (x % 4294967296) (y / 4294967296) 4294967295 4294967295 (by omega) (by omega);have b11:=Ajr (x / 4294967296) (y / 4294967296) 4294967295 4294967295 (by omega) (by omega);have sp:=Av7 x y;simp only[I1,Bni,Asg hx,Asg hy];generalize (x % 4294967296)*(y % 4294967296)=a at *;generalize (x / 4294967296)*(y % 4294967296)=b at *;generalize (x % 4294967296)*(y / 4294967296)=c at *;generalize (x / 4294967296)*(y / 4294967296)=d at *;rw[H4 (n:=a) (by omega),H4 (n:=b) (by omega),H4 (n:=d) (by omega),H4 (n:=c) (by omega)];rw[H4 (n:=b+a / 4294967296) (by omega)];rw[Asg (by omega)];rw[H4 (n:=(b+a / 4294967296) % 4294967296+c) (by omega)];rw[H4 (n:=d+(b+a / 4294967296) / 4294967296) (by omega)];rw[H4 (n:=d+(b+a / 4294967296) / 4294967296+((b+a / 4294967296) % 4294967296+c) / 4294967296) (by omega),wru];rw[Zp1];constructor<;>omega
def Vz(n:Int):Int×Int:=if -9223372036854775808<=n/\n<=9223372036854775807 then(n,0) else(0,20)
def My(n:Int):Int:=if n<0 then -n else n
theorem Ath{n:Int}(h:inI n):Dq n=My n:=by simp[inI] at h;simp[Dq,My,wru];split<;>omega
theorem Ar8{q r:Int}(h:inI q)(hr:r=q):(r,(0:Int))=Vz q:=by simp[inI] at h;rw[hr,Vz,if_pos h]
theorem Art{q:Int}(h:¬inI q):((0:Int),(20:Int))=Vz q:=by simp only[inI] at h;rw[Vz,if_neg h]
theorem Bsj{a b:Int}(ha:inI a)(hb:inI b):A0v a b=Vz (a+b):=by
 simp[inI] at ha hb;simp[A0v,wri];by_cases h1 : 0<b
 ·rw[Ze1 h1];by_cases h2:a+b<=9223372036854775807
  ·have e:(a+b) % 18446744073709551616<9223372036854775808\/9223372036854775808<=(a+b) % 18446744073709551616:=by omega
   rw[<-Ar8 (q:=a+b) (r:=if 9223372036854775808<=(a+b) % 18446744073709551616 then(a+b) % 18446744073709551616-18446744073709551616 else(a+b) % 18446744073709551616) (by simp[inI];omega) (by split<;>omega)]
   grind
  ·rw[<-Art (q:=a+b) (by simp[inI];omega)]
   grind
 ·rw[Zd1 h1];by_cases h2 : -9223372036854775808<=a+b
  ·rw[<-Ar8 (q:=a+b) (r:=if 9223372036854775808<=(a+b) % 18446744073709551616 then(a+b) % 18446744073709551616-18446744073709551616 else(a+b) % 18446744073709551616) (by simp[inI];omega) (by split<;>omega)]
   grind
  ·rw[<-Art (q:=a+b) (by simp[inI];omega)]
   grind
theorem Brz{a b:Int}(ha:inI a)(hb:inI b):Axp a b=Vz (a*b):=by
 have ha':=ha;have hb':=hb;simp[inI] at ha' hb';have hA : 0<=My a/\My a<=9223372036854775808:=by unfold My;split<;>omega
 have hB : 0<=My b/\My b<=9223372036854775808:=by unfold My;split<;>omega
 have hbd:=Ajr _ _ _ _ hA hB;have hsg:a*b=if decide (a<0)=decide (b<0) then My a*My b else -(My a*My b):=by unfold My;by_cases h1:a<0<;>by_cases h2:b<0<;>simp[h1,h2,Int.neg_mul,Int.mul_neg]
 simp only[Axp,Ath ha,Ath hb,Bn7 _ _ (show 0<=My a/\My a<=18446744073709551615 by omega) (show 0<=My b/\My b<=18446744073709551615 by omega)];clear ha hb ha' hb' hA hB;generalize My a*My b=p at *;generalize a*b=q at *;by_cases hs:decide (a<0)=decide (b<0)
 ·rw[if_pos hs] at hsg;rw[Ze1 hs];by_cases h1:p<9223372036854775808
  ·rw[Zd1 (show ¬ 0<p / 18446744073709551616 by omega),Zd1 (show ¬ 9223372036854775808<p % 18446744073709551616 by omega),Zd1 (show ¬p % 18446744073709551616=9223372036854775808 by omega)];refine(show _=(wr .i64 (p % 18446744073709551616),(0:Int)) from rfl).trans (Ar8 (by simp[inI];omega) ?_);rw[wri];split<;>omega
  ·rw[<-Art (q:=q) (by simp[inI];omega)];by_cases h2 : 0<p / 18446744073709551616
   ·grind
   ·grind
 ·rw[if_neg hs] at hsg;rw[Zd1 hs];by_cases h1:p<=9223372036854775808
  ·rw[Zd1 (show ¬ 0<p / 18446744073709551616 by omega),Zd1 (show ¬ 9223372036854775808<p % 18446744073709551616 by omega)];have:Vz q=(wr .i64 (wr .u64 (0-p % 18446744073709551616)),(0:Int)):=by refine(Ar8 (by simp[inI];omega) ?_).symm;rw[wri,wru];split<;>omega
   rw[this];cases decide (p % 18446744073709551616=9223372036854775808)<;>rfl
  ·rw[<-Art (q:=q) (by simp[inI];omega)];by_cases h2 : 0<p / 18446744073709551616
   ·grind
   ·grind
end Go.Proofs.YtblaahgjaopdnaaGreatDoor
namespace Go.Proofs
open Go.Shelf
def Tryz.laysRA_ren:Go.Shelf.Ren:=⟨λ|155=>359|154=>384|138=>395|165=>357|143=>396|166=>326|197=>397|169=>297|195=>391|218=>402|240=>356|241=>383|219=>403|260=>404|276=>382|277=>394|217=>169|225=>405|224=>379|267=>406|266=>228|314=>407|n=>n,λ|9=>9|3=>3|4=>4|72=>350|0=>0|76=>385|105=>413|21=>21|5=>5|70=>348|20=>20|37=>25|75=>384|127=>389|164=>433|46=>40|119=>442|139=>445|138=>444|146=>440|51=>410|80=>151|n=>n,λ|1=>2|3=>4|4=>5|n=>n⟩
theorem Tryz.laysRA:Go.Proofs.Lays.n155 Tryz.prog Tryz.laysRA_ren:={
 mixed:=by kernel_rfl
 f138:=Tryz.func395.trans (congrArg some (by kernel_rfl))
 f143:=Tryz.func396.trans (congrArg some (by kernel_rfl))
 f154:=Tryz.func384.trans (congrArg some (by kernel_rfl))
 f155:=Tryz.func359.trans (congrArg some (by kernel_rfl))
 f165:=Tryz.func357.trans (congrArg some (by kernel_rfl))
 f166:=Tryz.func326.trans (congrArg some (by kernel_rfl))
 f169:=Tryz.func297.trans (congrArg some (by kernel_rfl))
 f195:=Tryz.func391.trans (congrArg some (by kernel_rfl))
 f197:=Tryz.func397.trans (congrArg some (by kernel_rfl))
 f217:=Tryz.func169.trans (congrArg some (by kernel_rfl))
 f218:=Tryz.func402.trans (congrArg some (by kernel_rfl))
 f219:=Tryz.func403.trans (congrArg some (by kernel_rfl))
 f224:=Tryz.func379.trans (congrArg some (by kernel_rfl))
 f225:=Tryz.func405.trans (congrArg some (by kernel_rfl))
 f240:=Tryz.func356.trans (congrArg some (by kernel_rfl))
 f241:=Tryz.func383.trans (congrArg some (by kernel_rfl))
 f260:=Tryz.func404.trans (congrArg some (by kernel_rfl))
 f266:=Tryz.func228.trans (congrArg some (by kernel_rfl))
 f267:=Tryz.func406.trans (congrArg some (by kernel_rfl))
 f276:=Tryz.func382.trans (congrArg some (by kernel_rfl))
 f277:=Tryz.func394.trans (congrArg some (by kernel_rfl))
 f314:=Tryz.func407.trans (congrArg some (by kernel_rfl))
 t0:=Tryz.underlying0
 a0:=Tryz.isAgg0
 z0:=Tryz.sizeOf0
 v0:=Tryz.zeroValue0
 t3:=Tryz.underlying3
 a3:=Tryz.isAgg3
 z3:=Tryz.sizeOf3
 v3:=Tryz.zeroValue3
 t4:=Tryz.underlying4
 a4:=Tryz.isAgg4
 z4:=Tryz.sizeOf4
 v4:=Tryz.zeroValue4
 t5:=Tryz.underlying5
 a5:=Tryz.isAgg5
 z5:=Tryz.sizeOf5
 v5:=Tryz.zeroValue5
 t9:=Tryz.underlying9
 a9:=Tryz.isAgg9
 z9:=Tryz.sizeOf9
 v9:=Tryz.zeroValue9
 t20:=Tryz.underlying20
 a20:=Tryz.isAgg20
 z20:=Tryz.sizeOf20
 v20:=Tryz.zeroValue20
 t21:=Tryz.underlying21
 a21:=Tryz.isAgg21
 z21:=Tryz.sizeOf21
 v21:=Tryz.zeroValue21
 t37:=Tryz.underlying25
 a37:=Tryz.isAgg25
 z37:=Tryz.sizeOf25
 v37:=Tryz.zeroValue25
 t46:=Tryz.underlying40
 a46:=Tryz.isAgg40
 z46:=Tryz.sizeOf40
 v46:=Tryz.zeroValue40
 t51:=Tryz.underlying410
 a51:=Tryz.isAgg410
 z51:=Tryz.sizeOf410
 v51:=Tryz.zeroValue410
 t70:=Tryz.underlying348
 a70:=Tryz.isAgg348
 z70:=Tryz.sizeOf348
 v70:=Tryz.zeroValue348
 t72:=Tryz.underlying350
 a72:=Tryz.isAgg350
 z72:=Tryz.sizeOf350
 v72:=Tryz.zeroValue350
 t75:=Tryz.underlying384
 a75:=Tryz.isAgg384
 z75:=Tryz.sizeOf384
 v75:=Tryz.zeroValue384
 t76:=Tryz.underlying385
 a76:=Tryz.isAgg385
 z76:=Tryz.sizeOf385
 v76:=Tryz.zeroValue385
 t105:=Tryz.underlying413
 a105:=Tryz.isAgg413
 z105:=Tryz.sizeOf413
 v105:=Tryz.zeroValue413
 t119:=Tryz.underlying442
 a119:=Tryz.isAgg442
 z119:=Tryz.sizeOf442
 t127:=Tryz.underlying389
 a127:=Tryz.isAgg389
 z127:=Tryz.sizeOf389
 v127:=Tryz.zeroValue389
 t138:=Tryz.underlying444
 a138:=Tryz.isAgg444
 z138:=Tryz.sizeOf444
 v138:=Tryz.zeroValue444
 t139:=Tryz.underlying445
 a139:=Tryz.isAgg445
 z139:=Tryz.sizeOf445
 v139:=Tryz.zeroValue445
 t146:=Tryz.underlying440
 a146:=Tryz.isAgg440
 z146:=Tryz.sizeOf440
 v146:=Tryz.zeroValue440
 t164:=Tryz.underlying433
 a164:=Tryz.isAgg433
 z164:=Tryz.sizeOf433
 v164:=Tryz.zeroValue433
 g1:=by kernel_rfl
 g3:=by kernel_rfl
 g4:=by kernel_rfl }
theorem Tryz.extraRA:Builder.Extra Tryz.prog Tryz.laysRA_ren:={
 sizeBuilder:=by kernel_rfl
 liesBuilder:=by kernel_rfl
 t5:=Tryz.laysRA.t5
 a5:=Tryz.laysRA.a5
 z5:=Tryz.laysRA.z5
 v5:=Tryz.laysRA.v5
 infoByte:=by kernel_rfl
 cellsByte:=by kernel_rfl
 sizeByte:=by kernel_rfl
 neB5:=by decide }
end Go.Proofs
namespace Go.Proofs.YtblaahgjaopdnaaGreatDoor
open Go.Ax
def Ai5(s old new:Str):Option Str:=cond (decide (s.length<4294967281)&&decide (1<=old.length)&&decide (s.length+Lib.count s old*new.length<=140737488355328)&&decide ((Lib.replaceAll s old new).length<=maxLen)) (some (Lib.replaceAll s old new)) none
def Ak5:FT [.str,.str,.str] [.str]:=λx=>Ai5 x.1 x.2.1 x.2.2
theorem Bar:FO 359 [.str,.str,.str] [.str] Ak5:=by
 refine⟨Sx.enters_of Tryz.func359 rfl (by kernel_rfl),λx r hx w M vs hM hgl hr =>?_⟩;obtain⟨s,old,new⟩:=x;simp only[Ak5,Ai5] at hx;cases hc:decide (s.length<4294967281)&&decide (1<=old.length)&&decide (s.length+Lib.count s old*new.length<=140737488355328)&&decide ((Lib.replaceAll s old new).length<=maxLen) with
 |false=>rw[hc] at hx;cases hx
 |true =>rw[hc] at hx;have hx:some (Lib.replaceAll s old new)=some r:=hx;simp only[Za1] at hx;subst hx;simp only[Zb1,Zg1] at hc;obtain⟨⟨⟨h1,h2⟩,h3⟩,h4⟩:=hc;simp only[Br,Ce,Reps,Rep] at hr;obtain⟨u,us,rfl,⟨rfl,_⟩,u2,us2,rfl,⟨rfl,_⟩,u3,us3,rfl,⟨rfl,_⟩,rfl⟩:=hr;obtain⟨m,hm⟩:=hgl.2.2 2 .i64 rfl;have c:=Any.strings_ReplaceAll Tryz.laysRA Tryz.extraRA ⟨s.toArray⟩ ⟨old.toArray⟩ ⟨new.toArray⟩ m w (by simpa[ByteArray.size] using h1) (hm w (Chg.refl _ _)) (by simpa[ByteArray.size] using h2) (by simpa[ByteArray.size,Lib.countB] using h3);refine Calls.mono (show Calls Tryz.prog 359 _ w _ from c) ?_;rintro en w' ⟨rfl,hb⟩;refine⟨_,⟨λ_=>0,λ_=>Option.none⟩,rfl,Chg.of_below hb,λp g o hp=>(by simp[Bb] at hp),λp q g o o2 hp=>(by simp[Bb] at hp),?_⟩;simp only[Eh,Br,Ce,Rep];exact⟨by simp,h4⟩
def pw:Nat->Int
 |0=>1
 |n+1=>10*pw n
def Tp(n:Nat):List Int:=if h:n=0 then [] else((n % 10:Nat):Int)::Tp (n / 10)
termination_by n
decreasing_by omega
theorem Sb:Tp 0=[]:=by rw[Tp];simp
theorem Alx{n:Nat}(h:¬n=0):Tp n=((n % 10:Nat):Int)::Tp (n / 10):=by rw[Tp];simp[h]
theorem Ave:∀(k n:Nat),(n:Int)<pw k->(Tp n).length<=k
 |0,n,h=>by
  have:n=0:=by simp[pw] at h;omega
  subst this;rw[Sb];exact Zn1 _
 |k+1,n,h=>by
  by_cases h0:n=0
  ·subst h0;rw[Sb];simp
  ·have:=Ave k (n / 10) (by simp[pw] at h;omega);rw[Alx h0];simp;omega
abbrev hexL:Str:=[48,49,50,51,52,53,54,55,56,57,97,98,99,100,101,102]
def Bb2(n:Nat):Str:=[hexL.getD (n / 16) 0,hexL.getD (n % 16) 0]
def Awi(s:Str):Str:=s.flatMap λb=>Bb2 b.toNat
def Bss(n:Nat):Bool:=inb (Dt .u8 (n:Int) 4) 16&&inb (Ef .u8 (n:Int) 15) 16&&decide ([(UInt8.ofNat ((bat hexL (Dt .u8 (n:Int) 4)):Int).toNat),(UInt8.ofNat ((bat hexL (Ef .u8 (n:Int) 15)):Int).toNat)]=Bb2 n)
theorem Bqs:((List.range 256).all Bss)=true:=by kernel_rfl
theorem hx(b:UInt8):inb (Dt .u8 (b.toNat:Int) 4) 16=true/\inb (Ef .u8 (b.toNat:Int) 15) 16=true/\[(UInt8.ofNat ((bat hexL (Dt .u8 (b.toNat:Int) 4)):Int).toNat),(UInt8.ofNat ((bat hexL (Ef .u8 (b.toNat:Int) 15)):Int).toNat)]=Bb2 b.toNat:=by have h:=Zg2.1 Bqs b.toNat (List.mem_range.2 b.toNat_lt);simp[Bss] at h;exact⟨h.1.1,h.1.2,h.2⟩
theorem Beh(s:Str):(Awi s).length=2*s.length:=by induction s with|nil=>rfl|cons b l ih=>simp[Awi,Bb2] at ih ⊢;omega
def Am8:Sig:=⟨26,[(0,.str),(3,.sl .byte true),(6,.int .i64),(7,.int .i64)],[],[],0,0,0,[],[]⟩
abbrev Y6:=Str×List UInt8×Int×Int
def Aa8{R:Type}(rec:Y6->Option R)(kx:Ex->Y6->Option R)(v:Y6):Option R:=match v with
 |(v,v1,v2,v3) =>
 cond (decide (v3<v2)) (
  chk (inb v3 v.length) (
  chk (inb (Dt .u8 (bat v v3) 4) 16) (
   chk (inb v3 v.length) (
   chk (inb (Ef .u8 (bat v v3) 15) 16) (
    chk (decide (v1.length+2<=Ai)) (
    rec (v,(v1++[(UInt8.ofNat ((bat [48,49,50,51,52,53,54,55,56,57,97,98,99,100,101,102] (Dt .u8 (bat v v3) 4)):Int).toNat),(UInt8.ofNat ((bat [48,49,50,51,52,53,54,55,56,57,97,98,99,100,101,102] (Ef .u8 (bat v v3) 15)):Int).toNat)]),v2,(wr .i64 (v3+1))))))))) (
  kx (.exit 0) (v,v1,v2,v3))
def A6d(R:Type)(k:Nat):Px R:=pxO [] [] [(3,Am k Am8 (Aa8))] []
def Are(k:Nat)(x:HV [.str]):Option (HV [.str]):=match x with
 |s =>
 Ak (λrec=>Aa8 rec (λe vz=>match vz with|(_,v5,_,_)=>match e with
  |.exit 0 =>
  some v5
  |_=>none)) k (s,[],(s.length:Int),0)
theorem Bfb(k:Nat):FO 360 [.str] [.str] (Are k):=fR (px:=A6d _ k) (n:=1) Tryz.func360 rfl (λcx H=>by have h0:Lv cx (A6d (HV [.str]) k):=lv H Ae Aa Ab;have hlvhex_0:=lO H h0 (b:=lp Tryz.f360 0) (k:=k) (n:=0) (s:=Am8) (step:=Aa8) (λ_ _ _ (_,_,_,_)=>by kernel_rfl) Ag;exact⟨h0,(A5 Ag hlvhex_0)⟩) λ_=>by kernel_rfl
def Bmc(s:Str):Option Str:=cond (decide (s.length<=3000)) (some (Awi s)) none
def A02:FT [.str] [.str]:=λx=>Bmc x
theorem Apy{R:Type}{kx:Ex->Y6->Option R}{s:Str}{b:Str->Option R}(hs:s.length<=3000)(h2:∀out j,kx (.exit 0) (s,out,(s.length:Int),j)=b out):∀(k i:Nat) (out:Str),i<=s.length->s.length-i<k->out.length<=2*i->Ak (λrec=>Aa8 rec kx) k (s,out,(s.length:Int),(i:Int))=b (out++Awi (s.drop i))
 |0,i,_,_,h,_=>absurd h (Zm1 _)
 |k+1,i,out,hi,h,ho=>by
  rw[A8];by_cases hl:i<s.length
  ·obtain⟨h3,h4,h5⟩:=hx (s[i]'hl);have hn:ln s.length:=by simp[ln];omega
   have ih:=Apy hs h2 k (i+1) (out++Bb2 (s[i]'hl).toNat) (by omega) (by omega) (by simp[ Bb2];omega);simp only[Aa8,As hl hn,C3 hl,Ay hl,h3,h4,h5,ih];rw[Ze1 (show(i:Int)<(s.length:Int) by omega),Ze1 (show out.length+2<=Ai by simp[Ai];omega),Av hl];simp only[chk,Ah,Awi,List.flatMap_cons,Zj1]
  ·simp only[Aa8,h2];rw[Zd1 (show ¬(i:Int)<(s.length:Int) by omega),Zk1 (by omega)];simp[Awi]
theorem Bo8:FO 360 [.str] [.str] A02 :=.fin 0 Bfb λs r hb hx=>⟨3001,by
 simp only[A02,Bmc] at hx;by_cases hs:s.length<=3000
 ·rw[Ze1 hs] at hx;simp only[Are];exact(Apy (b:=some) hs (λ_ _=>rfl) 3001 0 [] (Nat.zero_le _) (by omega) (by simp)).trans hx
 ·rw[Zd1 hs] at hx;cases hx⟩
def dch(d:Int):UInt8:=UInt8.ofNat (48+d).toNat
def txt(l:List Int):Str:=(l.map dch).reverse
def Brr(n:Int):Str:=let t:=if n=0 then [48] else txt (Tp n.natAbs)
 if n<0 then 45::t else t
theorem Avl(d:Int)(l:List Int):txt (d::l)=txt l++[dch d]:=by simp[txt]
theorem Bp1{d:Int}(h : 0<=d/\d<=9):UInt8.ofNat ((wr .u8 (wr .u64 (48+d))):Int).toNat=dch d:=by
 have e:wr .u8 (wr .u64 (48+d))=48+d:=by rw[H4 (by omega)];simp only[wr,IntKind.wrap,IntKind.bits];simp;omega
 rw[e];rfl
theorem Bpp(l:List Int):(txt l).length=l.length:=by simp[txt]
theorem Ben(n:Int):txt (Tp (n.natAbs / 10))++[dch ((n.natAbs % 10:Nat):Int)]=if n=0 then [48] else txt (Tp n.natAbs):=by
 by_cases h0:n=0
 ·subst h0;rw[if_pos rfl,show(0:Int).natAbs / 10=0 from rfl,Sb];rfl
 ·rw[if_neg h0,Alx (n:=n.natAbs) (by omega),Avl]
def X0:Sig:=⟨32,[(0,.int .i64),(3,.sl .byte true),(4,.int .u64)],[],[],0,0,0,[],[]⟩
abbrev Kn:=Int×List UInt8×Int
def Ip{R:Type}(rec:Kn->Option R)(kx:Ex->Kn->Option R)(v:Kn):Option R:=match v with
 |(v,v1,v2) =>
 cond (decide (0<v2)) (
  chk (decide (1+v1.length<=Ai)) (
  rec (v,([(UInt8.ofNat ((wr .u8 (wr .u64 (48+(Int.tmod v2 10)))):Int).toNat)]++v1),(wr .u64 (Int.tdiv v2 10))))) (
  kx (.exit 0) (v,v1,v2))
def Akf(R:Type)(k:Nat):Px R:=pxO [(276,cA Auw)] [] [(3,Am k X0 (Ip))] []
def Yt(k:Nat)(x:HV [.int .i64]):Option (HV [.str]):=match x with
 |n =>
 Ak (λrec=>Ip rec (λe vz=>match vz with|(v3,v4,_)=>match e with
  |.exit 0 =>
  cond (decide (v3<0)) (
   chk (decide ([45].length+v4.length<=Fz)) (
   some ([45]++v4))) (
   some v4)
  |_=>none)) k (n,[(UInt8.ofNat ((wr .u8 (wr .u64 (48+(Int.tmod (Dq n) 10)))):Int).toNat)],(wr .u64 (Int.tdiv (Dq n) 10)))
theorem Awd(k:Nat):FO 358 [.int .i64] [.str] (Yt k):=fR (px:=Akf _ k) (n:=1) Tryz.func358 rfl (λcx H=>by have h0:Lv cx (Akf (HV [.str]) k):=lv H (c1 H Aw5 Ae) Aa Ab;have hlvdigits_0:=lO H h0 (b:=lp Tryz.f358 0) (k:=k) (n:=0) (s:=X0) (step:=Ip) (λ_ _ _ (_,_,_)=>by kernel_rfl) Ag;exact⟨h0,(A5 Ag hlvdigits_0)⟩) λ_=>by kernel_rfl
abbrev Auy(n:Int):Str:=Brr n
def Aav:FT [.int .i64] [.str]:=λx=>some (Auy x)
theorem Btx{n:Int}(h:inI n):Dq n=(n.natAbs:Int):=by rw[Ath h];simp[My];split<;>omega
theorem Z7{R:Type}{kx:Ex->Kn->Option R}{n:Int}{b:Str->Option R}(h2:∀out x,kx (.exit 0) (n,out,x)=b out):∀(k a:Nat) (out:Str),(a:Int)<=18446744073709551615->(Tp a).length<k->out.length+(Tp a).length<=1000->Ak (λrec=>Ip rec kx) k (n,out,(a:Int))=b (txt (Tp a)++out)
 |0,a,out,_,h,_=>absurd h (Zm1 _)
 |k+1,a,out,ha,h,ho=>by
  rw[A8];by_cases h0:a=0
  ·subst h0;simp only[Ip,h2];rw[Zd1 (by omega),Sb];rfl
  ·have hd:=Alx h0;rw[hd,Zf1] at h ho;have e1:Int.tmod (a:Int) 10=((a % 10:Nat):Int):=rfl;have e2:wr .u64 (Int.tdiv (a:Int) 10)=((a / 10:Nat):Int):=by have:Int.tdiv (a:Int) 10=((a / 10:Nat):Int):=rfl;rw[this,H4 (by omega)]
   have ih:=Z7 h2 k (a / 10) ([dch ((a % 10:Nat):Int)]++out) (by omega) (by omega) (by simp;omega);simp only[Ip,e1,e2,Bp1 (show 0<=((a % 10:Nat):Int)/\((a % 10:Nat):Int)<=9 by omega),ih];rw[Ze1 (show(0:Int)<(a:Int) by omega),Ze1 (show 1+out.length<=Ai by simp[Ai];omega),hd,Avl];simp[chk]
theorem A1j:FO 358 [.int .i64] [.str] Aav :=.fin 0 Awd λn r hb hx=>⟨30,by
 have hb:=Bp hb;simp only[Aav,Za1] at hx;subst hx;have hl:(Tp (n.natAbs / 10)).length<=20:=Ave 20 _ (by
  simp only[inI] at hb;have:pw 20=100000000000000000000:=by kernel_rfl
  omega)
 have e1:Int.tmod (n.natAbs:Int) 10=((n.natAbs % 10:Nat):Int):=rfl;have e2:wr .u64 (Int.tdiv (n.natAbs:Int) 10)=((n.natAbs / 10:Nat):Int):=by have:Int.tdiv (n.natAbs:Int) 10=((n.natAbs / 10:Nat):Int):=rfl;simp only[inI] at hb;rw[this,H4 (by omega)]
 simp only[Yt,Btx hb,e1,e2,Bp1 (show 0<=((n.natAbs % 10:Nat):Int)/\((n.natAbs % 10:Nat):Int)<=9 by omega)];refine(Z7 (b:=λout=>cond (decide (n<0)) (chk (decide ([45].length+out.length<=Fz)) (some ([45]++out))) (some out)) (λ_ _=>rfl) 30 (n.natAbs / 10) [dch ((n.natAbs % 10:Nat):Int)] (by simp only[inI] at hb;omega) (by omega) (by simp only[Zf1,Zi1];omega)).trans ?_;have et:=Ben n;have hlen:(txt (Tp (n.natAbs / 10))++[dch ((n.natAbs % 10:Nat):Int)]).length<=21:=by rw[Zh1,Bpp];simp only[Zf1,Zi1];omega
 have hc:decide ([45].length+(txt (Tp (n.natAbs / 10))++[dch ((n.natAbs % 10:Nat):Int)]).length<=Fz)=true:=Ze1 (by simp only[Zf1,Zi1,Fz];omega);simp only[hc,chk,Ah];rw[et];simp only[Auy,Brr];by_cases h:n<0
 ·rw[Ze1 h,if_pos h];rfl
 ·rw[Zd1 h,if_neg h];rfl⟩
def quo:Str->Str
 |[]=>[]
 |b::l=>if b=39 then 39::39::quo l else b::quo l
theorem A7x(s:Str):(quo s).length<=2*s.length:=by induction s with|nil=>simp[quo]|cons b l ih =>simp[quo];split<;>simp<;>omega
theorem Apb:∀s:Str,(Lib.index s [39] = -1/\quo s=s)\/∃i:Nat,Lib.index s [39]=(i:Int)/\i<s.length/\quo s=s.take i++[39,39]++quo (s.drop (i+1))
 |[] =>.inl ⟨rfl,rfl⟩
 |b::l=>by
  by_cases h:b=39
  ·subst h;refine .inr ⟨0,rfl,by simp,by simp[quo]⟩
  ·have hp:List.isPrefixOf [39] (b::l)=false:=by simp only[List.isPrefixOf,Bool.and_true];exact beq_eq_false_iff_ne.2 (Ne.symm h)
   rcases Apb l with ⟨h1,h2⟩|⟨i,h1,h2,h3⟩
   ·left;refine⟨?_,by simp[quo,if_neg h,h2]⟩;unfold Lib.index;rw[hp,h1];rfl
   ·right;refine⟨i+1,?_,by simpa using h2,?_⟩
    ·unfold Lib.index;rw[hp,h1];have:((i:Int) == -1)=false:=beq_eq_false_iff_ne.2 (by omega);simp
    ·simp[quo,if_neg h,h3]
theorem Aoo:∀(f:Nat) (s:Str),s.length<f->Lib.replaceK [39] [39,39] (Lib.countFrom [39] f s) s=quo s
 |0,s,h=>absurd h (Zm1 _)
 |f+1,s,h=>by
  rcases Apb s with ⟨h1,h2⟩|⟨i,h1,h2,h3⟩
  ·simp[Lib.countFrom,h1];exact h2.symm
  ·have hn:((i:Int) == -1)=false:=beq_eq_false_iff_ne.2 (by omega);have ih:=Aoo f (s.drop (i+1)) (by rw[Za2];omega);have e:Lib.countFrom [39] (f+1) s=Lib.countFrom [39] f (s.drop (i+1))+1:=by simp[Lib.countFrom,h1];simp[Nat.add_comm]
   rw[e,Lib.replaceK_hit _ _ _ _ i h1];simp only[Zf1,Zi1];rw[ih,h3]
theorem Bou(s:Str):Lib.replaceAll s [39] [39,39]=quo s:=by
 have e:Lib.replaceNum s [39] (-1)=Lib.countFrom [39] (s.length+1) s:=by unfold Lib.replaceNum;rw[if_pos (.inl (by decide))];rfl
 have hc:=Aoo (s.length+1) s (by omega);rw[<-e] at hc;exact hc
theorem A1q{s:Str}(h:s.length<=3000):Ai5 s [39] [39,39]=some (quo s):=by have h2:Lib.count s [39]*1<=s.length:=(Lib.countB_mul_le ⟨#[39]⟩ (by decide) s.length ⟨s.toArray⟩ (Zn1 _));have h3:=A7x s;simp only[Ai5,Bou];rw[Ze1 (show s.length<4294967281 by omega),Ze1 (show 1<=([39]:Str).length by decide),Ze1 (show s.length+Lib.count s [39]*([39,39]:Str).length<=140737488355328 by simp;omega),Ze1 (show(quo s).length<=maxLen by simp[maxLen];omega)];rfl
def Bb5(R:Type):Px R:=pxO [(101,cA Zk),(358,cA Aav),(359,cA Ak5),(360,cA A02)] [] [] []
def Adk(x:HV [.sv .val]):Option (HV [.str]):=match x with
 |v =>
 cond (!(Be v)) (
  some []) (
  cond (decide (v.kind=2)) (
  chk (inb v.n 2) (
   some (at' .str [[70,65,76,83,69],[84,82,85,69]] v.n))) (
  cond (decide (v.kind=3)) (
   some (Auy v.n)) (
   cond (decide (v.kind=4)) (
   (Ai5 v.s [39] [39,39]).bind λx =>
    chk (decide ([39].length+x.length<=Fz)) (
    chk (decide (([39]++x).length+[39].length<=Fz)) (
     some (([39]++x)++[39])))) (
   cond (decide (v.kind=5)) (
    (Bmc v.s).bind λx1 =>
    chk (decide ([120,39].length+x1.length<=Fz)) (
     chk (decide (([120,39]++x1).length+[39].length<=Fz)) (
     some (([120,39]++x1)++[39])))) (
    some [78,85,76,76])))))
theorem A23:FO 328 [.sv .val] [.str] (Adk):=fR (px:=Bb5 _) (n:=0) Tryz.func328 rfl (λ_ H=>⟨lv H (c1 H Ack (c1 H A1j (c1 H Bar (c1 H Bo8 Ae)))) Aa Ab,Ag⟩) λ_=>by kernel_rfl
def Kv(v:Val):Str:=cond (Be v) (if v.kind=2 then(if v.n=0 then [70,65,76,83,69] else [84,82,85,69]) else if v.kind=3 then Brr v.n else if v.kind=4 then 39::(quo v.s++[39]) else if v.kind=5 then 120::39::(Awi v.s++[39]) else [78,85,76,76]) []
def Yx:FT [.sv .val] [.str]:=λx=>some (Kv x)
theorem Aqu{v:Val}(h:Be v=true)(hk:v.kind=4\/v.kind=5):v.s.length<=1000:=by
 rcases hk with h4|h5
 ·simp[Be,h4] at h;omega
 ·simp[Be,h5] at h;omega
theorem A2n{v:Val}(h:Be v=true)(hk:v.kind=2):v.n=0\/v.n=1:=by
 by_cases h0:v.n=0
 ·exact .inl h0
 ·by_cases h1:v.n=1
  ·exact .inr h1
  ·simp[Be,hk,h0,h1] at h
theorem Ao2:FO 328 [.sv .val] [.str] Yx :=.fin0 A23 λv r _ hx=>by
 simp only[Yx,Za1] at hx;subst hx;simp only[Adk,Kv];cases hr:Be v with
 |false=>rfl
 |true =>
  simp only[Zt1,Af,Ah];by_cases k2:v.kind=2
  ·rw[Ze1 k2,if_pos k2];rcases A2n hr k2 with h|h<;>rw[h]<;>rfl
  ·rw[Zd1 k2,if_neg k2];by_cases k3:v.kind=3
   ·rw[Ze1 k3,if_pos k3];rfl
   ·rw[Zd1 k3,if_neg k3];by_cases k4:v.kind=4
    ·have hl:=Aqu hr (.inl k4);have hq:=A7x v.s;rw[Ze1 k4,if_pos k4];simp only[Ah,Af,A1q (show v.s.length<=3000 by omega),Zc1];refine(Ayv (Ze1 ?_)).trans ((Ayv (Ze1 ?_)).trans rfl)
     ·simp only[Zf1,Zi1,Fz];omega
     ·simp only[Zh1,Zf1,Zi1,Fz];omega
    ·rw[Zd1 k4,if_neg k4];by_cases k5:v.kind=5
     ·have hl:=Aqu hr (.inr k5);have hh:=Beh v.s;have hv:Bmc v.s=some (Awi v.s):=by simp only[Bmc];rw[Ze1 (by omega)];rfl
      rw[Ze1 k5,if_pos k5];simp only[Ah,Af,hv,Zc1];refine(Ayv (Ze1 ?_)).trans ((Ayv (Ze1 ?_)).trans rfl)
      ·simp only[Zf1,Zi1,Fz];omega
      ·simp only[Zh1,Zf1,Zi1,Fz];omega
     ·rw[Zd1 k5,if_neg k5];rfl
def Bgd(R:Type):Px R:=pxO [] [] [] []
def Wq(x:HV [.int .i64]):Option (HV [.int .i64]):=match x with
 |kind =>
 let j1:=λ(p1:Bool) =>
  cond (p1) (
  some 0) (
  let j:=λ(p5:Bool) =>
   cond (p5) (
   some 1) (
   cond (!decide ((Tt signsL kind)=[])) (
    some 2) (
    some (-1)))
  cond (decide (kind=3)) (
   j true) (
   cond (decide (kind=15)) (
   j true) (
   j (decide (kind=16)))))
 cond (decide (kind=1)) (
  j1 true) (
  j1 (decide (kind=2)))
theorem Bd2:FO 185 [.int .i64] [.int .i64] (Wq):=fR (px:=Bgd _) (n:=0) Tryz.func185 rfl (λ_ H=>⟨lv H Ae Aa Ab,Ag⟩) λ_=>by kernel_rfl
def parts(kind:Int):Int :=
 let j1:=λ(p1:Bool) =>
  cond (p1) (
  0) (
  let j:=λ(p5:Bool) =>
   cond (p5) (
   1) (
   cond (!decide ((Tt signsL kind)=[])) (
    2) (
    (-1)))
  cond (decide (kind=3)) (
   j true) (
   cond (decide (kind=15)) (
   j true) (
   j (decide (kind=16)))))
 cond (decide (kind=1)) (
  j1 true) (
  j1 (decide (kind=2)))
theorem Bcl(x:HV [.int .i64]):Wq x=some (parts x):=by
 first
  |exact rfl
  |simp only[Wq,parts,A0]
def As6:FT [.int .i64] [.int .i64]:=λx=>some (parts x)
theorem Aye:FO 185 [.int .i64] [.int .i64] As6 :=.fin0 Bd2 λx _ _ hx=>(Bcl x).trans hx
mutual
def C1:Xpr->Nat
 |.mk _ _ _ l=>1+esizes l
def esizes:List Xpr->Nat
 |[]=>0
 |x::l=>1+C1 x+esizes l
end
theorem D9:∀{l:List Xpr}{x:Xpr},x∈l->C1 x<esizes l
 |y::l,x,h=>by
  simp at h;simp[esizes];rcases h with rfl|h
  ·omega
  ·have:=D9 h;omega
theorem Nz:∀(l:List Xpr),l.length<=esizes l
 |[]=>by simp
 |x::l=>by have:=Nz l;simp[esizes];omega
theorem Ln(e:Xpr) : 0<C1 e:=by cases e;simp[C1];omega
theorem Pk(e:Xpr):C1 e=1+esizes e.l:=by cases e;simp[C1,Xpr.l]
theorem Aoy{e:Xpr}(h:BdExpr e):ln e.l.length/\∀x,x∈e.l->BdExpr x:=by obtain⟨_,_,_,_,_,_,_,h4,h5⟩:=h;exact⟨h4,h5⟩
def Afo:Sig:=⟨19,[(0,.sl .expr false),(4,.int .i64),(7,.int .i64),(8,.int .i64)],[(1,.fn 186 [.ptr 1 0])],[(1,.cells [.int .i64])],80,80,400,[],[]⟩
abbrev N6:=List Xpr×Int×Int×Int×Int
def Lq{R:Type}(rf:FT [.sv .expr,.int .i64] [.bool])(rec:N6->Option R)(kx:Ex->N6->Option R)(v:N6):Option R:=match v with
 |(v,v1,v2,v3,w) =>
 cond (decide (v3<v2)) (
  chk (inb v3 v.length) (
  (rf ((at' .expr v v3),(wr .i64 (w-1)))).bind λx =>
   cond (!x) (
   kx .ret (v,v3,v2,v3,w)) (
   rec (v,v1,v2,(wr .i64 (v3+1)),w)))) (
  kx (.exit 0) (v,v1,v2,v3,w))
def Ow(R:Type)(_k:Nat)(rf:FT [.sv .expr,.int .i64] [.bool]):Px R:=pxO [(134,cA rf)] [] [] []
noncomputable def T2(R:Type)(k:Nat)(rf:FT [.sv .expr,.int .i64] [.bool]):Px R:=pxO [(186,Aq 120 600 (Ow R k rf) Tryz.f186)] [] [(2,Am k Afo (Lq rf))] []
noncomputable def Afj(R:Type)(k:Nat)(rf:FT [.sv .expr,.int .i64] [.bool]):Px R:=pxO [(184,Aq 80 400 (T2 R k rf) Tryz.f184)] [] [] []
noncomputable def Aok(R:Type)(k:Nat)(rf:FT [.sv .expr,.int .i64] [.bool]):Px R:=pxO [(59,cA Ms),(83,cA Jz),(132,Aq 40 200 (Afj R k rf) Tryz.f132)] [(185,qA As6)] [] []
def F7(k:Nat)(rf:FT [.sv .expr,.int .i64] [.bool])(x:HV [.sv .expr,.int .i64]):Option (HV [.bool]):=match x with
 |(e,most) =>
 cond (decide (most=0)) (
  some false) (
  cond (!decide ((e.l.length:Int)=(parts e.kind))) (
  some false) (
  let j2:=λ(_:Unit) =>
   let j1:=λ(_:Unit) =>
   Ak (λrec=>Lq rf rec (λe vz=>match vz with|(_,v5,_,_,_)=>match e with
    |.ret =>
    some (!(decide (0<=v5)))
    |.exit 0 =>
    some true
    |_=>none)) k (e.l,0,(e.l.length:Int),0,most)
   let j:=λ(p5:Bool) =>
   cond (p5) (
    some false) (
    cond (!decide (e.kind=2)) (
    cond (!decide (e.name=[])) (
     some false) (
     j1 ())) (
    j1 ()))
   cond (decide (e.kind=2)) (
   j (!(Gh e.name))) (
   j false)
  cond (decide (e.kind=1)) (
   cond (!decide ((Gr e.v)=0)) (
   some false) (
   cond (decide (e.v.kind=3)) (
    cond (decide (e.v.n<0)) (
    some false) (
    j2 ())) (
    j2 ()))) (
   cond (!decide (e.v=(Val.mk 0 0 []))) (
   some false) (
   j2 ()))))
theorem A17(k:Nat)(rf:FT [.sv .expr,.int .i64] [.bool])(hrf:FO 134 [.sv .expr,.int .i64] [.bool] rf):FO 134 [.sv .expr,.int .i64] [.bool] (F7 k rf):=fR (px:=Aok _ k rf) (n:=0) Tryz.func134 rfl (λcx H=>by have h3:Lv cx (Ow (HV [.bool]) k rf):=lv H (c1 H hrf Ae) Aa Ab;have h2:Lv cx (T2 (HV [.bool]) k rf):=lv H (Al (cR H h3 Tryz.func186 rfl (n:=0) (Ag)) Ae) Aa Ab;have hleright_0:=lO H h2 (b:=lp Tryz.f184 0) (k:=k) (n:=0) (s:=Afo) (step:=Lq rf) (λ_ _ _ (_,_,_,_,_)=>by kernel_rfl) Ag;have h1:Lv cx (Afj (HV [.bool]) k rf):=lv H (Al (cR H h2 Tryz.func184 rfl (n:=1) ((A5 Ag hleright_0))) Ae) Aa Ab;have h0:Lv cx (Aok (HV [.bool]) k rf):=lv H (c1 H Mt (c1 H Mn (Al (cR H h1 Tryz.func132 rfl (n:=0) (Ag)) Ae))) (q1 H Aye Aa) Ab;exact⟨h0,Ag⟩) λ(_,_)=>by kernel_rfl
def eok(k:Int)(v:Val)(nm:Str):Bool:=cond (decide (k=1)) (decide (Gr v=0) && !(decide (v.kind=3)&&decide (v.n<0))) (decide (v=⟨0,0,[]⟩))&&cond (decide (k=2)) (Gh nm) (decide (nm=[]))
mutual
def Cy:Xpr->Int->Bool
 |.mk k v nm l,m => !decide (m=0)&&decide ((l.length:Int)=parts k)&&eok k v nm&&erights l (wr .i64 (m-1))
def erights:List Xpr->Int->Bool
 |[],_=>true
 |x::l,m=>Cy x m&&erights l m
end
def P6:FT [.sv .expr,.int .i64] [.bool]:=λx=>some (Cy x.1 x.2)
theorem Aeg{R:Type}{rf:FT [.sv .expr,.int .i64] [.bool]}{kx:Ex->N6->Option R}{l:List Xpr}{m:Int}{a b:Option R}(hn:ln l.length)(hrf:∀x,x∈l->rf (x,wr .i64 (m-1))=some (Cy x (wr .i64 (m-1))))(h1:∀(j:Nat),kx .ret (l,(j:Int),(l.length:Int),(j:Int),m)=a)(h2:∀q j,kx (.exit 0) (l,q,(l.length:Int),j,m)=b):∀(k i:Nat) q,i<=l.length->l.length-i<k->Ak (λrec=>Lq rf rec kx) k (l,q,(l.length:Int),(i:Int),m)=cond (erights (l.drop i) (wr .i64 (m-1))) b a
 |0,i,q,_,h=>by omega
 |k+1,i,q,hi,h=>by
  rw[A8];by_cases hl:i<l.length
  ·simp only[Lq,As hl hn,(Aeg hn hrf h1 h2 k (i+1) q (by omega) (by omega)),h1,Av hl,Aw (c :=.expr) hl,Ay hl,Bool.cond_decide,erights,hrf _ (List.getElem_mem hl)];rw[if_pos (by omega)];cases Cy l[i] (wr .i64 (m-1))<;>rfl
  ·simp[Lq,h2,Bool.cond_decide];rw[if_neg (by omega),Zk1 (by omega)];rfl
theorem Bdv(e:Xpr)(m:Int):Cy e m=(!decide (m=0)&&decide ((e.l.length:Int)=parts e.kind)&&eok e.kind e.v e.name&&erights e.l (wr .i64 (m-1))):=by cases e;simp[Cy];rfl
theorem Akx(k:Nat):∀(n:Nat) (e:Xpr) (m:Int),BdExpr e->C1 e<=n->C1 e<=k->Ak (F7 k) n (e,m)=some (Cy e m)
 |0,e,m,_,h,_=>by have:=Ln e;omega
 |n+1,e,m,hb,h,hk=>by
  obtain⟨hb4,hb5⟩:=Aoy hb;rw[Pk] at h hk;have hl:=Nz e.l;have hrf:∀x,x∈e.l->∀m,Ak (F7 k) n (x,m)=some (Cy x m):=λx hx m=>Akx k n x m (hb5 x hx) (by have:=D9 hx;omega) (by have:=D9 hx;omega);have hloop:=Aeg (R:=Bool) (rf:=Ak (F7 k) n) (l:=e.l) (m:=m) (a:=some false) (b:=some true) (kx:=λe v=>match v with
   |(_,v5,_,_,_)=>match e with
    |.ret=>some (!(decide (0<=v5)))
    |.exit 0=>some true
    |_=>none) hb4 (λx hx=>hrf x hx _) (λj=>by simp) (λ_ _=>rfl) k 0 0 (Nat.zero_le _) (by omega)
  have e0:((0:Nat):Int)=0:=rfl;rw[e0] at hloop;rw[A8,Bdv];simp only[F7] at hloop ⊢;rw[hloop];simp only[Zq1,eok];by_cases hm:m=0
  ·simp[hm]
  ·rw[Zd1 hm];simp only[Af,Zs1,Bool.true_and];by_cases hp:(e.l.length:Int)=parts e.kind
   ·rw[Ze1 hp];by_cases h1:e.kind=1
    ·have h2:¬e.kind=2:=by omega
     rw[Ze1 h1,Zd1 h2];simp only[Ah,Af,Zs1,Zt1,Bool.true_and];cases decide (Gr e.v=0)<;>cases decide (e.v.kind=3)<;>cases decide (e.v.n<0)<;>cases decide (e.name=[])<;>cases erights e.l (wr .i64 (m-1))<;>rfl
    ·rw[Zd1 h1];simp only[Af,Zt1,Bool.true_and];cases decide (e.v=Val.mk 0 0 [])<;>cases decide (e.kind=2)<;>cases decide (e.name=[])<;>cases Gh e.name<;>cases erights e.l (wr .i64 (m-1))<;>rfl
   ·rw[Zd1 hp];rfl
theorem Tl:FO 134 [.sv .expr,.int .i64] [.bool] P6:=by refine .fin (ι:=Nat) 0 (F:=λn=>Ak (F7 n) n) (λn=>FnOk.rec' (Sx.enters_of Tryz.func134 rfl rfl) (λrf hrf=>A17 n rf hrf) n) λ(e,m) r hb hx=>⟨C1 e,?_⟩;exact(Akx (C1 e) (C1 e) e m hb.1 (Zn1 _) (Zn1 _)).trans hx
def Bha(R:Type):Px R:=pxO [(134,cA P6)] [] [] []
def V9(x:HV [.sv .expr]):Option (HV [.int .i64]):=match x with
 |e =>
 cond (!(Cy e 30)) (
  some 2) (
  some 0)
theorem Bck:FO 237 [.sv .expr] [.int .i64] (V9):=fR (px:=Bha _) (n:=0) Tryz.func237 rfl (λ_ H=>⟨lv H (c1 H Tl Ae) Aa Ab,Ag⟩) λ_=>by kernel_rfl
def Aei(e:Xpr):Int :=
 cond (!(Cy e 30)) (
  2) (
  0)
theorem Bcb(x:HV [.sv .expr]):V9 x=some (Aei x):=by
 first
  |exact rfl
  |simp only[V9,Aei,A0]
def Asb:FT [.sv .expr] [.int .i64]:=λx=>some (Aei x)
theorem Awp:FO 237 [.sv .expr] [.int .i64] Asb :=.fin0 Bck λx _ _ hx=>(Bcb x).trans hx
def Bho(R:Type):Px R:=pxO [] [] [] []
def U0(x:HV [.int .i64,.int .i64]):Option (HV [.bool]):=match x with
 |(k,want) =>
 cond (decide (k=want)) (
  some true) (
  some (decide (k=1)))
theorem Bcq:FO 270 [.int .i64,.int .i64] [.bool] (U0):=fR (px:=Bho _) (n:=0) Tryz.func270 rfl (λ_ H=>⟨lv H Ae Aa Ab,Ag⟩) λ(_,_)=>by kernel_rfl
def Jo(k:Int)(want:Int):Bool :=
 cond (decide (k=want)) (
  true) (
  (decide (k=1)))
theorem Bb3(x:HV [.int .i64,.int .i64]):U0 x=some (Jo x.1 x.2):=by
 first
  |exact rfl
  |simp only[U0,Jo,A0]
def A8y:FT [.int .i64,.int .i64] [.bool]:=λx=>some (Jo x.1 x.2)
theorem Bhz:FO 270 [.int .i64,.int .i64] [.bool] A8y :=.fin0 Bcq λx _ _ hx=>(Bb3 x).trans hx
def Bfl(R:Type):Px R:=pxO [] [] [] []
def Wb(x:HV [.bool]):Option (HV [.sv .val]):=match x with
 |b =>
 cond (b) (
  some (Val.mk 2 1 [])) (
  some (Val.mk 2 0 []))
theorem Bcw:FO 271 [.bool] [.sv .val] (Wb):=fR (px:=Bfl _) (n:=0) Tryz.func271 rfl (λ_ H=>⟨lv H Ae Aa Ab,Ag⟩) λ_=>by kernel_rfl
def An9(b:Bool):Val :=
 cond (b) (
  (Val.mk 2 1 [])) (
  (Val.mk 2 0 []))
theorem A9o(x:HV [.bool]):Wb x=some (An9 x):=by
 first
  |exact rfl
  |simp only[Wb,An9,A0]
def A5x:FT [.bool] [.sv .val]:=λx=>some (An9 x)
theorem Bhy:FO 271 [.bool] [.sv .val] A5x :=.fin0 Bcw λx _ _ hx=>(A9o x).trans hx
def Bal(R:Type):Px R:=pxO [] [] [] []
def Pz(x:HV [.int .i64,.int .i64]):Option (HV [.bool]):=match x with
 |(kind,n) =>
 cond (decide (kind=6)) (
  some (decide (n=0))) (
  cond (decide (kind=7)) (
  some (!decide (n=0))) (
  cond (decide (kind=8)) (
   some (decide (n<0))) (
   cond (decide (kind=9)) (
   some (decide (n<=0))) (
   cond (decide (kind=10)) (
    some (decide (0<n))) (
    some (decide (0<=n)))))))
theorem A4m:FO 310 [.int .i64,.int .i64] [.bool] (Pz):=fR (px:=Bal _) (n:=0) Tryz.func310 rfl (λ_ H=>⟨lv H Ae Aa Ab,Ag⟩) λ(_,_)=>by kernel_rfl
def Ato(kind:Int)(n:Int):Bool :=
 cond (decide (kind=6)) (
  (decide (n=0))) (
  cond (decide (kind=7)) (
  (!decide (n=0))) (
  cond (decide (kind=8)) (
   (decide (n<0))) (
   cond (decide (kind=9)) (
   (decide (n<=0))) (
   cond (decide (kind=10)) (
    (decide (0<n))) (
    (decide (0<=n)))))))
theorem A0s(x:HV [.int .i64,.int .i64]):Pz x=some (Ato x.1 x.2):=by
 first
  |exact rfl
  |simp only[Pz,Ato,A0]
def Azz:FT [.int .i64,.int .i64] [.bool]:=λx=>some (Ato x.1 x.2)
theorem A87:FO 310 [.int .i64,.int .i64] [.bool] Azz :=.fin0 A4m λx _ _ hx=>(A0s x).trans hx
def Aq0:Sig:=⟨20,[(1,.str),(4,.int .i64),(7,.sl .col false),(8,.int .i64),(9,.int .i64)],[],[],0,0,0,[],[]⟩
abbrev Aaj:=Str×Int×List Col×Int×Int
def Ab8{R:Type}(rec:Aaj->Option R)(kx:Ex->Aaj->Option R)(v:Aaj):Option R:=match v with
 |(v,v1,v2,v3,v4) =>
 cond (decide (v4<v3)) (
  chk (inb v4 v2.length) (
  cond (decide (((at' .col v2 v4).name)=v)) (
   kx .ret (v,v4,v2,v3,v4)) (
   rec (v,v1,v2,v3,(wr .i64 (v4+1)))))) (
  kx (.exit 0) (v,v1,v2,v3,v4))
def A7f(R:Type)(k:Nat):Px R:=pxO [] [] [(2,Am k Aq0 (Ab8))] []
def Aoi(k:Nat)(x:HV [.sl .col false,.str]):Option (HV [.int .i64]):=match x with
 |(cols,name) =>
 Ak (λrec=>Ab8 rec (λe vz=>match vz with|(_,v6,_,_,_)=>match e with
  |.ret =>
  some v6
  |.exit 0 =>
  some (-1)
  |_=>none)) k (name,0,cols,(cols.length:Int),0)
theorem Bl0(k:Nat):FO 281 [.sl .col false,.str] [.int .i64] (Aoi k):=fR (px:=A7f _ k) (n:=1) Tryz.func281 rfl (λcx H=>by have h0:Lv cx (A7f (HV [.int .i64]) k):=lv H Ae Aa Ab;have hlfind_0:=lO H h0 (b:=lp Tryz.f281 0) (k:=k) (n:=0) (s:=Aq0) (step:=Ab8) (λ_ _ _ (_,_,_,_,_)=>by kernel_rfl) Ag;exact⟨h0,(A5 Ag hlfind_0)⟩) λ(_,_)=>by kernel_rfl
def Ff:List Col->Str->Nat->Int
 |[],_,_ => -1
 |c::l,s,i=>if c.name=s then(i:Int) else Ff l s (i+1)
def Jr(cols:List Col)(name:Str):Int:=Ff cols name 0
def A1i:FT [.sl .col false,.str] [.int .i64]:=λx=>some (Jr x.1 x.2)
theorem An0{R:Type}{kx:Ex->Aaj->Option R}{s:Str}{cols:List Col}{g:Int->Option R}(hn:ln cols.length)(h1:∀j,kx .ret (s,j,cols,(cols.length:Int),j)=g j)(h2:∀q j,kx (.exit 0) (s,q,cols,(cols.length:Int),j)=g (-1)):∀(k i:Nat) q,i<=cols.length->cols.length-i<k->Ak (λrec=>Ab8 rec kx) k (s,q,cols,(cols.length:Int),(i:Int))=g (Ff (cols.drop i) s i)
 |0,i,q,_,h=>by omega
 |k+1,i,q,hi,h=>by
  rw[A8];by_cases hl:i<cols.length
  ·simp only[Ab8,As hl hn,(An0 hn h1 h2 k (i+1) q (by omega) (by omega)),h1,Av hl,Aw (c :=.col) hl,Ay hl,Bool.cond_decide,Ff];rw[if_pos (by omega)];split<;>rfl
  ·simp[Ab8,h2,Bool.cond_decide];rw[if_neg (by omega),Zk1 (by omega)];rfl
theorem A8e:FO 281 [.sl .col false,.str] [.int .i64] A1i :=.fin 0 Bl0 λ(cols,s) r hb hx=>⟨cols.length+1,by
 simp only[Aoi];refine(An0 (g:=some) hb.1.1 ?_ ?_ (cols.length+1) 0 0 (Nat.zero_le _) (by omega)).trans hx
 ·exactλ_=>rfl
 ·exactλ_ _=>rfl⟩
end Go.Proofs.YtblaahgjaopdnaaGreatDoor
