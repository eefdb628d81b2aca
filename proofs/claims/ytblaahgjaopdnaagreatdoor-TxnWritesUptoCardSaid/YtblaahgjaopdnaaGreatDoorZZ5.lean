/- Texts of the proof,one behind the other: AxRn,SxL,SxM,AxIn,Cg,AxTh,Pf,Lo,AxOw,Tw,Si,Sk,Sn,Ck,Kr,Pa,Lc,Na,Lm,Ar,Shp,Sr,Dg,Nc,Eb,Fc. -/
import Derived.Test.YtblaahgjaopdnaaGreatDoorZZ4
import Derived.KernelRfl
import Derived.Laws.Cover3
import Derived.Lib.Overlaps
import Derived.Lib.AppendZerosOnto
import Derived.Test.YtblaahgjaopdnaaGreatDoorProg
import Derived.Lib.Walk
import Derived.Lib.BytesEntry
import Derived.Lib.Bytealg
import Derived.Laws.Externs
import Derived.Shelf.Strings.Replace
set_option linter.all false
namespace Go.Ax
structure Hx (P:Program) (el:Ck->TypeId) (gl:Nat->Option Gv) (tt:Nat->Ty) (cx:Cx):Prop where
 p:cx.P=P
 e:cx.el=el
 g:cx.gl=gl
 t:∀t,Cl P el tt t=true
 m:P.follows .mixedOrders=true
structure Lv {R:Type}(cx:Cx) (px:Px R):Prop where
 p:PxOk cx px
 c:Dj cx px
 q:CallQOk cx px
section
variable {R:Type}{P:Program}{el:Ck->TypeId}{gl:Nat->Option Gv}{tt:Nat->Ty}{cx:Cx}
theorem lv{px:Px R}{l:List (Nat×G7 R)}{lq:List (Nat×Fx R)}{lw:List (Nat×S6 R)}(H:Hx P el gl tt cx)(h:∀g f,(g,f)∈l->He cx g f)(hq:∀g f,(g,f)∈lq->Rm cx g f)(hw:∀g f,(g,f)∈lw->Fy cx g f)(h1:px.tt=tt:=by rfl)(h2:px.gl=gl:=by rfl)(h3:px.call=A06 l:=by rfl)(h4:px.callQ=Amw lq:=by rfl)(h5:px.callW=tbl lw:=by rfl):Lv cx px :=⟨⟨λt=>by rw[h1,H.p,H.e];exact H.t t,by rw[h2,H.g]⟩,Bpv h3 h,Biq h4 h5 hq hw⟩
theorem cO(H:Hx P el gl tt cx){g:Nat}{sa sr:List Sg}{F:HV sa->Option (HV sr)}(h:FnOk P el gl g sa sr F)(hsa:C8 (Bd 0 sa) []=true:=by kernel_rfl):He (R:=R) cx g (Ad0 sa sr F):=B0v (by rw[H.p,H.e,H.g];exact h) hsa
theorem cL(H:Hx P el gl tt cx){g:Nat}{sg so:Sig}{F:FL sg so}(h:FnLn P el gl g sg so F)(hok:lnB sg so=true:=by kernel_rfl):He (R:=R) cx g (Ak sg so F):=B0r (by rw[H.p,H.e,H.g];exact h) hok
theorem cT(H:Hx P el gl tt cx){g:Nat}{sa:List Sg}{c:Ck}{F:HV sa->Option (HV [.sl c true])}(h:FnOk P el gl g sa [.sl c true] F)(hsa:C8 (Bd 0 sa) []=true:=by kernel_rfl)(hfl:A6u c=true:=by rfl):He (R:=R) cx g (M8 sa c F):=Buw (by rw[H.p,H.e,H.g];exact h) hsa hfl
theorem cR(H:Hx P el gl tt cx){nb nt:Nat}{pc:Px R}{g:Nat}{fn:Func}{c:Code}{n:Nat}(h:Lv cx pc)(hf:P.funcs[g]? = some fn)(hb:fn.body=some c)(hl:∀i,i<n->Bv cx pc (lp fn i))(hname:(fn.name == "runtime.NumGoroutine")=false:=by kernel_rfl)(hcode:Re fn=true:=by kernel_rfl)(hn:L6 fn=n:=by kernel_rfl):He cx g (Aw nb nt pc fn):=Bxz h.p h.c h.q (by rw[H.p];exact H.m) (by rw[H.p];exact hf) hb hname hcode hn hl
theorem c1(H:Hx P el gl tt cx){g:Nat}{sa sr:List Sg}{F:HV sa->Option (HV sr)}{l:List (Nat×G7 R)}(h:FnOk P el gl g sa sr F)(hl:∀g f,(g,f)∈l->He cx g f)(hsa:C8 (Bd 0 sa) []=true:=by kernel_rfl):∀g' f',(g',f')∈(g,Ad0 sa sr F)::l->He cx g' f':=Am (cO H h hsa) hl
theorem l1(H:Hx P el gl tt cx){g:Nat}{sg so:Sig}{F:FL sg so}{l:List (Nat×G7 R)}(h:FnLn P el gl g sg so F)(hl:∀g f,(g,f)∈l->He cx g f)(hok:lnB sg so=true:=by kernel_rfl):∀g' f',(g',f')∈(g,Ak sg so F)::l->He cx g' f':=Am (cL H h hok) hl
theorem q1(H:Hx P el gl tt cx){g:Nat}{sa sr:List Sg}{F:HV sa->Option (HV sr)}{l:List (Nat×Fx R)}(h:FnOk P el gl g sa sr F)(hl:∀g f,(g,f)∈l->Rm cx g f)(hsa:C8 (Bd 0 sa) []=true:=by kernel_rfl):∀g' f',(g',f')∈(g,Abo sa sr F)::l->Rm cx g' f':=Bgv (Bzp (by rw[H.p,H.e,H.g];exact h) hsa) hl
theorem w1(H:Hx P el gl tt cx){g:Nat}{sg so:Sig}{F:HV sg.sgs->Option (HV so.sgs)}{l:List (Nat×S6 R)}(h:FnLn P el gl g sg so F)(hl:∀g f,(g,f)∈l->Fy cx g f)(hok:lnB sg so=true:=by kernel_rfl):∀g' f',(g',f')∈(g,Cy sg so F)::l->Fy cx g' f':=Afl (Bwz (by rw[H.p,H.e,H.g];exact h) hok) hl
theorem lO{px:Px R}(H:Hx P el gl tt cx)(h:Lv cx px){b:Code}{k n:Nat}{s:Sig}{step:Apo (HV s.sgs) R}(hround:∀fr rec kx v,P7 px s b fr rec kx v=step rec kx v)(hin:∀i,i<n->Bv cx px (lpC b i))(hpx:∀st K,px.loop b st K=Al k s step st K:=by exactλ_ _=>by kernel_rfl)(hs:Yl s=true:=by kernel_rfl)(hn:(Bm b).length=n:=by kernel_rfl):Bv cx px b:=Bvx h.p h.c h.q (by rw[H.p];exact H.m) hpx hs hround (Ic hn hin)
theorem fO{f:FuncId}{fn:Func}{c:Code}{sa sr:List Sg}{px:Px (HV sr)}{F:FT sa sr}{n:Nat}(ht:∀t,Cl P el tt t=true)(hm:P.follows .mixedOrders=true)(hf:P.funcs[f]? = some fn)(hb:fn.body=some c)(hname:(fn.name == "runtime.NumGoroutine")=false)(hchk:(Re fn&&Nat.ble sa.length fn.ntmps&&C8 (Bd 0 sa) [])=true)(hn:L6 fn=n)
  (h:∀cx,Hx P el gl tt cx->Lv cx px/\∀i,i<n->Bv cx px (lp fn i)) (hF:∀x,A36 px fn sa sr x some=F x):FnOk P el gl f sa sr F :=
 Azf hf hb hname hm hchk hn (λcx a b c _=>by obtain⟨h1,h2⟩:=h cx ⟨a,b,c,ht,hm⟩;exact⟨h1.p,h1.c,h1.q,h2⟩) hF
theorem fL{f:FuncId}{fn:Func}{c:Code}{sg so:Sig}{px:Px (HV so.sgs)}{F:FL sg so}{n:Nat}(ht:∀t,Cl P el tt t=true)(hm:P.follows .mixedOrders=true)(hf:P.funcs[f]? = some fn)(hb:fn.body=some c)(hname:(fn.name == "runtime.NumGoroutine")=false)(hchk:(Re fn&&Nat.ble sg.n fn.ntmps)=true)(hn:L6 fn=n)
  (h:∀cx,Hx P el gl tt cx->Lv cx px/\∀i,i<n->Bv cx px (lp fn i)) (hF:∀x,Atw px fn sg so x some=F x):FnLn P el gl f sg so F :=
 Bq3 hf hb hname hm hchk hn (λcx a b c=>by obtain⟨h1,h2⟩:=h cx ⟨a,b,c,ht,hm⟩;exact⟨h1.p,h1.c,h1.q,h2⟩) hF
end
end Go.Ax
namespace Go.Sx
open Go.RowKit
section
variable {cx:Cx}{k:List KI}{e:Env}{L:Loc}{F:World->Prop}{Q:Exit->Act->World->Prop}{ops:Array Oper}{l:List Oper}{w:World}
theorem StOk.swap{x y:Ent}(h:StOk cx (x::L) F w)(hfp:y.fp=x.fp)(hok:y.ok w):StOk cx (y::L) F w:=by
 have he:fps (y::L)=fps (x::L):=by simp[fps,hfp]
 refine⟨h.chg,?_,by rw[he];exact h.nodup,by rw[he];exact h.own,h.away,by rw[he];exact h.rob⟩;intro z hz;simp at hz;rcases hz with rfl|hz
 ·exact hok
 ·exact h.ok z (Zu1 _ hz)
theorem StOk.blkrow{b:Nat}{u:TypeId}(sz:Nat)(h:StOk cx (.blk b [] u::L) F w):StOk cx (.row (.slice (some ⟨b,0,none⟩) 0 0) u sz 0 []::L) F w :=h.swap rfl ⟨by simp,.inr ⟨b,0, #[],rfl,Nat.zero_le _,h.ok _ Zr1,Zn1 _,Nat.zero_le _,by simp,by simp⟩⟩
theorem Hv{b:Nat}{u:TypeId}(sz:Nat)(h:O cx ops l k e (.row (.slice (some ⟨b,0,none⟩) 0 0) u sz 0 []::L) F Q):O cx ops l k e (.blk b [] u::L) F Q :=.mk λa w he hs=>h.run a w he (hs.blkrow sz)
theorem Fv{P:Program}{t t':TypeId}{x y:Operand}{a:Option Addr}{n c:Nat}(sz:Nat)(ht:(elSz P t == some sz)=true)(hx:Env.ev e x=some (.slice a n c))(hy:Env.ev e y=some (.slice none 0 0)):Pure P e (.binOp .eql t x y t') (.bool a.isNone):=by obtain⟨u,hu,_⟩:=Nu (n:=sz) (by simpa using ht);refine p_bin hx hy (λw=>rfl) λw =>?_;have:=run_equal_slice_nil (P:=P) w t u a n c hu;simp[binOp,this]
end
theorem Ave{P:Program}(w:World)(dT sT ty elem:TypeId)(i0:TypeInfo)(g o dLen dCap:Nat)(a:Addr)(sLen sCap:Nat)(cur:Array Value)(t:TypeId)(cs:List Value)(hu:P.underlying dT=some (.slice elem))(hi:P.info? elem=some i0)
  (hg:w.heap[g]? = some (.cells cur t (0,0))) (hn:cs.length=Nat.min sLen dLen*i0.size) (hsrc:∀j v,cs[j]? = some v->w.cell? (a.add j)=some v) (hfit:o+cs.length<=cur.size) (h1:∀v∈cs,v.oneCell' = true) :
  (Builtin.copy_ #[dT,sT] ty #[.slice (some ⟨g,o,none⟩) dLen dCap,.slice (some a) sLen sCap]).run P w =
   .ok (goInt (Nat.min sLen dLen)) (w.setRow g (cur.toList.take o++cs++cur.toList.drop (o+cs.length)).toArray):=by
 have hl:=run_firstCells_some (P:=P) w i0.size (Nat.min sLen dLen) a sLen sCap cs hn hsrc;have hst:=run_storeCells_at P g o t cs 0 cur w hg (by simpa using hfit) h1;simp at hst;simp[Builtin.copy_,run_underlying hu,Builtin.lenOf,sizeOf,typeInfo,hi,hl,hst]
section
variable {cx:Cx}{k:List KI}{e:Env}{L:Loc}{F:World->Prop}{Q:Exit->Act->World->Prop}{ops:Array Oper}{rest:List Oper}
def Ac7(cx:Cx)(L:Loc)(F:World->Prop)(b off:Nat)(zs:List Value):Prop:=∀w,StOk cx L F w->∀(j:Nat) v,zs[j]? = some v->w.cell? ⟨b,off+j,none⟩=some v
theorem Auc{b off n:Nat}{cs:List Value}{t:TypeId}(i:Nat)(hi:L[i]? = some (.blk b cs t)):Ac7 cx L F b off ((cs.drop off).take n):=λw hs j v hj=>by
 refine Aor (hs.ok _ (List.mem_of_getElem? hi)) ?_;rw[List.getElem?_take] at hj;split at hj
 ·grind
 ·cases hj
theorem Bvo(w:World)(g:Nat)(cs:Array Value):Chg [g] w (w.setRow g cs) :=⟨rfl,rfl,rfl,by simp,λk _ hn=>setRow_other w g k cs (by simpa using hn)⟩
theorem StOk.setRow{w:World}{g:Nat}{cs cs':List Value}{t:TypeId}(h:StOk cx L F w)(i:Nat)(hi:L[i]? = some (.blk g cs t)):StOk cx (L.set i (.blk g cs' t)) F (w.setRow g cs'.toArray) :=h.updAt i hi (Bvo w g _) (setRow_heap w g _ _ t (0,0) (h.ok _ (List.mem_of_getElem? hi))) (by simp[Ent.fp]) (λb hb =>.inl hb)
theorem Axl{dst:Nat}{d s:Operand}{t t' ty u u':TypeId}{pos:String}{after:Array Edge}{g':Option (Nat×Bool)}{g o dl dc b off sl sc sz by_:Nat}{cs zs:List Value}(i:Nat)(hg:Gd ops e g' = some true)(hd:Nat.blt dst cx.n=true)(hT:ElTy cx.P t u sz by_)
  (hx:Env.ev e d=some (.slice (some ⟨g,o,none⟩) dl dc)) (hy:Env.ev e s=some (.slice (some ⟨b,off,none⟩) sl sc)) (hi:L[i]? = some (.blk g cs u')) (hsrc:Ac7 cx L F b off zs) (hl:zs.length=Nat.min sl dl*sz) (hfit:o+zs.length<=cs.length) (h1:∀v,v∈zs->one v=true)
  (h:O cx ops rest k ((dst,goInt (Nat.min sl dl))::e) (L.set i (.blk g (cs.take o++zs++cs.drop (o+zs.length)) u')) F Q) :
  O cx ops (⟨some dst,.call ⟨.builtin .copy, #[d,s], #[t,t']⟩,ty,pos,after,g'⟩::rest) k e L F Q:=by
 refine V6 (λr L' F'=>r=goInt (Nat.min sl dl)/\L' = L.set i (.blk g (cs.take o++zs++cs.drop (o+zs.length)) u')/\F' = F) hg hd (λa w he hst =>?_) (λr L' F' ⟨hr,hL,hF⟩=>by rw[hr,hL,hF];exact h);obtain⟨hu,i0,z,hi0,hz,hsz,hby,hzs,hpos⟩:=hT;have hgh:w.heap[g]? = some (.cells cs.toArray u' (0,0)):=hst.ok _ (List.mem_of_getElem? hi);have hrun:=Ave (P:=cx.P) w t t' ty u i0 g o dl dc ⟨b,off,none⟩ sl sc cs.toArray u' zs hu hi0 hgh (by rw[hsz];exact hl) (λj v hj=>by rw[add_mk];exact hsrc w hst j v hj) (by simpa using hfit) (λv hv=>one_oneCell (h1 v hv));refine⟨_,_,_,F,?_,hst.setRow (cs':=cs.take o++zs++cs.drop (o+zs.length)) i hi,rfl,rfl,rfl⟩;simp[execOp,resolve,invoke,builtin,he.ev hx,he.ev hy,hrun]
theorem Bf8{dst:Nat}{d s:Operand}{t ty u u':TypeId}{pos:String}{after:Array Edge}{g':Option (Nat×Bool)}{g n cap b off m sc sz by_:Nat}{cs zs:List Value}(i:Nat)(hg:Gd ops e g' = some true)(hd:Nat.blt dst cx.n=true)(hT:ElTy cx.P t u sz by_)
  (hx:Env.ev e d=some (.slice (some ⟨g,0,none⟩) n cap)) (hy:Env.ev e s=some (.slice (some ⟨b,off,none⟩) m sc)) (hi:L[i]? = some (.blk g cs u)) (hsrc:Ac7 cx L F b off zs) (hl:zs.length=m*sz) (hroom:n+m<=cap) (hfit:n*sz+zs.length<=cs.length) (h1:∀v,v∈zs->one v=true) (_hu':u' = u)
  (h:O cx ops rest k ((dst,.slice (some ⟨g,0,none⟩) (n+m) cap)::e) (L.set i (.blk g (cs.take (n*sz)++zs++cs.drop (n*sz+zs.length)) u)) F Q) :
  O cx ops (⟨some dst,.call ⟨.builtin .append, #[d,s], #[t,t]⟩,ty,pos,after,g'⟩::rest) k e L F Q:=by
 refine V6 (λr L' F'=>r = .slice (some ⟨g,0,none⟩) (n+m) cap/\L' = L.set i (.blk g (cs.take (n*sz)++zs++cs.drop (n*sz+zs.length)) u)/\F' = F) hg hd (λa w he hst =>?_) (λr L' F' ⟨hr,hL,hF⟩=>by rw[hr,hL,hF];exact h);obtain⟨hu,i0,z,hi0,hz,hsz,hby,hzs,hpos⟩:=hT;have hgh:w.heap[g]? = some (.cells cs.toArray u (0,0)):=hst.ok _ (List.mem_of_getElem? hi);have hrun:=run_append_room (P:=cx.P) w t ty u i0 hu hi0 g n cap cs.toArray hgh ⟨b,off,none⟩ m sc zs (by rw[hsz];exact hl) (λj v hj=>by rw[add_mk];exact hsrc w hst j v hj) (λv hv=>one_oneCell (h1 v hv)) hroom (by rw[hsz];simpa using hfit);rw[hsz] at hrun;refine⟨_,_,_,F,?_,hst.setRow (cs':=cs.take (n*sz)++zs++cs.drop (n*sz+zs.length)) i hi,rfl,rfl,rfl⟩;simp[execOp,resolve,invoke,builtin,he.ev hx,he.ev hy,hrun]
theorem Bep{dst:Nat}{d s:Operand}{t ty u u':TypeId}{pos:String}{after:Array Edge}{g':Option (Nat×Bool)}{g n cap b off m sc sz by_:Nat}{cs zs:List Value}(i:Nat)(hg:Gd ops e g' = some true)(hd:Nat.blt dst cx.n=true)(hT:ElTy cx.P t u sz by_)
  (hx:Env.ev e d=some (.slice (some ⟨g,0,none⟩) n cap)) (hy:Env.ev e s=some (.slice (some ⟨b,off,none⟩) m sc)) (hi:L[i]? = some (.blk g cs u')) (hsrc:Ac7 cx L F b off zs) (hl:zs.length=m*sz) (hn:n*sz<=cs.length) (hroom:cap<n+m) (h63:n+m<=maxLen) (hbig:(n+m)*by_<=140737488355328)
  (h:∀b' q tl,n+m<=q->q<=maxLen->tl.length=(q-(n+m))*sz->O cx ops rest k ((dst,.slice (some ⟨b',0,none⟩) (n+m) q)::e) (.blk b' (cs.take (n*sz)++zs++tl) u::L) F Q) :
  O cx ops (⟨some dst,.call ⟨.builtin .append, #[d,s], #[t,t]⟩,ty,pos,after,g'⟩::rest) k e L F Q:=by
 refine V6 (λr L' F'=>∃b' q tl,n+m<=q/\q<=maxLen/\tl.length=(q-(n+m))*sz/\r = .slice (some ⟨b',0,none⟩) (n+m) q/\L' = .blk b' (cs.take (n*sz)++zs++tl) u::L/\F' = F) hg hd (λa w he hst =>?_) (λr L' F' ⟨b',q,tl,a1,a2,a3,hr,hL,hF⟩=>by rw[hr,hL,hF];exact h b' q tl a1 a2 a3);obtain⟨hu,i0,z,hi0,hz,hsz,hby,hzs,hpos⟩:=hT;have hok:(Ent.blk g cs u').ok w:=hst.ok _ (List.mem_of_getElem? hi);have hrun:=run_append_grow (P:=cx.P) w t ty u i0 z hu hi0 hz ⟨g,0,none⟩ n cap (cs.take (n*sz)) (by rw[hsz,List.length_take];exact Nat.min_eq_left hn) (λj v hj=>by
  rw[add_mk,Nat.zero_add];refine Aor hok ?_;rw[List.getElem?_take] at hj;split at hj
  ·exact hj
  ·cases hj) ⟨b,off,none⟩ m sc zs (by rw[hsz];exact hl) (λj v hj=>by rw[add_mk];exact hsrc w hst j v hj) hroom (by simp[maxLen] at h63;omega) (by rw[hby];exact growslice_fits hroom hbig)
 refine⟨_,_,_,F,?_,(hst.quiet (Chg.drew [] w)).alloc (cs.take (n*sz)++zs++(Builtin.zeroCells z.cells (grownCap w (n+m) cap u-(n+m))).toList) u,w.heap.size,grownCap w (n+m) cap u,_,(grownCap_ge w (n+m) cap u),grownCap_le_maxLen w _ _ _ h63,?_,rfl,rfl,rfl⟩
 ·simp[execOp,resolve,invoke,builtin,he.ev hx,he.ev hy,hrun];congr 3;apply Array.ext';simp
 ·simp[Builtin.zeroCells,hzs]
theorem A4p{dst:Nat}{d s:Operand}{t ty u:TypeId}{pos:String}{after:Array Edge}{g':Option (Nat×Bool)}{a0:Option Addr}{b off m sc sz by_:Nat}{zs:List Value}(hg:Gd ops e g' = some true)(hd:Nat.blt dst cx.n=true)(hT:ElTy cx.P t u sz by_)
  (hx:Env.ev e d=some (.slice a0 0 0)) (hy:Env.ev e s=some (.slice (some ⟨b,off,none⟩) m sc)) (hsrc:Ac7 cx L F b off zs) (hl:zs.length=m*sz) (hm : 0<m) (h63:m<=maxLen) (hbig:m*by_<=140737488355328) (h1:∀v,v∈zs->one v=true)
  (h:∀b' q tl,m<=q->q<=maxLen->tl.length=(q-m)*sz->O cx ops rest k ((dst,.slice (some ⟨b',0,none⟩) m q)::e) (.blk b' (zs++tl) u::L) F Q) :
  O cx ops (⟨some dst,.call ⟨.builtin .append, #[d,s], #[t,t]⟩,ty,pos,after,g'⟩::rest) k e L F Q:=by
 refine V6 (λr L' F'=>∃b' q tl,m<=q/\q<=maxLen/\tl.length=(q-m)*sz/\r = .slice (some ⟨b',0,none⟩) m q/\L' = .blk b' (zs++tl) u::L/\F' = F) hg hd (λa w he hst =>?_) (λr L' F' ⟨b',q,tl,a1,a2,a3,hr,hL,hF⟩=>by rw[hr,hL,hF];exact h b' q tl a1 a2 a3);obtain⟨hu,i0,z,hi0,hz,hsz,hby,hzs,hpos⟩:=hT;have hsr:Src cx.P i0.size t (.slice (some ⟨b,off,none⟩) m sc) m zs w:=Src.ofSlice w hu ⟨b,off,none⟩ m sc zs (by rw[hsz];exact hl) (λj v hj=>by rw[add_mk];exact hsrc w hst j v hj) (λv hv=>one_oneCell (h1 v hv));have hold:(Builtin.firstCells i0.size 0 (.slice a0 0 0)).run cx.P w.drew = .ok ([]:List Value).toArray w.drew:=by cases a0 with|none=>exact run_firstCells_none w.drew i0.size 0 0 0|some p=>exact run_firstCells_some w.drew i0.size 0 p 0 0 [] (by simp) (by simp)
 have hrun:=run_append_grow_src (P:=cx.P) w t t ty u i0 z hu hi0 hz a0 0 0 [] hold _ m zs hsr (by omega) (by simp[maxLen] at h63;omega) (by rw[hby];exact growslice_fits (by omega) (by simpa using hbig));rw[Nat.zero_add] at hrun;refine⟨_,_,_,F,?_,(hst.quiet (Chg.drew [] w)).alloc (zs++(Builtin.zeroCells z.cells (grownCap w m 0 u-m)).toList) u,w.heap.size,grownCap w m 0 u,_,(grownCap_ge w m 0 u),grownCap_le_maxLen w _ _ _ h63,?_,rfl,rfl,rfl⟩
 ·simp[execOp,resolve,invoke,builtin,he.ev hx,he.ev hy,hrun];congr 3;apply Array.ext';simp
 ·simp[Builtin.zeroCells,hzs]
theorem Uh{P:Program}{x y:Operand}{t u:TypeId}{sz by_:Nat}{g c:Nat}{ad:Option Addr}(hT:ElTy P t u sz by_)(hx:Env.ev e x=some (.slice (some ⟨g,0,none⟩) 0 0))(hy:Env.ev e y=some (.slice ad 0 c)):Pure P e (.call ⟨.builtin .append, #[x,y], #[t,t]⟩) (.slice (some ⟨g,0,none⟩) 0 0):=λn a w o he ho=>by
 obtain⟨hu,i0,z,hi0,hz,hsz,hby,hzs,hpos⟩:=hT;have hr:∀ty,(Builtin.append_ #[t,t] ty #[.slice (some ⟨g,0,none⟩) 0 0,.slice ad 0 c]).run P w = .ok (.slice (some ⟨g,0,none⟩) 0 0) w:=λty=>by cases ad<;>simp[ run_underlying hu,go_sem,sizeOf,typeInfo,hi0,loadCells]
 simp[execOp,ho,resolve,invoke,builtin,he.ev hx,he.ev hy,hr]
theorem A7q{dst:Nat}{d s:Operand}{t tn ty u u':TypeId}{kn kq:IntKind}{pos:String}{after:Array Edge}{g':Option (Nat×Bool)}{g n cap sz by_:Nat}{m:Int}{cs:List Value}(i:Nat)(hg:Gd ops e g' = some true)(hd:Nat.blt dst cx.n=true)(hT:ElTy cx.P t u sz by_)(htn:(match cx.P.underlying tn with|some (.int k')=>decide (k' = kn)|_=>false)=true)
  (hx:Env.ev e d=some (.slice (some ⟨g,0,none⟩) n cap)) (hy:Env.ev e s=some (.int kq m)) (hi:L[i]? = some (.blk g cs u')) (hm : 0<m) (hn:n*sz<=cs.length) (hroom:cap<n+m.toNat) (h63:n+m.toNat<=maxLen) (hbig:(n+m.toNat)*by_<=140737488355328)
  (h:∀b' q tl,n+m.toNat<=q->q<=maxLen->tl.length=(q-n)*sz->O cx ops rest k ((dst,.slice (some ⟨b',0,none⟩) (n+m.toNat) q)::e) (.blk b' (cs.take (n*sz)++tl) u::L) F Q) :
  O cx ops (⟨some dst,.call ⟨.builtin .append, #[d,s], #[t,tn]⟩,ty,pos,after,g'⟩::rest) k e L F Q:=by
 obtain⟨j,rfl⟩:∃j:Nat,m=j:=⟨m.toNat,by omega⟩;simp at hroom h63 hbig h;refine V6 (λr L' F'=>∃b' q tl,n+j<=q/\q<=maxLen/\tl.length=(q-n)*sz/\r = .slice (some ⟨b',0,none⟩) (n+j) q/\L' = .blk b' (cs.take (n*sz)++tl) u::L/\F' = F) hg hd (λa w he hst =>?_) (λr L' F' ⟨b',q,tl,a1,a2,a3,hr,hL,hF⟩=>by rw[hr,hL,hF];exact h b' q tl a1 a2 a3);obtain⟨hu,i0,z,hi0,hz,hsz,hby,hzs,hpos⟩:=hT;have htn':cx.P.underlying tn=some (.int kn):=by grind
 have hok:(Ent.blk g cs u').ok w:=hst.ok _ (List.mem_of_getElem? hi);have hold:(Builtin.firstCells i0.size n (.slice (some ⟨g,0,none⟩) n cap)).run cx.P w.drew = .ok (cs.take (n*sz)).toArray w.drew:=run_firstCells_some (P:=cx.P) w.drew i0.size n ⟨g,0,none⟩ n cap (cs.take (n*sz)) (by rw[hsz,List.length_take];exact Nat.min_eq_left hn) (λj v hj=>by
  rw[add_mk,Nat.zero_add];have hc:w.cell? ⟨g,j,none⟩=some v:=by
   refine Aor hok ?_;rw[List.getElem?_take] at hj;split at hj
   ·exact hj
   ·cases hj
  simpa using hc)
 have hrun:=Lib.run_append_grow_zeros (P:=cx.P) w t tn ty u i0 z kq kn hu htn' hi0 hz (some ⟨g,0,none⟩) n cap (cs.take (n*sz)) hold j (by omega) (by omega) hroom (by simp[maxLen] at h63;omega) (by rw[hby];have:j*by_<=(n+j)*by_:=Nat.mul_le_mul_right _ (by omega);omega) (by rw[hby];exact growslice_fits hroom hbig)
 have hge:=grownCap_ge w (n+j) cap u;refine⟨_,_,_,F,?_,(hst.quiet (Chg.drew [] w)).alloc (cs.take (n*sz)++((Builtin.zeroCells z.cells j).toList++(Builtin.zeroCells z.cells (grownCap w (n+j) cap u-(n+j))).toList)) u,w.heap.size,grownCap w (n+j) cap u,_,hge,grownCap_le_maxLen w _ _ _ h63,?_,rfl,rfl,rfl⟩
 ·simp[execOp,resolve,invoke,builtin,he.ev hx,he.ev hy,hrun];congr 3;apply Array.ext';simp
 ·simp[ Builtin.zeroCells];rw[<-Nat.add_mul];congr 1;omega
theorem Als{P:Program}{x:Operand}{t:TypeId}{a:Option Addr}{n c:Nat}(sz:Nat)(ht:(elSz P t == some sz)=true)(hx:Env.ev e x=some (.slice a n c)):Pure P e (.call ⟨.builtin .cap, #[x], #[t]⟩) (.int .i64 c):=λm a' w o he ho=>by obtain⟨u,hu,hs⟩:=Nu (n:=sz) (by simpa using ht);simp[execOp,ho,resolve,invoke,builtin,he.ev hx,Builtin.cap_,run_underlying hu,goInt]
theorem A66{P:Program}{t:TypeId}{x z:Operand}{a:Option Addr}{n c:Nat}{jk:IntKind}{j:Int}(sz:Nat)(ht:(elSz P t == some sz)=true)(hx:Env.ev e x=some (.slice a n c))(hz:Env.ev e z=some (.int jk j))(h : 0<=j/\j<=n) :
  Pure P e (.slice t x (some z) none none) (.slice (if c=j.toNat then a else a.map (λp=>p.add (j.toNat*sz))) (n-j.toNat) (c-j.toNat)):=λn' a' w o he ho=>by
 obtain⟨u,hu,hs⟩:=Nu (n:=sz) (by simpa using ht);have hr:(Instr.sliceAt t (.slice a n c) (some (.int jk j)) none none).run P w = .ok (.slice (if c=j.toNat then a else a.map (λp=>p.add (j.toNat*sz))) (n-j.toNat) (c-j.toNat)) w:=by simp[Instr.sliceAt,Instr.slice,Sem.run_bind,run_underlying hu,Result.andThen_ok,Instr.sliceBounds,Instr.sliceBound,asIntOf,Sem.run_pure,if_pos h,run_sizeOf hs]
 simp[execOp,ho,Sem.run_bind,he.ev hx,he.ev hz,Zl2,Option.map_none,hr,Result.andThen_ok,Sem.run_pure]
theorem O5{P:Program}{t:TypeId}{x z:Operand}{g off n c:Nat}{jk:IntKind}{j:Int}(sz:Nat)(ht:(elSz P t == some sz)=true)(hx:Env.ev e x=some (.slice (some ⟨g,off,none⟩) n c))(hz:Env.ev e z=some (.int jk j))(h : 0<=j/\j<=n/\j<c) :
  Pure P e (.slice t x (some z) none none) (.slice (some ⟨g,off+j.toNat*sz,none⟩) (n-j.toNat) (c-j.toNat)):=by
 have:=A66 (P:=P) sz ht hx hz ⟨h.1,h.2.1⟩;rw[if_neg (by omega),Zl2,add_mk] at this;exact this
end
end Go.Sx
namespace Go.Ax
open Go.RowKit
structure ClOk (P:Program) (f:FuncId) (t:TypeId) (sz:Nat):Prop where
 enters:Sx.Enters P f
 con:∀(a:Option Addr) (n c:Nat) (xs:List Value),xs.all Sx.one=true->n<=1000000->Sx.Con P f [.slice a n c] [] (Sx.RdS (.slice a n c) sz n xs) (λv L _=>L=[.row v t sz n xs])
def Aii(P:Program)(f:FuncId):Prop:=∀(a:Option Addr) (c:Nat),Sx.Con P f [.slice a 0 c] [] (λ_=>True) (λv _ _=>∃a',v = .slice a' 0 0)
theorem By9{x:Vx}{c:Ck}{ys:List (El c)}{v:Value}(h:RF x.S x.w (.sl c ys .no) v):∃a cap vs,v = .slice a ys.length cap/\Bh x c ys vs/\∀w':World,(∀k,k<x.w.heap.size->w'.heap[k]? = x.w.heap[k]?)->Sx.RdS v (csz c) ys.length vs w':=by
 obtain⟨a,cap,vs,rfl,hrow,hcell⟩:=E3 h;refine⟨a,cap,vs,rfl,hrow,λw' hb=>⟨hrow.1,a,cap,rfl,?_⟩⟩;obtain⟨a',cap',he,hf⟩:=B6 h;simp only[Value.slice.injEq] at he;rcases hf with rfl|⟨b,o,e,hle,_⟩
 ·exact .inl rfl
 ·by_cases h0:ys=[]
  ·grind
  ·refine .inr ⟨b,o,he.1.trans e,by rw[he.2.2];exact hle.1,λj u hj =>?_⟩;have hc:=hcell b o (he.1.trans e) h0 j u hj;rw[World.cell?_of_block (a:=⟨b,o+j,none⟩) (hb b (Un hc))];exact hc
theorem Ap2{P:Program}{Pre:World->Prop}{w:World}(h:∀w':World,(∀k,k<w.heap.size->w'.heap[k]? = w.heap[k]?)->Pre w'):Sx.StOk ⟨P,0,w,Sx.fps [],[]⟩ [] Pre w :=⟨Sx.Chg.refl _ _,by simp,by simp[Sx.fps],by simp[Sx.fps],by simp,λw' hc=>h w' λk hk=>hc.block k hk (by simp[Sx.fps])⟩
theorem Tp{w w':World}(h:Sx.Chg [] w w'):Chg Cf w w' :=.of_blocks h.os h.tape h.output h.size λk hk=>h.block k hk (by simp)
theorem Rj{P:Program}{f:FuncId}{x:Vx}{c:Ck}{ys:List (El c)}{v:Value}(h:ClOk P f (x.el c) (csz c))(hrf:RF x.S x.w (.sl c ys .no) v)(hn:ys.length<=1000000) :
  ∃vs,Bh x c ys vs/\Calls P f #[v] x.w λen w'=>∃u,en = .returned u/\Chg Cf x.w w'/\((u = .slice none 0 0/\ys=[])\/∃g cap cur,u = .slice (some ⟨g,0,none⟩) ys.length cap/\(x.w.heap.size<=g/\g<w'.heap.size)/\w'.heap[g]? = some (.cells cur (x.el c) (0,0))/\cur.size=cap*csz c/\ys.length<=cap/\cap<=maxLen/\cur.toList.take (ys.length*csz c)=vs):=by
 obtain⟨a,cap,vs,rfl,hrow,hrd⟩:=By9 hrf;refine⟨vs,hrow,((h.con a ys.length cap vs (Zg2.2 hrow.one) hn).run x.w [] (Ap2 hrd)).mono ?_⟩;rintro en w' ⟨u,L',F',rfl,rfl,hs⟩;refine⟨u,rfl,Tp (by simpa[Sx.fps] using hs.chg),?_⟩;have hok:w'.ownsRow 0 (x.el c) (csz c) u ys.length vs:=hs.ok (.row u (x.el c) (csz c) ys.length vs) (by simp);rcases hok.2 with ⟨rfl,h0⟩|⟨g,cap',cur,rfl,_,hh,hle,hm,hsz,htk⟩
 ·grind
 ·refine .inr ⟨g,cap',cur,rfl,⟨?_,(Zh2.1 hh).1⟩,hh,hsz,hle,hm,htk⟩;rcases hs.own g (by simp[Sx.fps,Sx.Ent.fp]) with h1|h1
  ·cases h1
  ·exact h1
def A50(c:Ck):FT [.sl c false] [.sl c true]:=λ(ys:List (El c))=>cond (decide (ys.length<=1000000)) (some ys) none
theorem Ac3{P:Program}{el:Ck->TypeId}{gl:Nat->Option Gv}{f:FuncId}{c:Ck}(h:ClOk P f (el c) (csz c)):FnOk P el gl f [.sl c false] [.sl c true] (A50 c):=by
 refine⟨h.enters,λx r hx w M vs hM _ hr =>?_⟩;have hx:cond (decide (List.length (α:=El c) x<=1000000)) (some x) none=some r:=hx;cases hd:decide (List.length (α:=El c) x<=1000000) with
 |false=>rw[hd] at hx;cases hx
 |true =>
  rw[hd] at hx;simp at hx;subst hx;simp at hd;simp[B0,Cj] at hr;obtain⟨v,_,rfl,hv,rfl⟩:=hr;obtain⟨us,hrow,hc⟩:=Rj (x:=v0 el M w) h hv.1 hd;refine hc.mono ?_;rintro en w' ⟨u,rfl,hch,hu⟩;rcases hu with ⟨rfl,h0⟩|⟨g,cap,cur,rfl,⟨hg1,hg2⟩,hh,hsz,hle,hm,htk⟩
  ·refine⟨_,⟨λ_=>0,λ_=>none⟩,rfl,hch,λp g o _ hg=>by simp at hg,λp q g o o' _ _ hg=>by simp at hg,?_⟩;subst h0;exact⟨λ_ _ =>.nil _ _ _ _ trivial,by simp[vr],λ_ =>.inl ⟨rfl,rfl,rfl⟩⟩
  ·let m:Mp:=⟨λ_=>0,λp=>if p=0 then some (g,List.length (α:=El c) x*csz c) else none⟩;have hmt:∀p b o,m.tk p=some (b,o)->p=0/\b=g/\o=List.length (α:=El c) x*csz c:=λp b o hp=>by grind
   refine⟨_,m,rfl,hch,λp b o _ hp =>?_,λp q b o o' _ _ hp hq=>by rw[(hmt p b o hp).1,(hmt q b o' hq).1],?_⟩
   ·obtain⟨_,rfl,_⟩:=hmt p b o hp;exact⟨hg1,hg2⟩
   ·simp[Eo,Rep];have hrow2:Bh (vr el M m [.sl c true] w') c x us:=⟨hrow.1,λi y j d hy hd=>by
     obtain⟨z,hz,hf⟩:=hrow.2 i y j d hy hd;refine⟨z,hz,RF.later hf (hch.mono λ_ _ h=>h.elim) λb i hi =>?_⟩;rcases hi with hi|⟨p,o,_,hp,_⟩
     ·exact .inl hi
     ·obtain⟨_,rfl,_⟩:=hmt p b o hp;exact .inr hg1⟩
    refine⟨Amf hrow2 ⟨hle,hm⟩ (λj z hj =>?_) (λi hi =>?_),by simp[vr],λ_ =>.inr ⟨g,cap,cur,rfl,by simp[vr,m],hh,hsz,hle,hm⟩⟩
    ·show w'.cell? _=_;simp[World.cell?,hh]
     grind
    ·rintro(hMi|⟨p,o,_,hp,ho⟩)
     ·have:=hM g i hMi;have hg1:w.heap.size<=g:=hg1;omega
     ·grind
section
variable {R:Type}{cx:Cx}
def Yx(c:Ck)(args:List D)(st:St)(K:List D->St->Option R):Option R:=match args with
 |[.sl c' xs _]=>match decide (c' = c)&&decide (xs.length<=1000000) with|true=>cond (List.isEmpty xs) (K [.sl c' [] .z] st) (K [.osl st.nb c' 0 ((xs.length:Nat):Int)] (Gy st (.dyn c' xs)))|false=>none
 |_=>none
theorem Aji{x:Vx}{c:Ck}{ys:List (El c)}{vs:List Value}{g cap:Nat}{cur:Array Value}(hrow:Bh x c ys vs)(hh:x.w.heap[g]? = some (.cells cur (x.el c) (0,0)))(hsz:cur.size=cap*csz c)(hle:ys.length<=cap)(hm:cap<=maxLen)(htk:cur.toList.take (ys.length*csz c)=vs):Iq x g (.dyn c ys):=by
 refine⟨Nat.le_trans hle hm,cur.toList,x.el c,by rw[Array.toArray_toList];exact hh,(by have hq:=Nat.mul_le_mul_right (csz c) hle;rw[<-hsz] at hq;simpa using hq),λi y j d hy hd =>?_⟩;obtain⟨u,hu,hf⟩:=hrow.2 i y j d hy hd;refine⟨u,?_,hf⟩;rw[<-htk,List.getElem?_take] at hu;split at hu
 ·exact hu
 ·cases hu
theorem Bir{g:Nat}{c:Ck}(h:ClOk cx.P g (cx.el c) (csz c))(h0:Aii cx.P g){args:List D}{st:St}{K:List D->St->Option R}{r:R}(hc:Yx c args st K=some r):Hr cx g args st K r:=by
 unfold Yx at hc;split at hc
 ·rename_i c' xs tk;split at hc
  ·rename_i hcc;simp at hcc;obtain⟨rfl,hn⟩:=hcc;refine⟨h.enters,λm a as_ w vs hr hargs =>?_⟩;simp only[Reps] at hargs;obtain⟨v,_,rfl,⟨hrf,_⟩,rfl⟩:=hargs;by_cases he:xs=[]
   ·subst he;obtain⟨ad,cap,rfl,_⟩:=hrf.here.slice;refine((h0 ad cap).run w [] (Ap2 λ_ _=>trivial)).mono ?_;rintro en w' ⟨u,L',F',rfl,⟨a',rfl⟩,hs⟩;have hch:Chg Cf w w':=Tp (by simpa[Sx.fps] using hs.chg);refine⟨_,rfl,_,st,m,hc,⟨rfl,rfl,rfl,rfl,rfl⟩,hr.quiet hch,?_⟩;simp[Eo];exact⟨λ_ _ =>.nil _ _ _ _ trivial,rfl,a',rfl⟩
   ·have hie:List.isEmpty xs=false:=by cases xs with|nil=>exact absurd rfl he|cons _ _=>rfl
    rw[hie] at hc;obtain⟨us,hrow,hcl⟩:=Rj (x:=vx cx m (fs st) w) h hrf hn;refine hcl.mono ?_;rintro en w' ⟨u,rfl,hch,hu⟩;rcases hu with ⟨_,e⟩|⟨g2,cap,cur,rfl,⟨hg1,hg2⟩,hh,hsz,hle,hm,htk⟩
    ·exact absurd e he
    ·obtain⟨m',h1,h2⟩:=hr.newAt (k :=.dyn c' xs) (g:=g2) hch hg1 hg2 (λx' nx hw=>Aji (hrow.later nx) (by rw[hw,nx.el];exact hh) hsz hle hm htk);rw[<-A72] at h1 h2;refine⟨_,rfl,_,_,m',hc,⟨rfl,rfl,rfl,rfl,rfl⟩,h1,?_⟩;simp only[Rep] at h2;simp[Eo];obtain⟨k1,k2⟩:=h2;simp at k2;have hbl:(vx cx m' (fs (Gy st (.dyn c' xs))) w').m.bl st.nb=g2:=k2.symm;refine⟨k1,Int.le_refl _,Int.natCast_nonneg _,by have:=Nat.le_trans hle hm;omega,some ⟨g2,0,none⟩,cap,by simp,.inr (by rw[hbl];simp),by simpa using hle,hm,cur,(0,0),by rw[hbl];exact hh,by simpa using hsz⟩
  ·cases hc
 ·cases hc
def Aiy(c:Ck)(args:List D)(st:St)(K:D->List Nat->St->Option R):Option R:=match args with
 |[.sl c' xs _]=>match decide (c' = c)&&decide (xs.length<=1000000) with
  |true=>cond (List.isEmpty xs) (K (.sl c' [] .z) [] st) (match blk st.bl st.nb with
   |none=>K (.osl st.nb c' 0 ((xs.length:Nat):Int)) [] (Gy st (.dyn c' xs))
   |some _=>none)
  |false=>none
 |_=>none
theorem Bip{st:St}(k:Blk)(h:blk st.bl st.nb=none):∀b,b∉([]:List Nat)->Eh (fs st) (fs (Gy st k)) b:=λb _=>by
 have e:∀q,(fs (Gy st k)).bl q=if q=st.nb then some k else(fs st).bl q:=λq=>A1 st.bl st.nb q k
 refine⟨λq hq =>?_,λq hq hlt =>?_⟩
 ·rw[e];by_cases hb:b=st.nb
  ·subst hb;have hq:blk st.bl st.nb=some q:=hq;rw[h] at hq;cases hq
  ·rw[if_neg hb];exact hq
 ·have hlt:b<st.nb:=hlt;rw[e,if_neg (by omega)] at hq;exact hq
theorem A34{g:Nat}{c:Ck}(h:ClOk cx.P g (cx.el c) (csz c))(h0:Aii cx.P g):Fy (R:=R) cx g (Aiy c):=by
 intro args st K r hc;unfold Aiy at hc;split at hc
 ·rename_i c' xs tk;split at hc
  ·rename_i hcc;simp at hcc;obtain⟨rfl,hn⟩:=hcc;by_cases he:xs=[]
   ·subst he;refine⟨_,[],st,hc,⟨rfl,rfl,rfl,rfl,rfl⟩,Zn1 _,λb _=>Eh.of_bl rfl b,h.enters,λs m a as_ w vs hW hr hargs =>?_⟩;simp only[Reps] at hargs;obtain⟨v,_,rfl,⟨hrf,_⟩,rfl⟩:=hargs;obtain⟨ad,cap,rfl,_⟩:=hrf.here.slice;refine((h0 ad cap).run w [] (Ap2 λ_ _=>trivial)).mono ?_;rintro en w' ⟨u,L',F',rfl,⟨a',rfl⟩,hs⟩;have hch:Chg Cf w w':=Tp (by simpa[Sx.fps] using hs.chg);rw[Jh hW];refine⟨_,rfl,m,hr.quiet hch,?_⟩;simp[Rep];exact⟨λ_ _ =>.nil _ _ _ _ trivial,rfl,a',rfl⟩
   ·have hie:List.isEmpty xs=false:=by cases xs with|nil=>exact absurd rfl he|cons _ _=>rfl
    rw[hie] at hc;cases hfr:blk st.bl st.nb with
    |some k=>rw[hfr] at hc;cases hc
    |none =>
    rw[hfr] at hc;refine⟨_,[],Gy st (.dyn c' xs),hc,⟨rfl,rfl,rfl,rfl,rfl⟩,Nat.le_succ _,Bip _ hfr,h.enters,λs m a as_ w vs hW hr hargs =>?_⟩;simp only[Reps] at hargs;obtain⟨v,_,rfl,⟨hrf,_⟩,rfl⟩:=hargs;obtain⟨us,hrow,hcl⟩:=Rj (x:=vx cx m s w) h hrf hn;refine hcl.mono ?_;rintro en w' ⟨u,rfl,hch,hu⟩;rcases hu with ⟨_,e⟩|⟨g2,cap,cur,rfl,⟨hg1,hg2⟩,hh,hsz,hle,hm,htk⟩
    ·exact absurd e he
    ·obtain⟨m',h1,h2⟩:=hr.newAt (k :=.dyn c' xs) (g:=g2) hch hg1 hg2 (λx' nx hw=>Aji (hrow.later nx) (by rw[hw,nx.el];exact hh) hsz hle hm htk);rw[Og st _ s hW];refine⟨_,rfl,m',h1,?_⟩;simp only[Rep] at h2 ⊢;obtain⟨k1,k2⟩:=h2;simp at k2;have hnb:st.nb=s.nb:=hW.2.1.symm;rw[hnb];have hbl:(vx cx m' { s with bl:=λb=>if b=s.nb then some (.dyn c' xs) else s.bl b,nb:=s.nb+1 } w').m.bl s.nb=g2:=k2.symm;refine⟨k1,Int.le_refl _,Int.natCast_nonneg _,by have:=Nat.le_trans hle hm;omega,some ⟨g2,0,none⟩,cap,by simp,.inr (by rw[hbl];simp),by simpa using hle,hm,cur,(0,0),by rw[hbl];exact hh,by simpa using hsz⟩
  ·cases hc
 ·cases hc
theorem A9m{α:Type}(l:List α):cut l 0 (0+((l.length:Nat):Int))=l:=by simp[cut]
theorem Bdu{m:Mp}{a:Act}{as_:List Act}{st:St}{w:World}(hr:Rel cx m a as_ (fs st) w){b cap:Nat}{c:Ck}{xs:List (El c)}(hb:blk st.bl b=some (.dyn c xs)){cur:Array Value}(hh:w.heap[m.bl b]? = some (.cells cur (cx.el c) (0,0)))(hsz:cur.size=cap*csz c)(hle:xs.length<=cap)(hm:cap<=maxLen) :
  Rel cx m a as_ (fs { st with bl:=Bo st.bl b }) w/\Rep (vx cx m (fs { st with bl:=Bo st.bl b }) w) (.sl c xs .no) (.slice (some ⟨m.bl b,0,none⟩) xs.length cap):=by
 have hd:Rep (vx cx m (fs st) w) (.osl b c 0 ((xs.length:Nat):Int)) (.slice (some ⟨m.bl b,0,none⟩) xs.length cap):=by simp only[Rep];exact⟨(hr.blks b _ hb).1,Int.le_refl _,Int.natCast_nonneg _,by have:=Nat.le_trans hle hm;omega,some ⟨m.bl b,0,none⟩,cap,by simp,.inr (by simp[vx]),by simpa using hle,hm,cur,(0,0),hh,by simpa using hsz⟩
 have hf:Bf9 st.bl (.osl b c 0 ((xs.length:Nat):Int)) (λd bl=>some (d,bl))=some (.sl c xs .no,Bo st.bl b):=by simp only[Bf9,hb];rw[A9m];refine(A0g ?_);simp
 obtain⟨d',bl',hk,hrel,_,hrep,_⟩:=Av1 hr hd hf;simp at hk;obtain⟨rfl,rfl⟩:=hk;exact⟨hrel,hrep⟩
theorem Bmv{m:Mp}{a:Act}{as_:List Act}{st:St}{w w':World}(hr:Rel cx m a as_ (fs st) w){b cap:Nat}{c:Ck}{xs xs':List (El c)}{vs':List Value}(hb:blk st.bl b=some (.dyn c xs))(hch:Chg (λq _=>q=m.bl b) w w')(hh:w'.heap[m.bl b]? = some (.cells vs'.toArray (cx.el c) (0,0)))(hl:vs'.length=cap*csz c)(hrow:Bh (vx cx m (fs st) w) c xs' (vs'.take (xs'.length*csz c)))(hle:xs'.length<=cap)(hm:cap<=maxLen) :
  ∃m',Rel cx m' a as_ (fs { st with bl:=Bo st.bl b,nb:=st.nb+1 }) w'/\Rep (vx cx m' (fs { st with bl:=Bo st.bl b,nb:=st.nb+1 }) w') (.sl c xs' .no) (.slice (some ⟨m.bl b,0,none⟩) xs'.length cap):=by
 have hrel1:=hr.write (k :=.dyn c xs') (b:=b) hb hch (λx' nx hw=>Aji (hrow.later nx) (by rw[hw,nx.el];exact hh) (by simpa using hl) hle hm (by simp));have e1:fs { st with bl:=Gl st.bl b (.dyn c xs') }={ fs st with bl:=λq=>if q=b then some (.dyn c xs') else(fs st).bl q }:=by
  refine FS.eq rfl rfl rfl rfl rfl ?_ rfl rfl rfl;funext q;show blk (Gl st.bl b _) q=_;rw[H5];by_cases hq:q=b
  ·subst hq;simp[hb]
  ·simp[hq];rfl
 rw[<-e1] at hrel1;have hb1:blk (Gl st.bl b (.dyn c xs')) b=some (.dyn c xs'):=by rw[H5,if_pos rfl,hb];rfl
 obtain⟨h1,h2⟩:=Bdu (st:={ st with bl:=Gl st.bl b (.dyn c xs') }) hrel1 hb1 hh (by simpa using hl) hle hm;have e2:fs { st with bl:=Bo (Gl st.bl b (.dyn c xs')) b }=fs { st with bl:=Bo st.bl b }:=by refine FS.eq rfl rfl rfl rfl rfl ?_ rfl rfl rfl;funext q;show blk (Bo (Gl st.bl b _) b) q=blk (Bo st.bl b) q;rw[Dx,Dx,H5];by_cases hq:q=b<;>simp[hq]
 have h1:Rel cx m a as_ (fs { st with bl:=Bo st.bl b }) w':=by rw[<-e2];exact h1
 have h3:=Rel.raise (st:={ st with bl:=Bo st.bl b }) (nb:=st.nb+1) (nt:=st.nt) (Nat.le_succ _) (Zn1 _) h1;refine⟨m,h3,?_⟩;simp at h2 ⊢;refine⟨?_,trivial⟩;have hS:(vx cx m (fs { st with bl:=Bo (Gl st.bl b (.dyn c xs')) b }) w').S=(vx cx m (fs { st with bl:=Bo st.bl b,nb:=st.nb+1 }) w').S:=by show(vx cx m (fs { st with bl:=Bo (Gl st.bl b (.dyn c xs')) b }) w').S=(vx cx m (fs { st with bl:=Bo st.bl b }) w').S;rw[e2]
 rw[<-hS];exact h2.1
theorem Boa{m:Mp}{a:Act}{as_:List Act}{st:St}{w w':World}(hr:Rel cx m a as_ (fs st) w){b g cap:Nat}{c:Ck}{xs':List (El c)}{vs':List Value}(hch:Chg Cf w w')(hg1:w.heap.size<=g)(hh:w'.heap[g]? = some (.cells vs'.toArray (cx.el c) (0,0)))(hl:vs'.length=cap*csz c)(hrow:Bh (vx cx m (fs st) w) c xs' (vs'.take (xs'.length*csz c)))(hle:xs'.length<=cap)(hm:cap<=maxLen) :
  ∃m',Rel cx m' a as_ (fs { st with bl:=Bo st.bl b,nb:=st.nb+1 }) w'/\Rep (vx cx m' (fs { st with bl:=Bo st.bl b,nb:=st.nb+1 }) w') (.sl c xs' .no) (.slice (some ⟨g,0,none⟩) xs'.length cap):=by
 obtain⟨m',h1,h2⟩:=hr.newAt (k :=.dyn c xs') (g:=g) hch hg1 (Zh2.1 hh).1 (λx' nx hw=>Aji (hrow.later nx) (by rw[hw,nx.el];exact hh) (by simpa using hl) hle hm (by simp));rw[<-A72] at h1 h2;simp only[Rep] at h2;have k2:=h2.2;simp at k2;have hbl:m'.bl st.nb=g:=k2.symm;have hb1:blk (Gy st (.dyn c xs')).bl st.nb=some (.dyn c xs'):=by show blk ((st.nb,_)::st.bl) st.nb=_;rw[A1,if_pos rfl]
 obtain⟨h3,h4⟩:=Bdu (st:=Gy st (.dyn c xs')) h1 hb1 (by rw[hbl];exact hh) (by simpa using hl) hle hm;rw[hbl] at h4;obtain⟨h5,nx⟩:=h3.drop b;have h6:=Rep.later nx _ _ h4;have hnone:blk st.bl st.nb=none:=by cases hk:blk st.bl st.nb with|none=>rfl|some k=>exact absurd (hr.blks st.nb k hk).1 (Nat.lt_irrefl _)
 have e:fs { { Gy st (.dyn c xs') with bl:=Bo (Gy st (.dyn c xs')).bl st.nb } with bl:=Bo (Bo (Gy st (.dyn c xs')).bl st.nb) b }=fs { st with bl:=Bo st.bl b,nb:=st.nb+1 }:=by
  refine FS.eq rfl rfl rfl rfl rfl ?_ rfl rfl rfl;funext q;show blk (Bo (Bo ((st.nb,_)::st.bl) st.nb) b) q=blk (Bo st.bl b) q;rw[Dx,Dx,Dx,A1];by_cases hq:q=b
  ·simp[hq]
  ·rw[if_neg hq,if_neg hq];by_cases hn:q=st.nb
   ·rw[if_pos hn,hn,hnone]
   ·rw[if_neg hn,if_neg hn]
 rw[e] at h5 h6;exact⟨m',h5,h6⟩
theorem Bbg{x:Vx}{c:Ck}{xs:List (El c)}{vs:List Value}(hl:xs.length*csz c<=vs.length)(h:∀i y j d,xs[i]? = some y->(enc c y)[j]? = some d->∃u,vs[i*csz c+j]? = some u/\RF x.S x.w d u):Bh x c xs (vs.take (xs.length*csz c)):=by
 refine⟨by rw[List.length_take];exact Nat.min_eq_left hl,λi y j d hy hd =>?_⟩;obtain⟨u,hu,hf⟩:=h i y j d hy hd;refine⟨u,?_,hf⟩;have hi:i<xs.length:=(Zi2.1 hy).1;have hj:j<csz c:=by rw[<-Ca c y];exact(Zi2.1 hd).1
 have:i*csz c+j<xs.length*csz c:=by have h1:(i+1)*csz c<=xs.length*csz c:=Nat.mul_le_mul_right _ hi;rw[Nat.add_mul] at h1;omega
 rw[List.getElem?_take_of_lt this];exact hu
theorem Bh.take{x:Vx}{c:Ck}{xs:List (El c)}{vs:List Value}(h:Bh x c xs vs)(k:Nat)(hk:k<=xs.length):Bh x c (xs.take k) (vs.take (k*csz c)):=by
 have hkl:(xs.take k).length=k:=by rw[List.length_take];exact Nat.min_eq_left hk
 have:=Bbg (x:=x) (c:=c) (xs:=xs.take k) (vs:=vs) (by rw[hkl,h.1];exact Nat.mul_le_mul_right _ hk) (λi y j d hy hd=>by
  rw[List.getElem?_take] at hy;split at hy
  ·exact h.2 i y j d hy hd
  ·cases hy)
 rwa[hkl] at this
theorem Bh.drop{x:Vx}{c:Ck}{xs:List (El c)}{vs:List Value}(h:Bh x c xs vs)(k:Nat):Bh x c (xs.drop k) (vs.drop (k*csz c)):=by refine⟨by rw[Za2,Za2,h.1,Nat.sub_mul],λi y j d hy hd =>?_⟩;rw[List.getElem?_drop] at hy;obtain⟨u,hu,hf⟩:=h.2 (k+i) y j d hy hd;refine⟨u,?_,hf⟩;rw[List.getElem?_drop,<-hu];congr 1;rw[Nat.add_mul,Nat.add_assoc]
theorem Bqc{w:World}{d:D}(h:FV w d (.tuple #[])):False:=by cases h
theorem Blc{x:Vx}{c:Ck}{y:El c}{ys:List (El c)}{b o n cap g:Nat}{cs:Array Value}{t:TypeId}(h:RF x.S x.w (.sl c (y::ys) .no) (.slice (some ⟨b,o,none⟩) n cap))(hg:∀i,x.S g i)(hh:x.w.heap[g]? = some (.cells cs t (0,0))):b≠g:=by
 intro e;subst e;have hch:Chg x.S x.w (x.w.setRow b (List.replicate cs.size (.tuple #[])).toArray):=by have hsx:Sx.Chg [b] x.w (x.w.setRow b (List.replicate cs.size (.tuple #[])).toArray):=⟨rfl,rfl,rfl,by simp,λk _ hn=>setRow_other x.w b k _ (by simpa using hn)⟩;refine(L8 hsx (vs:=cs.toList) (us:=List.replicate cs.size (.tuple #[])) (t:=t) (by rw[Array.toArray_toList];exact hh) (setRow_heap _ b _ _ t (0,0) hh) (by simp)).mono λq i hq =>?_;subst hq;exact hg i
 obtain⟨a',cap',e,hf⟩:=(h _ hch).slice;rcases hf with e0|⟨b',o',rfl,_,hat⟩
 ·cases e0
 ·simp at e;obtain⟨⟨rfl,rfl⟩,_⟩:=e;have hlt : 0<(enc c y).length:=by rw[Ca];exact Air c
  obtain⟨u,hu,hfv⟩:=hat 0 y rfl 0 _ (Zo1 hlt);simp only[World.cell?,(setRow_heap x.w b _ (List.replicate cs.size (Value.tuple #[])).toArray t (0,0) hh)] at hu;simp at hu;have:u = .tuple #[]:=by obtain⟨hq,hu⟩:=Zh2.1 hu;simp at hu;exact hu.symm
  subst this;exact Bqc hfv
structure InsOk (P:Program) (f:FuncId) (t:TypeId):Prop where
 enters:Sx.Enters P f
 con:∀(g n i cap vb vo vc:Nat) (cs ys:List Value),0<n->i<=n->n<=cap->cs.length=cap*2->(∀v,v∈cs.take (n*2)->Sx.one v=true)->ys.length=2->(∀v,v∈ys->Sx.one v=true)->vb≠g->n<=1000000 ->
  Sx.Con P f [.slice (some ⟨g,0,none⟩) n cap,.int .i64 i,.slice (some ⟨vb,vo,none⟩) 1 vc] [.blk g cs t] (λw=>∀(j:Nat) v,ys[j]? = some v->w.cell? ⟨vb,vo+j,none⟩=some v) (λv L _ =>
   (∃cs',v = .slice (some ⟨g,0,none⟩) (n+1) cap/\n+1<=cap/\L=[.blk g cs' t]/\cs'.length=cs.length/\cs'.take ((n+1)*2)=cs.take (i*2)++ys++(cs.drop (i*2)).take ((n-i)*2)) \/
   (∃b cap' cs',v = .slice (some ⟨b,0,none⟩) (n+1) cap'/\n+1<=cap'/\cap'<=maxLen/\L=[.blk b cs' t,.blk g cs t]/\cs'.length=cap'*2/\cs'.take ((n+1)*2)=cs.take (i*2)++ys++(cs.drop (i*2)).take ((n-i)*2)))
 con0:∀(a:Option Addr) (vb vo vc:Nat) (ys:List Value),ys.length=2->(∀v,v∈ys->Sx.one v=true) ->
  Sx.Con P f [.slice a 0 0,.int .i64 0,.slice (some ⟨vb,vo,none⟩) 1 vc] [] (λw=>∀(j:Nat) v,ys[j]? = some v->w.cell? ⟨vb,vo+j,none⟩=some v) (λv L _=>∃b cap' cs',v = .slice (some ⟨b,0,none⟩) 1 cap'/\1<=cap'/\cap'<=maxLen/\L=[.blk b cs' t]/\cs'.length=cap'*2/\cs'.take 2=ys)
def Ai7(args:List D)(st:St)(K:List D->St->Option R):Option R:=match args with
 |[.osl b .idx p n,.int .i64 i,.sl .idx [y] _]=>match blk st.bl b with
  |some (.dyn .idx xs)=>chk (decide (p=0)&&decide (0<n)&&decide (n=(xs.length:Int))&&decide (0<=i)&&decide (i<=n)&&decide (n<=1000000)) (K [.sl .idx (xs.take i.toNat++y::xs.drop i.toNat) .no] { st with bl:=Bo st.bl b,nb:=st.nb+1 })
  |_=>none
 |[.sl .idx [] .z,.int .i64 i,.sl .idx [y] _]=>chk (decide (i=0)) (K [.sl .idx [y] .no] st)
 |_=>none
theorem Ard{x:Vx}{y:El .idx}{v:Value}(h:RF x.S x.w (.sl .idx [y] .no) v):∃vb vo vc us,v = .slice (some ⟨vb,vo,none⟩) 1 vc/\Bh x .idx [y] us/\us.length=2/\(∀z,z∈us->Sx.one z=true)/\∀(j:Nat) u,us[j]? = some u->x.w.cell? ⟨vb,vo+j,none⟩=some u:=by
 obtain⟨a,cap,us,rfl,hrow,hcell⟩:=E3 h;obtain⟨a',cap',e,hf⟩:=B6 h;simp at e;rcases hf with e0|⟨b,o,e1,_⟩
 ·cases e0
 ·have ha:=e.1.trans e1;subst ha;exact⟨b,o,cap,us,rfl,hrow,by rw[hrow.1];rfl,hrow.one,hcell b o rfl (by simp)⟩
theorem A7w{g:Nat}(h:InsOk cx.P g (cx.el .idx)){args:List D}{st:St}{K:List D->St->Option R}{r:R}(hc:Ai7 args st K=some r):Hr cx g args st K r:=by
 unfold Ai7 at hc;split at hc
 ·rename_i b p n i y tk;split at hc
  ·rename_i xs hb;obtain⟨hk,hK⟩:=A5 hc;simp at hk;obtain⟨⟨⟨⟨⟨hp,hn⟩,hnl⟩,hi0⟩,hin⟩,hbig⟩:=hk;subst hp hnl;obtain⟨i,rfl⟩:∃k:Nat,i=k:=⟨i.toNat,by omega⟩;refine⟨h.enters,λm a as_ w vs hr hargs =>?_⟩;simp only[Reps] at hargs;obtain⟨v1,_,rfl,⟨hb1,_,_,_,ad,cap,rfl,had,hle,hcm,cur,f,hh1,hsz⟩,v2,_,rfl,⟨rfl,_⟩,v3,_,rfl,⟨hrf,_⟩,rfl⟩:=hargs;obtain⟨_,hlen,vs,t,hh2,hvl,hel⟩:=hr.blks b _ hb;have hh1:w.heap[m.bl b]? = some (.cells cur (cx.el .idx) f):=hh1;have hh2:w.heap[m.bl b]? = some (.cells vs.toArray t (0,0)):=hh2;rw[hh1] at hh2;simp at hh2;obtain⟨rfl,rfl,rfl⟩:=hh2;obtain rfl:=had.resolve_left (by omega);have hsz2:vs.length=cap*2:=by simpa[csz] using hsz
   simp at hle;have hrowx:=Bbg (x:=vx cx m (fs st) w) hvl hel;obtain⟨vb,vo,vc,us,rfl,hrow3,hul,hu1,hucell⟩:=Ard hrf;have hbn:(fs st).bl b≠none:=by rw[show(fs st).bl b=some _ from hb];simp
   have hne:vb≠m.bl b:=Blc (x:=vx cx m (fs st) w) hrf (λ_ =>.inr (.inl ⟨b,hbn,rfl⟩)) hh1;have hx1:∀v,v∈vs.take (xs.length*2)->Sx.one v=true:=hrowx.one;have hst:Sx.StOk ⟨cx.P,0,w,Sx.fps [.blk (m.bl b) vs (cx.el .idx)],[]⟩ [.blk (m.bl b) vs (cx.el .idx)] (λw=>∀(j:Nat) v,us[j]? = some v->w.cell? ⟨vb,vo+j,none⟩=some v) w:=by
    refine⟨Sx.Chg.refl _ _,λq hq =>?_,by simp[Sx.fps,Sx.Ent.fp],λq hq =>.inl hq,by simp,λw' hc' j v hj =>?_⟩
    ·simp at hq;subst hq;exact hh1
    ·refine hc'.cell (hucell j v hj) ?_;simpa[Sx.fps,Sx.Ent.fp] using hne
   have hargs:([.slice (some ⟨m.bl b,(0:Int).toNat*csz .idx,none⟩) ((xs.length:Nat):Int).toNat cap,.int .i64 (i:Int),.slice (some ⟨vb,vo,none⟩) 1 vc]:List Value)=[.slice (some ⟨m.bl b,0,none⟩) xs.length cap,.int .i64 i,.slice (some ⟨vb,vo,none⟩) 1 vc]:=by simp
   show Calls cx.P g ([.slice (some ⟨m.bl b,(0:Int).toNat*csz .idx,none⟩) ((xs.length:Nat):Int).toNat cap,.int .i64 (i:Int),.slice (some ⟨vb,vo,none⟩) 1 vc]:List Value).toArray w _;rw[hargs];refine((h.con (m.bl b) xs.length i cap vb vo vc vs us (by omega) (by omega) hle hsz2 hx1 hul hu1 hne (by omega)).run w [] hst).mono ?_;rintro en w' ⟨u,L',F',rfl,hpost,hs⟩;have hsc:Sx.Chg [m.bl b] w w':=by simpa[Sx.fps,Sx.Ent.fp] using hs.chg
   have hil:i<=xs.length:=by omega
   have hnew:Bh (vx cx m (fs st) w) .idx (xs.take i++y::xs.drop i) (vs.take (i*2)++us++(vs.drop (i*2)).take ((xs.length-i)*2)):=by
    have e3:=((hrowx.take i hil).append hrow3).append (hrowx.drop i);rw[Zj1,List.singleton_append] at e3;have q1:(vs.take (xs.length*csz .idx)).take (i*csz .idx)=vs.take (i*2):=by rw[List.take_take,Nat.min_eq_left (Nat.mul_le_mul_right _ hil)];rfl
    have q2:(vs.take (xs.length*csz .idx)).drop (i*csz .idx)=(vs.drop (i*2)).take ((xs.length-i)*2):=by rw[List.drop_take];show(vs.drop (i*2)).take (xs.length*2-i*2)=_;rw[<-Nat.sub_mul]
    rw[q1,q2] at e3;exact e3
   have hnl:(xs.take i++y::xs.drop i).length=xs.length+1:=by simp;omega
   simp at hK;rcases hpost with ⟨cs',rfl,hroom,rfl,hcl,htk⟩|⟨b',cap',cs',rfl,hroom,hcm',rfl,hcl,htk⟩
   ·have hh':w'.heap[m.bl b]? = some (.cells cs'.toArray (cx.el .idx) (0,0)):=hs.ok (.blk (m.bl b) cs' (cx.el .idx)) (by simp);obtain⟨m',k1,k2⟩:=Bmv (c :=.idx) (xs':=xs.take i++y::xs.drop i) hr hb (L8 hsc hh1 hh' hcl) hh' (cap:=cap) (by rw[hcl];exact hsz2) (by rw[hnl];show Bh _ _ _ (cs'.take ((xs.length+1)*2));rw[htk];exact hnew) (by rw[hnl];exact hroom) hcm;rw[hnl] at k2;exact⟨_,rfl,_,_,m',hK,⟨rfl,rfl,rfl,rfl,rfl⟩,k1,k2⟩
   ·have hh':w'.heap[b']? = some (.cells cs'.toArray (cx.el .idx) (0,0)):=hs.ok (.blk b' cs' (cx.el .idx)) (by simp);have hho:w'.heap[m.bl b]? = some (.cells vs.toArray (cx.el .idx) (0,0)):=hs.ok (.blk (m.bl b) vs (cx.el .idx)) (by simp);have hbb:b'≠m.bl b:=by have:=hs.nodup;simpa[Sx.fps,Sx.Ent.fp] using this
    have hg1:w.heap.size<=b':=by
     rcases hs.own b' (by simp[Sx.fps,Sx.Ent.fp]) with h1|h1
     ·exact absurd (by simpa[Sx.fps,Sx.Ent.fp] using h1) hbb
     ·exact h1
    have hch:Chg Cf w w' :=.of_blocks hsc.os hsc.tape hsc.output hsc.size λk hk=>by
     by_cases hkb:k=m.bl b
     ·rw[hkb,hho,hh1]
     ·exact hsc.block k hk (by simpa using hkb)
    obtain⟨m',k1,k2⟩:=Boa (b:=b) (c :=.idx) (xs':=xs.take i++y::xs.drop i) hr hch hg1 hh' (cap:=cap') hcl (by rw[hnl];show Bh _ _ _ (cs'.take ((xs.length+1)*2));rw[htk];exact hnew) (by rw[hnl];exact hroom) hcm';rw[hnl] at k2;exact⟨_,rfl,_,_,m',hK,⟨rfl,rfl,rfl,rfl,rfl⟩,k1,k2⟩
  ·cases hc
 ·rename_i i y tk;obtain⟨hk,hK⟩:=A5 hc;simp at hk;subst hk;refine⟨h.enters,λm a as_ w vs hr hargs =>?_⟩;simp only[Reps] at hargs;obtain⟨v1,_,rfl,⟨_,_,ad,rfl⟩,v2,_,rfl,⟨rfl,_⟩,v3,_,rfl,⟨hrf,_⟩,rfl⟩:=hargs;obtain⟨vb,vo,vc,us,rfl,hrow3,hul,hu1,hucell⟩:=Ard hrf;refine((h.con0 ad vb vo vc us hul hu1).run w [] (Ap2 λw' hb j v hj =>?_)).mono ?_
  ·have hcv:=hucell j v hj;rw[World.cell?_of_block (a:=⟨vb,vo+j,none⟩) (hb vb (Un hcv))];exact hcv
  ·rintro en w' ⟨u,L',F',rfl,⟨b',cap',cs',rfl,hroom,hcm',rfl,hcl,htk⟩,hs⟩;have hch:Chg Cf w w':=Tp (by simpa[Sx.fps] using hs.chg);have hh':w'.heap[b']? = some (.cells cs'.toArray (cx.el .idx) (0,0)):=hs.ok (.blk b' cs' (cx.el .idx)) (by simp);have hg1:w.heap.size<=b':=by
    rcases hs.own b' (by simp[Sx.fps,Sx.Ent.fp]) with h1|h1
    ·cases h1
    ·exact h1
   have nx:Nx (vx cx m (fs st) w) (vx cx m (fs st) w'):=⟨hch.mono (λ_ _ h=>h.elim),λb i hi =>.inl hi,rfl,λ_ _=>rfl,Zn1 _,Zn1 _,λt _ ha=>⟨ha,rfl,λg o hg=>hch.block g (hr.own_t ha hg) (λ_ h=>h)⟩⟩;refine⟨_,rfl,_,st,m,hK,⟨rfl,rfl,rfl,rfl,rfl⟩,hr.quiet hch,?_⟩;simp[Eo];refine⟨Amf (x:=vx cx m (fs st) w') (hrow3.later nx) ⟨hroom,hcm'⟩ (λj z hj =>?_) (λi _=>Att hr hg1 i),trivial⟩;show w'.cell? _=_;simp[World.cell?,hh'];rw[<-htk,List.getElem?_take] at hj;split at hj
   ·simpa using hj
   ·cases hj
 ·cases hc
end
section
variable {R:Type}{P:Program}{el:Ck->TypeId}{gl:Nat->Option Gv}{tt:Nat->Ty}{cx:Cx}
theorem cCl(H:Hx P el gl tt cx){g:Nat}{c:Ck}(h:ClOk P g (el c) (csz c))(h0:Aii P g):He (R:=R) cx g (Yx c):=λ_ _ _ _ hc=>Bir (by rw[H.p,H.e];exact h) (by rw[H.p];exact h0) hc
theorem B1c(H:Hx P el gl tt cx){g:Nat}{c:Ck}(h:ClOk P g (el c) (csz c))(h0:Aii P g):Fy (R:=R) cx g (Aiy c):=A34 (by rw[H.p,H.e];exact h) (by rw[H.p];exact h0)
theorem B01(H:Hx P el gl tt cx){g:Nat}(h:InsOk P g (el .idx)):He (R:=R) cx g Ai7:=λ_ _ _ _ hc=>A7w (by rw[H.p,H.e];exact h) hc
end
end Go.Ax
namespace Go.Sx
open Go.RowKit
section
variable {cx:Cx}{k:List KI}{e:Env}{L:Loc}{F:World->Prop}{Q:Exit->Act->World->Prop}{ops:Array Oper}{rest:List Oper}
theorem Axa{dst:Nat}{d s:Operand}{t tn ty u:TypeId}{kn kq:IntKind}{pos:String}{after:Array Edge}{g':Option (Nat×Bool)}{sz by_:Nat}{m:Int}(hg:Gd ops e g' = some true)(hd:Nat.blt dst cx.n=true)(hT:ElTy cx.P t u sz by_)(htn:(match cx.P.underlying tn with|some (.int k')=>decide (k' = kn)|_=>false)=true)
  (hx:Env.ev e d=some (.slice none 0 0)) (hy:Env.ev e s=some (.int kq m)) (hm : 0<m) (h63:m.toNat<=maxLen) (hbig:m.toNat*by_<=140737488355328)
  (h:∀b' q cs,m.toNat<=q->q<=maxLen->List.length cs=q*sz->O cx ops rest k ((dst,.slice (some ⟨b',0,none⟩) m.toNat q)::e) (.blk b' cs u::L) F Q) :
  O cx ops (⟨some dst,.call ⟨.builtin .append, #[d,s], #[t,tn]⟩,ty,pos,after,g'⟩::rest) k e L F Q:=by
 obtain⟨j,rfl⟩:∃j:Nat,m=j:=⟨m.toNat,by omega⟩;simp at h63 hbig h;refine V6 (λr L' F'=>∃b' q cs,j<=q/\q<=maxLen/\List.length cs=q*sz/\r = .slice (some ⟨b',0,none⟩) j q/\L' = .blk b' cs u::L/\F' = F) hg hd (λa w he hst =>?_) (λr L' F' ⟨b',q,cs,a1,a2,a3,hr,hL,hF⟩=>by rw[hr,hL,hF];exact h b' q cs a1 a2 a3);obtain⟨hu,i0,z,hi0,hz,hsz,hby,hzs,hpos⟩:=hT;have htn':cx.P.underlying tn=some (.int kn):=by grind
 have hold:(Builtin.firstCells i0.size 0 (.slice none 0 0)).run cx.P w.drew = .ok ([]:List Value).toArray w.drew:=by simp[Builtin.firstCells,Sem.run_pure]
 have hrun:=Lib.run_append_grow_zeros (P:=cx.P) w t tn ty u i0 z kq kn hu htn' hi0 hz none 0 0 [] hold j (by omega) (by omega) (by omega) (by simp[maxLen] at h63;omega) (by rw[hby];omega) (by rw[hby];exact growslice_fits (by omega) (by simpa using hbig))
 have hge:=grownCap_ge w (0+j) 0 u;have hq2:=grownCap_le_maxLen w (0+j) 0 u (by simpa using h63);rw[Nat.zero_add] at hge hq2 hrun;refine⟨_,_,_,F,?_,(hst.quiet (Chg.drew [] w)).alloc ((Builtin.zeroCells z.cells j).toList++(Builtin.zeroCells z.cells (grownCap w j 0 u-j)).toList) u,w.heap.size,grownCap w j 0 u,_,hge,hq2,?_,rfl,rfl,rfl⟩
 ·simp[execOp,resolve,invoke,builtin,he.ev hx,he.ev hy,hrun];congr 3;apply Array.ext';simp
 ·simp[Builtin.zeroCells];rw[<-Nat.add_mul];congr 1;omega
end
end Go.Sx
namespace Go.Ax
open Go.RowKit
structure GrOk (P:Program) (f:FuncId) (t:TypeId) (sz:Nat):Prop where
 enters:Sx.Enters P f
 con:∀n:Int,0<n->n<=1000000->Sx.Con P f [.slice none 0 0,.int .i64 n] [] (λ_=>True) (λv L _=>∃b q cs,v = .slice (some ⟨b,0,none⟩) 0 q/\q<=maxLen/\List.length cs=q*sz/\L=[.blk b cs t])
 con0:Sx.Con P f [.slice none 0 0,.int .i64 0] [] (λ_=>True) (λv _ _=>v = .slice none 0 0)
section
variable {R:Type}{cx:Cx}
def Aq6(c:Ck)(args:List D)(st:St)(K:List D->St->Option R):Option R:=match args with
 |[.sl c' [] .nil,.int .i64 n]=>match decide (c' = c)&&decide (0<=n)&&decide (n<=1000000) with|true=>K [.sl c' [] (.id st.nt)] (C4 st)|false=>none
 |_=>none
theorem Bw0(st:St):fs (C4 st)={ fs st with al:=λt=>((fs st).al t/\(none:Option Nat)≠some t)\/t=(fs st).nt,nt:=(fs st).nt+1 }:=by refine FS.eq rfl rfl rfl rfl rfl rfl rfl ?_ rfl;funext t;simp[fs,C4];exact or_comm
theorem Bjz{g:Nat}{c:Ck}(h:GrOk cx.P g (cx.el c) (csz c)){args:List D}{st:St}{K:List D->St->Option R}{r:R}(hc:Aq6 c args st K=some r):Hr cx g args st K r:=by
 unfold Aq6 at hc;split at hc
 ·rename_i c' n;split at hc
  ·rename_i hcc;simp at hcc;obtain⟨⟨rfl,hn0⟩,hn⟩:=hcc;refine⟨h.enters,λm a as_ w vs hr hargs =>?_⟩;simp only[Reps] at hargs;obtain⟨v1,_,rfl,⟨hb1,hb2⟩,v2,_,rfl,hb3,rfl⟩:=hargs;obtain⟨rfl,_⟩:=hb2;simp only[Rep] at hb3;obtain⟨rfl,_⟩:=hb3;obtain rfl|hpos:n=0\/0<n:=by omega
   ·refine(h.con0.run w [] (Ap2 λ_ _=>trivial)).mono ?_;rintro en w' ⟨u,L',F',rfl,rfl,hs⟩;have hch:Chg Cf w w':=Tp (by simpa[Sx.fps] using hs.chg);obtain⟨hrel,nx⟩:=hr.right (t0:=none) (p:=none) (hch.mono (λ_ _ h=>h.elim)) (λg o hg=>by simp at hg);rw[<-Bw0 st] at hrel nx;refine⟨_,rfl,_,_,_,hc,⟨rfl,rfl,rfl,rfl,rfl⟩,hrel,?_⟩;simp[Eo,Rep];exact⟨λ_ _ =>.nil _ _ _ _ trivial,by simp[vx,fs,C4],λ_ =>.inl ⟨rfl,by simp[vx,fs],rfl⟩⟩
   ·refine((h.con n hpos hn).run w [] (Ap2 λ_ _=>trivial)).mono ?_;rintro en w' ⟨u,L',F',rfl,⟨b,q,cs,rfl,hq,hl,rfl⟩,hs⟩;have hch:Chg Cf w w':=Tp (by simpa[Sx.fps] using hs.chg);have hh:w'.heap[b]? = some (.cells cs.toArray (cx.el c') (0,0)):=hs.ok (.blk b cs (cx.el c')) (by simp);have hbw:w.heap.size<=b:=by
     rcases hs.own b (by simp[Sx.fps,Sx.Ent.fp]) with h1|h1
     ·cases h1
     ·exact h1
    obtain⟨hrel,nx⟩:=hr.right (t0:=none) (p:=some (b,0)) (hch.mono (λ_ _ h=>h.elim)) (λg o hg=>by simp at hg;obtain⟨rfl,rfl⟩:=hg;exact⟨(Zh2.1 hh).1,.inl hbw⟩)
    rw[<-Bw0 st] at hrel nx;refine⟨_,rfl,_,_,_,hc,⟨rfl,rfl,rfl,rfl,rfl⟩,hrel,?_⟩;simp[Eo,Rep];exact⟨λ_ _ =>.nil _ _ _ _ trivial,by simp[vx,fs,C4],λ_ =>.inr ⟨b,q,cs.toArray,rfl,by simp[vx,fs],hh,by simpa using hl,by simp,hq⟩⟩
  ·cases hc
 ·cases hc
theorem Bq4{P:Program}{el:Ck->TypeId}{gl:Nat->Option Gv}{tt:Nat->Ty}(H:Hx P el gl tt cx){g:Nat}{c:Ck}(h:GrOk P g (el c) (csz c)):He (R:=R) cx g (Aq6 c):=λ_ _ _ _ hc=>Bjz (by rw[H.p,H.e];exact h) hc
end
def scD:D->Bool
 |.int _ _|.bool _|.str _=>true
 |_=>false
def Ye(st:St)(sl:Nat)(c:Ck)(xs:List (El c)):St:={ st with env:=(sl,.osl st.nb c 0 (xs.length:Int))::st.env,bl:=[(st.nb,.dyn c xs)],nb:=st.nb+1,tk:=[] }
def Bqn{R:Type}(sl:Nat)(st:St)(K:St->Option R):Option R:=match get st.env sl,st.bl,st.fr,st.tk with
 |some (.sl c xs (.id t)),[],[],[t']=>match A6u c&&Nat.beq t' t&&List.isEmpty st.df&&st.env.all λp=>Nat.beq p.1 sl||scD p.2 with|true=>chk (!xs.isEmpty) (K (Ye st sl c xs))|false=>none
 |_,_,_,_=>none
theorem Bbp:∀{e:Env}{k:Nat}{d:D},get e k=some d->(k,d)∈e
 |[],_,_,h=>by cases h
 |(j,v)::e,k,d,h=>by
  rw[B2] at h;split at h
  ·grind
  ·exact .tail _ (Bbp h)
section
variable {R:Type}{px px2:Px R}{cx:Cx}
theorem Rel.thaw(hI:cx.I=Cf)(hg:∀g,cx.gl g=none){m:Mp}{a:Act}{as_:List Act}{st:St}{w:World}{sl t:Nat}{c:Ck}{xs:List (El c)}(hs:get st.env sl=some (.sl c xs (.id t)))(hf:st.fr=[])(hdf:st.df=[])(ht:st.tk=[t])(hfl:A6u c=true)(he:xs≠[])(hsc:∀k d,k≠sl->get st.env k=some d->scD d=true)(hr:Rel cx m a as_ (fs st) w):∃m',Rel cx m' a as_ (fs (Ye st sl c xs)) w:=by
 obtain⟨v,hv,hrep⟩:=hr.env.get sl _ hs;simp[Rep] at hrep;obtain⟨hrf,_,htok⟩:=hrep;have hal:(fs st).al t:=by simp[fs,ht]
 rcases htok hal with ⟨_,_,e⟩|⟨g,cap,cur,rfl,hm,hh,hsz,hle,hcm⟩
 ·exact absurd e he
 have hh:w.heap[g]? = some (.cells cur (cx.el c) (0,0)):=hh;obtain⟨o1,o2⟩:=hr.own g _ (.inr ⟨t,_,hal,hm,Zn1 _⟩);rw[hI] at o2;have o2:=o2.resolve_left id;have hcl:cur.toList.length=cap*csz c:=by simpa using hsz
 have hlm:xs.length<=maxLen:=Nat.le_trans hle hcm;have no:∀t,¬(fs (Ye st sl c xs)).al t:=λt h=>by cases h
 have own:∀b,(fs (Ye st sl c xs)).bl b≠none->b=st.nb:=λb h=>by
  by_cases hb:st.nb=b
  ·exact hb.symm
  ·exact absurd (by simp[fs,Ye,blk,E9 hb]) h
 refine⟨⟨λ_=>g,λ_=>none⟩,hr.chg,⟨(by rw[hr.noDf hdf,show(fs (Ye st sl c xs)).df=[] from hdf];rfl),hr.env.size,λk d hk =>?_⟩,?_,Nat.le_succ_of_le hr.lb,hr.lt,λb k hk =>?_,λt h=>absurd h (no t),λb b' h h' _=>(own b h).trans (own b' h').symm,λt _ _ _ _ h=>absurd h (no t),λ_ t _ _ _ h=>absurd h (no t),?_,hr.away,?_⟩
 ·have h2:get ((sl,.osl st.nb c 0 (xs.length:Int))::st.env) k=some d:=hk;rw[B2] at h2;split at h2
  ·rename_i e;subst e;obtain rfl:=Option.some.inj h2;refine⟨_,hv,?_⟩;simp only[Rep];exact⟨Nat.lt_succ_self _,Int.le_refl _,Int.natCast_nonneg _,by simpa using hlm,some ⟨g,0,none⟩,cap,by simp,.inr (by simp[vx]),by simpa using hle,hcm,cur,(0,0),hh,by simpa using hsz⟩
  ·rename_i e;obtain⟨u,hu,hd⟩:=hr.env.get k d h2;refine⟨u,hu,?_⟩;have h1:=hsc k d e h2;cases d<;>simp[scD] at h1<;>simpa only[Rep] using hd
 ·have:=hr.frs;simp[fs,hf] at this;simp[ Ye,hf];exact this
 ·have hk:blk [(st.nb,Blk.dyn c xs)] b=some k:=hk;by_cases hb:st.nb=b
  ·subst hb;simp[blk] at hk;subst hk;refine⟨Nat.lt_succ_self _,hlm,cur.toList,cx.el c,by simp[vx];exact hh,hcl.symm▸Nat.mul_le_mul_right _ hle,λi y j d hy hd =>?_⟩;obtain⟨ad,cap',hva,hrest⟩:=hrf.here.slice;simp at hva;rcases hrest with e|⟨b,o,e,_,hat⟩
   ·exact absurd e he
   ·rw[e] at hva;simp at hva;obtain⟨⟨rfl,rfl⟩,_⟩:=hva;obtain⟨u,hu,hf⟩:=hat i y hy j d hd;refine⟨u,?_,A90 hfl hd hf⟩;rw[Nat.zero_add] at hu;have hu:w.cell? ⟨g,i*csz c+j,none⟩=some u:=hu;simp[World.cell?,hh] at hu;simpa using hu
  ·grind
 ·rintro b i (⟨k,_,hb⟩|⟨t,_,h,_⟩)
  ·grind
  ·exact absurd h (no t)
 ·exact⟨λg _ _ h=>(by rw[hg] at h;cases h),λg _ h=>(by rw[hg] at h;cases h),λg _ h=>(by rw[hg] at h;cases h)⟩
theorem Bge{b:Code}{sl:Nat}(hI:cx.I=Cf)(hg:∀g,cx.gl g=none)(h:Bv cx px2 b)(hpx:∀st K,px.loop b st K=Bqn sl st λst'=>px2.loop b st' K):Bv cx px b:=by
 intro st K r hk Q m a as_ w hc hr hQ;rw[hpx] at hk;unfold Bqn at hk;split at hk
 ·rename_i c xs t t' e1 e2 e3 e4;split at hk
  ·rename_i e5;simp only[Zb1,Zg2,Zd2] at e5;obtain⟨⟨⟨e5,e6⟩,e8⟩,e7⟩:=e5;obtain rfl:=Zl1 e6;cases he:xs.isEmpty with
   |true=>rw[he] at hk;cases hk
   |false =>
    rw[he] at hk;obtain⟨m',hr'⟩:=hr.thaw hI hg e1 e3 (List.isEmpty_iff.1 e8) e4 e5 (λe=>by rw[e] at he;cases he) (λk d hne hd=>by
     rcases e7 _ (Bbp hd) with h1|h1
     ·simp_all
     ·exact h1)
    exact h _ K r hk Q m' a as_ w hc hr' hQ
  ·cases hk
 ·cases hk
end
end Go.Ax
namespace Go.Ax
theorem C1{s:Str}{i:Nat}(h:i<s.length):bat s (i:Int)=((s[i]'h).toNat:Int):=by simp[bat,List.getD_eq_getElem?_getD,h]
theorem Aq{c:Ck}{xs:List (El c)}{i:Nat}(h:i<xs.length):at' c xs (i:Int)=xs[i]'h:=by simp[at',List.getD_eq_getElem?_getD,h]
theorem Bll{n:Nat}(h:ln n):wr .i64 (n:Int)=(n:Int):=Be (by simp only[ln,inI] at *;omega)
theorem Ao{i n:Nat}(h:i<n)(hn:ln n):wr .i64 ((i:Int)+1)=((i+1:Nat):Int):=by rw[Be (by simp only[ln,inI] at *;omega)];rfl
theorem Ay{α:Type}{l:List α}{i:Nat}(h:i<l.length):l.drop i=l[i]'h::l.drop (i+1):=List.drop_eq_getElem_cons h
theorem Au{i n:Nat}(h:i<n):inb (i:Int) n=true:=by simp[Bvd,h]
theorem A0{V R:Type}{step:(V->Option R)->V->Option R}{k:Nat}{v:V}:Aj step (k+1) v=step (Aj step k) v:=rfl
theorem Ah{α:Type}{a b : α}:cond true a b=a:=rfl
theorem Af{α:Type}{a b : α}:cond false a b=b:=rfl
theorem A4{α:Type}{c:Bool}{a b : α}:cond c (some a) (some b)=some (cond c a b):=by cases c<;>rfl
theorem Aql{R:Type}{px:Px R}{cx:Cx}{b:Code}(h:∀st K,px.loop b st K=none):Bv cx px b:=λst K r hk=>by rw[h] at hk;cases hk
theorem H0{V R β:Type}{step:(V->Option R)->V->Option R}(n:Nat)(st:Nat->β->V)(Inv:Nat->β->Prop)(F:Nat->β->Option R)
  (hs:∀i,i<n->∀a,Inv i a->∀rec,(∀a',Inv (i+1) a'->rec (st (i+1) a')=F (i+1) a')->step rec (st i a)=F i a)
  (he:∀a,Inv n a->∀rec,step rec (st n a)=F n a):∀(k i:Nat) (a : β),i<=n->n-i<k->Inv i a->Aj step k (st i a)=F i a
 |0,_,_,_,h,_=>absurd h (Zm1 _)
 |k+1,i,a,hi,h,ha=>by
  rw[A0];by_cases hl:i<n
  ·exact hs i hl a ha _ λa' ha'=>H0 n st Inv F hs he k (i+1) a' (by omega) (by omega) ha'
  ·obtain rfl:i=n:=by omega
   exact he a ha _
theorem B1{V R:Type}{step:(V->Option R)->V->Option R}(n:Nat)(st:Nat->V)(F:Nat->Option R)
  (hs:∀i,i<n->∀rec,rec (st (i+1))=F (i+1)->step rec (st i)=F i) (he:∀rec,step rec (st n)=F n):∀(k i:Nat),i<=n->n-i<k->Aj step k (st i)=F i:=λk i hi hk =>
 H0 n (λi (_:Unit)=>st i) (λ_ _=>True) (λi _=>F i) (λi hi _ _ rec h=>hs i hi rec (h () trivial)) (λ_ _ rec=>he rec) k i () hi hk trivial
theorem Cb{i n:Nat}(h:i<n):decide ((i:Int)<(n:Int))=true:=Ze1 (by omega)
theorem Ds(n:Nat):decide ((n:Int)<(n:Int))=false:=Zd1 (by omega)
def Qf(e:Xpr):Xpr:=Xpr.mk e.kind ⟨e.v.kind,e.v.n,e.v.s⟩ e.name e.l
theorem T2(e:Xpr):Qf e=e:=by cases e;rfl
section
variable {R:Type}{cx:Cx}
def Aiv(sa:List Sg)(c:Ck)(F:HV sa->Option (HV [.sl c true]))(args:List D)(st:St)(K:D->List Nat->St->Option R):Option R:=match Nf sa [] args with|some x=>(F x).bind λr=>K (.sl c r (.id st.nt)) [] (C4 st)|none=>none
theorem A65{g:Nat}{sa:List Sg}{c:Ck}{F:HV sa->Option (HV [.sl c true])}(h:FnOk cx.P cx.el cx.gl g sa [.sl c true] F)(hsa:C8 (Bd 0 sa) []=true):Fy (R:=R) cx g (Aiv sa c F):=by
 intro args st K r hc;unfold Aiv at hc;split at hc
 ·rename_i x hx;cases hF:F x with
  |none=>rw[hF] at hc;cases hc
  |some r0 =>
   rw[hF,Zc1] at hc;refine⟨_,[],_,hc,⟨rfl,rfl,rfl,rfl,rfl⟩,Zn1 _,λb _=>Eh.of_bl rfl b,h.enters,λs m a as_ w vs hW hr hargs =>?_⟩;obtain⟨hM,hgl⟩:=Hg hr;have hin:Reps (v0 cx.el (vx cx m s w).S w) (B0 0 sa x) vs:=Fh (X:=vx cx m s w) (X':=v0 cx.el (vx cx m s w).S w) (λ_ _ h=>h) rfl rfl 0 hx (λt ht=>by cases ht) hargs (λp hp=>by rw[(F8 hsa)] at hp;cases hp);refine(h.run x r0 hF w _ vs hM hgl hin).mono ?_;rintro en w' ⟨v,mc,rfl,hch,hfresh,_,hrep⟩;have h0:(0:Nat)∈Bd 0 [Sg.sl c true]:=by simp[Bd]
   obtain⟨hrel,nx⟩:=hr.right (t0:=none) (p:=mc.tk 0) (hch.mono (λ_ _ h=>h.elim)) (λg o hg=>⟨(hfresh 0 g o h0 hg).2,.inl (hfresh 0 g o h0 hg).1⟩);have hfs:=Aba st st.tk none s hW (λt=>by simp);have hnt:st.nt=s.nt:=hW.2.2.2.symm;refine⟨v,rfl,{ m with tk:=λt=>if t=s.nt then mc.tk 0 else m.tk t },?_,?_⟩
   ·rw[show C4 st=C4 { st with tk:=st.tk } from rfl,hfs];exact hrel
   ·rw[show C4 st=C4 { st with tk:=st.tk } from rfl,hfs];obtain⟨us,rfl,hreps⟩:=Ab2 hrep;have:=Za (x:=vr cx.el (vx cx m s w).S mc [.sl c true] w') (x':=vx cx { m with tk:=λt=>if t=s.nt then mc.tk 0 else m.tk t } { s with al:=λt=>(s.al t/\(none:Option Nat)≠some t)\/t=s.nt,nt:=s.nt+1 } w') (n:=s.nt) (by
     rintro b i (h|⟨q,hq,rfl⟩|⟨t,o,h1,h2,h3⟩)
     ·exact .inl (.inl h)
     ·exact .inl (.inr (.inl ⟨q,hq,rfl⟩))
     ·by_cases ht:t=s.nt
      ·subst ht;simp at h2;exact .inr ⟨0,o,h0,h2,h3⟩
      ·rcases h1 with ⟨h1,_⟩|h1
       ·simp[ht] at h2;exact .inl (.inr (.inr ⟨t,o,h1,h2,h3⟩))
       ·exact absurd h1 ht) rfl rfl 0 hreps (λp hp=>by
     have hp0:p=0:=by simpa[Bd] using hp
     subst hp0;refine⟨hp,?_,?_⟩
     ·show s.nt+0<s.nt+1;omega
     ·simp[vx,vr])
    rw[Nat.add_zero] at this;rw[hnt];exact Gz this
 ·cases hc
end
section
variable {R:Type}{P:Program}{el:Ck->TypeId}{gl:Nat->Option Gv}{tt:Nat->Ty}{cx:Cx}
theorem wo1(H:Hx P el gl tt cx){g:Nat}{sa:List Sg}{c:Ck}{F:HV sa->Option (HV [.sl c true])}{l:List (Nat×S6 R)}(h:FnOk P el gl g sa [.sl c true] F)(hl:∀g f,(g,f)∈l->Fy cx g f)(hsa:C8 (Bd 0 sa) []=true:=by kernel_rfl):∀g' f',(g',f')∈(g,Aiv sa c F)::l->Fy cx g' f':=Afl (A65 (by rw[H.p,H.e,H.g];exact h) hsa) hl
end
end Go.Ax
namespace Go.Proofs.YtblaahgjaopdnaaGreatDoor
open Go.Ax
def signsL:List (Int×Str):=[(4,[65,78,68]),(5,[79,82]),(6,[61]),(7,[60,62]),(8,[60]),(9,[60,61]),(10,[62]),(11,[62,61]),(12,[43]),(13,[45]),(14,[42])]
def wordsL:List Str:=[[65,68,68],[65,78,68],[65,83,67],[66,79,79,76],[66,89],[66,89,84,69,83],[67,72,69,67,75],[67,82,69,65,84,69],[68,69,76,69,84,69],[68,69,83,67],[68,82,79,80],[70,65,76,83,69],[70,82,79,77],[73,78,68,69,88],[73,78,83,69,82,84],[73,78,84],[73,78,84,79],[73,83],[75,69,89],[76,73,77,73,84],[78,79,84],[78,85,76,76],[79,78],[79,82],[79,82,68,69,82],[80,82,73,77,65,82,89],[82,69,70,69,82,69,78,67,69,83],[83,69,76,69,67,84],[83,69,84],[84,65,66,76,69],[84,69,88,84],[84,82,85,69],[85,78,73,81,85,69],[85,80,68,65,84,69],[86,65,76,85,69,83],[87,72,69,82,69]]
def Avg:List Str:=[[],[],[66,79,79,76],[73,78,84],[84,69,88,84],[66,89,84,69,83]]
def ttL:List (Nat×Ax.Ty):=[
 (1,.fn),
 (3,.int .i64),
 (4,.bool),
 (5,.int .u8),
 (9,.str),
 (21,.int .i32),
 (22,.sl .res),
 (24,.st (some .outc) [(0,3),(1,3),(2,22)] [.int .i64 0,.int .i64 0,.sl .res [] .nil]),
 (25,.sl .byte),
 (27,.fn),
 (28,.int .i64),
 (40,.int .u64),
 (42,.sl .vals),
 (44,.st (some .res) [(0,42),(1,3)] [.sl .vals [] .nil,.int .i64 0]),
 (45,.sl .val),
 (47,.st (some .val) [(0,3),(1,3),(2,9)] [.int .i64 0,.int .i64 0,.str []]),
 (48,.ptr),
 (51,.sl .node),
 (53,.st (some .node) [(0,3),(1,25),(2,4),(3,25),(4,51),(5,25)] [.int .i64 0,.sl .byte [] .nil,.bool false,.sl .byte [] .nil,.sl .node [] .nil,.sl .byte [] .nil]),
 (57,.int .u64),
 (61,.ptr),
 (63,.st none [(0,25),(1,3),(2,4)] [.sl .byte [] .nil,.int .i64 0,.bool false]),
 (77,.st (some .stt) [(0,53)] [.int .i64 0,.sl .byte [] .nil,.bool false,.sl .byte [] .nil,.sl .node [] .nil,.sl .byte [] .nil]),
 (78,.sl .stt),
 (80,.st none [(0,77),(6,78),(7,25)] [.int .i64 0,.sl .byte [] .nil,.bool false,.sl .byte [] .nil,.sl .node [] .nil,.sl .byte [] .nil,.sl .stt [] .nil,.sl .byte [] .nil]),
 (81,.sl .str),
 (83,.sl .col),
 (84,.sl .expr),
 (85,.sl .exprs),
 (86,.sl .set),
 (88,.st (some .expr) [(0,3),(1,47),(4,9),(5,84)] [.int .i64 0,.int .i64 0,.int .i64 0,.str [],.str [],.sl .expr [] .nil]),
 (89,.sl .bool),
 (91,.st (some .stmt) [(0,3),(1,9),(2,9),(3,83),(4,81),(5,84),(6,85),(7,86),(8,4),(9,88),(15,81),(16,89),(17,3)] [.int .i64 0,.str [],.str [],.sl .col [] .nil,.sl .str [] .nil,.sl .expr [] .nil,.sl .exprs [] .nil,.sl .set [] .nil,.bool false,.int .i64 0,.int .i64 0,.int .i64 0,.str [],.str [],.sl .expr [] .nil,.sl .str [] .nil,.sl .bool [] .nil,.int .i64 0]),
 (96,.sl .bytes),
 (117,.ptr),
 (121,.sl .tok),
 (123,.st none [(0,121),(1,3)] [.sl .tok [] .nil,.int .i64 0]),
 (125,.st none [(0,123),(2,4),(3,3)] [.sl .tok [] .nil,.int .i64 0,.bool false,.int .i64 0]),
 (127,.ptr),
 (129,.st none [(0,48),(1,28)] [.nilp,.int .i64 0]),
 (141,.fn),
 (147,.fn),
 (149,.ptr),
 (159,.fn),
 (165,.ptr),
 (167,.st none [(0,25),(1,3),(2,28)] [.sl .byte [] .nil,.int .i64 0,.int .i64 0]),
 (174,.fn),
 (177,.st (some .tok) [(0,3),(1,3),(2,9),(3,3)] [.int .i64 0,.int .i64 0,.str [],.int .i64 0]),
 (180,.ptr),
 (183,.fn),
 (185,.st (some .set) [(0,9),(1,88)] [.str [],.int .i64 0,.int .i64 0,.int .i64 0,.str [],.str [],.sl .expr [] .nil]),
 (187,.fn),
 (190,.st (some .col) [(0,9),(1,3),(2,4),(3,4),(4,9)] [.str [],.int .i64 0,.bool false,.bool false,.str []]),
 (195,.fn),
 (197,.fn),
 (201,.fn),
 (203,.sl .idx),
 (205,.st (some .tbl) [(0,9),(1,83),(2,81),(3,84),(4,203)] [.str [],.sl .col [] .nil,.sl .str [] .nil,.sl .expr [] .nil,.sl .idx [] .nil]),
 (215,.sl .tbl),
 (221,.st (some .idx) [(0,9),(1,81)] [.str [],.sl .str [] .nil]),
 (233,.fn),
 (248,.st (some .pair) [(0,9),(1,3)] [.str [],.int .i64 0]),
 (265,.sl .kv),
 (269,.st (some .kv) [(0,25),(1,25)] [.sl .byte [] .nil,.sl .byte [] .nil]),
 (273,.fn),
 (280,.fn),
 (294,.arr 36 .str),
 (296,.arr 6 .str),
 (297,.sl .pair),
 (298,.map),
 (322,.fn),
 (328,.st (some .lay) [(0,265),(1,28)] [.sl .kv [] .nil,.int .i64 0]),
 (345,.arr 2 .int),
 (348,.ptr),
 (350,.st none [(0,348),(1,25)] [.nilp,.sl .byte [] .nil]),
 (352,.st none [(0,350)] [.nilp,.sl .byte [] .nil]),
 (356,.fn),
 (359,.st none [(0,25),(1,25),(2,4)] [.sl .byte [] .nil,.sl .byte [] .nil,.bool false]),
 (362,.sl .lay),
 (374,.sl .kvs),
 (381,.ptr),
 (389,.ptr),
 (390,.fn),
 (393,.st none [(0,269),(2,25)] [.sl .byte [] .nil,.sl .byte [] .nil,.sl .byte [] .nil]),
 (400,.ptr),
 (403,.int .i64),
 (410,.int .u32),
 (415,.arr 2 .str),
 (419,.fn),
 (423,.ptr),
 (425,.int .u64),
 (429,.ptr),
 (437,.ptr),
 (442,.arr 256 .byte),
 (444,.st none [(0,5),(1,5)] [.int .u8 0,.int .u8 0]),
 (447,.fn)]
def elT:Ck->TypeId
 |.byte=>5
 |.int=>3
 |.u64=>57
 |.str=>9
 |.bool=>4
 |.val=>47
 |.tok=>177
 |.col=>190
 |.expr=>88
 |.set=>185
 |.stmt=>91
 |.pair=>248
 |.idx=>221
 |.tbl=>205
 |.node=>53
 |.stt=>77
 |.kv=>269
 |.kvs=>265
 |.lay=>328
 |.res=>44
 |.outc=>24
 |.vals=>45
 |.exprs=>84
 |.strs=>81
 |.bytes=>25
 |_=>0
theorem Ae0:(ttL.all λp=>Cl Tryz.prog elT (Aim ttL) p.1)=true:=by kernel_rfl
def glT:Nat->Option Gv:=tbl [(0,.arr .str wordsL),(1,.map signsL),(2,.num .i64),(3,.arr .str Avg)]
theorem follows:Tryz.prog.follows .mixedOrders=true:=by kernel_rfl
abbrev FO:=FnOk Tryz.prog elT glT
abbrev FM:=FnLn Tryz.prog elT glT
abbrev HX:=Hx Tryz.prog elT glT (Aim ttL)
def pxO{R:Type}(c:List (Nat×G7 R))(q:List (Nat×Fx R))(l:List (Nat×Bld R))(w:List (Nat×S6 R)):Px R:=⟨Aim ttL,glT,A06 c,Amw q,Bxj l,tbl w⟩
abbrev cA{R:Type}{sa sr:List Sg}(F:FT sa sr):G7 R:=Ad0 sa sr F
abbrev qA{R:Type}{sa sr:List Sg}(F:FT sa sr):Fx R:=Abo sa sr F
theorem fR{f:FuncId}{fn:Func}{c:Code}{sa sr:List Sg}{px:Px (HV sr)}{F:FT sa sr}{n:Nat}(hf:Tryz.prog.funcs[f]? = some fn)(hb:fn.body=some c)(h:∀cx,HX cx->Lv cx px/\∀i,i<n->Bv cx px (lp fn i))(hF:∀x,A36 px fn sa sr x some=F x)(hname:(fn.name == "runtime.NumGoroutine")=false:=by kernel_rfl)(hchk:(Re fn&&Nat.ble sa.length fn.ntmps&&C8 (Bd 0 sa) [])=true:=by kernel_rfl)(hn:L6 fn=n:=by kernel_rfl):FO f sa sr F:=fO (Atj Ae0) follows hf hb hname hchk hn h hF
theorem fRL{f:FuncId}{fn:Func}{c:Code}{sg so:Sig}{px:Px (HV so.sgs)}{F:FL sg so}{n:Nat}(hf:Tryz.prog.funcs[f]? = some fn)(hb:fn.body=some c)(h:∀cx,HX cx->Lv cx px/\∀i,i<n->Bv cx px (lp fn i))(hF:∀x,Atw px fn sg so x some=F x)(hname:(fn.name == "runtime.NumGoroutine")=false:=by kernel_rfl)(hchk:(Re fn&&Nat.ble sg.n fn.ntmps)=true:=by kernel_rfl)(hn:L6 fn=n:=by kernel_rfl):FM f sg so F:=fL (Atj Ae0) follows hf hb hname hchk hn h hF
end Go.Proofs.YtblaahgjaopdnaaGreatDoor
namespace Go.Proofs.YtblaahgjaopdnaaGreatDoor
open Go.Sx Go.RowKit
theorem Bxi:ElTy Tryz.prog 81 9 1 16:=elTy_of (by kernel_rfl)
theorem Bw1:ElTy Tryz.prog 83 190 5 48:=elTy_of (by kernel_rfl)
theorem A98:ElTy Tryz.prog 84 88 6 80:=elTy_of (by kernel_rfl)
theorem P9:ElTy Tryz.prog 203 221 2 40:=elTy_of (by kernel_rfl)
def Ce(t:TypeId)(sz n:Nat)(xs:List Value):Value->Sx.Loc->(World->Prop)->Prop:=λv L _=>L=[.row v t sz n xs]
theorem F7{cx:Sx.Cx}{L:Sx.Loc}{F:World->Prop}{t:TypeId}{sz n:Nat}{xs:List Value}{Φ:Sx.Loc->(World->Prop)->Prop}(hF:∀w,F w->n=0/\xs=[])(h : Φ (.row (.slice none 0 0) t sz n xs::L) F):Rt cx L F Φ :=.mk λw hs=>by obtain⟨h1,h2⟩:=hF w hs.here;subst h1 h2;exact⟨_,_,h,hs.newRow t sz⟩
theorem Kl{a:Option Addr}{n c sz:Nat}{xs:List Value}(ha:a.isNone=true)(w:World)(h:RdS (.slice a n c) sz n xs w):n=0/\xs=[]:=by
 obtain⟨hl,a',c',he,hr⟩:=h;have h0:n=0:=by
  rcases hr with h0|⟨b,off,e,_⟩
  ·exact h0
  ·simp only[Value.slice.injEq] at he;rw[he.1,e] at ha;cases ha
 subst h0;exact⟨rfl,List.eq_nil_of_length_eq_zero (by simpa using hl)⟩
set_option maxRecDepth 20000 in
theorem Awe(a:Option Addr)(n c:Nat)(xs:List Value)(h1:xs.all one=true)(hbig:n<=1000000):Con Tryz.prog 189 [.slice a n c] [] (RdS (.slice a n c) 1 n xs) (Ce 9 1 n xs):=by
 refine Bg Tryz.func189 Tryz.ntmps189 rfl (by kernel_rfl) rfl λw M =>?_
 repeat' (first|(refine D3 ?_;(first|refine B5 ?_|(apply As rfl rfl;(first|exact p_move rfl|exact p_assign rfl))|(apply As rfl rfl;exact Fv 1 (by dsimp only;decide +kernel) rfl rfl)|(refine Ed rfl rfl Bxi rfl rfl rfl rfl ?_;intro b)))|(refine D1 ?_;(first|refine Dd ?_|refine Bf ?_|refine Dk ?_|(refine Fg rfl ?_ ?_<;>intro hc<;>try contradiction)|refine Bz rfl rfl ?_))|(refine D2 ?_;(first|refine B4 ?_))|fail)
 ·exact F7 (Kl (by assumption)) rfl
 ·refine Hv 1 ?_;refine Hy 0 rfl rfl Bxi rfl rfl rfl (H4 (λw h=>h)) h1 (by omega) (by omega) ?_;intro v'
  repeat' (first|(refine D3 ?_;(first|refine B5 ?_|(apply As rfl rfl;(first|exact p_assign rfl))))|(refine D1 ?_;(first|refine Bz rfl rfl ?_))|(refine D2 ?_;(first|refine B4 ?_))|fail)
  refine Bq ?_;simp[Ce]
set_option maxRecDepth 20000 in
theorem Awh(a:Option Addr)(n c:Nat)(xs:List Value)(h1:xs.all one=true)(hbig:n<=1000000):Con Tryz.prog 188 [.slice a n c] [] (RdS (.slice a n c) 5 n xs) (Ce 190 5 n xs):=by
 refine Bg Tryz.func188 Tryz.ntmps188 rfl (by kernel_rfl) rfl λw M =>?_
 repeat' (first|(refine D3 ?_;(first|refine B5 ?_|(apply As rfl rfl;(first|exact p_move rfl|exact p_assign rfl))|(apply As rfl rfl;exact Fv 5 (by dsimp only;decide +kernel) rfl rfl)|(refine Ed rfl rfl Bw1 rfl rfl rfl rfl ?_;intro b)))|(refine D1 ?_;(first|refine Dd ?_|refine Bf ?_|refine Dk ?_|(refine Fg rfl ?_ ?_<;>intro hc<;>try contradiction)|refine Bz rfl rfl ?_))|(refine D2 ?_;(first|refine B4 ?_))|fail)
 ·exact F7 (Kl (by assumption)) rfl
 ·refine Hv 5 ?_;refine Hy 0 rfl rfl Bw1 rfl rfl rfl (H4 (λw h=>h)) h1 (by omega) (by omega) ?_;intro v'
  repeat' (first|(refine D3 ?_;(first|refine B5 ?_|(apply As rfl rfl;(first|exact p_assign rfl))))|(refine D1 ?_;(first|refine Bz rfl rfl ?_))|(refine D2 ?_;(first|refine B4 ?_))|fail)
  refine Bq ?_;simp[Ce]
set_option maxRecDepth 20000 in
theorem Axx(a:Option Addr)(n c:Nat)(xs:List Value)(h1:xs.all one=true)(hbig:n<=1000000):Con Tryz.prog 239 [.slice a n c] [] (RdS (.slice a n c) 6 n xs) (Ce 88 6 n xs):=by
 refine Bg Tryz.func239 Tryz.ntmps239 rfl (by kernel_rfl) rfl λw M =>?_
 repeat' (first|(refine D3 ?_;(first|refine B5 ?_|(apply As rfl rfl;(first|exact p_move rfl|exact p_assign rfl))|(apply As rfl rfl;exact Fv 6 (by dsimp only;decide +kernel) rfl rfl)|(refine Ed rfl rfl A98 rfl rfl rfl rfl ?_;intro b)))|(refine D1 ?_;(first|refine Dd ?_|refine Bf ?_|refine Dk ?_|(refine Fg rfl ?_ ?_<;>intro hc<;>try contradiction)|refine Bz rfl rfl ?_))|(refine D2 ?_;(first|refine B4 ?_))|fail)
 ·exact F7 (Kl (by assumption)) rfl
 ·refine Hv 6 ?_;refine Hy 0 rfl rfl A98 rfl rfl rfl (H4 (λw h=>h)) h1 (by omega) (by omega) ?_;intro v'
  repeat' (first|(refine D3 ?_;(first|refine B5 ?_|(apply As rfl rfl;(first|exact p_assign rfl))))|(refine D1 ?_;(first|refine Bz rfl rfl ?_))|(refine D2 ?_;(first|refine B4 ?_))|fail)
  refine Bq ?_;simp[Ce]
set_option maxRecDepth 20000 in
theorem Awi(a:Option Addr)(n c:Nat)(xs:List Value)(h1:xs.all one=true)(hbig:n<=1000000):Con Tryz.prog 211 [.slice a n c] [] (RdS (.slice a n c) 2 n xs) (Ce 221 2 n xs):=by
 refine Bg Tryz.func211 Tryz.ntmps211 rfl (by kernel_rfl) rfl λw M =>?_
 repeat' (first|(refine D3 ?_;(first|refine B5 ?_|(apply As rfl rfl;(first|exact p_move rfl|exact p_assign rfl))|(apply As rfl rfl;exact Fv 2 (by dsimp only;decide +kernel) rfl rfl)|(refine Ed rfl rfl P9 rfl rfl rfl rfl ?_;intro b)))|(refine D1 ?_;(first|refine Dd ?_|refine Bf ?_|refine Dk ?_|(refine Fg rfl ?_ ?_<;>intro hc<;>try contradiction)|refine Bz rfl rfl ?_))|(refine D2 ?_;(first|refine B4 ?_))|fail)
 ·exact F7 (Kl (by assumption)) rfl
 ·refine Hv 2 ?_;refine Hy 0 rfl rfl P9 rfl rfl rfl (H4 (λw h=>h)) h1 (by omega) (by omega) ?_;intro v'
  repeat' (first|(refine D3 ?_;(first|refine B5 ?_|(apply As rfl rfl;(first|exact p_assign rfl))))|(refine D1 ?_;(first|refine Bz rfl rfl ?_))|(refine D2 ?_;(first|refine B4 ?_))|fail)
  refine Bq ?_;simp[Ce]
set_option maxRecDepth 20000 in
theorem Apq(a:Option Addr)(c:Nat):Con Tryz.prog 239 [.slice a 0 c] [] (λ_=>True) (λv _ _=>∃a',v = .slice a' 0 0):=by
 refine Bg Tryz.func239 Tryz.ntmps239 rfl (by kernel_rfl) rfl λw M =>?_
 repeat' (first|(refine D3 ?_;(first|refine B5 ?_|(apply As rfl rfl;(first|exact p_move rfl|exact p_assign rfl))|(apply As rfl rfl;exact Fv 6 (by dsimp only;decide +kernel) rfl rfl)|(refine Ed rfl rfl A98 rfl rfl rfl rfl ?_;intro b)|(apply As rfl rfl;exact Uh A98 rfl rfl)))|(refine D1 ?_;(first|refine Dd ?_|refine Bf ?_|refine Dk ?_|(refine Fg rfl ?_ ?_<;>intro hc<;>try contradiction)|refine Bz rfl rfl ?_))|(refine D2 ?_;(first|refine B4 ?_))|fail)
 ·exact Bq ⟨_,rfl⟩
 ·exact Bq ⟨_,rfl⟩
set_option maxRecDepth 20000 in
theorem Apx(a:Option Addr)(c:Nat):Con Tryz.prog 211 [.slice a 0 c] [] (λ_=>True) (λv _ _=>∃a',v = .slice a' 0 0):=by
 refine Bg Tryz.func211 Tryz.ntmps211 rfl (by kernel_rfl) rfl λw M =>?_
 repeat' (first|(refine D3 ?_;(first|refine B5 ?_|(apply As rfl rfl;(first|exact p_move rfl|exact p_assign rfl))|(apply As rfl rfl;exact Fv 2 (by dsimp only;decide +kernel) rfl rfl)|(refine Ed rfl rfl P9 rfl rfl rfl rfl ?_;intro b)|(apply As rfl rfl;exact Uh P9 rfl rfl)))|(refine D1 ?_;(first|refine Dd ?_|refine Bf ?_|refine Dk ?_|(refine Fg rfl ?_ ?_<;>intro hc<;>try contradiction)|refine Bz rfl rfl ?_))|(refine D2 ?_;(first|refine B4 ?_))|fail)
 ·exact Bq ⟨_,rfl⟩
 ·exact Bq ⟨_,rfl⟩
theorem Afv{P:Program}(w:World)(tS tR e:TypeId)(ht:P.underlying tS=some (.slice e))(size:Nat)(hz:∀w,(Go.sizeOf e).run P w = .ok size w)
  (a b:Addr) (la ca lb cb:Nat) (hne:a.block≠b.block) (c1 c2:Array Value) (t1 t2:TypeId) (f1:Nat×Nat)
  (ha:w.heap[a.block]? = some (.cells c1 t1 f1)) (hb:w.heap[b.block]? = some (.cells c2 t2 (0,0))) (h1:c1.size≠0) :
  (Extern.SlicesOverlaps.overlaps #[tS,tS] #[tR] #[.slice (some a) la ca,.slice (some b) lb cb]).run P w = .ok (.bool false) w:=by
 have hnb:(a.block != b.block)=true:=by simpa using hne
 have hnb':(a.block == b.block)=false:=by simpa using hne
 have hsa:w.shape? a.block=some (t1,c1.size):=by simp[World.shape?,ha]
 have hsb:w.shape? b.block=some (t2,c2.size):=by simp[World.shape?,hb]
 have hfb:∀o sp,w.frozen? ⟨b.block,o,sp⟩=false:=λo sp=>by simp[World.frozen?,hb]
 change Sem.run P (α:=Value) (do
  let some t:=(#[tS,tS]:Array TypeId)[0]? | stuck "slices.overlaps: no parameter types"
  let .slice elem <-underlying t|stuck "slices.overlaps: slice type expected"
  let size <-sizeOf elem;match(some a:Option Addr),(some b:Option Addr) with
  |some a,some b =>
   if la=0\/lb=0\/size=0 then pure (Value.bool false)
   else if a.block != b.block&&(<-frozen a)&&(<-frozen b) then unsupported .addressObserved
   else do
    if a.block != b.block then do
     noView a;noView b
     if <-mayBeOne a b then return Value.bool ((<-choose (.extern "sameAddr.stringBytes" 2)) == 1)
    pure (Value.bool (a.block == b.block&&a.off<b.off+lb*size&&b.off<a.off+la*size))
  |_,_=>pure (Value.bool false)) w=_
 by_cases h0:la=0\/lb=0\/size=0
 ·simp[run_underlying ht,hz,h0]
 ·obtain⟨k1,hk1⟩:∃k1,c1.size=k1+1:=⟨c1.size-1,by omega⟩;cases hf1:w.frozen? a<;>simp[run_underlying ht,hz,h0,hnb,hnb',frozen,noView,viewAt,mayBeOne,stringish,shape,Sem.run,hsa,hsb,hfb,hf1,hk1]
section
variable {cx:Sx.Cx}{k:List KI}{e:Sx.Env}{L:Sx.Loc}{F:World->Prop}{Q:Exit->Act->World->Prop}{ops:Array Oper}{rest:List Oper}
theorem Bul{dst:Nat}{fo x y:Operand}{ts:Array TypeId}{t tS tR elem u':TypeId}{pos:String}{after:Array Edge}{g':Option (Nat×Bool)}{f:FuncId}{g go lb cb vb vo la ca sz:Nat}{cs:List Value}(i:Nat)(hg:Gd ops e g' = some true)(hd:Nat.blt dst cx.n=true)
  (hf:Env.ev e fo=some (.func (.func f) #[] #[])) (hx:Env.ev e x=some (.slice (some ⟨vb,vo,none⟩) la ca)) (hy:Env.ev e y=some (.slice (some ⟨g,go,none⟩) lb cb)) (hi:L[i]? = some (.blk g cs u')) (hne:vb≠g) (hsrc:∀w,F w->∃u,w.cell? ⟨vb,vo,none⟩=some u)
  (hrun:∀args w,(callFunc f args).run cx.P w=((Extern.SlicesOverlaps.overlaps #[tS,tS] #[tR] args).run cx.P w).andThen λv w' =>.ok (.value v) w') (ht:cx.P.underlying tS=some (.slice elem)) (hz:tySz cx.P elem=some sz)
  (h:O cx ops rest k ((dst,.bool false)::e) L F Q):O cx ops (⟨some dst,.call ⟨.value fo, #[x,y],ts⟩,t,pos,after,g'⟩::rest) k e L F Q:=by
 refine V6 (λr L' F'=>r = .bool false/\L' = L/\F' = F) hg hd (λa w he hst=>⟨.bool false,w,L,F,?_,hst,rfl,rfl,rfl⟩) (λr L' F' ⟨hr,hL,hF⟩=>by rw[hr,hL,hF];exact h);have hgh:w.heap[g]? = some (.cells cs.toArray u' (0,0)):=hst.ok _ (List.mem_of_getElem? hi);obtain⟨u,hu⟩:=hsrc w hst.here;obtain⟨c1,t1,f1,hh,hc1⟩:∃c1 t1 f1,w.heap[vb]? = some (.cells c1 t1 f1)/\c1.size≠0:=by
  unfold World.cell? at hu;split at hu
  ·rename_i c t' f' hh;refine⟨c,t',f',hh,λh0 =>?_⟩;simp only[Option.isSome_none,Zj2,if_false] at hu;have:=(Zh2.1 hu).1;omega
  ·cases hu
 have hov:=Afv (P:=cx.P) w tS tR elem ht sz (λw=>Sx.run_sizeOf hz w) ⟨vb,vo,none⟩ ⟨g,go,none⟩ la ca lb cb hne c1 _ t1 u' f1 hh hgh hc1;simp only[execOp,resolve,he.ev hf,he.ev hx,he.ev hy,Deferred.ofValue,Sem.run_bind,Sem.run_pure,Result.andThen_ok,invoke,List.map_toArray,Zw1,List.map_nil];rw[show(#[] ++ #[Value.slice (some ⟨vb,vo,none⟩) la ca,Value.slice (some ⟨g,go,none⟩) lb cb] ++ #[]:Array Value) = #[Value.slice (some ⟨vb,vo,none⟩) la ca,Value.slice (some ⟨g,go,none⟩) lb cb] by simp,hrun,hov];rfl
end
def put(c z:List Value)(o:Nat):List Value:=c.take o++z++c.drop (o+z.length)
theorem N2{c z:List Value}{o:Nat}(h:o+z.length<=c.length):(put c z o).length=c.length:=by simp only[put,Zh1,List.length_take,Za2];omega
theorem Ai4{c z:List Value}{o:Nat}(h:o+z.length<=c.length)(q:Nat):(put c z o)[q]? = if o<=q/\q<o+z.length then z[q-o]? else c[q]? := by
 have ht:(c.take o).length=o:=by simp;omega
 simp only[put,Zj1];by_cases h1:q<o
 ·rw[List.getElem?_append_left (by omega),if_neg (by omega),List.getElem?_take,if_pos h1]
 ·rw[List.getElem?_append_right (by omega),ht];by_cases h2:q<o+z.length
  ·rw[List.getElem?_append_left (by omega),if_pos (by omega)]
  ·rw[List.getElem?_append_right (by omega),if_neg (by omega),List.getElem?_drop];congr 1;omega
def Azr(cs ys:List Value)(i n:Nat):List Value:=cs.take (i*2)++ys++(cs.drop (i*2)).take ((n-i)*2)
theorem Azl{cs ys:List Value}{i n:Nat}(hin:i<=n)(hl:n*2<=cs.length)(hy:ys.length=2)(q:Nat):(Azr cs ys i n)[q]? = if q<i*2 then cs[q]? else if q<i*2+2 then ys[q-i*2]? else if q<(n+1)*2 then cs[q-2]? else none:=by
 have ht:(cs.take (i*2)).length=i*2:=by simp;omega
 have hd:((cs.drop (i*2)).take ((n-i)*2)).length=(n-i)*2:=by simp;omega
 simp only[Azr,Zj1];by_cases h1:q<i*2
 ·rw[List.getElem?_append_left (by omega),if_pos h1,List.getElem?_take,if_pos h1]
 ·rw[List.getElem?_append_right (by omega),ht,if_neg h1];by_cases h2:q<i*2+2
  ·rw[List.getElem?_append_left (by omega),if_pos h2]
  ·rw[List.getElem?_append_right (by omega),if_neg h2,hy,List.getElem?_take,List.getElem?_drop];by_cases h3:q<(n+1)*2
   ·rw[if_pos h3,if_pos (by omega)];congr 1;omega
   ·rw[if_neg h3,if_neg (by omega)]
theorem Bso{cs ys Z:List Value}{i n:Nat}(hin:i<=n)(hl:(n+1)*2<=cs.length)(hy:ys.length=2)(hZ:Z=(cs.drop (i*2)).take ((n-i)*2)):(put (put cs Z ((i+1)*2)) ys (i*2)).length=cs.length/\(put (put cs Z ((i+1)*2)) ys (i*2)).take ((n+1)*2)=Azr cs ys i n:=by
 have hZl:Z.length=(n-i)*2:=by rw[hZ];simp;omega
 have h1:(i+1)*2+Z.length<=cs.length:=by omega
 have h2:i*2+ys.length<=(put cs Z ((i+1)*2)).length:=by rw[N2 h1];omega
 refine⟨by rw[N2 h2,N2 h1],List.ext_getElem? λq =>?_⟩;rw[List.getElem?_take,Azl hin (by omega) hy,Ai4 h2,Ai4 h1,hZl,hy,hZ,List.getElem?_take,List.getElem?_drop];by_cases a1:q<(n+1)*2
 ·rw[if_pos a1];by_cases a2:q<i*2
  ·rw[if_neg (by omega),if_neg (by omega),if_pos a2]
  ·rw[if_neg a2];by_cases a3:q<i*2+2
   ·rw[if_pos (by omega),if_pos a3]
   ·rw[if_neg (by omega),if_neg a3,if_pos a1,if_pos (by omega),if_pos (by omega)];congr 1;omega
 ·rw[if_neg a1,if_neg (by omega),if_neg (by omega),if_neg a1]
theorem Bwi{cs ys c1 Z:List Value}{i n q:Nat}(hin:i<=n)(hl:n*2<=cs.length)(hy:ys.length=2)(hZ:Z=(cs.drop (i*2)).take ((n-i)*2))(hc1:c1.take (i*2)=cs.take (i*2))(hq:n+1<=q)(hcl:c1.length=q*2):(put (put c1 ys (i*2)) Z ((i+1)*2)).length=q*2/\(put (put c1 ys (i*2)) Z ((i+1)*2)).take ((n+1)*2)=Azr cs ys i n:=by
 have hZl:Z.length=(n-i)*2:=by rw[hZ];simp;omega
 have h2:i*2+ys.length<=c1.length:=by omega
 have h1:(i+1)*2+Z.length<=(put c1 ys (i*2)).length:=by rw[N2 h2];omega
 refine⟨by rw[N2 h1,N2 h2,hcl],List.ext_getElem? λk =>?_⟩;rw[List.getElem?_take,Azl hin hl hy,Ai4 h1,Ai4 h2,hZl,hy,hZ,List.getElem?_take,List.getElem?_drop];have hck:k<i*2->c1[k]? = cs[k]? :=λhk=>by have:=congrArg (·[k]?) hc1;simpa[List.getElem?_take,hk] using this
 by_cases a1:k<(n+1)*2
 ·rw[if_pos a1];by_cases a2:k<i*2
  ·rw[if_neg (by omega),if_neg (by omega),if_pos a2,hck a2]
  ·rw[if_neg a2];by_cases a3:k<i*2+2
   ·rw[if_neg (by omega),if_pos (by omega),if_pos a3]
   ·rw[if_pos (by omega),if_pos (by omega),if_neg a3,if_pos a1];congr 1;omega
 ·rw[if_neg a1,if_neg (by omega),if_neg (by omega),if_neg a1]
def Bwd(t:TypeId)(g n i cap:Nat)(cs ys:List Value):Value->Sx.Loc->(World->Prop)->Prop:=λv L _ =>
 (∃cs',v = .slice (some ⟨g,0,none⟩) (n+1) cap/\n+1<=cap/\L=[.blk g cs' t]/\cs'.length=cs.length/\cs'.take ((n+1)*2)=Azr cs ys i n) \/
 (∃b cap' cs',v = .slice (some ⟨b,0,none⟩) (n+1) cap'/\n+1<=cap'/\cap'<=maxLen/\L=[.blk b cs' t,.blk g cs t]/\cs'.length=cap'*2/\cs'.take ((n+1)*2)=Azr cs ys i n)
theorem Bzu(args:Array Value)(w:World):(callFunc 304 args).run Tryz.prog w=((Extern.SlicesOverlaps.overlaps #[203,203] #[4] args).run Tryz.prog w).andThen λv w' =>.ok (.value v) w':=run_callFunc_extern Tryz.func304 (by kernel_rfl) rfl (by kernel_rfl) (e:=Extern.SlicesOverlaps.overlaps #[203,203] #[4]) (by kernel_rfl) args w
theorem Bw5{cs:List Value}{n i:Nat}(h1:∀v,v∈cs.take (n*2)->one v=true)(hin:i<=n){v:Value}(hv:v∈(cs.drop (i*2)).take ((n-i)*2)):one v=true:=by
 refine h1 v ?_;obtain⟨q,hq⟩:=List.getElem?_of_mem hv;rw[List.getElem?_take] at hq;split at hq
 ·rw[List.getElem?_drop] at hq;exact List.mem_of_getElem? ((List.getElem?_take_of_lt (by omega)).trans hq)
 ·cases hq
set_option maxRecDepth 20000 in
theorem Bv5(g n i cap vb vo vc:Nat)(cs ys:List Value)(hn : 0<n)(hin:i<=n)(hnc:n<=cap)(hl:cs.length=cap*2)(h1:∀v,v∈cs.take (n*2)->one v=true)(hy:ys.length=2)(hy1:∀v,v∈ys->one v=true)(hne:vb≠g)(hbig:n<=1000000) :
  Con Tryz.prog 257 [.slice (some ⟨g,0,none⟩) n cap,.int .i64 i,.slice (some ⟨vb,vo,none⟩) 1 vc] [.blk g cs 221] (λw=>∀(j:Nat) v,ys[j]? = some v->w.cell? ⟨vb,vo+j,none⟩=some v) (Bwd 221 g n i cap cs ys):=by
 refine Bg Tryz.func257 Tryz.ntmps257 rfl (by kernel_rfl) rfl λw M =>?_
 repeat' (first|(refine D3 ?_;(first|refine B5 ?_|(apply As rfl rfl;(first|exact p_move rfl|exact p_assign rfl|exact p_lensl (by dsimp only;decide +kernel) rfl|exact p_eql rfl rfl|exact p_gtr rfl rfl|exact Abu rfl rfl (by omega)|exact Iw rfl rfl (by omega)))|(apply As rfl rfl;exact L1 2 (by dsimp only;decide +kernel) rfl rfl (by omega))|(apply As rfl rfl;exact Als 2 (by dsimp only;decide +kernel) rfl)|(apply As rfl rfl;exact O5 2 (by dsimp only;decide +kernel) rfl rfl (by omega))|(apply As rfl rfl;exact A66 2 (by dsimp only;decide +kernel) rfl rfl (by omega))))|(refine D1 ?_;(first|refine Dd ?_|refine Bf ?_|refine Dk ?_|(refine Hu rfl ?_ ?_<;>intro hc<;>try (first|contradiction))))|(refine D2 ?_;(first|refine B4 ?_))|fail)
 ·obtain rfl:i=n:=by omega
  have hin':cs.take (i*2)++ys=Azr cs ys i i:=by simp[Azr]
  by_cases hr:i+1<=cap
  ·refine Bf8 (zs:=ys) 0 rfl rfl P9 rfl rfl rfl (λw hs=>hs.here) (by rw[hy]) hr (by omega) hy1 rfl ?_
   repeat' (first|(refine D3 ?_;(first|refine B5 ?_|(apply As rfl rfl;(first|exact p_assign rfl))))|(refine D1 ?_;(first|refine Bz rfl rfl ?_))|(refine D2 ?_;(first|refine B4 ?_))|fail)
   refine Bq (.inl ⟨_,rfl,hr,rfl,N2 (z:=ys) (o:=i*2) (by omega),?_⟩);rw[<-hin'];exact List.take_left' (by simp;omega)
  ·refine Bep (zs:=ys) 0 rfl rfl P9 rfl rfl rfl (λw hs=>hs.here) (by rw[hy]) (by omega) (by omega) (by simp only[maxLen];omega) (by omega) ?_;intro b' q tl hq1 hq2 htl
   repeat' (first|(refine D3 ?_;(first|refine B5 ?_|(apply As rfl rfl;(first|exact p_assign rfl))))|(refine D1 ?_;(first|refine Bz rfl rfl ?_))|(refine D2 ?_;(first|refine B4 ?_))|fail)
   refine Bq (.inr ⟨_,_,_,rfl,hq1,hq2,rfl,by simp;omega,?_⟩);rw[<-hin'];exact List.take_left' (by simp;omega)
 ·refine A7q (kn :=.i64) 0 rfl rfl P9 (by dsimp only;decide +kernel) rfl rfl rfl (by omega) (by omega) (by omega) (by simp only[maxLen];omega) (by omega) ?_;intro b' q tl hq1 hq2 htl
  repeat' (first|(refine D3 ?_;(first|refine B5 ?_|(apply As rfl rfl;(first|exact p_move rfl|exact p_assign rfl))|(apply As rfl rfl;exact O5 2 (by dsimp only;decide +kernel) rfl rfl (by omega))))|(refine D1 ?_;(first|refine Dd ?_|refine Bf ?_))|(refine D2 ?_;(first|refine B4 ?_))|fail)
  refine Axl (zs:=ys) 0 rfl rfl P9 rfl rfl rfl (λw hs=>hs.here) ?_ ?_ hy1 ?_
  ·rw[hy,show Nat.min 1 _=1 from Nat.min_eq_left (by omega)]
  ·simp only[Zh1,List.length_take];omega
  ·repeat' (first|(refine D3 ?_;(first|refine B5 ?_))|(refine D1 ?_;(first|refine Dd ?_|refine A8x (by dsimp only;decide +kernel) Ir ?_))|(refine D2 ?_;(first|refine B4 ?_))|(refine Bwh ?_;(first|(apply E8 0 rfl rfl rfl (by decide +kernel);(first|exact p_move rfl))|(apply E8 1 rfl rfl rfl (by decide +kernel);(first|exact p_move rfl))|(apply E8 2 rfl rfl rfl (by decide +kernel);(first|exact p_move rfl))|(apply E8 3 rfl rfl rfl (by decide +kernel);(first|exact Abu rfl rfl (by omega)))|(apply E8 5 rfl rfl rfl (by decide +kernel);(first|exact p_move rfl))|(apply E8 6 rfl rfl rfl (by decide +kernel);(first|exact p_move rfl))))|fail)
   apply E8 4 rfl rfl rfl (by decide +kernel) (O5 2 (by dsimp only;decide +kernel) rfl rfl (by omega));apply E8 7 rfl rfl rfl (by decide +kernel) (O5 2 (by dsimp only;decide +kernel) rfl rfl (by omega));refine Bw6 8 rfl (by decide +kernel) ?_;refine Axl 0 rfl rfl P9 rfl rfl rfl (Auc (n:=(n-i)*2) 1 rfl) ?_ ?_ ?_ ?_
   ·have:Nat.min (n-(i:Int).toNat) ((i:Int).toNat+((n:Int)+((1:Nat):Int)-(i:Int)).toNat-((i:Int)+((1:Nat):Int)).toNat)=n-i:=(Nat.min_eq_left (by omega)).trans (by omega);rw[this,List.length_take,Za2];omega
   ·simp only[Zh1,List.length_take,Za2];omega
   ·intro v hv;exact Bw5 h1 hin (by simpa using hv)
   ·repeat' (first|(refine D3 ?_;(first|refine B5 ?_|(apply As rfl rfl;(first|exact p_move rfl|exact p_assign rfl))))|(refine D1 ?_;(first|refine Dd ?_|refine Bf ?_|refine Bz rfl rfl ?_))|(refine D2 ?_;(first|refine B4 ?_|(refine Bcg Ir ?_)))|(refine Bwh ?_;(first|refine Bxk (by decide +kernel) ?_))|fail)
    have e1:i+((n:Int)+((1:Nat):Int)-(i:Int)).toNat=n+1:=by omega
    have e2:((i:Int)+((1:Nat):Int)).toNat=i+1:=by omega
    simp only[e1,e2,Int.toNat_natCast,Nat.zero_add] at hq1 htl ⊢;have hd:=Bwi (c1:=cs.take (i*2)++tl) (q:=q) hin (by omega) hy rfl (List.take_left' (by simp;omega)) hq1 (by simp;omega);refine Bq (.inr ⟨_,_,_,rfl,hq1,hq2,rfl,hd.1,hd.2⟩)
 ·refine Bul 0 rfl rfl rfl rfl rfl rfl hne (λw h=>⟨_,h 0 _ (Zo1 (by omega))⟩) Bzu rfl rfl ?_
  repeat' (first|(refine D3 ?_;(first|refine B5 ?_|(apply As rfl rfl;(first|exact p_not rfl))))|(refine D1 ?_;(first|refine Dd ?_|refine A8x (by dsimp only;decide +kernel) Ir ?_|(refine Fg rfl ?_ ?_<;>intro hc<;>try contradiction)))|(refine D2 ?_;(first|refine B4 ?_))|(refine Bwh ?_;(first|(apply E8 0 rfl rfl rfl (by decide +kernel);(first|exact p_move rfl))|(apply E8 1 rfl rfl rfl (by decide +kernel);(first|exact p_move rfl))|(apply E8 2 rfl rfl rfl (by decide +kernel);(first|exact p_move rfl))|(apply E8 3 rfl rfl rfl (by decide +kernel);(first|exact Abu rfl rfl (by omega)))|(apply E8 5 rfl rfl rfl (by decide +kernel);(first|exact p_move rfl))|(apply E8 6 rfl rfl rfl (by decide +kernel);(first|exact p_move rfl))))|fail)
  apply E8 4 rfl rfl rfl (by decide +kernel) (O5 2 (by dsimp only;decide +kernel) rfl rfl (by omega));apply E8 7 rfl rfl rfl (by decide +kernel) (O5 2 (by dsimp only;decide +kernel) rfl rfl (by omega));refine Bw6 8 rfl (by decide +kernel) ?_;refine Axl 0 rfl rfl P9 rfl rfl rfl (Auc (n:=(n-i)*2) 0 rfl) ?_ ?_ ?_ ?_
  ·have:Nat.min (((n:Int)+((1:Nat):Int)).toNat-(i:Int).toNat) (((n:Int)+((1:Nat):Int)).toNat-((i:Int)+((1:Nat):Int)).toNat)=n-i:=(Nat.min_eq_right (by omega)).trans (by omega);rw[this,List.length_take,Za2];omega
  ·simp only[List.length_take,Za2];omega
  ·intro v hv;exact Bw5 h1 hin (by simpa using hv)
  ·repeat' (first|(refine D3 ?_;(first|refine B5 ?_|(apply As rfl rfl;(first|exact p_move rfl))|(apply As rfl rfl;exact O5 2 (by dsimp only;decide +kernel) rfl rfl (by omega))))|(refine D1 ?_;(first|refine Dd ?_|refine Bf ?_))|(refine D2 ?_;(first|refine B4 ?_|(refine Bcg Ir ?_)))|(refine Bwh ?_;(first|refine Bxk (by decide +kernel) ?_))|fail)
   refine Axl (zs:=ys) 0 rfl rfl P9 rfl rfl rfl (λw hs=>hs.here) ?_ ?_ hy1 ?_
   ·rw[hy,show Nat.min 1 _=1 from Nat.min_eq_left (by omega)]
   ·simp only[Zh1,List.length_take,Za2];omega
   ·repeat' (first|(refine D3 ?_;(first|refine B5 ?_|(apply As rfl rfl;(first|exact p_move rfl|exact p_assign rfl))))|(refine D1 ?_;(first|refine Dd ?_|refine Bf ?_|refine Bz rfl rfl ?_))|(refine D2 ?_;(first|refine B4 ?_))|fail)
    have e1:((n:Int)+((1:Nat):Int)).toNat=n+1:=by omega
    have e2:((i:Int)+((1:Nat):Int)).toNat=i+1:=by omega
    simp only[e1,e2,Int.toNat_natCast,Nat.zero_add];have hd:=Bso (cs:=cs) hin (by omega) hy rfl;exact Bq (.inl ⟨_,rfl,by omega,rfl,hd.1,hd.2⟩)
set_option maxRecDepth 20000 in
theorem Bpz(a:Option Addr)(vb vo vc:Nat)(ys:List Value)(hy:ys.length=2)(hy1:∀v,v∈ys->one v=true) :
  Con Tryz.prog 257 [.slice a 0 0,.int .i64 0,.slice (some ⟨vb,vo,none⟩) 1 vc] [] (λw=>∀(j:Nat) v,ys[j]? = some v->w.cell? ⟨vb,vo+j,none⟩=some v) (λv L _=>∃b cap' cs',v = .slice (some ⟨b,0,none⟩) 1 cap'/\1<=cap'/\cap'<=maxLen/\L=[.blk b cs' 221]/\cs'.length=cap'*2/\cs'.take 2=ys):=by
 refine Bg Tryz.func257 Tryz.ntmps257 rfl (by kernel_rfl) rfl λw M =>?_
 repeat' (first|(refine D3 ?_;(first|refine B5 ?_|(apply As rfl rfl;(first|exact p_move rfl|exact p_assign rfl|exact p_lensl (by dsimp only;decide +kernel) rfl|exact p_eql rfl rfl))|(apply As rfl rfl;exact A66 2 (by dsimp only;decide +kernel) rfl rfl (by omega))))|(refine D1 ?_;(first|refine Dd ?_|refine Bf ?_|refine Dk ?_|(refine Hu rfl ?_ ?_<;>intro hc<;>try (first|contradiction))))|(refine D2 ?_;(first|refine B4 ?_))|fail)
 refine A4p (zs:=ys) rfl rfl P9 rfl rfl (λw hs=>hs.here) (by rw[hy]) (by omega) (by simp only[maxLen];omega) (by omega) hy1 ?_;intro b' q tl hq1 hq2 htl
 repeat' (first|(refine D3 ?_;(first|refine B5 ?_|(apply As rfl rfl;(first|exact p_assign rfl))))|(refine D1 ?_;(first|refine Bz rfl rfl ?_))|(refine D2 ?_;(first|refine B4 ?_))|fail)
 refine Bq ⟨_,_,_,rfl,hq1,hq2,rfl,by simp;omega,?_⟩;exact List.take_left' hy
end Go.Proofs.YtblaahgjaopdnaaGreatDoor
namespace Go.Proofs.YtblaahgjaopdnaaGreatDoor
open Go.Ax
theorem A3r:ClOk Tryz.prog 189 (elT .str) (csz .str):=⟨Sx.enters_of Tryz.func189 rfl (by kernel_rfl),Awe⟩
def M1(l:List (Str)):Option (List (Str)):=cond (decide (l.length<=1000000)) (some l) none
def Y6:FT [.sl .str false] [.sl .str true]:=λx=>M1 x
theorem Ahn:FO 189 [.sl .str false] [.sl .str true] Y6:=Ac3 A3r
theorem A23:ClOk Tryz.prog 188 (elT .col) (csz .col):=⟨Sx.enters_of Tryz.func188 rfl (by kernel_rfl),Awh⟩
def Amp(l:List (Col)):Option (List (Col)):=cond (decide (l.length<=1000000)) (some l) none
def Ajw:FT [.sl .col false] [.sl .col true]:=λx=>Amp x
theorem A0j:FO 188 [.sl .col false] [.sl .col true] Ajw:=Ac3 A23
theorem Ahv:ClOk Tryz.prog 239 (elT .expr) (csz .expr):=⟨Sx.enters_of Tryz.func239 rfl (by kernel_rfl),Axx⟩
theorem A1o:ClOk Tryz.prog 211 (elT .idx) (csz .idx):=⟨Sx.enters_of Tryz.func211 rfl (by kernel_rfl),Awi⟩
theorem Z1:Aii Tryz.prog 239:=Apq
theorem Axu:Aii Tryz.prog 211:=Apx
theorem Byr:InsOk Tryz.prog 257 (elT .idx):=⟨Sx.enters_of Tryz.func257 rfl (by kernel_rfl),λ_ _ _ _ _ _ _ _ _ h1 h2 h3 h4 h5 h6 h7 h8 h9=>Bv5 _ _ _ _ _ _ _ _ _ h1 h2 h3 h4 h5 h6 h7 h8 h9,λ_ _ _ _ _ h1 h2=>Bpz _ _ _ _ _ h1 h2⟩
end Go.Proofs.YtblaahgjaopdnaaGreatDoor
namespace Go.Proofs.YtblaahgjaopdnaaGreatDoor
open Go.Sx Go.RowKit
theorem Bwv:ElTy Tryz.prog 25 5 1 1:=elTy_of (by kernel_rfl)
set_option maxRecDepth 20000 in
theorem Avt(a:Option Addr)(n c:Nat)(xs:List Value)(h1:xs.all one=true)(hbig:n<=1000000):Con Tryz.prog 282 [.slice a n c] [] (RdS (.slice a n c) 1 n xs) (Ce 5 1 n xs):=by
 refine Bg Tryz.func282 Tryz.ntmps282 rfl (by kernel_rfl) rfl λw M =>?_
 repeat' (first|(refine D3 ?_;(first|refine B5 ?_|(apply As rfl rfl;(first|exact p_move rfl|exact p_assign rfl))|(apply As rfl rfl;exact Fv 1 (by dsimp only;decide +kernel) rfl rfl)|(refine Ed rfl rfl Bwv rfl rfl rfl rfl ?_;intro b)))|(refine D1 ?_;(first|refine Dd ?_|refine Bf ?_|refine Dk ?_|(refine Fg rfl ?_ ?_<;>intro hc<;>try contradiction)|refine Bz rfl rfl ?_))|(refine D2 ?_;(first|refine B4 ?_))|fail)
 ·exact F7 (Kl (by assumption)) rfl
 ·refine Hv 1 ?_;refine Hy 0 rfl rfl Bwv rfl rfl rfl (H4 (λw h=>h)) h1 (by omega) (by omega) ?_;intro v'
  repeat' (first|(refine D3 ?_;(first|refine B5 ?_|(apply As rfl rfl;(first|exact p_assign rfl))))|(refine D1 ?_;(first|refine Bz rfl rfl ?_))|(refine D2 ?_;(first|refine B4 ?_))|fail)
  refine Bq ?_;simp[Ce]
theorem Bxh:ElTy Tryz.prog 25 5 1 1:=elTy_of (by kernel_rfl)
set_option maxRecDepth 20000 in
theorem Avx(a:Option Addr)(n c:Nat)(xs:List Value)(h1:xs.all one=true)(hbig:n<=1000000):Con Tryz.prog 52 [.slice a n c] [] (RdS (.slice a n c) 1 n xs) (Ce 5 1 n xs):=by
 refine Bg Tryz.func52 Tryz.ntmps52 rfl (by kernel_rfl) rfl λw M =>?_
 repeat' (first|(refine D3 ?_;(first|refine B5 ?_|(apply As rfl rfl;(first|exact p_move rfl|exact p_assign rfl))|(apply As rfl rfl;exact Fv 1 (by dsimp only;decide +kernel) rfl rfl)|(refine Ed rfl rfl Bxh rfl rfl rfl rfl ?_;intro b)))|(refine D1 ?_;(first|refine Dd ?_|refine Bf ?_|refine Dk ?_|(refine Fg rfl ?_ ?_<;>intro hc<;>try contradiction)|refine Bz rfl rfl ?_))|(refine D2 ?_;(first|refine B4 ?_))|fail)
 ·exact F7 (Kl (by assumption)) rfl
 ·refine Hv 1 ?_;refine Hy 0 rfl rfl Bxh rfl rfl rfl (H4 (λw h=>h)) h1 (by omega) (by omega) ?_;intro v'
  repeat' (first|(refine D3 ?_;(first|refine B5 ?_|(apply As rfl rfl;(first|exact p_assign rfl))))|(refine D1 ?_;(first|refine Bz rfl rfl ?_))|(refine D2 ?_;(first|refine B4 ?_))|fail)
  refine Bq ?_;simp[Ce]
theorem Bby:ElTy Tryz.prog 51 53 6 112:=elTy_of (by kernel_rfl)
set_option maxRecDepth 20000 in
theorem Awa(a:Option Addr)(n c:Nat)(xs:List Value)(h1:xs.all one=true)(hbig:n<=1000000):Con Tryz.prog 334 [.slice a n c] [] (RdS (.slice a n c) 6 n xs) (Ce 53 6 n xs):=by
 refine Bg Tryz.func334 Tryz.ntmps334 rfl (by kernel_rfl) rfl λw M =>?_
 repeat' (first|(refine D3 ?_;(first|refine B5 ?_|(apply As rfl rfl;(first|exact p_move rfl|exact p_assign rfl))|(apply As rfl rfl;exact Fv 6 (by dsimp only;decide +kernel) rfl rfl)|(refine Ed rfl rfl Bby rfl rfl rfl rfl ?_;intro b)))|(refine D1 ?_;(first|refine Dd ?_|refine Bf ?_|refine Dk ?_|(refine Fg rfl ?_ ?_<;>intro hc<;>try contradiction)|refine Bz rfl rfl ?_))|(refine D2 ?_;(first|refine B4 ?_))|fail)
 ·exact F7 (Kl (by assumption)) rfl
 ·refine Hv 6 ?_;refine Hy 0 rfl rfl Bby rfl rfl rfl (H4 (λw h=>h)) h1 (by omega) (by omega) ?_;intro v'
  repeat' (first|(refine D3 ?_;(first|refine B5 ?_|(apply As rfl rfl;(first|exact p_assign rfl))))|(refine D1 ?_;(first|refine Bz rfl rfl ?_))|(refine D2 ?_;(first|refine B4 ?_))|fail)
  refine Bq ?_;simp[Ce]
set_option maxRecDepth 20000 in
theorem Aps(a:Option Addr)(c:Nat):Con Tryz.prog 334 [.slice a 0 c] [] (λ_=>True) (λv _ _=>∃a',v = .slice a' 0 0):=by
 refine Bg Tryz.func334 Tryz.ntmps334 rfl (by kernel_rfl) rfl λw M =>?_
 repeat' (first|(refine D3 ?_;(first|refine B5 ?_|(apply As rfl rfl;(first|exact p_move rfl|exact p_assign rfl))|(apply As rfl rfl;exact Fv 6 (by dsimp only;decide +kernel) rfl rfl)|(refine Ed rfl rfl Bby rfl rfl rfl rfl ?_;intro b)|(apply As rfl rfl;exact Uh Bby rfl rfl)))|(refine D1 ?_;(first|refine Dd ?_|refine Bf ?_|refine Dk ?_|(refine Fg rfl ?_ ?_<;>intro hc<;>try contradiction)|refine Bz rfl rfl ?_))|(refine D2 ?_;(first|refine B4 ?_))|fail)
 ·exact Bq ⟨_,rfl⟩
 ·exact Bq ⟨_,rfl⟩
theorem Bc1:ElTy Tryz.prog 45 47 3 32:=elTy_of (by kernel_rfl)
set_option maxRecDepth 20000 in
theorem Av4(a:Option Addr)(n c:Nat)(xs:List Value)(h1:xs.all one=true)(hbig:n<=1000000):Con Tryz.prog 158 [.slice a n c] [] (RdS (.slice a n c) 3 n xs) (Ce 47 3 n xs):=by
 refine Bg Tryz.func158 Tryz.ntmps158 rfl (by kernel_rfl) rfl λw M =>?_
 repeat' (first|(refine D3 ?_;(first|refine B5 ?_|(apply As rfl rfl;(first|exact p_move rfl|exact p_assign rfl))|(apply As rfl rfl;exact Fv 3 (by dsimp only;decide +kernel) rfl rfl)|(refine Ed rfl rfl Bc1 rfl rfl rfl rfl ?_;intro b)))|(refine D1 ?_;(first|refine Dd ?_|refine Bf ?_|refine Dk ?_|(refine Fg rfl ?_ ?_<;>intro hc<;>try contradiction)|refine Bz rfl rfl ?_))|(refine D2 ?_;(first|refine B4 ?_))|fail)
 ·exact F7 (Kl (by assumption)) rfl
 ·refine Hv 3 ?_;refine Hy 0 rfl rfl Bc1 rfl rfl rfl (H4 (λw h=>h)) h1 (by omega) (by omega) ?_;intro v'
  repeat' (first|(refine D3 ?_;(first|refine B5 ?_|(apply As rfl rfl;(first|exact p_assign rfl))))|(refine D1 ?_;(first|refine Bz rfl rfl ?_))|(refine D2 ?_;(first|refine B4 ?_))|fail)
  refine Bq ?_;simp[Ce]
set_option maxRecDepth 20000 in
theorem Apz(a:Option Addr)(c:Nat):Con Tryz.prog 158 [.slice a 0 c] [] (λ_=>True) (λv _ _=>∃a',v = .slice a' 0 0):=by
 refine Bg Tryz.func158 Tryz.ntmps158 rfl (by kernel_rfl) rfl λw M =>?_
 repeat' (first|(refine D3 ?_;(first|refine B5 ?_|(apply As rfl rfl;(first|exact p_move rfl|exact p_assign rfl))|(apply As rfl rfl;exact Fv 3 (by dsimp only;decide +kernel) rfl rfl)|(refine Ed rfl rfl Bc1 rfl rfl rfl rfl ?_;intro b)|(apply As rfl rfl;exact Uh Bc1 rfl rfl)))|(refine D1 ?_;(first|refine Dd ?_|refine Bf ?_|refine Dk ?_|(refine Fg rfl ?_ ?_<;>intro hc<;>try contradiction)|refine Bz rfl rfl ?_))|(refine D2 ?_;(first|refine B4 ?_))|fail)
 ·exact Bq ⟨_,rfl⟩
 ·exact Bq ⟨_,rfl⟩
theorem Bye:ElTy Tryz.prog 25 5 1 1:=elTy_of (by kernel_rfl)
set_option maxRecDepth 20000 in
theorem A0u(n:Int)(h0 : 0<n)(hbig:n<=1000000):Con Tryz.prog 322 [.slice none 0 0,.int .i64 n] [] (λ_=>True) (λv L _=>∃b q cs,v = .slice (some ⟨b,0,none⟩) 0 q/\q<=maxLen/\List.length cs=q*1/\L=[.blk b cs 5]):=by
 refine Bg Tryz.func322 Tryz.ntmps322 rfl (by kernel_rfl) rfl λw M =>?_
 repeat' (first|(refine D3 ?_;(first|refine B5 ?_|(apply As rfl rfl;(first|exact p_move rfl|exact p_assign rfl|exact p_lensl (by dsimp only;decide +kernel) rfl|exact p_lss rfl rfl|exact p_gtr rfl rfl|exact Iw rfl rfl (by omega)))|(apply As rfl rfl;exact Als 1 (by dsimp only;decide +kernel) rfl)|(apply As rfl rfl;exact L1 1 (by dsimp only;decide +kernel) rfl rfl (by omega))))|(refine D1 ?_;(first|refine Dd ?_|refine Bf ?_|refine Dk ?_|(refine Hu rfl ?_ ?_<;>intro hc<;>try (first|(exfalso;omega)))))|(refine D2 ?_;(first|refine B4 ?_))|fail)
 refine Axa (kn :=.i64) rfl rfl Bye (by dsimp only;decide +kernel) rfl rfl (by omega) (by simp only[maxLen];omega) (by omega) ?_;intro b' q cs hq1 hq2 hcs
 repeat' (first|(refine D3 ?_;(first|refine B5 ?_|(apply As rfl rfl;(first|exact p_move rfl|exact p_assign rfl|exact p_lensl (by dsimp only;decide +kernel) rfl))|(apply As rfl rfl;exact L1 1 (by dsimp only;decide +kernel) rfl rfl (by omega))))|(refine D1 ?_;(first|refine Dd ?_|refine Bf ?_|refine Bz rfl rfl ?_))|(refine D2 ?_;(first|refine B4 ?_))|fail)
 exact Bq ⟨_,_,_,rfl,hq2,hcs,rfl⟩
set_option maxRecDepth 20000 in
theorem Ax5:Con Tryz.prog 322 [.slice none 0 0,.int .i64 0] [] (λ_=>True) (λv _ _=>v = .slice none 0 0):=by
 refine Bg Tryz.func322 Tryz.ntmps322 rfl (by kernel_rfl) rfl λw M =>?_
 repeat' (first|(refine D3 ?_;(first|refine B5 ?_|(apply As rfl rfl;(first|exact p_move rfl|exact p_assign rfl|exact p_lensl (by dsimp only;decide +kernel) rfl|exact p_lss rfl rfl|exact p_gtr rfl rfl|exact Iw rfl rfl (by omega)))|(apply As rfl rfl;exact Als 1 (by dsimp only;decide +kernel) rfl)|(apply As rfl rfl;exact L1 1 (by dsimp only;decide +kernel) rfl rfl (by omega))))|(refine D1 ?_;(first|refine Dd ?_|refine Bf ?_|refine Dk ?_|refine Bz rfl rfl ?_|(refine Hu rfl ?_ ?_<;>intro hc<;>try (first|(exfalso;omega)))))|(refine D2 ?_;(first|refine B4 ?_))|fail)
 exact Bq rfl
theorem A8h:Go.Ax.GrOk Tryz.prog 322 (elT .byte) (Go.Ax.csz .byte):=⟨Sx.enters_of Tryz.func322 rfl (by kernel_rfl),A0u,Ax5⟩
theorem Byu:ElTy Tryz.prog 45 47 3 32:=elTy_of (by kernel_rfl)
set_option maxRecDepth 20000 in
theorem A2q(n:Int)(h0 : 0<n)(hbig:n<=1000000):Con Tryz.prog 332 [.slice none 0 0,.int .i64 n] [] (λ_=>True) (λv L _=>∃b q cs,v = .slice (some ⟨b,0,none⟩) 0 q/\q<=maxLen/\List.length cs=q*3/\L=[.blk b cs 47]):=by
 refine Bg Tryz.func332 Tryz.ntmps332 rfl (by kernel_rfl) rfl λw M =>?_
 repeat' (first|(refine D3 ?_;(first|refine B5 ?_|(apply As rfl rfl;(first|exact p_move rfl|exact p_assign rfl|exact p_lensl (by dsimp only;decide +kernel) rfl|exact p_lss rfl rfl|exact p_gtr rfl rfl|exact Iw rfl rfl (by omega)))|(apply As rfl rfl;exact Als 3 (by dsimp only;decide +kernel) rfl)|(apply As rfl rfl;exact L1 3 (by dsimp only;decide +kernel) rfl rfl (by omega))))|(refine D1 ?_;(first|refine Dd ?_|refine Bf ?_|refine Dk ?_|(refine Hu rfl ?_ ?_<;>intro hc<;>try (first|(exfalso;omega)))))|(refine D2 ?_;(first|refine B4 ?_))|fail)
 refine Axa (kn :=.i64) rfl rfl Byu (by dsimp only;decide +kernel) rfl rfl (by omega) (by simp only[maxLen];omega) (by omega) ?_;intro b' q cs hq1 hq2 hcs
 repeat' (first|(refine D3 ?_;(first|refine B5 ?_|(apply As rfl rfl;(first|exact p_move rfl|exact p_assign rfl|exact p_lensl (by dsimp only;decide +kernel) rfl))|(apply As rfl rfl;exact L1 3 (by dsimp only;decide +kernel) rfl rfl (by omega))))|(refine D1 ?_;(first|refine Dd ?_|refine Bf ?_|refine Bz rfl rfl ?_))|(refine D2 ?_;(first|refine B4 ?_))|fail)
 exact Bq ⟨_,_,_,rfl,hq2,hcs,rfl⟩
set_option maxRecDepth 20000 in
theorem Av0:Con Tryz.prog 332 [.slice none 0 0,.int .i64 0] [] (λ_=>True) (λv _ _=>v = .slice none 0 0):=by
 refine Bg Tryz.func332 Tryz.ntmps332 rfl (by kernel_rfl) rfl λw M =>?_
 repeat' (first|(refine D3 ?_;(first|refine B5 ?_|(apply As rfl rfl;(first|exact p_move rfl|exact p_assign rfl|exact p_lensl (by dsimp only;decide +kernel) rfl|exact p_lss rfl rfl|exact p_gtr rfl rfl|exact Iw rfl rfl (by omega)))|(apply As rfl rfl;exact Als 3 (by dsimp only;decide +kernel) rfl)|(apply As rfl rfl;exact L1 3 (by dsimp only;decide +kernel) rfl rfl (by omega))))|(refine D1 ?_;(first|refine Dd ?_|refine Bf ?_|refine Dk ?_|refine Bz rfl rfl ?_|(refine Hu rfl ?_ ?_<;>intro hc<;>try (first|(exfalso;omega)))))|(refine D2 ?_;(first|refine B4 ?_))|fail)
 exact Bq rfl
theorem A6n:Go.Ax.GrOk Tryz.prog 332 (elT .val) (Go.Ax.csz .val):=⟨Sx.enters_of Tryz.func332 rfl (by kernel_rfl),A2q,Av0⟩
theorem B0w:ElTy Tryz.prog 265 269 2 48:=elTy_of (by kernel_rfl)
set_option maxRecDepth 20000 in
theorem A8f(n:Int)(h0 : 0<n)(hbig:n<=1000000):Con Tryz.prog 312 [.slice none 0 0,.int .i64 n] [] (λ_=>True) (λv L _=>∃b q cs,v = .slice (some ⟨b,0,none⟩) 0 q/\q<=maxLen/\List.length cs=q*2/\L=[.blk b cs 269]):=by
 refine Bg Tryz.func312 Tryz.ntmps312 rfl (by kernel_rfl) rfl λw M =>?_
 repeat' (first|(refine D3 ?_;(first|refine B5 ?_|(apply As rfl rfl;(first|exact p_move rfl|exact p_assign rfl|exact p_lensl (by dsimp only;decide +kernel) rfl|exact p_lss rfl rfl|exact p_gtr rfl rfl|exact Iw rfl rfl (by omega)))|(apply As rfl rfl;exact Als 2 (by dsimp only;decide +kernel) rfl)|(apply As rfl rfl;exact L1 2 (by dsimp only;decide +kernel) rfl rfl (by omega))))|(refine D1 ?_;(first|refine Dd ?_|refine Bf ?_|refine Dk ?_|(refine Hu rfl ?_ ?_<;>intro hc<;>try (first|(exfalso;omega)))))|(refine D2 ?_;(first|refine B4 ?_))|fail)
 refine Axa (kn :=.i64) rfl rfl B0w (by dsimp only;decide +kernel) rfl rfl (by omega) (by simp only[maxLen];omega) (by omega) ?_;intro b' q cs hq1 hq2 hcs
 repeat' (first|(refine D3 ?_;(first|refine B5 ?_|(apply As rfl rfl;(first|exact p_move rfl|exact p_assign rfl|exact p_lensl (by dsimp only;decide +kernel) rfl))|(apply As rfl rfl;exact L1 2 (by dsimp only;decide +kernel) rfl rfl (by omega))))|(refine D1 ?_;(first|refine Dd ?_|refine Bf ?_|refine Bz rfl rfl ?_))|(refine D2 ?_;(first|refine B4 ?_))|fail)
 exact Bq ⟨_,_,_,rfl,hq2,hcs,rfl⟩
set_option maxRecDepth 20000 in
theorem A2b:Con Tryz.prog 312 [.slice none 0 0,.int .i64 0] [] (λ_=>True) (λv _ _=>v = .slice none 0 0):=by
 refine Bg Tryz.func312 Tryz.ntmps312 rfl (by kernel_rfl) rfl λw M =>?_
 repeat' (first|(refine D3 ?_;(first|refine B5 ?_|(apply As rfl rfl;(first|exact p_move rfl|exact p_assign rfl|exact p_lensl (by dsimp only;decide +kernel) rfl|exact p_lss rfl rfl|exact p_gtr rfl rfl|exact Iw rfl rfl (by omega)))|(apply As rfl rfl;exact Als 2 (by dsimp only;decide +kernel) rfl)|(apply As rfl rfl;exact L1 2 (by dsimp only;decide +kernel) rfl rfl (by omega))))|(refine D1 ?_;(first|refine Dd ?_|refine Bf ?_|refine Dk ?_|refine Bz rfl rfl ?_|(refine Hu rfl ?_ ?_<;>intro hc<;>try (first|(exfalso;omega)))))|(refine D2 ?_;(first|refine B4 ?_))|fail)
 exact Bq rfl
theorem Bf4:Go.Ax.GrOk Tryz.prog 312 (elT .kv) (Go.Ax.csz .kv):=⟨Sx.enters_of Tryz.func312 rfl (by kernel_rfl),A8f,A2b⟩
open Go.Ax
theorem Azp:ClOk Tryz.prog 282 (elT .byte) (csz .byte):=⟨Sx.enters_of Tryz.func282 rfl (by kernel_rfl),Avt⟩
theorem Ay3:ClOk Tryz.prog 52 (elT .byte) (csz .byte):=⟨Sx.enters_of Tryz.func52 rfl (by kernel_rfl),Avx⟩
theorem A3f:ClOk Tryz.prog 334 (elT .node) (csz .node):=⟨Sx.enters_of Tryz.func334 rfl (by kernel_rfl),Awa⟩
theorem A04:ClOk Tryz.prog 158 (elT .val) (csz .val):=⟨Sx.enters_of Tryz.func158 rfl (by kernel_rfl),Av4⟩
theorem Avo:Aii Tryz.prog 158:=Apz
theorem Aw2:Aii Tryz.prog 334:=Aps
theorem A2p:FO 282 [.sl .byte false] [.sl .byte true] (A50 .byte):=Ac3 Azp
theorem A1t:FO 52 [.sl .byte false] [.sl .byte true] (A50 .byte):=Ac3 Ay3
end Go.Proofs.YtblaahgjaopdnaaGreatDoor
namespace Go.Ax
theorem As8{P:Program}{S:Fp}{w:World}{l:Str}{t:Tk}{v:Value}(h:RF S w (.sl .byte l t) v):(Extern.Bytes.bytesOf v).run P w = .ok ⟨l.toArray⟩ w:=by
 obtain⟨a,cap,rfl,hf⟩:=h.here.slice;cases l with
 |nil=>cases a<;>simp[Extern.Bytes.bytesOf,Extern.Bytes.loadBytes,go_sem]<;>rfl
 |cons x l =>
  rcases hf with h|⟨b,o,rfl,_,hat⟩
  ·cases h
  ·have hl:=Lib.run_loadBytesX (P:=P) w ((x::l).map λb=>(b.toNat:Int)) ⟨b,o,none⟩ .empty (λj y hj=>by rw[List.getElem?_map] at hj;obtain⟨z,hz,rfl⟩:=Option.map_eq_some_iff.1 hj;obtain⟨u,hu,hf⟩:=hat j z hz 0 (.int .u8 (z.toNat:Int)) rfl;cases hf;rw[Sx.add_mk];simpa[csz] using hu)
   have e:Lib.bytesOf ((x::l).map λb=>(b.toNat:Int))=x::l:=by simp[Lib.bytesOf,Function.comp_def]
   rw[e,List.length_map] at hl;simp only[Extern.Bytes.bytesOf,hl];congr 1;apply ByteArray.ext;simp
theorem Bg1{P:Program}{S:Fp}{w:World}{l:Str}{t:Tk}{v:Value}(h:RF S w (.sl .byte l t) v)(c:Int):(Extern.BytealgCount.count #[v,.int .u8 c]).run P w = .ok (.int .i64 (Lib.countByte l c.toNat.toUInt8)) w:=by
 have hs:=Lib.run_countString (P:=P) ⟨l.toArray⟩ c w;have hb:=As8 (P:=P) h;change Sem.run P (do
  let b <-Extern.Bytes.bytesOf v;let c' <-Extern.Bytes.asByte (.int .u8 c)
  pure (goInt (b.foldl (λn x=>if x == c' then n+1 else n) (0:Nat)))) w=_
 change Sem.run P (do
  let b <-Extern.Bytes.bytesOf (.string ⟨l.toArray⟩);let c' <-Extern.Bytes.asByte (.int .u8 c)
  pure (goInt (b.foldl (λn x=>if x == c' then n+1 else n) (0:Nat)))) w=_ at hs
 rw[Sem.run_bind] at hs ⊢;rw[hb];exact hs
theorem Bi4{P:Program}{S:Fp}{w:World}{l:Str}{t:Tk}{v:Value}(h:RF S w (.sl .byte l t) v)(c:Int):(Extern.BytealgIndexByte.indexByte #[v,.int .u8 c]).run P w = .ok (.int .i64 (Lib.indexByte l c.toNat.toUInt8)) w:=by
 have hs:=Lib.run_indexByteString (P:=P) ⟨l.toArray⟩ c w;have hb:=As8 (P:=P) h;change Sem.run P (do
  let b <-Extern.Bytes.bytesOf v;let c' <-Extern.Bytes.asByte (.int .u8 c);match(List.range b.size).find? λi=>b[i]! == c' with
  |some i=>pure (goInt i)
  |none=>pure (goInt (-1))) w=_
 change Sem.run P (do
  let b <-Extern.Bytes.bytesOf (.string ⟨l.toArray⟩);let c' <-Extern.Bytes.asByte (.int .u8 c);match(List.range b.size).find? λi=>b[i]! == c' with
  |some i=>pure (goInt i)
  |none=>pure (goInt (-1))) w=_ at hs
 rw[Sem.run_bind] at hs ⊢;rw[hb];exact hs
end Go.Ax
namespace Go.Proofs.YtblaahgjaopdnaaGreatDoor
open Go.Ax
def Awt(s sep:Str):Option Int:=match sep with|[c]=>some (Lib.countByte s c)|_=>none
def Aoh:FT [.sl .byte false,.sl .byte false] [.int .i64]:=λx=>Awt x.1 x.2
theorem Bhs:FO 353 [.sl .byte false,.sl .byte false] [.int .i64] Aoh:=by
 refine⟨Sx.enters_of Tryz.func353 rfl (by kernel_rfl),λx r hx w M vs hM hgl hr =>?_⟩;obtain⟨s,sep⟩:=x;obtain⟨c,rfl⟩:∃c,sep=[c]:=by
  cases sep with
  |nil=>cases hx
  |cons c tl=>cases tl with|nil=>exact⟨c,rfl⟩|cons _ _=>cases hx
 simp only[Aoh,Awt,Za1] at hx;subst hx;simp only[B0,Cj,Reps,Rep] at hr;obtain⟨u,us,rfl,⟨h1,_⟩,u2,us2,rfl,⟨h2,_⟩,rfl⟩:=hr;have h1:RF (v0 elT M w).S w (.sl .byte s .no) u:=h1;have h2:RF (v0 elT M w).S w (.sl .byte [c] .no) u2:=h2;have walk:Calls Tryz.prog 353 #[u,u2] w λe w'=>e = .returned (.int .i64 (Lib.countByte s c))/\w' = w:=by
  have hrun:=Bg1 (P:=Tryz.prog) h1 (c.toNat:Int);have e1:(Int.toNat (c.toNat:Int)).toUInt8=c:=by simp
  rw[e1] at hrun;obtain⟨a2,cap2,rfl,hf2⟩:=h2.here.slice;rcases hf2 with h|⟨b2,o2,rfl,_,hat⟩
  ·cases h
  obtain⟨q,hc2,hq⟩:=hat 0 c rfl 0 (.int .u8 (c.toNat:Int)) rfl;cases hq;have hc2:w.cell? ⟨b2,o2,none⟩=some (.int .u8 (c.toNat:Int)):=by simpa using hc2
  obtain⟨a,cap,rfl,_⟩:=h1.here.slice;have mixed:=follows;have t0:=Tryz.underlying5;simp only[List.length_singleton];clear h1 h2 hat hM hgl
  set_option maxRecDepth 100000 in go_enter Tryz.func353,Tryz.ntmps353
  set_option maxRecDepth 100000 in go_wp2
  rw[run_callFunc_extern Tryz.func376 (by kernel_rfl) (by kernel_rfl) (by kernel_rfl) (e:=Extern.BytealgCount.count) (by kernel_rfl),hrun];simp only[Result.andThen];rw[Oper.upon_value]
  set_option maxRecDepth 100000 in go_wp2
  go_ret
  exact⟨rfl,rfl⟩
 refine Calls.mono walk ?_;rintro en w' ⟨rfl,rfl⟩;refine⟨_,⟨λ_=>0,λ_=>Option.none⟩,rfl,Chg.refl _ _,λp g o hp=>(by simp[Bd] at hp),λp q g o o2 hp=>(by simp[Bd] at hp),?_⟩;simp only[Eo,B0,Cj,Rep];have hl:Lib.countByte s c<=s.length:=List.count_le_length;have hs:=h1.here.len;exact⟨trivial,Rk (Nat.le_trans hl hs)⟩
theorem Bsu(l:Str)(c:UInt8) : -1<=Lib.indexByte l c/\Lib.indexByte l c<=l.length:=by
 induction l with
 |nil=>simp[Lib.indexByte]
 |cons b l ih =>
  simp only[Lib.indexByte,Zf1];split
  ·omega
  ·split<;>omega
def Ae6(s:Str)(c:Int):Int:=Lib.indexByte s c.toNat.toUInt8
def Ao7:FT [.sl .byte false,.int .u8] [.int .i64]:=λx=>some (Ae6 x.1 x.2)
theorem Be9:FO 377 [.sl .byte false,.int .u8] [.int .i64] Ao7:=by
 refine⟨Sx.enters_of Tryz.func377 rfl (by kernel_rfl),λx r hx w M vs hM hgl hr =>?_⟩;obtain⟨s,c⟩:=x;simp only[Ao7,Za1] at hx;subst hx;simp only[B0,Cj,Reps,Rep] at hr;obtain⟨u,us,rfl,⟨h1,_⟩,u2,us2,rfl,⟨rfl,_⟩,rfl⟩:=hr;have h1:RF (v0 elT M w).S w (.sl .byte s .no) u:=h1;have walk:Calls Tryz.prog 377 #[u,.int .u8 c] w λe w'=>e = .returned (.int .i64 (Ae6 s c))/\w' = w:=by
  have hrun:=Bi4 (P:=Tryz.prog) h1 c;obtain⟨a,cap,rfl,_⟩:=h1.here.slice;have mixed:=follows;clear h1 hM hgl
  set_option maxRecDepth 100000 in go_enter Tryz.func377,Tryz.ntmps377
  set_option maxRecDepth 100000 in go_wp2
  rw[run_callFunc_extern Tryz.func392 (by kernel_rfl) (by kernel_rfl) (by kernel_rfl) (e:=Extern.BytealgIndexByte.indexByte) (by kernel_rfl),hrun];simp only[Result.andThen];rw[Oper.upon_value]
  set_option maxRecDepth 100000 in go_wp2
  go_ret
  exact⟨rfl,rfl⟩
 refine Calls.mono walk ?_;rintro en w' ⟨rfl,rfl⟩;refine⟨_,⟨λ_=>0,λ_=>Option.none⟩,rfl,Chg.refl _ _,λp g o hp=>(by simp[Bd] at hp),λp q g o o2 hp=>(by simp[Bd] at hp),?_⟩;simp only[Eo,B0,Cj,Rep];have hs:=h1.here.len;refine⟨trivial,Auw ?_⟩;have hb:=Bsu s c.toNat.toUInt8;have hm:maxLen=9223372036854775807:=rfl;simp only[IntKind.min,IntKind.max,IntKind.signed,IntKind.bits,Ae6];simp only[if_true];omega
def Bod(R:Type):Px R:=pxO [(377,cA Ao7)] [] [] []
def A44(x:HV [.sl .byte false,.sl .byte false]):Option (HV [.int .i64]):=match x with
 |(s,sep) =>
 cond (decide ((sep.length:Int)=0)) (
  some 0) (
  cond (decide ((sep.length:Int)=1)) (
  chk (inb 0 sep.length) (
   some (Ae6 s ((at' .byte sep 0).toNat:Int)))) (
  cond (decide ((sep.length:Int)=(s.length:Int))) (
   none) (
   cond (decide ((s.length:Int)<(sep.length:Int))) (
   some (-1)) (
   none))))
theorem Bi9:FO 354 [.sl .byte false,.sl .byte false] [.int .i64] (A44):=fR (px:=Bod _) (n:=2) Tryz.func354 rfl (λ_ H=>⟨lv H (c1 H Be9 Ae) Aa Ab,(A2 (A2 Ai (Aql (λ_ _=>by kernel_rfl))) (Aql (λ_ _=>by kernel_rfl)))⟩) λ(_,_)=>by kernel_rfl
def A9a(s sep:Str):Option Int:=match sep with|[c]=>some (Lib.indexByte s c)|_=>none
def Baj:FT [.sl .byte false,.sl .byte false] [.int .i64]:=λx=>A9a x.1 x.2
theorem Bp6:FO 354 [.sl .byte false,.sl .byte false] [.int .i64] Baj :=.fin0 Bi9 λ(s,sep) r _ hx=>by
 obtain⟨c,rfl⟩:∃c,sep=[c]:=by
  cases sep with
  |nil=>cases hx
  |cons c tl=>cases tl with|nil=>exact⟨c,rfl⟩|cons _ _=>cases hx
 rw[<-hx];show(some (Ae6 s ((at' .byte [c] 0).toNat:Int)):Option Int)=some (Lib.indexByte s c);simp[Ae6,at']
def esc(s:Str):Str:=s.flatMap λb=>if b=0 then [0,255] else [b]
theorem P2(a b:Str):esc (a++b)=esc a++esc b:=by simp[esc]
theorem Bos(l:Str):esc (0::l)=0::255::esc l:=by simp[esc]
theorem Ayp{b:UInt8}(h:b≠0)(l:Str):esc (b::l)=b::esc l:=by simp[esc,h]
theorem Au9:∀{a:Str},(0:UInt8)∉a->esc a=a
 |[],_=>rfl
 |b::a,h=>by simp only[List.mem_cons,not_or] at h;rw[Ayp (Ne.symm h.1),Au9 h.2]
theorem Bbz(s:Str):(esc s).length=s.length+s.count 0:=by
 induction s with
 |nil=>rfl
 |cons b s ih =>
  by_cases h:b=0
  ·subst h;rw[Bos];simp only[Zf1,ih,List.count_cons_self];omega
  ·rw[Ayp h,List.count_cons_of_ne h];simp only[Zf1,ih];omega
theorem Ano:∀{l:Str},0<l.count 0->∃a b,l=a++0::b/\(0:UInt8)∉a/\Lib.indexByte l 0=(a.length:Int)/\l.count 0=b.count 0+1
 |[],h=>by simp at h
 |x::l,h=>by
  by_cases hx:x=0
  ·subst hx;exact⟨[],l,rfl,by simp,by simp[Lib.indexByte],by simp⟩
  ·rw[List.count_cons_of_ne hx] at h;obtain⟨a,b,e,h1,h2,h3⟩:=Ano h;refine⟨x::a,b,by rw[e];rfl,by simp[h1,Ne.symm hx],?_,by rw[List.count_cons_of_ne hx];exact h3⟩;have h4:¬(a.length:Int) = -1:=by omega
   simp[Lib.indexByte,hx,h2,h4]
theorem Rc{α:Type}(xs:List α)(o:Nat)(l:List α)(h:o+l.length<=xs.length):(Ci xs o l).take (o+l.length)=xs.take o++l:=by
 have h1:(xs.take o).length=o:=by simp;omega
 simp only[Ci];rw[<-Zj1,List.take_append_of_le_length (by simp;omega)];rw[List.take_of_length_le (by simp;omega)]
def Al8:Sig:=⟨132,[(0,.sl .byte false),(2,.sl .byte false),(11,.int .i64),(12,.int .i64),(88,.int .i64),(89,.int .i64)],[],[(0,.one (.dn .byte))],1,0,0,[],[(10,0,.byte)]⟩
abbrev Aep:=List UInt8×List UInt8×Int×Int×Int×Int×List UInt8×Int×Int
def Axe{R:Type}(_:Aep->Option R)(kx:Ex->Aep->Option R)(v:Aep):Option R:=match v with
 |(a,e,f,b,c,d,w3,w4,w5) =>
 cond (decide (d<c)) (
  chk (upto b a.length a.length) (
  none)) (
  kx (.exit 2) (a,e,f,b,c,d,w3,w4,w5))
def Aj6:Sig:=⟨132,[(0,.sl .byte false),(1,.sl .byte false),(2,.sl .byte false),(11,.int .i64),(12,.int .i64),(48,.int .i64),(49,.int .i64)],[],[(0,.one (.dn .byte))],1,0,0,[],[(10,0,.byte)]⟩
abbrev Jd:=List UInt8×List UInt8×List UInt8×Int×Int×Int×Int×List UInt8×Int×Int
def O4{R:Type}(rec:Jd->Option R)(kx:Ex->Jd->Option R)(v:Jd):Option R:=match v with
 |(v,v1,v2,v3,v4,v5,v6,w,w1,w2) =>
 cond (decide (v6<v5)) (
  chk (upto v4 v.length v.length) (
  (A9a (v.drop (v4:Int).toNat) v1).bind λx1 =>
   chk (upI v3 w2 w2) (
   chk (upto v4 (wr .i64 (v4+x1)) v.length) (
    chk (decide ((0:Int)<=(w1+v3))&&decide ((0:Int)<=(w2-v3))&&decide ((w1+v3)+(w2-v3)<=(w.length:Int))) (
    chk (upI (wr .i64 (v3+((min ((w2-v3):Int).toNat (cut v v4 (wr .i64 (v4+x1))).length:Nat):Int))) w2 w2) (
     chk (decide ((0:Int)<=(w1+(wr .i64 (v3+((min ((w2-v3):Int).toNat (cut v v4 (wr .i64 (v4+x1))).length:Nat):Int)))))&&decide ((0:Int)<=(w2-(wr .i64 (v3+((min ((w2-v3):Int).toNat (cut v v4 (wr .i64 (v4+x1))).length:Nat):Int)))))&&decide ((w1+(wr .i64 (v3+((min ((w2-v3):Int).toNat (cut v v4 (wr .i64 (v4+x1))).length:Nat):Int))))+(w2-(wr .i64 (v3+((min ((w2-v3):Int).toNat (cut v v4 (wr .i64 (v4+x1))).length:Nat):Int))))<=((Ci w ((w1+v3):Int).toNat ((cut v v4 (wr .i64 (v4+x1))).take ((w2-v3):Int).toNat)).length:Int))) (
     rec (v,v1,v2,(wr .i64 ((wr .i64 (v3+((min ((w2-v3):Int).toNat (cut v v4 (wr .i64 (v4+x1))).length:Nat):Int)))+((min ((w2-(wr .i64 (v3+((min ((w2-v3):Int).toNat (cut v v4 (wr .i64 (v4+x1))).length:Nat):Int)))):Int).toNat v2.length:Nat):Int))),(wr .i64 ((wr .i64 (v4+x1))+(v1.length:Int))),v5,(wr .i64 (v6+1)),(Ci (Ci w ((w1+v3):Int).toNat ((cut v v4 (wr .i64 (v4+x1))).take ((w2-v3):Int).toNat)) ((w1+(wr .i64 (v3+((min ((w2-v3):Int).toNat (cut v v4 (wr .i64 (v4+x1))).length:Nat):Int)))):Int).toNat (v2.take ((w2-(wr .i64 (v3+((min ((w2-v3):Int).toNat (cut v v4 (wr .i64 (v4+x1))).length:Nat):Int)))):Int).toNat)),w1,w2)))))))) (
  kx (.exit 0) (v,v1,v2,v3,v4,v5,v6,w,w1,w2))
def A1j(R:Type)(k:Nat):Px R:=pxO [(353,cA Aoh),(354,cA Baj)] [] [(13,Al k Aj6 (O4)),(21,Al k Al8 (Axe))] []
def W3(k:Nat)(x:HV [.sl .byte false,.sl .byte false,.sl .byte false,.int .i64]):Option (HV [.sl .byte true]):=match x with
 |(s,old,new,n) =>
 let j2:=λ(p:Int) =>
  cond (decide (p=0)) (
  chk (decide (0+s.length<=Ag)) (
   some ([]++s))) (
  let j1:=λ(p3:Int) =>
   chk (upI 0 (wr .i64 ((s.length:Int)+(wr .i64 (p3*(wr .i64 ((new.length:Int)-(old.length:Int))))))) (wr .i64 ((s.length:Int)+(wr .i64 (p3*(wr .i64 ((new.length:Int)-(old.length:Int)))))))&&decide ((wr .i64 ((s.length:Int)+(wr .i64 (p3*(wr .i64 ((new.length:Int)-(old.length:Int)))))))<=(Ag:Int))) (
   let j:=λ(p4:List UInt8) (p5:Int) (p6:Int) (p7:Int) (p8:Int) (q:List UInt8) =>
    chk (upI p7 p6 p6) (
    chk (upto p8 p4.length p4.length) (
     chk (decide ((0:Int)<=(p5+p7))&&decide ((0:Int)<=(p6-p7))&&decide ((p5+p7)+(p6-p7)<=(q.length:Int))) (
     chk (upI 0 (wr .i64 (p7+((min ((p6-p7):Int).toNat (p4.drop (p8:Int).toNat).length:Nat):Int))) p6) (
      chk (decide (((p5+0):Int)=0)&&decide ((0:Int)<((wr .i64 (p7+((min ((p6-p7):Int).toNat (p4.drop (p8:Int).toNat).length:Nat):Int)))-0))&&decide (((wr .i64 (p7+((min ((p6-p7):Int).toNat (p4.drop (p8:Int).toNat).length:Nat):Int)))-0)<=((Ci q ((p5+p7):Int).toNat ((p4.drop (p8:Int).toNat).take ((p6-p7):Int).toNat)).length:Int))) (
      some ((Ci q ((p5+p7):Int).toNat ((p4.drop (p8:Int).toNat).take ((p6-p7):Int).toNat)).take (((wr .i64 (p7+((min ((p6-p7):Int).toNat (p4.drop (p8:Int).toNat).length:Nat):Int)))-0):Int).toNat))))))
   cond (decide (0<(old.length:Int))) (
    Aj (λrec=>O4 rec (λe vz=>match vz with|(v7,_,_,a,b,_,_,c,d,f)=>match e with
    |.exit 0 =>j v7 d f a b c
    |_=>none)) k (s,old,new,0,0,p3,0,(List.replicate ((wr .i64 ((s.length:Int)+(wr .i64 (p3*(wr .i64 ((new.length:Int)-(old.length:Int))))))):Int).toNat (zer .byte)),0,(wr .i64 ((s.length:Int)+(wr .i64 (p3*(wr .i64 ((new.length:Int)-(old.length:Int))))))))) (
    chk (upI 0 (wr .i64 ((s.length:Int)+(wr .i64 (p3*(wr .i64 ((new.length:Int)-(old.length:Int))))))) (wr .i64 ((s.length:Int)+(wr .i64 (p3*(wr .i64 ((new.length:Int)-(old.length:Int)))))))) (
    chk (decide ((0:Int)<=0)&&decide ((0:Int)<=((wr .i64 ((s.length:Int)+(wr .i64 (p3*(wr .i64 ((new.length:Int)-(old.length:Int)))))))-0))&&decide (0+((wr .i64 ((s.length:Int)+(wr .i64 (p3*(wr .i64 ((new.length:Int)-(old.length:Int)))))))-0)<=((List.replicate ((wr .i64 ((s.length:Int)+(wr .i64 (p3*(wr .i64 ((new.length:Int)-(old.length:Int))))))):Int).toNat (zer .byte)).length:Int))) (
     Aj (λrec=>Axe rec (λe vz=>match vz with|(g,_,h,i,_,_,l,m,o)=>match e with
     |.exit 2 =>j g m o h i l
     |_=>none)) k (s,new,(wr .i64 (0+((min (((wr .i64 ((s.length:Int)+(wr .i64 (p3*(wr .i64 ((new.length:Int)-(old.length:Int)))))))-0):Int).toNat new.length:Nat):Int))),0,(wr .i64 (p3-1)),0,(Ci (List.replicate ((wr .i64 ((s.length:Int)+(wr .i64 (p3*(wr .i64 ((new.length:Int)-(old.length:Int))))))):Int).toNat (zer .byte)) (0:Int).toNat (new.take (((wr .i64 ((s.length:Int)+(wr .i64 (p3*(wr .i64 ((new.length:Int)-(old.length:Int)))))))-0):Int).toNat)),0,(wr .i64 ((s.length:Int)+(wr .i64 (p3*(wr .i64 ((new.length:Int)-(old.length:Int))))))))))))
  cond (decide (n<0)) (
   j1 p) (
   cond (decide (p<n)) (
   j1 p) (
   j1 n)))
 cond (!decide (n=0)) (
  (Awt s old).bind λx =>
  j2 x) (
  j2 0)
theorem Bei(k:Nat):FO 323 [.sl .byte false,.sl .byte false,.sl .byte false,.int .i64] [.sl .byte true] (W3 k):=fR (px:=A1j _ k) (n:=2) Tryz.func323 rfl (λcx H=>by have h0:Lv cx (A1j (HV [.sl .byte true]) k):=lv H (c1 H Bhs (c1 H Bp6 Ae)) Aa Ab;have hlbrepl_0:=lO H h0 (b:=lp Tryz.f323 0) (k:=k) (n:=0) (s:=Aj6) (step:=O4) (λ_ _ _ (_,_,_,_,_,_,_,_,_,_)=>by kernel_rfl) Ai;have hlbrepl_1:=lO H h0 (b:=lp Tryz.f323 1) (k:=k) (n:=0) (s:=Al8) (step:=Axe) (λ_ _ _ (_,_,_,_,_,_,_,_,_)=>by kernel_rfl) Ai;exact⟨h0,(A2 (A2 Ai hlbrepl_0) hlbrepl_1)⟩) λ(_,_,_,_)=>by kernel_rfl
def Azs(s old new:Str)(n:Int):Option Str:=cond (decide (old=[0])&&decide (new=[0,255])&&decide (n = -1)&&decide (s.length<=68719476736)) (some (esc s)) none
def Aww:FT [.sl .byte false,.sl .byte false,.sl .byte false,.int .i64] [.sl .byte true]:=λx=>Azs x.1 x.2.1 x.2.2.1 x.2.2.2
theorem A8j{R:Type}{rec:Jd->Option R}{kx:Ex->Jd->Option R}{s A B:Str}{p L N m i:Nat}{w:Str}(hs:s.length<=68719476736)(hN:N<=137438953472)(hi:i<m)(hm:ln m)(hp:s.drop p=A++0::B)(hA:Lib.indexByte (A++0::B) 0=(A.length:Int))(hL:L+A.length+2<=N)(hw:w.length=N):O4 rec kx (s,[0],[0,255],(L:Int),(p:Int),(m:Int),(i:Int),w,0,(N:Int))=rec (s,[0],[0,255],((L+A.length+2:Nat):Int),((p+A.length+1:Nat):Int),(m:Int),((i+1:Nat):Int),Ci (Ci w L A) (L+A.length) [0,255],0,(N:Int)):=by
 have hpl:p+(A.length+1+B.length)=s.length:=by have:=congrArg List.length hp;simp only[Za2,Zh1,Zf1] at this;omega
 have e1:upto (p:Int) (s.length:Int) s.length=true:=by rw[Aoj];simp;omega
 have e2:A9a (s.drop p) [0]=some (A.length:Int):=by simp only[A9a,hp,hA]
 have e3:wr .i64 ((p:Int)+(A.length:Int))=((p+A.length:Nat):Int):=by rw[Be (by simp only[inI];omega)];rfl
 have e4:cut s (p:Int) ((p+A.length:Nat):Int)=A:=by simp only[cut,Int.toNat_natCast,hp];rw[show p+A.length-p=A.length by omega];simp
 have e5:upto (p:Int) ((p+A.length:Nat):Int) s.length=true:=by rw[Aoj];simp;omega
 have e6:min ((N:Int)-(L:Int)).toNat A.length=A.length:=by omega
 have e7:wr .i64 ((L:Int)+(A.length:Int))=((L+A.length:Nat):Int):=by rw[Be (by simp only[inI];omega)];rfl
 have e8:upI (L:Int) (N:Int) (N:Int)=true:=by simp only[upI,Zb1,Zg1];omega
 have e9:upI ((L+A.length:Nat):Int) (N:Int) (N:Int)=true:=by simp only[upI,Zb1,Zg1];omega
 have e10:A.take ((N:Int)-(L:Int)).toNat=A:=List.take_of_length_le (by omega);have e11:([0,255]:Str).take ((N:Int)-((L+A.length:Nat):Int)).toNat=[0,255]:=List.take_of_length_le (by simp;omega);have e12:min ((N:Int)-((L+A.length:Nat):Int)).toNat 2=2:=by omega
 have e13:wr .i64 (((L+A.length:Nat):Int)+2)=((L+A.length+2:Nat):Int):=by rw[Be (by simp only[inI];omega)];rfl
 have e14:wr .i64 (((p+A.length:Nat):Int)+1)=((p+A.length+1:Nat):Int):=by rw[Be (by simp only[inI];omega)];rfl
 have e15:wr .i64 ((i:Int)+1)=((i+1:Nat):Int):=Ao hi hm;have e16:decide ((i:Int)<(m:Int))=true:=Ze1 (by omega);have e17:(0:Int)+(L:Int)=(L:Int):=Int.zero_add _;have e18:(0:Int)+((L+A.length:Nat):Int)=((L+A.length:Nat):Int):=Int.zero_add _;have hsl:(Ci w L A).length=N:=by rw[Em _ _ _ (by omega)];exact hw
 have e19:(decide ((0:Int)<=(L:Int))&&decide ((0:Int)<=((N:Int)-(L:Int)))&&decide ((L:Int)+((N:Int)-(L:Int))<=(N:Int)))=true:=by simp only[Zb1,Zg1];omega
 have e20:(decide ((0:Int)<=((L+A.length:Nat):Int))&&decide ((0:Int)<=((N:Int)-((L+A.length:Nat):Int)))&&decide (((L+A.length:Nat):Int)+((N:Int)-((L+A.length:Nat):Int))<=(N:Int)))=true:=by simp only[Zb1,Zg1];omega
 have e21:((2:Nat):Int)=2:=rfl;have e22:((1:Nat):Int)=1:=rfl;have l2:([0,255]:Str).length=2:=rfl;have l1:([0]:Str).length=1:=rfl;simp only[O4,e16,Ah,e1,chk,Int.toNat_natCast,e2,Zc1,e8,e3,e5,e4,e6,e7,e17,hw,e19,e9,e10,e18,hsl,e20,l1,l2,e11,e12,e21,e22,e13,e14,e15]
theorem Al0{R:Type}{kx:Ex->Jd->Option R}{s:Str}{c:Option R}{N m:Nat}(hs:s.length<=68719476736)(hN:N=(esc s).length)(hm:m<=s.length)(h0:∀(L p:Nat) (w:Str),p<=s.length->L=(esc (s.take p)).length->w.length=N->w.take L=esc (s.take p)->(s.drop p).count 0=0->kx (.exit 0) (s,[0],[0,255],(L:Int),(p:Int),(m:Int),(m:Int),w,0,(N:Int))=c) :
  ∀(k i L p:Nat) (w:Str),(s.drop p).count 0=m-i->i<=m->m-i<k->p<=s.length->L=(esc (s.take p)).length->w.length=N->w.take L=esc (s.take p)->Aj (λrec=>O4 rec kx) k (s,[0],[0,255],(L:Int),(p:Int),(m:Int),(i:Int),w,0,(N:Int))=c
 |0,i,L,p,w,_,_,h,_,_,_,_=>by omega
 |k+1,i,L,p,w,hc,him,hk,hp,hL,hw,ht=>by
  have hcl:s.count 0<=s.length:=List.count_le_length;have hNs:N<=137438953472:=by rw[hN,Bbz];omega
  rw[A0];by_cases hi:i<m
  ·obtain⟨A,B,hd,hA,hix,hcb⟩:=Ano (l:=s.drop p) (by omega);have e1:s.take (p+A.length+1)=s.take p++(A++[0]):=by rw[Nat.add_assoc,List.take_add,hd];congr 1;rw[show A++0::B=(A++[0])++B by simp];exact List.take_left' (by simp)
   have e2:s.drop (p+A.length+1)=B:=by rw[Nat.add_assoc,<-List.drop_drop,hd,show A++0::B=(A++[0])++B by simp];exact List.drop_left' (by simp)
   have e3:esc (s.take (p+A.length+1))=esc (s.take p)++(A++[0,255]):=by rw[e1,P2,P2,Au9 hA];rfl
   have hpl:p+A.length+1<=s.length:=by have:=congrArg List.length hd;simp only[Za2,Zh1,Zf1] at this;omega
   have hL2:L+A.length+2=(esc (s.take (p+A.length+1))).length:=by rw[e3,Zh1,<-hL];simp;omega
   have hLN:L+A.length+2<=N:=by
    have:esc s=esc (s.take (p+A.length+1))++esc (s.drop (p+A.length+1)):=by rw[<-P2,List.take_append_drop]
    rw[hN,this,Zh1];omega
   have hsl:(Ci w L A).length=N:=by rw[Em _ _ _ (by omega)];exact hw
   rw[A8j hs hNs hi (by simp only[ln];omega) hd (hd▸hix) hLN hw];refine Al0 hs hN hm h0 k (i+1) (L+A.length+2) (p+A.length+1) _ ?_ (by omega) (by omega) hpl hL2 ?_ ?_
   ·rw[e2];omega
   ·rw[Em _ _ _ (by rw[hsl];simp;omega)];exact hsl
   ·rw[show L+A.length+2=(L+A.length)+([0,255]:Str).length by rfl,Rc _ _ _ (by rw[hsl];simp;omega),Rc _ _ _ (by omega),ht,e3];simp
  ·have him:i=m:=by omega
   subst him;simp only[O4,Zd1 (show ¬((i:Nat):Int)<(i:Int) by omega),Af];exact h0 L p w hp hL hw ht (by omega)
theorem Br8:FO 323 [.sl .byte false,.sl .byte false,.sl .byte false,.int .i64] [.sl .byte true] Aww :=.fin 0 Bei λ(s,old,new,n) r hb hx=>⟨s.count 0+1,by
 simp only[Aww,Azs] at hx;cases hc:decide (old=[0])&&decide (new=[0,255])&&decide (n = -1)&&decide (s.length<=68719476736) with
 |false=>rw[hc] at hx;cases hx
 |true =>
  rw[hc] at hx;simp only[Zb1,Zg1] at hc;obtain⟨⟨⟨rfl,rfl⟩,rfl⟩,hs⟩:=hc;have hx:some (esc s)=some r:=hx;rw[<-hx];have hcl:s.count 0<=s.length:=List.count_le_length;have hNl:=Bbz s;have ecount:Awt s [0]=some ((s.count 0:Nat):Int):=rfl;have l2:([0,255]:Str).length=2:=rfl;have l1:([0]:Str).length=1:=rfl;by_cases h0:s.count 0=0
  ·have hno:(0:UInt8)∉s:=List.count_eq_zero.1 h0;have c1:decide (0+s.length<=Ag)=true:=Ze1 (by simp only[Ag];omega);have c2:decide (((s.count 0:Nat):Int)=0)=true:=Ze1 (by omega);simp only[W3,ecount,Zc1,c2,Ah,c1,chk,Au9 hno];rfl
  ·have c2:decide (((s.count 0:Nat):Int)=0)=false:=Zd1 (by omega);have c3:wr .i64 (((2:Nat):Int)-((1:Nat):Int))=1:=by decide
   have c4:wr .i64 (((s.count 0:Nat):Int)*1)=((s.count 0:Nat):Int):=by rw[Int.mul_one,Be (by simp only[inI];omega)]
   have c5:wr .i64 ((s.length:Int)+((s.count 0:Nat):Int))=(((esc s).length:Nat):Int):=by rw[Be (by simp only[inI];omega),hNl];rfl
   have c6:(upI 0 (((esc s).length:Nat):Int) (((esc s).length:Nat):Int)&&decide ((((esc s).length:Nat):Int)<=(Ag:Int)))=true:=by
    have h1:(((esc s).length:Nat):Int)<=274877906944:=by rw[hNl];omega
    simp only[upI,Zb1,Zg1];exact⟨⟨⟨Int.le_refl _,Int.natCast_nonneg _⟩,Int.le_refl _⟩,h1⟩
   have c7:decide ((0:Int)<((1:Nat):Int))=true:=rfl;have c8:decide ((-1:Int)<0)=true:=rfl;have c9:(!decide ((-1:Int)=0))=true:=rfl;simp only[W3,c9,ecount,Zc1,c2,Ah,Af,c8,l1,l2,c3,c4,c5,c6,chk,c7];refine Al0 (c:=some (esc s)) (N:=(esc s).length) (m:=s.count 0) hs rfl hcl (λL p w hp hL hw ht hz =>?_) (s.count 0+1) 0 0 0 _ (by simp) (Nat.zero_le _) (by omega) (Nat.zero_le _) (by simp[esc]) (by simp) (by simp[esc]);have hdn:(0:UInt8)∉s.drop p:=List.count_eq_zero.1 hz;have hes:esc s=esc (s.take p)++s.drop p:=by rw[<-Au9 hdn,<-P2,List.take_append_drop]
   have hNL:(esc s).length=L+(s.drop p).length:=by rw[hes,Zh1,<-hL]
   have hdl:(s.drop p).length=s.length-p:=Za2;have e1:upI (L:Int) (((esc s).length:Nat):Int) (((esc s).length:Nat):Int)=true:=by simp only[upI,Zb1,Zg1];omega
   have e2:upto (p:Int) (s.length:Int) s.length=true:=by rw[Aoj];simp;omega
   have e3:(decide ((0:Int)<=(L:Int))&&decide ((0:Int)<=((((esc s).length:Nat):Int)-(L:Int)))&&decide ((L:Int)+((((esc s).length:Nat):Int)-(L:Int))<=(((esc s).length:Nat):Int)))=true:=by simp only[Zb1,Zg1];omega
   have e4:min ((((esc s).length:Nat):Int)-(L:Int)).toNat (s.drop p).length=(s.drop p).length:=by omega
   have e5:wr .i64 ((L:Int)+(((s.drop p).length:Nat):Int))=(((esc s).length:Nat):Int):=by rw[Be (by simp only[inI];omega)];omega
   have e6:upI 0 (((esc s).length:Nat):Int) (((esc s).length:Nat):Int)=true:=by simp only[upI,Zb1,Zg1];omega
   have e7:(s.drop p).take ((((esc s).length:Nat):Int)-(L:Int)).toNat=s.drop p:=List.take_of_length_le (by omega);have hsl:(Ci w L (s.drop p)).length=(esc s).length:=by rw[Em _ _ _ (by omega)];exact hw
   have e8:decide ((0:Int)<(((esc s).length:Nat):Int))=true:=Ze1 (by omega);have e10:decide ((((esc s).length:Nat):Int)<=(((esc s).length:Nat):Int))=true:=Ze1 (Int.le_refl _);have e9:(Ci w L (s.drop p)).take (esc s).length=esc s:=by have:=Rc w L (s.drop p) (by omega);rw[<-hNL,ht] at this;rw[this,hes]
   simp only[Int.zero_add,Int.add_zero,Int.sub_zero,Int.toNat_natCast,hw,e1,e2,e3,e4,e5,e6,e7,hsl,e8,e9,e10,decide_true,Bool.true_and,Ah]⟩
def Bga(R:Type):Px R:=pxO [(323,cA Aww)] [] [] []
def Ahs(x:HV [.sl .byte false,.sl .byte false,.sl .byte false]):Option (HV [.sl .byte true]):=match x with
 |(s,old,new) =>
 (Azs s old new (-1)).bind λx =>some x
theorem A35:FO 286 [.sl .byte false,.sl .byte false,.sl .byte false] [.sl .byte true] (Ahs):=fR (px:=Bga _) (n:=0) Tryz.func286 rfl (λ_ H=>⟨lv H (c1 H Br8 Ae) Aa Ab,Ai⟩) λ(_,_,_)=>by kernel_rfl
def Brl(s old new:Str):Option Str:=Azs s old new (-1)
def Aka:FT [.sl .byte false,.sl .byte false,.sl .byte false] [.sl .byte true]:=λx=>Brl x.1 x.2.1 x.2.2
theorem Bfc:FO 286 [.sl .byte false,.sl .byte false,.sl .byte false] [.sl .byte true] Aka :=.fin0 A35 λ(s,old,new) r _ hx=>by rw[<-hx];simp only[Ahs,Aka,Brl];cases Azs s old new (-1)<;>rfl
def Aw1(s:Str):Option Str:=cond (decide (s.length<=1000000)) (some s) none
def Rh:FT [.sl .byte false] [.sl .byte true]:=λx=>Aw1 x
theorem Tq:FO 52 [.sl .byte false] [.sl .byte true] Rh:=A1t
def Bx3(s:Str):Option Str:=cond (decide (s.length<=1000000)) (some s) none
def Ao2:FT [.sl .byte false] [.sl .byte true]:=λx=>Bx3 x
theorem Ar2:FO 282 [.sl .byte false] [.sl .byte true] Ao2:=A2p
theorem Byn{c:UInt8}(n:UInt8):decide ((c.toNat:Int)=(n.toNat:Int))=decide (c=n):=by refine Zy1.2 ⟨λe=>UInt8.toNat_inj.1 (by omega),λe=>by rw[e]⟩
def nxt:Str->Str
 |[]=>[]
 |c::l=>if nxt l=[] then(if c=255 then [] else [c+1]) else c::nxt l
theorem Axq:∀n:Nat,nxt (List.replicate n 255)=[]
 |0=>rfl
 |n+1=>by simp[List.replicate_succ,nxt,Axq n]
theorem A3b{c:UInt8}(h:c≠255)(n:Nat):∀l:Str,nxt (l++c::List.replicate n 255)=l++[c+1]
 |[]=>by simp[nxt,Axq,h]
 |d::l=>by simp[nxt,A3b h n l]
def Zh:Sig:=⟨35,[],[],[(0,.one (.dn .byte))],1,0,0,[],[(3,0,.byte)]⟩
abbrev Hh:=List UInt8×Int×Int
def Oa{R:Type}(rec:Hh->Option R)(kx:Ex->Hh->Option R)(v:Hh):Option R:=match v with
 |(w,w1,w2) =>
 cond (decide (0<w2)) (
  chk (inO (wr .i64 (w2-1)) w2) (
  chk (inb (w1+(wr .i64 (w2-1))) w.length) (
   cond (decide (((at' .byte w (w1+(wr .i64 (w2-1)))).toNat:Int)=255)) (
   chk (upI 0 (wr .i64 (w2-1)) w2) (
    rec (w,w1,(wr .i64 (w2-1))))) (
   kx (.exit 0) (w,w1,w2))))) (
  kx (.exit 0) (w,w1,w2))
noncomputable def At8(R:Type)(_k:Nat):Px R:=pxO [(52,M8 [.sl .byte false] .byte Rh)] [] [] []
noncomputable def Abr(R:Type)(k:Nat):Px R:=pxO [(52,M8 [.sl .byte false] .byte Rh)] [] [(2,Awk (At8 R k) (lp Tryz.f199 0) k Zh (Oa))] []
theorem A73(R:Type)(k:Nat):∀(fr:List Fr) (rec:Hh->Option R) (kx:Ex->Hh->Option R) (v:Hh),P7 (Abr R k) Zh (lp Tryz.f199 0) fr rec kx v=Oa rec kx v
 |fr,rec,kx,(w,w1,w2)=>by kernel_rfl
def Ao8(k:Nat)(x:HV [.sl .byte false]):Option (HV [.sl .byte false]):=match x with
 |b =>
 (Aw1 b).bind λx =>
  cond (List.isEmpty x) (
  some []) (
  Aj (λrec=>Oa rec (λe vz=>match vz with|(v,v1,v2)=>match e with
   |.exit 0 =>
   cond (decide (0<v2)) (
    chk (inO (wr .i64 (v2-1)) v2) (
    chk (inb (v1+(wr .i64 (v2-1))) v.length) (
     chk (inO (wr .i64 (v2-1)) v2) (
     chk (inb (v1+(wr .i64 (v2-1))) v.length) (
      chk (decide ((0:Int)<=v1)&&decide ((0:Int)<=v2)&&decide ((v1+v2)<=((v.set ((v1+(wr .i64 (v2-1))):Int).toNat (UInt8.ofNat ((wr .u8 (((at' .byte v (v1+(wr .i64 (v2-1)))).toNat:Int)+1)):Int).toNat)).length:Int))) (
      some (cut (v.set ((v1+(wr .i64 (v2-1))):Int).toNat (UInt8.ofNat ((wr .u8 (((at' .byte v (v1+(wr .i64 (v2-1)))).toNat:Int)+1)):Int).toNat)) v1 (v1+v2)))))))) (
    chk (decide ((0:Int)<=v1)&&decide ((0:Int)<=v2)&&decide ((v1+v2)<=(v.length:Int))) (
    some (cut v v1 (v1+v2))))
   |_=>none)) k (x,0,(x.length:Int)))
theorem Bhl(k:Nat):FO 199 [.sl .byte false] [.sl .byte false] (Ao8 k):=fR (px:=Abr _ k) (n:=1) Tryz.func199 rfl (λcx H=>by have h0:Lv cx (Abr (HV [.sl .byte false]) k):=lv H (Am (cT H Tq) Ae) Aa Ab;have h00:Lv cx (At8 (HV [.sl .byte false]) k):=lv H (Am (cT H Tq) Ae) Aa Ab;have hlknext_0:Bv cx (Abr (HV [.sl .byte false]) k) (lp Tryz.f199 0):=Akj h0.p h0.c h0.q (by rw[H.p];exact follows) h00.p h00.c h00.q (λ_ _ _=>rfl) (k:=k) (s:=Zh) (step:=Oa) (λ_ _=>by kernel_rfl) (by kernel_rfl) (A73 _ k) (Ic (n:=0) (by kernel_rfl) Ai);exact⟨h0,(A2 Ai hlknext_0)⟩) λ_=>by kernel_rfl
def Bxg(b:Str):Option Str:=cond (decide (b.length<=1000000)) (some (nxt b)) none
def Awf:FT [.sl .byte false] [.sl .byte false]:=λx=>Bxg x
theorem A5i{w:Str}{n:Nat}(hn:n<w.length)(h:w.drop (n+1)=List.replicate (w.length-(n+1)) 255)(h2:w[n]=255):w.drop n=List.replicate (w.length-n) 255:=by rw[Ay hn,h2,h,show w.length-n=(w.length-(n+1))+1 by omega,List.replicate_succ]
theorem Ak3{R:Type}{kx:Ex->Hh->Option R}{w:Str}{c:Option R}(hw:w.length<=1000000)(h:∀m:Nat,m<=w.length->w.drop m=List.replicate (w.length-m) 255->(∀(h:m-1<w.length),0<m->w[m-1]≠255)->kx (.exit 0) (w,0,(m:Int))=c) :
  ∀(k n:Nat),n<=w.length->n<k->w.drop n=List.replicate (w.length-n) 255->Aj (λrec=>Oa rec kx) k (w,0,(n:Int))=c
 |0,n,_,h,_=>by omega
 |k+1,n,hn,hk,hd=>by
  rw[A0];by_cases h0 : 0<n
  ·have hl:n-1<w.length:=by omega
   have e0:wr .i64 ((n:Int)-1)=((n-1:Nat):Int):=by rw[Be (by simp only[inI];omega)];omega
   have e1:decide ((0:Int)<(n:Int))=true:=Ze1 (by omega);have e2:inO ((n-1:Nat):Int) (n:Int)=true:=by simp only[inO,Zb1,Zg1];omega
   have e3:upI 0 ((n-1:Nat):Int) (n:Int)=true:=by simp only[upI,Zb1,Zg1];omega
   simp only[Oa,e1,Ah,e0,e2,chk,Int.zero_add,Au hl,Aq (c :=.byte) hl,e3];have q:decide (((w[n-1]).toNat:Int)=255)=decide (w[n-1]=255):=Byn 255;rw[q];by_cases hc:w[n-1]=255
   ·rw[Ze1 hc,Ah];refine Ak3 hw h k (n-1) (by omega) (by omega) (A5i hl ?_ hc);rw[show n-1+1=n by omega];exact hd
   ·rw[Zd1 hc,Af];exact h n hn hd λ_ _=>hc
  ·have h00:n=0:=by omega
   subst h00;have e1:decide ((0:Int)<((0:Nat):Int))=false:=rfl;simp only[Oa,e1,Af];exact h 0 hn hd λ_ h=>absurd h (by omega)
theorem Bx0{w:Str}{m:Nat}(hm:m<=w.length)(hd:w.drop m=List.replicate (w.length-m) 255)(h0 : 0<m)(hc:w[m-1]≠255):nxt w=w.take (m-1)++[w[m-1]+1]:=by
 have e:w=w.take (m-1)++w[m-1]::List.replicate (w.length-m) 255:=by
  rw[<-hd]
  conv=>lhs;rw[<-List.take_append_drop (m-1) w]
  rw[Ay (show m-1<w.length by omega),show m-1+1=m by omega]
 rw[<-A3b hc (w.length-m) (w.take (m-1)),<-e]
theorem Bka{w:Str}(hd:w.drop 0=List.replicate (w.length-0) 255):nxt w=[]:=by rw[Zq1] at hd;rw[hd];exact Axq _
theorem Biw(b:UInt8):UInt8.ofNat (wr .u8 ((b.toNat:Int)+1)).toNat=b+1:=by
 have:wr .u8 ((b.toNat:Int)+1)=(((b.toNat+1) % 256:Nat):Int):=by simp[wr,IntKind.wrap,IntKind.bits,IntKind.signed]
 rw[this,Int.toNat_natCast];apply UInt8.toNat_inj.1;simp
theorem Bt1{w:Str}{m:Nat}{c:UInt8}(h0 : 0<m)(hm:m<=w.length):cut (w.set (m-1) c) 0 (m:Int)=w.take (m-1)++[c]:=by
 simp only[cut,Int.toNat_zero,Zq1,Int.toNat_natCast,Nat.sub_zero];rw[List.take_set];have:w.take m=w.take (m-1)++[w[m-1]]:=by
  conv=>lhs;rw[show m=(m-1)+1 by omega]
  exact(List.take_append_getElem _).symm
 have hl:(w.take (m-1)).length=m-1:=by rw[List.length_take];omega
 rw[this,List.set_append_right (h:=by omega),hl,Nat.sub_self];rfl
theorem Brp:FO 199 [.sl .byte false] [.sl .byte false] Awf :=.fin 0 Bhl λb r hb hx=>⟨b.length+1,by
 simp only[Awf,Bxg] at hx;cases hc:decide (b.length<=1000000) with
 |false=>rw[hc] at hx;cases hx
 |true =>
  rw[hc] at hx;have hl:=of_decide_eq_true hc;have hx:some (nxt b)=some r:=hx;rw[<-hx];have e1:Aw1 b=some b:=by simp only[Aw1];rw[Ze1 hl];rfl
  simp only[Ao8,e1,Zc1];by_cases hb0:b=[]
  ·subst hb0;rfl
  ·have e2:List.isEmpty b=false:=by cases b with|nil=>exact absurd rfl hb0|cons _ _=>rfl
   rw[e2,Af];refine Ak3 (c:=some (nxt b)) hl (λm hm hd hcc =>?_) (b.length+1) b.length (Zn1 _) (by omega) (by simp);by_cases h0 : 0<m
   ·have hml:m-1<b.length:=by omega
    have f0:wr .i64 ((m:Int)-1)=((m-1:Nat):Int):=by rw[Be (by simp only[inI];omega)];omega
    have f1:decide ((0:Int)<(m:Int))=true:=Ze1 (by omega);have f2:inO ((m-1:Nat):Int) (m:Int)=true:=by simp only[inO,Zb1,Zg1];omega
    have f3:∀x:UInt8,(decide ((0:Int)<=0)&&decide ((0:Int)<=(m:Int))&&decide ((m:Int)<=(((b.set (m-1) x).length:Nat):Int)))=true:=λx=>by simp only[List.length_set,Zb1,Zg1];omega
    simp only[f1,Ah,f0,f2,chk,Int.zero_add,Au hml,Aq (c :=.byte) hml,Int.toNat_natCast,f3,Biw];rw[Bt1 h0 hm,Bx0 hm hd h0 (hcc hml h0)]
   ·have hm0:m=0:=by omega
    subst hm0;have f1:decide ((0:Int)<((0:Nat):Int))=false:=rfl;have f3:(decide ((0:Int)<=0)&&decide ((0:Int)<=((0:Nat):Int))&&decide ((0:Int)+((0:Nat):Int)<=((b.length:Nat):Int)))=true:=by simp
    simp only[f1,Af,f3,chk,Ah];rw[Bka hd];simp[cut]⟩
end Go.Proofs.YtblaahgjaopdnaaGreatDoor
namespace Go.Proofs.YtblaahgjaopdnaaGreatDoor.Lp
open Go.Sx Go.RowKit
abbrev Tok:=Go.Ax.Tok
def pre(l m:List UInt8):Bool:=decide (m.length<=l.length)&&decide (l.take m.length=m)
def inI(n:Int):Prop := -9223372036854775808<=n/\n<=9223372036854775807
instance (n:Int):Decidable (inI n):=by unfold inI;infer_instance
def vis(c:Int):Bool:=decide (32<=c)&&decide (c<=126)
def visF(l:List UInt8):Bool:=l.all λb=>vis b.toNat
def rightF(k n:Int)(s:List UInt8):Bool :=
 if k=1 then n == 0&&decide (s=[]) else if k=2 then(n == 0||n == 1)&&decide (s=[]) else if k=3 then decide (s=[])
 else if k=4 then n == 0&&decide ((s.length:Int)<=1000)&&visF s else if k=5 then n == 0&&decide ((s.length:Int)<=1000) else false
def isUp(c:Int):Bool:=decide (65<=c)&&decide (c<=90)
def isLo(c:Int):Bool:=decide (97<=c)&&decide (c<=122)
def isDi(c:Int):Bool:=decide (48<=c)&&decide (c<=57)
def isIn(c:Int):Bool:=isLo c||isDi c||c == 95
def runTo(p:Int->Bool)(l:List UInt8)(i:Int):Int:=i+((l.drop i.toNat).takeWhile λb=>p b.toNat).length
theorem Hq(l:List UInt8)(j:Int)(h : 0<=j/\j<l.length):l.drop j.toNat=l.getD j.toNat 0::l.drop (j+1).toNat:=by
 have h1:j.toNat<l.length:=by omega
 have h2:(j+1).toNat=j.toNat+1:=by omega
 rw[h2,List.drop_eq_getElem_cons h1];simp[ h1]
theorem runTo_yes{p:Int->Bool}{l:List UInt8}{j:Int}(h : 0<=j/\j<l.length)(hp:p (byt l j)=true):runTo p l (j+1)=runTo p l j:=by unfold runTo;rw[Hq l j h];have:p ((l.getD j.toNat 0).toNat:Int)=true:=hp;simp only[List.takeWhile_cons,this,if_true,Zf1];omega
theorem runTo_no{p:Int->Bool}{l:List UInt8}{j:Int}(h : 0<=j/\j<l.length)(hp:p (byt l j)=false):runTo p l j=j:=by unfold runTo;rw[Hq l j h];have:p ((l.getD j.toNat 0).toNat:Int)=false:=hp;simp only[List.takeWhile_cons,this,Zj2,if_false,Zi1];omega
theorem runTo_end{p:Int->Bool}{l:List UInt8}{j:Int}(h:(l.length:Int)<=j):runTo p l j=j:=by unfold runTo;rw[Zk1 (by omega)];simp
def aloneF(l:List UInt8)(i:Int):Bool:=i == l.length || !isIn (byt l i) && !isUp (byt l i)
def dg(c:Int):Int:=IntKind.i64.wrap (IntKind.u8.wrap (c-48))
theorem B0c(c:Int) : 0<=dg c/\dg c<=255:=by
 have e1:IntKind.u8.wrap (c-48)=(c-48) % 256:=by simp[IntKind.wrap,IntKind.bits,IntKind.signed]
 unfold dg;rw[e1,IntWalk.i64_in _ (by omega)];omega
def numGo:List UInt8->Int->Option Int
 |[],n=>some n
 |c::r,n=>if inI (n*10)/\inI (n*10+dg c.toNat) then numGo r (n*10+dg c.toNat) else none
theorem inI_dg(c:Int):inI (dg c):=by have:=B0c c;unfold inI;omega
def qGo:List UInt8->List UInt8->Int->List UInt8×Int
 |[],_,_=>([], -1)
 |[c],acc,i=>if c=39 then(acc,i+1) else([], -1)
 |c::d::r,acc,i=>if c=39 then(if d=39 then qGo r (acc++[39]) (i+2) else(acc,i+1)) else qGo (d::r) (acc++[c]) (i+1)
theorem U1{l:List UInt8}{j:Int}{c:UInt8}:byt l j=(c.toNat:Int)↔l.getD j.toNat 0=c:=by unfold byt;rw[<-UInt8.toNat_inj];omega
theorem q_end{l acc:List UInt8}{j:Int}(h:(l.length:Int)<=j):qGo (l.drop j.toNat) acc j=([], -1):=by rw[Zk1 (by omega)];rfl
theorem q_last{l acc:List UInt8}{j:Int}(h : 0<=j)(hl:j+1=l.length)(hc:byt l j=39):qGo (l.drop j.toNat) acc j=(acc,j+1):=by rw[Hq l j (by omega),(U1 (c:=39)).1 hc,Zk1 (by omega)];rfl
theorem q_close{l acc:List UInt8}{j:Int}(h : 0<=j)(hl:j+1<l.length)(hc:byt l j=39)(hd:byt l (j+1)≠39):qGo (l.drop j.toNat) acc j=(acc,j+1):=by have hd':¬l.getD (j+1).toNat 0=39:=λhh=>hd ((U1 (c:=39)).2 hh);rw[Hq l j (by omega),(U1 (c:=39)).1 hc,Hq l (j+1) (by omega)];simp only[qGo,if_true,if_neg hd']
theorem q_two{l acc:List UInt8}{j:Int}(h : 0<=j)(hl:j+1<l.length)(hc:byt l j=39)(hd:byt l (j+1)=39):qGo (l.drop j.toNat) acc j=qGo (l.drop (j+1+1).toNat) (acc++[39]) (j+1+1):=by rw[Hq l j (by omega),(U1 (c:=39)).1 hc,Hq l (j+1) (by omega),(U1 (c:=39)).1 hd];simp[qGo];rw[show j+2=j+1+1 by omega]
theorem q_other{l acc:List UInt8}{j:Int}(h : 0<=j)(hl:j<l.length)(hc:¬byt l j=39):qGo (l.drop j.toNat) acc j=qGo (l.drop (j+1).toNat) (acc++[l.getD j.toNat 0]) (j+1):=by have hc':¬l.getD j.toNat 0=39:=λhh=>hc ((U1 (c:=39)).2 hh);rw[Hq l j (by omega)];cases hd:l.drop (j+1).toNat with|nil=>simp only[qGo,if_neg hc']|cons d r=>simp only[qGo,if_neg hc']
def hexD(c:Int):Option Int:=if 48<=c/\c<=57 then some (c-48) else if 97<=c/\c<=102 then some (c-87) else none
theorem hexD_lt{c n:Int}(h:hexD c=some n) : 0<=n/\n<=15:=by
 unfold hexD at h;split at h
 ·cases h;omega
 ·grind
def unGo:List UInt8->List UInt8->Option (List UInt8)
 |[],acc=>some acc
 |[_],_=>none
 |a::b::r,acc=>match hexD a.toNat,hexD b.toNat with|some x,some y=>unGo r (acc++[UInt8.ofNat (x*16+y).toNat])|_,_=>none
theorem Bta:∀a b:Fin 16,IntKind.u8.wrap (((BitVec.ofInt IntKind.u8.bits (IntKind.u8.wrap ((a.val:Int)*2 ^ min (4:Int).toNat IntKind.u8.bits)) ||| BitVec.ofInt IntKind.u8.bits (b.val:Int)).toNat:Nat):Int)=((a.val*16+b.val:Nat):Int):=by decide +kernel
theorem joinhex'{x y:Int}(hx : 0<=x/\x<=15)(hy : 0<=y/\y<=15):IntKind.u8.wrap (((BitVec.ofInt IntKind.u8.bits (IntKind.u8.wrap (x*2 ^ min (4:Int).toNat IntKind.u8.bits)) ||| BitVec.ofInt IntKind.u8.bits y).toNat:Nat):Int)=((UInt8.ofNat (x*16+y).toNat).toNat:Int):=by obtain⟨a,rfl⟩:=Int.eq_ofNat_of_zero_le hx.1;obtain⟨b,rfl⟩:=Int.eq_ofNat_of_zero_le hy.1;have:=Bta ⟨a,by omega⟩ ⟨b,by omega⟩;simp only at this;rw[this];rw[show((a:Int)*16+(b:Int)).toNat=a*16+b by omega,UInt8.toNat_ofNat'];omega
theorem un_step{l acc:List UInt8}{j:Int}(h : 0<=j)(hl:j+1<l.length):unGo (l.drop j.toNat) acc=match hexD (byt l j),hexD (byt l (j+1)) with
  |some x,some y=>unGo (l.drop (j+2).toNat) (acc++[UInt8.ofNat (x*16+y).toNat])
  |_,_=>none:=by
 rw[Hq l j (by omega),Hq l (j+1) (by omega),show j+1+1=j+2 by omega];rfl
def signs:List UInt8:=[40,41,44,42,61,60,62,43,45,59]
def signF(l:List UInt8):Int:=if pre l [60,62]||pre l [60,61]||pre l [62,61] then 2 else if 0<=Lib.indexByte signs (byt l 0).toNat.toUInt8 then 1 else 0
def idx(x:List UInt8):List (List UInt8)->Int->Int
 |[],_ => -1
 |l::r,i=>if x=l then i else idx x r (i+1)
theorem idx_ge(x:List UInt8):∀(ls:List (List UInt8)) (i:Int),0<=i->(0<=idx x ls i↔x∈ls)
 |[],i,_=>by simp[idx]
 |l::r,i,h=>by
  by_cases hx:x=l
  ·simp[idx,hx,h]
  ·simp[idx,hx,idx_ge x r (i+1) (by omega)]
def wordF(l:List UInt8):Bool:=wordsL.contains l
def nameF(l:List UInt8):Bool := !decide (l=[])&&decide ((l.length:Int)<=30)&&isLo (byt l 0)&&(runTo isIn l 0 == l.length)
def tokF(l:List UInt8)(i:Int):Option (Int×List UInt8×Int×Int) :=
 if pre (l.drop i.toNat) [120,39] then
  let n:=Lib.indexByte (l.drop (i+2).toNat) 39
  if n<0 then none else
  let x:=cut l (i+2) (i+2+n);match(if x.length % 2=0 then unGo x [] else none) with|none=>none|some b=>if 1000<(b.length:Int) then none else some (5,b,0,i+3+n)
 else if isUp (byt l i) then
  if wordF (cut l i (runTo isUp l i))&&aloneF l (runTo isUp l i) then some (1,cut l i (runTo isUp l i),0,runTo isUp l i) else none
 else if isLo (byt l i) then
  if nameF (cut l i (runTo isIn l i))&&aloneF l (runTo isIn l i) then some (2,cut l i (runTo isIn l i),0,runTo isIn l i) else none
 else if isDi (byt l i) then
  match numGo (cut l i (runTo isDi l i)) 0 with|none=>none|some n=>if(decide (cut l i (runTo isDi l i)=[48])||byt (cut l i (runTo isDi l i)) 0 != 48)&&aloneF l (runTo isDi l i) then some (3,cut l i (runTo isDi l i),n,runTo isDi l i) else none
 else if byt l i=39 then
  let q:=qGo (l.drop (i+1).toNat) [] (i+1)
  if rightF 4 0 q.1 then(if q.2<0 then none else some (4,q.1,0,q.2)) else none
 else if signF (l.drop i.toNat)=0 then none else some (6,cut l i (i+signF (l.drop i.toNat)),0,i+signF (l.drop i.toNat))
theorem runTo_range(p:Int->Bool)(l:List UInt8)(i:Int)(h : 0<=i/\i<=l.length):i<=runTo p l i/\runTo p l i<=l.length:=by unfold runTo;have h1:=(List.takeWhile_prefix (λb:UInt8=>p b.toNat) (l:=l.drop i.toNat)).length_le;rw[Za2] at h1;omega
theorem runTo_gt{p:Int->Bool}{l:List UInt8}{i:Int}(h : 0<=i/\i<l.length)(hp:p (byt l i)=true):i+1<=runTo p l i:=by have h1:=runTo_yes h hp;have h2:=runTo_range p l (i+1) (by omega);omega
theorem cut_length(l:List UInt8)(a b:Int)(h : 0<=a/\a<=b/\b<=l.length):((cut l a b).length:Int)=b-a:=by unfold cut;rw[List.length_take,Za2];omega
theorem signF_in(l:List UInt8)(h : 0<l.length):signF l=0\/signF l=1\/(signF l=2/\2<=l.length):=by
 unfold signF;split
 ·rename_i hp;right;right;refine⟨rfl,?_⟩;simp[pre] at hp;omega
 ·grind
theorem qGo_in:∀(n:Nat) (l acc:List UInt8) (i:Int),l.length<=n->0<=i->(qGo l acc i).2 = -1\/(i+1<=(qGo l acc i).2/\(qGo l acc i).2<=i+l.length)
 |n,[],acc,i,_,h=>by left;rfl
 |n,[c],acc,i,_,h=>by
  simp[qGo];split
  ·right;simp
  ·left;rfl
 |0,_::_::_,_,_,hn,_=>by simp at hn
 |n+1,c::d::r,acc,i,hn,h=>by
  simp at hn ⊢;simp[qGo];split
  ·split
   ·rcases qGo_in n r (acc++[39]) (i+2) (by omega) (by omega) with h1|h1
    ·exact .inl h1
    ·right;omega
   ·right;simp;omega
  ·rcases qGo_in n (d::r) (acc++[c]) (i+1) (by simp;omega) (by omega) with h1|h1
   ·exact .inl h1
   ·right;simp at h1;omega
theorem indexByte_in:∀(l:List UInt8) (c:UInt8),Lib.indexByte l c = -1\/(0<=Lib.indexByte l c/\Lib.indexByte l c<l.length)
 |[],c =>.inl rfl
 |b::l,c=>by
  simp only[Lib.indexByte,Zf1];split
  ·right;omega
  ·rcases indexByte_in l c with h|h
   ·left;simp[h]
   ·right;have:¬((Lib.indexByte l c == -1)=true):=by simp;omega
    rw[if_neg this];omega
def blankF(c:Int):Bool:=decide (0<=Lib.indexByte [32,9,10,13] c.toNat.toUInt8)
def allGo:Nat->List UInt8->Int->List Tok->Except Int (List Tok)
 |0,_,_,acc =>.ok acc
 |f+1,l,i,acc =>
  if(l.length:Int)<=i then .ok acc
  else if blankF (byt l i) then allGo f l (i+1) acc
  else match tokF l i with|none =>.error i|some (k,s,n,e)=>allGo f l e (acc++[⟨k,i,s,n⟩])
def allF(l:List UInt8):Except Int (List Tok):=allGo (l.length+1) l 0 []
theorem tok_end{l:List UInt8}{i:Int}(h0 : 0<=i/\i<l.length){k:Int}{s:List UInt8}{n e:Int}(h:tokF l i=some (k,s,n,e)):i<e/\e<=l.length:=by
 unfold tokF at h;split at h
 ·rename_i hx;have hdl:(l.drop i.toNat).length=l.length-i.toNat:=Za2;have h2 : 2<=(l.drop i.toNat).length:=by simp[pre] at hx;omega
  have hdl2:(l.drop (i+2).toNat).length=l.length-(i+2).toNat:=Za2;have hib:=indexByte_in (l.drop (i+2).toNat) 39;simp only at h;split at h
  ·cases h
  ·split at h
   ·cases h
   ·split at h
    ·cases h
    ·cases h;omega
 ·split at h
  ·rename_i hu;have hr:=runTo_range isUp l i (by omega);have hg:=runTo_gt h0 hu;split at h
   ·cases h;omega
   ·cases h
  ·split at h
   ·rename_i hlo;have hr:=runTo_range isIn l i (by omega);have hg:=runTo_gt (p:=isIn) h0 (by simp[isIn,hlo]);split at h
    ·cases h;omega
    ·cases h
   ·split at h
    ·rename_i hd;have hr:=runTo_range isDi l i (by omega);have hg:=runTo_gt h0 hd;split at h
     ·cases h
     ·split at h
      ·cases h;omega
      ·cases h
    ·split at h
     ·have hqi:=qGo_in _ (l.drop (i+1).toNat) [] (i+1) (Zn1 _) (by omega);have hdl:(l.drop (i+1).toNat).length=l.length-(i+1).toNat:=Za2;simp only at h;split at h
      ·split at h
       ·cases h
       ·cases h;omega
      ·cases h
     ·split at h
      ·cases h
      ·have hdl:(l.drop i.toNat).length=l.length-i.toNat:=Za2;have hs:=signF_in (l.drop i.toNat) (by omega);cases h;omega
end Go.Proofs.YtblaahgjaopdnaaGreatDoor.Lp
namespace Go.Ax
theorem FnOk.ofIs{P:Program}{el:Ck->TypeId}{gl:Nat->Option Gv}{f:FuncId}{sa sr:List Sg}{F:FT sa sr}(he:Sx.Enters P f)(ho:Bd 0 sr=[])(h:∀x r,F x=some r->∃(us:List Value) (v:Value),(∀X vs,Reps X (B0 0 sa x) vs->vs=us)/\Sx.Con P f us [] (λ_=>True) (Sx.Is v)/\∀X,BdL sa x->Rep X (Eo (B0 0 sr r)) v):FnOk P el gl f sa sr F:=by
 refine⟨he,λx r hx w M vs hM hgl hr =>?_⟩;obtain⟨us,v,h1,h2,h3⟩:=h x r hx;obtain rfl:=h1 _ _ hr;refine(h2.calls w (λ_ _=>trivial)).mono ?_;rintro en w' ⟨u,L',F',rfl,⟨rfl,_,_⟩,_,hb⟩;refine⟨u,⟨λ_=>0,λ_=>Option.none⟩,rfl,Chg.of_below hb,λp g o hp =>?_,λp q g o o' hp =>?_,h3 _ (Aa5 hr)⟩
 ·rw[ho] at hp;cases hp
 ·rw[ho] at hp;cases hp
end Go.Ax
namespace Go.Proofs.YtblaahgjaopdnaaGreatDoor
open Go.Ax
open Go.Sx (Con S Is Bg Bnt)
theorem A0b(a b:Str)(w:World):(callFunc 351 #[S a,S b]).run Tryz.prog w = .ok (.value (.int .i64 (Lib.compareBytes a b))) w:=by rw[run_callFunc_extern Tryz.func351 (by kernel_rfl) rfl (by kernel_rfl) (e:=Extern.BytealgCompare.compare) (by kernel_rfl)];simp[Lib.run_compareString]
set_option maxRecDepth 20000 in
open Go.Sx in
theorem Aha(a b:Str):Con Tryz.prog 320 [S a,S b] [] (λ_=>True) (Is (.int .i64 (Lib.compareBytes a b))):=by
 refine Bg Tryz.func320 Tryz.ntmps320 rfl (by kernel_rfl) rfl λw M =>?_
 repeat' (first|refine Dd ?_|refine Bf ?_|refine B5 ?_|refine B4 ?_|refine n_blk ?_|refine g_block ?_|refine Dk ?_|refine g_exit ?_|refine x_here ?_|refine x_seq ?_|refine x_loop ?_|refine x_blk rfl ?_|refine g_scope ?_|refine n_scope ?_|refine x_scope ?_|refine g_label ?_|(apply As rfl rfl;(first|exact p_move rfl|exact p_assign rfl|exact p_lens (by dsimp only;decide +kernel) rfl|exact p_lensl (by dsimp only;decide +kernel) rfl|exact p_extract rfl rfl|exact p_pick_t rfl rfl|exact p_pick_f rfl rfl|exact p_eql rfl rfl|exact p_neq rfl rfl|exact p_lss rfl rfl|exact p_leq rfl rfl|exact p_gtr rfl rfl|exact p_geq rfl rfl|exact p_not rfl|exact p_eqls rfl rfl|exact p_neqs rfl rfl|exact Abu rfl rfl (by omega)|exact Iw rfl rfl (by omega)|exact p_index (by dsimp only;decide +kernel) rfl rfl (by omega)|exact p_cut (by dsimp only;decide +kernel) rfl rfl rfl (by omega)|exact p_cutlo (by dsimp only;decide +kernel) rfl rfl (by omega)|exact p_cuthi (by dsimp only;decide +kernel) rfl rfl (by omega)|exact p_fa (fo:=0) (by dsimp only;decide +kernel) rfl|exact p_fa (fo:=1) (by dsimp only;decide +kernel) rfl|exact p_fa (fo:=2) (by dsimp only;decide +kernel) rfl|exact p_fa (fo:=3) (by dsimp only;decide +kernel) rfl|exact p_nil rfl))|refine o_off rfl rfl ?_|refine o_off_none rfl ?_|(apply As rfl rfl (Bbw rfl rfl (A0b _ _)))|(refine o_gsd rfl rfl ?_ ?_<;>intro hc)|(refine o_gse rfl rfl ?_ ?_<;>intro hc)|(refine o_gsn rfl rfl ?_ ?_<;>intro hc)|(refine o_gsxd rfl rfl ?_ ?_<;>intro hc)|(refine o_gsx rfl rfl ?_ ?_<;>intro hc)|(refine o_gs rfl rfl ?_ ?_<;>intro hc)|refine g_cond_t rfl rfl ?_|refine g_cond_f rfl rfl ?_|refine g_cond_t rfl (Ze1 (by omega)) ?_|refine g_cond_f rfl (Zd1 (by omega)) ?_|(refine Hu rfl ?_ ?_<;>intro hc)|(refine g_conde rfl ?_ ?_<;>intro hc)|(refine g_condn rfl ?_ ?_<;>intro hc)|(refine g_condxd rfl ?_ ?_<;>intro hc)|(refine g_condx rfl ?_ ?_<;>intro hc)|(refine Fg rfl ?_ ?_<;>intro hc)|refine Bz rfl rfl ?_|refine g_ret2 rfl rfl rfl ?_|refine g_ret3 rfl rfl rfl rfl ?_|fail)
 exact Bnt rfl
def Zq(a b:Str):Int:=Lib.compareBytes a b
def A6p:FT [.str,.str] [.int .i64]:=λx=>some (Zq x.1 x.2)
theorem Akk:∀(a b:Str),Zq a b = -1\/Zq a b=0\/Zq a b=1
 |[],[]=>by simp[Zq,Lib.compareBytes]
 |[],_::_=>by simp[Zq,Lib.compareBytes]
 |_::_,[]=>by simp[Zq,Lib.compareBytes]
 |a::l,b::m=>by
  have ih:=Akk l m;simp only[Zq,Lib.compareBytes] at ih ⊢;split
  ·simp
  ·grind
theorem Buh:FO 320 [.str,.str] [.int .i64] A6p:=by
 refine FnOk.ofIs (Aha [] []).enters rfl λx r hx =>?_;obtain⟨a,b⟩:=x;simp only[A6p,Za1] at hx;subst hx;refine⟨[S a,S b],_,λX vs h =>?_,Aha a b,λX hb =>?_⟩
 ·simp only[B0,Cj,Reps,Rep] at h;obtain⟨u,us,rfl,⟨rfl,_⟩,u2,us2,rfl,⟨rfl,_⟩,rfl⟩:=h;rfl
 ·simp only[Eo,B0,Cj];have h:=Akk a b;refine C0 (Auw ?_);simp only[IntKind.min,IntKind.max,IntKind.signed,IntKind.bits];simp only[if_true];omega
end Go.Proofs.YtblaahgjaopdnaaGreatDoor
namespace Go.Proofs.YtblaahgjaopdnaaGreatDoor
open Go.Ax
def Aay:Sig:=⟨20,[(0,.str),(2,.bool),(5,.int .i64),(6,.int .i64)],[],[],0,0,0,[],[]⟩
abbrev Ko:=Str×Bool×Int×Int
def I9{R:Type}(rec:Ko->Option R)(kx:Ex->Ko->Option R)(v:Ko):Option R:=match v with
 |(v,v1,v2,v3) =>
 cond (decide (v3<v2)) (
  chk (inb v3 v.length) (
  cond (decide ((bat v v3)<32)) (
   kx .ret (v,false,v2,v3)) (
   chk (inb v3 v.length) (
   cond (decide (126<(bat v v3))) (
    kx .ret (v,false,v2,v3)) (
    rec (v,v1,v2,(wr .i64 (v3+1)))))))) (
  kx (.exit 0) (v,v1,v2,v3))
def Ao9(R:Type)(k:Nat):Px R:=pxO [] [] [(2,Al k Aay (I9))] []
def Avy(k:Nat)(x:HV [.str]):Option (HV [.bool]):=match x with
 |s =>
 Aj (λrec=>I9 rec (λe vz=>match vz with|(_,v5,_,_)=>match e with
  |.ret =>
  some v5
  |.exit 0 =>
  some true
  |_=>none)) k (s,false,(s.length:Int),0)
theorem Ay5(k:Nat):FO 163 [.str] [.bool] (Avy k):=fR (px:=Ao9 _ k) (n:=1) Tryz.func163 rfl (λcx H=>by have h0:Lv cx (Ao9 (HV [.bool]) k):=lv H Ae Aa Ab;have hlvisible_0:=lO H h0 (b:=lp Tryz.f163 0) (k:=k) (n:=0) (s:=Aay) (step:=I9) (λ_ _ _ (_,_,_,_)=>by kernel_rfl) Ai;exact⟨h0,(A2 Ai hlvisible_0)⟩) λ_=>by kernel_rfl
def vis(b:UInt8):Bool:=decide (32<=b.toNat)&&decide (b.toNat<=126)
def Hs(s:Str):Bool:=s.all vis
def Ady:FT [.str] [.bool]:=λx=>some (Hs x)
theorem Zy{R:Type}{kx:Ex->Ko->Option R}{s:Str}{a b:Option R}(hs:ln s.length)(h1:∀r j,kx .ret (s,false,r,j)=a)(h2:∀q r j,kx (.exit 0) (s,q,r,j)=b):∀(k i:Nat) q,i<=s.length->s.length-i<k->Aj (λrec=>I9 rec kx) k (s,q,(s.length:Int),(i:Int))=cond ((s.drop i).all vis) b a
 |0,i,q,_,h=>by omega
 |k+1,i,q,hi,h=>by
  rw[A0];by_cases hl:i<s.length
  ·simp only[I9,Ao hl hs,(Zy hs h1 h2 k (i+1) q (by omega) (by omega)),h1,Ay hl,C1 hl,Au hl,Zv1,Bool.cond_decide];rw[if_pos (by omega)];simp only[vis];split
   ·rw[Zd1 (by omega)];rfl
   ·split
    ·rw[Ze1 (by omega),Zd1 (by omega)];rfl
    ·rw[Ze1 (by omega),Ze1 (by omega)];rfl
  ·simp[I9,h2,Bool.cond_decide];rw[if_neg (by omega),Zk1 (by omega)];rfl
theorem A5o:FO 163 [.str] [.bool] Ady :=.fin 0 Ay5 λx r hb hx=>⟨x.length+1,by simp only[Ady,Za1] at hx;have:=Zy (a:=some false) (b:=some true) hb (kx:=λe v=>match v with|(_,v5,_,_)=>match e with|.ret=>some v5|.exit 0=>some true|_=>none) (λ_ _=>rfl) (λ_ _ _=>rfl) (x.length+1) 0 false (Nat.zero_le _) (by omega);refine Eq.trans this ?_;rw[<-hx,Zq1,Hs];cases x.all vis<;>rfl⟩
def Bgq(R:Type):Px R:=pxO [(163,cA Ady)] [] [] []
def Sw(x:HV [.sv .val]):Option (HV [.bool]):=match x with
 |v =>
 cond (decide (v.kind=1)) (
  cond (decide (v.n=0)) (
  some (decide (v.s=[]))) (
  some false)) (
  cond (decide (v.kind=2)) (
  cond (decide (v.n=0)) (
   some (decide (v.s=[]))) (
   cond (decide (v.n=1)) (
   some (decide (v.s=[]))) (
   some false))) (
  cond (decide (v.kind=3)) (
   some (decide (v.s=[]))) (
   cond (decide (v.kind=4)) (
   cond (decide (v.n=0)) (
    cond (decide ((v.s.length:Int)<=1000)) (
    some (Hs v.s)) (
    some false)) (
    some false)) (
   cond (decide (v.kind=5)) (
    cond (decide (v.n=0)) (
    some (decide ((v.s.length:Int)<=1000))) (
    some false)) (
    some false)))))
theorem A5u:FO 101 [.sv .val] [.bool] (Sw):=fR (px:=Bgq _) (n:=0) Tryz.func101 rfl (λ_ H=>⟨lv H (c1 H A5o Ae) Aa Ab,Ai⟩) λ_=>by kernel_rfl
def A7(v:Val):Bool :=
 cond (decide (v.kind=1)) (
  cond (decide (v.n=0)) (
  (decide (v.s=[]))) (
  false)) (
  cond (decide (v.kind=2)) (
  cond (decide (v.n=0)) (
   (decide (v.s=[]))) (
   cond (decide (v.n=1)) (
   (decide (v.s=[]))) (
   false))) (
  cond (decide (v.kind=3)) (
   (decide (v.s=[]))) (
   cond (decide (v.kind=4)) (
   cond (decide (v.n=0)) (
    cond (decide ((v.s.length:Int)<=1000)) (
    (Hs v.s)) (
    false)) (
    false)) (
   cond (decide (v.kind=5)) (
    cond (decide (v.n=0)) (
    (decide ((v.s.length:Int)<=1000))) (
    false)) (
    false)))))
theorem A5j(x:HV [.sv .val]):Sw x=some (A7 x):=by
 first
  |exact rfl
  |simp only[Sw,A7,A4]
def Aa0:FT [.sv .val] [.bool]:=λx=>some (A7 x)
theorem Aeu:FO 101 [.sv .val] [.bool] Aa0 :=.fin0 A5u λx _ _ hx=>(A5j x).trans hx
def Bee(R:Type):Px R:=pxO [(101,cA Aa0)] [] [] []
def R0(x:HV [.sv .val]):Option (HV [.int .i64]):=match x with
 |v =>
 cond (!(A7 v)) (
  some 2) (
  some 0)
theorem A6e:FO 59 [.sv .val] [.int .i64] (R0):=fR (px:=Bee _) (n:=0) Tryz.func59 rfl (λ_ H=>⟨lv H (c1 H Aeu Ae) Aa Ab,Ai⟩) λ_=>by kernel_rfl
def Fa(v:Val):Int :=
 cond (!(A7 v)) (
  2) (
  0)
theorem A6y(x:HV [.sv .val]):R0 x=some (Fa x):=by
 first
  |exact rfl
  |simp only[R0,Fa,A4]
def Nr:FT [.sv .val] [.int .i64]:=λx=>some (Fa x)
theorem Mh:FO 59 [.sv .val] [.int .i64] Nr :=.fin0 A6e λx _ _ hx=>(A6y x).trans hx
def Bow(R:Type):Px R:=pxO [(101,cA Aa0)] [] [] []
def Yt(x:HV [.sv .val,.int .i64]):Option (HV [.bool]):=match x with
 |(v,kind) =>
 cond ((A7 v)) (
  cond (decide (v.kind=1)) (
  some true) (
  some (decide (v.kind=kind)))) (
  some false)
theorem Bjb:FO 307 [.sv .val,.int .i64] [.bool] (Yt):=fR (px:=Bow _) (n:=0) Tryz.func307 rfl (λ_ H=>⟨lv H (c1 H Aeu Ae) Aa Ab,Ai⟩) λ(_,_)=>by kernel_rfl
def Ba3(v:Val)(kind:Int):Bool :=
 cond ((A7 v)) (
  cond (decide (v.kind=1)) (
  true) (
  (decide (v.kind=kind)))) (
  false)
theorem Bev(x:HV [.sv .val,.int .i64]):Yt x=some (Ba3 x.1 x.2):=by
 first
  |exact rfl
  |simp only[Yt,Ba3,A4]
def Bdd:FT [.sv .val,.int .i64] [.bool]:=λx=>some (Ba3 x.1 x.2)
theorem Bli:FO 307 [.sv .val,.int .i64] [.bool] Bdd :=.fin0 Bjb λx _ _ hx=>(Bev x).trans hx
def Bql(R:Type):Px R:=pxO [] [] [] []
def W5(x:HV [.int .i64,.int .i64]):Option (HV [.int .i64]):=match x with
 |(a,b) =>
 cond (decide (a<b)) (
  some (-1)) (
  cond (decide (b<a)) (
  some 1) (
  some 0))
theorem Biy:FO 273 [.int .i64,.int .i64] [.int .i64] (W5):=fR (px:=Bql _) (n:=0) Tryz.func273 rfl (λ_ H=>⟨lv H Ae Aa Ab,Ai⟩) λ(_,_)=>by kernel_rfl
def Ip(a:Int)(b:Int):Int :=
 cond (decide (a<b)) (
  (-1)) (
  cond (decide (b<a)) (
  1) (
  0))
theorem Bio(x:HV [.int .i64,.int .i64]):W5 x=some (Ip x.1 x.2):=by
 first
  |exact rfl
  |simp only[W5,Ip,A4]
def Baz:FT [.int .i64,.int .i64] [.int .i64]:=λx=>some (Ip x.1 x.2)
theorem Bo2:FO 273 [.int .i64,.int .i64] [.int .i64] Baz :=.fin0 Biy λx _ _ hx=>(Bio x).trans hx
def Bvm(R:Type):Px R:=pxO [] [] [] []
def Ae8(x:HV [.int .i64,.int .i64]):Option (HV [.int .i64,.int .i64]):=match x with
 |(a,b) =>
 cond (!decide ((decide (a<(wr .i64 (a+b))))=(decide (0<b)))) (
  some (0,20)) (
  some ((wr .i64 (a+b)),0))
theorem Bmy:FO 232 [.int .i64,.int .i64] [.int .i64,.int .i64] (Ae8):=fR (px:=Bvm _) (n:=0) Tryz.func232 rfl (λ_ H=>⟨lv H Ae Aa Ab,Ai⟩) λ(_,_)=>by kernel_rfl
def A45(a:Int)(b:Int):Int×Int :=
 cond (!decide ((decide (a<(wr .i64 (a+b))))=(decide (0<b)))) (
  (0,20)) (
  ((wr .i64 (a+b)),0))
theorem Bp0(x:HV [.int .i64,.int .i64]):Ae8 x=some (A45 x.1 x.2):=by
 first
  |exact rfl
  |simp only[Ae8,A45,A4]
def Bkl:FT [.int .i64,.int .i64] [.int .i64,.int .i64]:=λx=>some (A45 x.1 x.2)
theorem Btf:FO 232 [.int .i64,.int .i64] [.int .i64,.int .i64] Bkl :=.fin0 Bmy λx _ _ hx=>(Bp0 x).trans hx
def Bpm(R:Type):Px R:=pxO [] [] [] []
def Zw(x:HV [.int .i64]):Option (HV [.int .u64]):=match x with
 |n =>
 cond (decide (n<0)) (
  some (wr .u64 (0-(wr .u64 n)))) (
  some (wr .u64 n))
theorem Bfy:FO 276 [.int .i64] [.int .u64] (Zw):=fR (px:=Bpm _) (n:=0) Tryz.func276 rfl (λ_ H=>⟨lv H Ae Aa Ab,Ai⟩) λ_=>by kernel_rfl
def Dt(n:Int):Int :=
 cond (decide (n<0)) (
  (wr .u64 (0-(wr .u64 n)))) (
  (wr .u64 n))
theorem Bfz(x:HV [.int .i64]):Zw x=some (Dt x):=by
 first
  |exact rfl
  |simp only[Zw,Dt,A4]
def Ax0:FT [.int .i64] [.int .u64]:=λx=>some (Dt x)
theorem A0m:FO 276 [.int .i64] [.int .u64] Ax0 :=.fin0 Bfy λx _ _ hx=>(Bfz x).trans hx
def Azq(R:Type):Px R:=pxO [(320,cA A6p)] [] [] []
def Ln(x:HV [.str,.str]):Option (HV [.int .i64]):=match x with
 |(a,b) =>
 some (Zq a b)
theorem Ax3:FO 274 [.str,.str] [.int .i64] (Ln):=fR (px:=Azq _) (n:=0) Tryz.func274 rfl (λ_ H=>⟨lv H (c1 H Buh Ae) Aa Ab,Ai⟩) λ(_,_)=>by kernel_rfl
def Jk(a:Str)(b:Str):Int :=(Zq a b)
theorem Ax4(x:HV [.str,.str]):Ln x=some (Jk x.1 x.2):=by
 first
  |exact rfl
  |simp only[Ln,Jk,A4]
def Yz:FT [.str,.str] [.int .i64]:=λx=>some (Jk x.1 x.2)
theorem Agt:FO 274 [.str,.str] [.int .i64] Yz :=.fin0 Ax3 λx _ _ hx=>(Ax4 x).trans hx
def Bun(R:Type):Px R:=pxO [(273,cA Baz),(274,cA Yz)] [] [] []
def Ae5(x:HV [.sv .val,.sv .val]):Option (HV [.int .i64]):=match x with
 |(a,b) =>
 cond (!decide ((Ip a.kind b.kind)=0)) (
  some (Ip a.kind b.kind)) (
  cond (!decide ((Ip a.n b.n)=0)) (
  some (Ip a.n b.n)) (
  some (Jk a.s b.s)))
theorem Bmj:FO 226 [.sv .val,.sv .val] [.int .i64] (Ae5):=fR (px:=Bun _) (n:=0) Tryz.func226 rfl (λ_ H=>⟨lv H (c1 H Bo2 (c1 H Agt Ae)) Aa Ab,Ai⟩) λ(_,_)=>by kernel_rfl
def Bo0(a:Val)(b:Val):Int :=
 cond (!decide ((Ip a.kind b.kind)=0)) (
  (Ip a.kind b.kind)) (
  cond (!decide ((Ip a.n b.n)=0)) (
  (Ip a.n b.n)) (
  (Jk a.s b.s)))
theorem Blp(x:HV [.sv .val,.sv .val]):Ae5 x=some (Bo0 x.1 x.2):=by
 first
  |exact rfl
  |simp only[Ae5,Bo0,A4]
def Amd:FT [.sv .val,.sv .val] [.int .i64]:=λx=>some (Bo0 x.1 x.2)
theorem Aix:FO 226 [.sv .val,.sv .val] [.int .i64] Amd :=.fin0 Bmj λx _ _ hx=>(Blp x).trans hx
def Bkv(R:Type):Px R:=pxO [] [] [] []
def Zx(x:HV [.int .u64,.int .u64]):Option (HV [.int .u64,.int .u64]):=match x with
 |(a,b) =>
 some ((wr .u64 ((wr .u64 ((wr .u64 ((Dz .u64 a 32)*(Dz .u64 b 32)))+(Dz .u64 (wr .u64 ((wr .u64 ((Dz .u64 a 32)*(Ek .u64 b 4294967295)))+(Dz .u64 (wr .u64 ((Ek .u64 a 4294967295)*(Ek .u64 b 4294967295))) 32))) 32)))+(Dz .u64 (wr .u64 ((Ek .u64 (wr .u64 ((wr .u64 ((Dz .u64 a 32)*(Ek .u64 b 4294967295)))+(Dz .u64 (wr .u64 ((Ek .u64 a 4294967295)*(Ek .u64 b 4294967295))) 32))) 4294967295)+(wr .u64 ((Ek .u64 a 4294967295)*(Dz .u64 b 32))))) 32))),(wr .u64 (a*b)))
theorem Bhp:FO 275 [.int .u64,.int .u64] [.int .u64,.int .u64] (Zx):=fR (px:=Bkv _) (n:=0) Tryz.func275 rfl (λ_ H=>⟨lv H Ae Aa Ab,Ai⟩) λ(_,_)=>by kernel_rfl
def J4(a:Int)(b:Int):Int×Int :=((wr .u64 ((wr .u64 ((wr .u64 ((Dz .u64 a 32)*(Dz .u64 b 32)))+(Dz .u64 (wr .u64 ((wr .u64 ((Dz .u64 a 32)*(Ek .u64 b 4294967295)))+(Dz .u64 (wr .u64 ((Ek .u64 a 4294967295)*(Ek .u64 b 4294967295))) 32))) 32)))+(Dz .u64 (wr .u64 ((Ek .u64 (wr .u64 ((wr .u64 ((Dz .u64 a 32)*(Ek .u64 b 4294967295)))+(Dz .u64 (wr .u64 ((Ek .u64 a 4294967295)*(Ek .u64 b 4294967295))) 32))) 4294967295)+(wr .u64 ((Ek .u64 a 4294967295)*(Dz .u64 b 32))))) 32))),(wr .u64 (a*b)))
theorem Bin(x:HV [.int .u64,.int .u64]):Zx x=some (J4 x.1 x.2):=by
 first
  |exact rfl
  |simp only[Zx,J4,A4]
def Bat:FT [.int .u64,.int .u64] [.int .u64,.int .u64]:=λx=>some (J4 x.1 x.2)
theorem Boz:FO 275 [.int .u64,.int .u64] [.int .u64,.int .u64] Bat :=.fin0 Bhp λx _ _ hx=>(Bin x).trans hx
def Btb(R:Type):Px R:=pxO [(276,cA Ax0),(275,cA Bat)] [] [] []
def Afi(x:HV [.int .i64,.int .i64]):Option (HV [.int .i64,.int .i64]):=match x with
 |(a,b) =>
 let j1:=λ(p3:Bool) =>
  cond (p3) (
  some (0,20)) (
  cond (!decide ((decide (a<0))=(decide (b<0)))) (
   some ((wr .i64 (wr .u64 (0-(J4 (Dt a) (Dt b)).2))),0)) (
   some ((wr .i64 ((J4 (Dt a) (Dt b)).2)),0)))
 let j:=λ(p:Bool) =>
  cond (p) (
  j1 true) (
  cond (decide ((J4 (Dt a) (Dt b)).2=9223372036854775808)) (
   j1 (!(!decide ((decide (a<0))=(decide (b<0)))))) (
   j1 false))
 cond (decide (0<(J4 (Dt a) (Dt b)).1)) (
  j true) (
  j (decide (9223372036854775808<(J4 (Dt a) (Dt b)).2)))
theorem Bj9:FO 231 [.int .i64,.int .i64] [.int .i64,.int .i64] (Afi):=fR (px:=Btb _) (n:=0) Tryz.func231 rfl (λ_ H=>⟨lv H (c1 H A0m (c1 H Boz Ae)) Aa Ab,Ai⟩) λ(_,_)=>by kernel_rfl
def A2e(a:Int)(b:Int):Int×Int :=
 let j1:=λ(p3:Bool) =>
  cond (p3) (
  (0,20)) (
  cond (!decide ((decide (a<0))=(decide (b<0)))) (
   ((wr .i64 (wr .u64 (0-(J4 (Dt a) (Dt b)).2))),0)) (
   ((wr .i64 ((J4 (Dt a) (Dt b)).2)),0)))
 let j:=λ(p:Bool) =>
  cond (p) (
  j1 true) (
  cond (decide ((J4 (Dt a) (Dt b)).2=9223372036854775808)) (
   j1 (!(!decide ((decide (a<0))=(decide (b<0)))))) (
   j1 false))
 cond (decide (0<(J4 (Dt a) (Dt b)).1)) (
  j true) (
  j (decide (9223372036854775808<(J4 (Dt a) (Dt b)).2)))
theorem Bm6(x:HV [.int .i64,.int .i64]):Afi x=some (A2e x.1 x.2):=by
 first
  |exact rfl
  |simp only[Afi,A2e,A4]
def Bpj:FT [.int .i64,.int .i64] [.int .i64,.int .i64]:=λx=>some (A2e x.1 x.2)
theorem Btt:FO 231 [.int .i64,.int .i64] [.int .i64,.int .i64] Bpj :=.fin0 Bj9 λx _ _ hx=>(Bm6 x).trans hx
theorem Ay8{i:Int}{n:Nat}(h : 0<=i/\i<n):inb i n=true:=by simp[inb,h]
def Bmm(R:Type):Px R:=pxO [] [] [] []
def Yi(x:HV [.int .u8]):Option (HV [.bool]):=match x with
 |c =>
 cond (decide (97<=c)) (
  some (decide (c<=122))) (
  some false)
theorem Bim:FO 119 [.int .u8] [.bool] (Yi):=fR (px:=Bmm _) (n:=0) Tryz.func119 rfl (λ_ H=>⟨lv H Ae Aa Ab,Ai⟩) λ_=>by kernel_rfl
def Z9(c:Int):Bool :=
 cond (decide (97<=c)) (
  (decide (c<=122))) (
  false)
theorem Bf7(x:HV [.int .u8]):Yi x=some (Z9 x):=by
 first
  |exact rfl
  |simp only[Yi,Z9,A4]
def Ai9:FT [.int .u8] [.bool]:=λx=>some (Z9 x)
theorem Alk:FO 119 [.int .u8] [.bool] Ai9 :=.fin0 Bim λx _ _ hx=>(Bf7 x).trans hx
def Bsg(R:Type):Px R:=pxO [] [] [] []
def Yj(x:HV [.int .u8]):Option (HV [.bool]):=match x with
 |c =>
 cond (decide (48<=c)) (
  some (decide (c<=57))) (
  some false)
theorem Bjg:FO 175 [.int .u8] [.bool] (Yj):=fR (px:=Bsg _) (n:=0) Tryz.func175 rfl (λ_ H=>⟨lv H Ae Aa Ab,Ai⟩) λ_=>by kernel_rfl
def Acb(c:Int):Bool :=
 cond (decide (48<=c)) (
  (decide (c<=57))) (
  false)
theorem Bgt(x:HV [.int .u8]):Yj x=some (Acb x):=by
 first
  |exact rfl
  |simp only[Yj,Acb,A4]
def Ai3:FT [.int .u8] [.bool]:=λx=>some (Acb x)
theorem Alb:FO 175 [.int .u8] [.bool] Ai3 :=.fin0 Bjg λx _ _ hx=>(Bgt x).trans hx
def Bru(R:Type):Px R:=pxO [(119,cA Ai9),(175,cA Ai3)] [] [] []
def Ym(x:HV [.int .u8]):Option (HV [.bool]):=match x with
 |c =>
 cond ((Z9 c)) (
  some true) (
  cond ((Acb c)) (
  some true) (
  some (decide (c=95))))
theorem Bgm:FO 121 [.int .u8] [.bool] (Ym):=fR (px:=Bru _) (n:=0) Tryz.func121 rfl (λ_ H=>⟨lv H (c1 H Alk (c1 H Alb Ae)) Aa Ab,Ai⟩) λ_=>by kernel_rfl
def Ahq(c:Int):Bool :=
 cond ((Z9 c)) (
  true) (
  cond ((Acb c)) (
  true) (
  (decide (c=95))))
theorem Bd6(x:HV [.int .u8]):Ym x=some (Ahq x):=by
 first
  |exact rfl
  |simp only[Ym,Ahq,A4]
def Ajg:FT [.int .u8] [.bool]:=λx=>some (Ahq x)
theorem Anq:FO 121 [.int .u8] [.bool] Ajg :=.fin0 Bgm λx _ _ hx=>(Bd6 x).trans hx
theorem Aoz(c:Int):Z9 c=Lp.isLo c:=by simp only[Z9,Lp.isLo];cases decide (97<=c)<;>rfl
theorem Aku(c:Int):Acb c=Lp.isDi c:=by simp only[Acb,Lp.isDi];cases decide (48<=c)<;>rfl
theorem Ajx(c:Int):Ahq c=Lp.isIn c:=by simp[Ahq,Lp.isIn,Aoz,Aku];cases Lp.isLo c<;>cases Lp.isDi c<;>rfl
def Aln:Sig:=⟨21,[(0,.str),(1,.int .i64)],[(2,.fn 121 [])],[],40,40,200,[],[]⟩
abbrev U3:=Str×Int
def Uo{R:Type}(rec:U3->Option R)(kx:Ex->U3->Option R)(v:U3):Option R:=match v with
 |(v,v1) =>
 cond (decide (v1<(v.length:Int))) (
  chk (inb v1 v.length) (
  cond ((Ahq (bat v v1))) (
   rec (v,(wr .i64 (v1+1)))) (
   kx (.exit 0) (v,v1)))) (
  kx (.exit 0) (v,v1))
def Al4(R:Type)(k:Nat):Px R:=pxO [(121,cA Ajg)] [] [(1,Al k Aln (Uo))] []
noncomputable def A24(R:Type)(k:Nat):Px R:=pxO [(119,cA Ai9),(120,Aw 40 200 (Al4 R k) Tryz.f120)] [] [] []
def Ajm(k:Nat)(x:HV [.str]):Option (HV [.bool]):=match x with
 |s =>
 let j1:=λ(p:Bool) =>
  let j:=λ(p1:Bool) =>
  cond (p1) (
   Aj (λrec=>Uo rec (λe vz=>match vz with|(_,v3)=>match e with
   |.exit 0 =>some (decide (v3=(s.length:Int)))
   |_=>none)) k (s,0)) (
   some false)
  cond (p) (
  chk (inb 0 s.length) (
   j (Z9 (bat s 0)))) (
  j false)
 cond (!decide (s=[])) (
  j1 (decide ((s.length:Int)<=30))) (
  j1 false)
theorem Bix(k:Nat):FO 83 [.str] [.bool] (Ajm k):=fR (px:=A24 _ k) (n:=0) Tryz.func83 rfl (λcx H=>by have h1:Lv cx (Al4 (HV [.bool]) k):=lv H (c1 H Anq Ae) Aa Ab;have hllname_0:=lO H h1 (b:=lp Tryz.f120 0) (k:=k) (n:=0) (s:=Aln) (step:=Uo) (λ_ _ _ (_,_)=>by kernel_rfl) Ai;have h0:Lv cx (A24 (HV [.bool]) k):=lv H (c1 H Alk (Am (cR H h1 Tryz.func120 rfl (n:=1) ((A2 Ai hllname_0))) Ae)) Aa Ab;exact⟨h0,Ai⟩) λ_=>by kernel_rfl
abbrev G2(s:Str):Bool:=Lp.nameF s
def Km:FT [.str] [.bool]:=λx=>some (G2 x)
theorem Z6{R:Type}{kx:Ex->U3->Option R}{s:Str}  {a:Int->Option R}(hs:ln s.length) (h1:∀j,kx (.exit 0) (s,j)=a j):∀(k i:Nat),i<=s.length->s.length-i<k->Aj (λrec=>Uo rec kx) k (s,(i:Int))=a (Lp.runTo Lp.isIn s i)
 |0,i,_,h=>absurd h (Zm1 _)
 |k+1,i,hi,h=>by
  rw[A0];by_cases hl:i<s.length
  ·have ih:=Z6  hs h1 k (i+1) (by omega) (by omega);have eb:Sx.byt s (i:Int)=(s[i].toNat:Int):=C1 hl;simp only[Uo,Ao hl hs,ih,h1,C1 hl,Au hl,Ajx];rw[Ze1 (show(i:Int)<(s.length:Int) by omega)];cases hp:Lp.isIn (s[i].toNat:Int) with|true =>have:=Lp.runTo_yes (p:=Lp.isIn) (l:=s) (j:=i) (by omega) (by rw[eb];exact hp);rw[<-this];rfl|false =>have:=Lp.runTo_no (p:=Lp.isIn) (l:=s) (j:=i) (by omega) (by rw[eb];exact hp);rw[this];rfl
  ·have:=Lp.runTo_end (p:=Lp.isIn) (l:=s) (j:=i) (by omega);simp only[Uo,h1];rw[Zd1 (by omega),this];rfl
theorem Mt:FO 83 [.str] [.bool] Km :=.fin 0 Bix λs r hb hx=>⟨s.length+1,by
 simp only[Km,Za1] at hx;rw[<-hx];simp only[Ajm,G2,Lp.nameF];by_cases he:s=[]
 ·rw[Ze1 he];rfl
 ·rw[Zd1 he];simp only[Zs1,Ah,Bool.true_and];by_cases h30:(s.length:Int)<=30
  ·have hp : 0<s.length:=List.length_pos_iff.2 he;rw[Ze1 h30,Ay8 (by omega),Aoz];simp only[chk,Ah,Bool.true_and];have eb:bat s 0=Sx.byt s 0:=rfl;rw[eb];cases Lp.isLo (Sx.byt s 0) with|false=>rfl|true =>simp only[Ah,Bool.true_and];exact Z6 (s:=s) (a:=λj=>some (decide (j=(s.length:Int)))) hb (λ_=>rfl) (s.length+1) 0 (Nat.zero_le _) (by omega)
  ·rw[Zd1 h30];rfl⟩
theorem wru(n:Int):wr .u64 n=n % 18446744073709551616:=by simp[wr,IntKind.wrap,IntKind.bits,IntKind.signed]
theorem wri(n:Int):wr .i64 n=if 9223372036854775808<=n % 18446744073709551616 then n % 18446744073709551616-18446744073709551616 else n % 18446744073709551616:=by simp[wr,IntKind.wrap,IntKind.bits,IntKind.signed]
theorem Ii{n:Int}(h : 0<=n/\n<=18446744073709551615):wr .u64 n=n:=by rw[wru];omega
theorem Av5{a:Int}(h : 0<=a/\a<=18446744073709551615):Ek .u64 a 4294967295=a % 4294967296:=by
 obtain⟨n,rfl⟩:=Int.eq_ofNat_of_zero_le h.1;have hn:n<18446744073709551616:=by omega
 have e2:(BitVec.ofInt IntKind.u64.bits (n:Int) &&& BitVec.ofInt IntKind.u64.bits 4294967295).toNat=n % 4294967296:=by show(BitVec.ofInt 64 (n:Int) &&& BitVec.ofInt 64 ((4294967295:Nat):Int)).toNat=n % 4294967296;rw[BitVec.toNat_and,BitVec.ofInt_natCast,BitVec.ofInt_natCast,BitVec.toNat_ofNat,BitVec.toNat_ofNat];rw[Nat.mod_eq_of_lt hn,Nat.mod_eq_of_lt (by decide)];exact Nat.and_two_pow_sub_one_eq_mod n 32
 show wr .u64 _=_;simp only[e2];rw[Ii (by omega)];omega
theorem Bwc{a:Int}:Dz .u64 a 32=a / 4294967296:=by
 show a.fdiv (2 ^ min (32:Int).toNat IntKind.u64.bits)=_;rw[show(2:Int) ^ min (32:Int).toNat IntKind.u64.bits=4294967296 from by decide]
 grind
theorem Ak8(a b c d:Int)(h : 0<=a/\a<=c)(h' : 0<=b/\b<=d) : 0<=a*b/\a*b<=c*d :=⟨Int.mul_nonneg h.1 h'.1,Int.mul_le_mul h.2 h'.2 h'.1 (by omega)⟩
theorem A3x(x y:Int):x*y=(x / 4294967296)*(y / 4294967296)*18446744073709551616+((x / 4294967296)*(y % 4294967296)+(x % 4294967296)*(y / 4294967296))*4294967296+(x % 4294967296)*(y % 4294967296):=by grind
theorem Bvp(x y:Int)(hx : 0<=x/\x<=18446744073709551615)(hy : 0<=y/\y<=18446744073709551615):J4 x y=(x*y / 18446744073709551616,x*y % 18446744073709551616):=by have b00:=Ak8 (x % 4294967296) (y % 4294967296) 4294967295 4294967295 (by omega) (by omega);have b10:=Ak8 (x / 4294967296) (y % 4294967296) 4294967295 4294967295 (by omega) (by omega);have b01:=Ak8 (x % 4294967296) (y / 4294967296) 4294967295 4294967295 (by omega) (by omega);have b11:=Ak8 (x / 4294967296) (y / 4294967296) 4294967295 4294967295 (by omega) (by omega);have sp:=A3x x y;simp only[J4,Bwc,Av5 hx,Av5 hy];generalize (x % 4294967296)*(y % 4294967296)=a at *;generalize (x / 4294967296)*(y % 4294967296)=b at *;generalize (x % 4294967296)*(y / 4294967296)=c at *;generalize (x / 4294967296)*(y / 4294967296)=d at *;rw[Ii (n:=a) (by omega),Ii (n:=b) (by omega),Ii (n:=d) (by omega),Ii (n:=c) (by omega)];rw[Ii (n:=b+a / 4294967296) (by omega)];rw[Av5 (by omega)];rw[Ii (n:=(b+a / 4294967296) % 4294967296+c) (by omega)];rw[Ii (n:=d+(b+a / 4294967296) / 4294967296) (by omega)];rw[Ii (n:=d+(b+a / 4294967296) / 4294967296+((b+a / 4294967296) % 4294967296+c) / 4294967296) (by omega),wru];rw[Zp1];constructor<;>omega
def X0(n:Int):Int×Int:=if -9223372036854775808<=n/\n<=9223372036854775807 then(n,0) else(0,20)
def M0(n:Int):Int:=if n<0 then -n else n
theorem Auz{n:Int}(h:inI n):Dt n=M0 n:=by simp[inI] at h;simp[Dt,M0,wru];split<;>omega
theorem Axy{q r:Int}(h:inI q)(hr:r=q):(r,(0:Int))=X0 q:=by simp[inI] at h;rw[hr,X0,if_pos h]
theorem Ayf{q:Int}(h:¬inI q):((0:Int),(20:Int))=X0 q:=by simp only[inI] at h;rw[X0,if_neg h]
theorem Bzo{a b:Int}(ha:inI a)(hb:inI b):A45 a b=X0 (a+b):=by
 simp[inI] at ha hb;simp[A45,wri];by_cases h1 : 0<b
 ·rw[Ze1 h1];by_cases h2:a+b<=9223372036854775807
  ·have e:(a+b) % 18446744073709551616<9223372036854775808\/9223372036854775808<=(a+b) % 18446744073709551616:=by omega
   rw[<-Axy (q:=a+b) (r:=if 9223372036854775808<=(a+b) % 18446744073709551616 then(a+b) % 18446744073709551616-18446744073709551616 else(a+b) % 18446744073709551616) (by simp[inI];omega) (by split<;>omega)]
   grind
  ·rw[<-Ayf (q:=a+b) (by simp[inI];omega)]
   grind
 ·rw[Zd1 h1];by_cases h2 : -9223372036854775808<=a+b
  ·rw[<-Axy (q:=a+b) (r:=if 9223372036854775808<=(a+b) % 18446744073709551616 then(a+b) % 18446744073709551616-18446744073709551616 else(a+b) % 18446744073709551616) (by simp[inI];omega) (by split<;>omega)]
   grind
  ·rw[<-Ayf (q:=a+b) (by simp[inI];omega)]
   grind
theorem Bxu{a b:Int}(ha:inI a)(hb:inI b):A2e a b=X0 (a*b):=by
 have ha':=ha;have hb':=hb;simp[inI] at ha' hb';have hA : 0<=M0 a/\M0 a<=9223372036854775808:=by unfold M0;split<;>omega
 have hB : 0<=M0 b/\M0 b<=9223372036854775808:=by unfold M0;split<;>omega
 have hbd:=Ak8 _ _ _ _ hA hB;have hsg:a*b=if decide (a<0)=decide (b<0) then M0 a*M0 b else -(M0 a*M0 b):=by unfold M0;by_cases h1:a<0<;>by_cases h2:b<0<;>simp[h1,h2,Int.neg_mul,Int.mul_neg]
 simp only[A2e,Auz ha,Auz hb,Bvp _ _ (show 0<=M0 a/\M0 a<=18446744073709551615 by omega) (show 0<=M0 b/\M0 b<=18446744073709551615 by omega)];clear ha hb ha' hb' hA hB;generalize M0 a*M0 b=p at *;generalize a*b=q at *;by_cases hs:decide (a<0)=decide (b<0)
 ·rw[if_pos hs] at hsg;rw[Ze1 hs];by_cases h1:p<9223372036854775808
  ·rw[Zd1 (show ¬ 0<p / 18446744073709551616 by omega),Zd1 (show ¬ 9223372036854775808<p % 18446744073709551616 by omega),Zd1 (show ¬p % 18446744073709551616=9223372036854775808 by omega)];refine(show _=(wr .i64 (p % 18446744073709551616),(0:Int)) from rfl).trans (Axy (by simp[inI];omega) ?_);rw[wri];split<;>omega
  ·rw[<-Ayf (q:=q) (by simp[inI];omega)];by_cases h2 : 0<p / 18446744073709551616
   ·grind
   ·grind
 ·rw[if_neg hs] at hsg;rw[Zd1 hs];by_cases h1:p<=9223372036854775808
  ·rw[Zd1 (show ¬ 0<p / 18446744073709551616 by omega),Zd1 (show ¬ 9223372036854775808<p % 18446744073709551616 by omega)];have:X0 q=(wr .i64 (wr .u64 (0-p % 18446744073709551616)),(0:Int)):=by refine(Axy (by simp[inI];omega) ?_).symm;rw[wri,wru];split<;>omega
   rw[this];cases decide (p % 18446744073709551616=9223372036854775808)<;>rfl
  ·rw[<-Ayf (q:=q) (by simp[inI];omega)];by_cases h2 : 0<p / 18446744073709551616
   ·grind
   ·grind
end Go.Proofs.YtblaahgjaopdnaaGreatDoor
namespace Go.Proofs
open Go.Shelf
def Tryz.laysRA_ren:Go.Shelf.Ren:=⟨λ|155=>359|154=>384|138=>395|165=>357|143=>396|166=>326|197=>397|169=>297|195=>391|218=>402|240=>356|241=>383|219=>403|260=>404|276=>382|277=>394|217=>169|225=>405|224=>379|267=>406|266=>228|314=>407|n=>n,λ|9=>9|3=>3|4=>4|72=>350|0=>0|76=>385|105=>413|21=>21|5=>5|70=>348|20=>20|37=>25|75=>384|127=>389|164=>433|46=>40|119=>442|139=>445|138=>444|146=>440|51=>410|80=>151|n=>n,λ|1=>2|3=>4|4=>5|n=>n⟩
theorem Tryz.laysRA:Go.Proofs.Lays.n155 Tryz.prog Tryz.laysRA_ren:={
 mixed:=by kernel_rfl
 f138:=Tryz.func395.trans (congrArg some (by kernel_rfl))
 f143:=Tryz.func396.trans (congrArg some (by kernel_rfl))
 f154:=Tryz.func384.trans (congrArg some (by kernel_rfl))
 f155:=Tryz.func359.trans (congrArg some (by kernel_rfl))
 f165:=Tryz.func357.trans (congrArg some (by kernel_rfl))
 f166:=Tryz.func326.trans (congrArg some (by kernel_rfl))
 f169:=Tryz.func297.trans (congrArg some (by kernel_rfl))
 f195:=Tryz.func391.trans (congrArg some (by kernel_rfl))
 f197:=Tryz.func397.trans (congrArg some (by kernel_rfl))
 f217:=Tryz.func169.trans (congrArg some (by kernel_rfl))
 f218:=Tryz.func402.trans (congrArg some (by kernel_rfl))
 f219:=Tryz.func403.trans (congrArg some (by kernel_rfl))
 f224:=Tryz.func379.trans (congrArg some (by kernel_rfl))
 f225:=Tryz.func405.trans (congrArg some (by kernel_rfl))
 f240:=Tryz.func356.trans (congrArg some (by kernel_rfl))
 f241:=Tryz.func383.trans (congrArg some (by kernel_rfl))
 f260:=Tryz.func404.trans (congrArg some (by kernel_rfl))
 f266:=Tryz.func228.trans (congrArg some (by kernel_rfl))
 f267:=Tryz.func406.trans (congrArg some (by kernel_rfl))
 f276:=Tryz.func382.trans (congrArg some (by kernel_rfl))
 f277:=Tryz.func394.trans (congrArg some (by kernel_rfl))
 f314:=Tryz.func407.trans (congrArg some (by kernel_rfl))
 t0:=Tryz.underlying0
 a0:=Tryz.isAgg0
 z0:=Tryz.sizeOf0
 v0:=Tryz.zeroValue0
 t3:=Tryz.underlying3
 a3:=Tryz.isAgg3
 z3:=Tryz.sizeOf3
 v3:=Tryz.zeroValue3
 t4:=Tryz.underlying4
 a4:=Tryz.isAgg4
 z4:=Tryz.sizeOf4
 v4:=Tryz.zeroValue4
 t5:=Tryz.underlying5
 a5:=Tryz.isAgg5
 z5:=Tryz.sizeOf5
 v5:=Tryz.zeroValue5
 t9:=Tryz.underlying9
 a9:=Tryz.isAgg9
 z9:=Tryz.sizeOf9
 v9:=Tryz.zeroValue9
 t20:=Tryz.underlying20
 a20:=Tryz.isAgg20
 z20:=Tryz.sizeOf20
 v20:=Tryz.zeroValue20
 t21:=Tryz.underlying21
 a21:=Tryz.isAgg21
 z21:=Tryz.sizeOf21
 v21:=Tryz.zeroValue21
 t37:=Tryz.underlying25
 a37:=Tryz.isAgg25
 z37:=Tryz.sizeOf25
 v37:=Tryz.zeroValue25
 t46:=Tryz.underlying40
 a46:=Tryz.isAgg40
 z46:=Tryz.sizeOf40
 v46:=Tryz.zeroValue40
 t51:=Tryz.underlying410
 a51:=Tryz.isAgg410
 z51:=Tryz.sizeOf410
 v51:=Tryz.zeroValue410
 t70:=Tryz.underlying348
 a70:=Tryz.isAgg348
 z70:=Tryz.sizeOf348
 v70:=Tryz.zeroValue348
 t72:=Tryz.underlying350
 a72:=Tryz.isAgg350
 z72:=Tryz.sizeOf350
 v72:=Tryz.zeroValue350
 t75:=Tryz.underlying384
 a75:=Tryz.isAgg384
 z75:=Tryz.sizeOf384
 v75:=Tryz.zeroValue384
 t76:=Tryz.underlying385
 a76:=Tryz.isAgg385
 z76:=Tryz.sizeOf385
 v76:=Tryz.zeroValue385
 t105:=Tryz.underlying413
 a105:=Tryz.isAgg413
 z105:=Tryz.sizeOf413
 v105:=Tryz.zeroValue413
 t119:=Tryz.underlying442
 a119:=Tryz.isAgg442
 z119:=Tryz.sizeOf442
 t127:=Tryz.underlying389
 a127:=Tryz.isAgg389
 z127:=Tryz.sizeOf389
 v127:=Tryz.zeroValue389
 t138:=Tryz.underlying444
 a138:=Tryz.isAgg444
 z138:=Tryz.sizeOf444
 v138:=Tryz.zeroValue444
 t139:=Tryz.underlying445
 a139:=Tryz.isAgg445
 z139:=Tryz.sizeOf445
 v139:=Tryz.zeroValue445
 t146:=Tryz.underlying440
 a146:=Tryz.isAgg440
 z146:=Tryz.sizeOf440
 v146:=Tryz.zeroValue440
 t164:=Tryz.underlying433
 a164:=Tryz.isAgg433
 z164:=Tryz.sizeOf433
 v164:=Tryz.zeroValue433
 g1:=by kernel_rfl
 g3:=by kernel_rfl
 g4:=by kernel_rfl }
theorem Tryz.extraRA:Builder.Extra Tryz.prog Tryz.laysRA_ren:={
 sizeBuilder:=by kernel_rfl
 liesBuilder:=by kernel_rfl
 t5:=Tryz.laysRA.t5
 a5:=Tryz.laysRA.a5
 z5:=Tryz.laysRA.z5
 v5:=Tryz.laysRA.v5
 infoByte:=by kernel_rfl
 cellsByte:=by kernel_rfl
 sizeByte:=by kernel_rfl
 neB5:=by decide }
end Go.Proofs
namespace Go.Proofs.YtblaahgjaopdnaaGreatDoor
open Go.Ax
def An3(s old new:Str):Option Str:=cond (decide (s.length<4294967281)&&decide (1<=old.length)&&decide (s.length+Lib.count s old*new.length<=140737488355328)&&decide ((Lib.replaceAll s old new).length<=maxLen)) (some (Lib.replaceAll s old new)) none
def Akh:FT [.str,.str,.str] [.str]:=λx=>An3 x.1 x.2.1 x.2.2
theorem Bfk:FO 359 [.str,.str,.str] [.str] Akh:=by
 refine⟨Sx.enters_of Tryz.func359 rfl (by kernel_rfl),λx r hx w M vs hM hgl hr =>?_⟩;obtain⟨s,old,new⟩:=x;simp only[Akh,An3] at hx;cases hc:decide (s.length<4294967281)&&decide (1<=old.length)&&decide (s.length+Lib.count s old*new.length<=140737488355328)&&decide ((Lib.replaceAll s old new).length<=maxLen) with
 |false=>rw[hc] at hx;cases hx
 |true =>rw[hc] at hx;have hx:some (Lib.replaceAll s old new)=some r:=hx;simp only[Za1] at hx;subst hx;simp only[Zb1,Zg1] at hc;obtain⟨⟨⟨h1,h2⟩,h3⟩,h4⟩:=hc;simp only[B0,Cj,Reps,Rep] at hr;obtain⟨u,us,rfl,⟨rfl,_⟩,u2,us2,rfl,⟨rfl,_⟩,u3,us3,rfl,⟨rfl,_⟩,rfl⟩:=hr;obtain⟨m,hm⟩:=hgl.2.2 2 .i64 rfl;have c:=Any.strings_ReplaceAll Tryz.laysRA Tryz.extraRA ⟨s.toArray⟩ ⟨old.toArray⟩ ⟨new.toArray⟩ m w (by simpa[ByteArray.size] using h1) (hm w (Chg.refl _ _)) (by simpa[ByteArray.size] using h2) (by simpa[ByteArray.size,Lib.countB] using h3);refine Calls.mono (show Calls Tryz.prog 359 _ w _ from c) ?_;rintro en w' ⟨rfl,hb⟩;refine⟨_,⟨λ_=>0,λ_=>Option.none⟩,rfl,Chg.of_below hb,λp g o hp=>(by simp[Bd] at hp),λp q g o o2 hp=>(by simp[Bd] at hp),?_⟩;simp only[Eo,B0,Cj,Rep];exact⟨by simp,h4⟩
def pw:Nat->Int
 |0=>1
 |n+1=>10*pw n
def Vw(n:Nat):List Int:=if h:n=0 then [] else((n % 10:Nat):Int)::Vw (n / 10)
termination_by n
decreasing_by omega
theorem T7:Vw 0=[]:=by rw[Vw];simp
theorem An8{n:Nat}(h:¬n=0):Vw n=((n % 10:Nat):Int)::Vw (n / 10):=by rw[Vw];simp[h]
theorem A2t:∀(k n:Nat),(n:Int)<pw k->(Vw n).length<=k
 |0,n,h=>by
  have:n=0:=by simp[pw] at h;omega
  subst this;rw[T7];exact Zn1 _
 |k+1,n,h=>by
  by_cases h0:n=0
  ·subst h0;rw[T7];simp
  ·have:=A2t k (n / 10) (by simp[pw] at h;omega);rw[An8 h0];simp;omega
abbrev hexL:Str:=[48,49,50,51,52,53,54,55,56,57,97,98,99,100,101,102]
def Biz(n:Nat):Str:=[hexL.getD (n / 16) 0,hexL.getD (n % 16) 0]
def A3s(s:Str):Str:=s.flatMap λb=>Biz b.toNat
def Bz5(n:Nat):Bool:=inb (Dz .u8 (n:Int) 4) 16&&inb (Ek .u8 (n:Int) 15) 16&&decide ([(UInt8.ofNat ((bat hexL (Dz .u8 (n:Int) 4)):Int).toNat),(UInt8.ofNat ((bat hexL (Ek .u8 (n:Int) 15)):Int).toNat)]=Biz n)
theorem Byh:((List.range 256).all Bz5)=true:=by kernel_rfl
theorem hx(b:UInt8):inb (Dz .u8 (b.toNat:Int) 4) 16=true/\inb (Ek .u8 (b.toNat:Int) 15) 16=true/\[(UInt8.ofNat ((bat hexL (Dz .u8 (b.toNat:Int) 4)):Int).toNat),(UInt8.ofNat ((bat hexL (Ek .u8 (b.toNat:Int) 15)):Int).toNat)]=Biz b.toNat:=by have h:=Zg2.1 Byh b.toNat (List.mem_range.2 b.toNat_lt);simp[Bz5] at h;exact⟨h.1.1,h.1.2,h.2⟩
theorem Bri(s:Str):(A3s s).length=2*s.length:=by induction s with|nil=>rfl|cons b l ih=>simp[A3s,Biz] at ih ⊢;omega
def Ase:Sig:=⟨26,[(0,.str),(3,.sl .byte true),(6,.int .i64),(7,.int .i64)],[],[],0,0,0,[],[]⟩
abbrev Abg:=Str×List UInt8×Int×Int
def Adl{R:Type}(rec:Abg->Option R)(kx:Ex->Abg->Option R)(v:Abg):Option R:=match v with
 |(v,v1,v2,v3) =>
 cond (decide (v3<v2)) (
  chk (inb v3 v.length) (
  chk (inb (Dz .u8 (bat v v3) 4) 16) (
   chk (inb v3 v.length) (
   chk (inb (Ek .u8 (bat v v3) 15) 16) (
    chk (decide (v1.length+2<=Ag)) (
    rec (v,(v1++[(UInt8.ofNat ((bat [48,49,50,51,52,53,54,55,56,57,97,98,99,100,101,102] (Dz .u8 (bat v v3) 4)):Int).toNat),(UInt8.ofNat ((bat [48,49,50,51,52,53,54,55,56,57,97,98,99,100,101,102] (Ek .u8 (bat v v3) 15)):Int).toNat)]),v2,(wr .i64 (v3+1))))))))) (
  kx (.exit 0) (v,v1,v2,v3))
def A99(R:Type)(k:Nat):Px R:=pxO [] [] [(3,Al k Ase (Adl))] []
def Ar3(k:Nat)(x:HV [.str]):Option (HV [.str]):=match x with
 |s =>
 Aj (λrec=>Adl rec (λe vz=>match vz with|(_,v5,_,_)=>match e with
  |.exit 0 =>
  some v5
  |_=>none)) k (s,[],(s.length:Int),0)
theorem Bss(k:Nat):FO 360 [.str] [.str] (Ar3 k):=fR (px:=A99 _ k) (n:=1) Tryz.func360 rfl (λcx H=>by have h0:Lv cx (A99 (HV [.str]) k):=lv H Ae Aa Ab;have hlvhex_0:=lO H h0 (b:=lp Tryz.f360 0) (k:=k) (n:=0) (s:=Ase) (step:=Adl) (λ_ _ _ (_,_,_,_)=>by kernel_rfl) Ai;exact⟨h0,(A2 Ai hlvhex_0)⟩) λ_=>by kernel_rfl
def Bsd(s:Str):Option Str:=cond (decide (s.length<=3000)) (some (A3s s)) none
def A7r:FT [.str] [.str]:=λx=>Bsd x
theorem Ate{R:Type}{kx:Ex->Abg->Option R}{s:Str}{b:Str->Option R}(hs:s.length<=3000)(h2:∀out j,kx (.exit 0) (s,out,(s.length:Int),j)=b out):∀(k i:Nat) (out:Str),i<=s.length->s.length-i<k->out.length<=2*i->Aj (λrec=>Adl rec kx) k (s,out,(s.length:Int),(i:Int))=b (out++A3s (s.drop i))
 |0,i,_,_,h,_=>absurd h (Zm1 _)
 |k+1,i,out,hi,h,ho=>by
  rw[A0];by_cases hl:i<s.length
  ·obtain⟨h3,h4,h5⟩:=hx (s[i]'hl);have hn:ln s.length:=by simp[ln];omega
   have ih:=Ate hs h2 k (i+1) (out++Biz (s[i]'hl).toNat) (by omega) (by omega) (by simp[ Biz];omega);simp only[Adl,Ao hl hn,C1 hl,Au hl,h3,h4,h5,ih];rw[Ze1 (show(i:Int)<(s.length:Int) by omega),Ze1 (show out.length+2<=Ag by simp[Ag];omega),Ay hl];simp only[chk,Ah,A3s,List.flatMap_cons,Zj1]
  ·simp only[Adl,h2];rw[Zd1 (show ¬(i:Int)<(s.length:Int) by omega),Zk1 (by omega)];simp[A3s]
theorem Bvl:FO 360 [.str] [.str] A7r :=.fin 0 Bss λs r hb hx=>⟨3001,by
 simp only[A7r,Bsd] at hx;by_cases hs:s.length<=3000
 ·rw[Ze1 hs] at hx;simp only[Ar3];exact(Ate (b:=some) hs (λ_ _=>rfl) 3001 0 [] (Nat.zero_le _) (by omega) (by simp)).trans hx
 ·rw[Zd1 hs] at hx;cases hx⟩
def dch(d:Int):UInt8:=UInt8.ofNat (48+d).toNat
def txt(l:List Int):Str:=(l.map dch).reverse
def Bx4(n:Int):Str:=let t:=if n=0 then [48] else txt (Vw n.natAbs)
 if n<0 then 45::t else t
theorem A2h(d:Int)(l:List Int):txt (d::l)=txt l++[dch d]:=by simp[txt]
theorem Bxd{d:Int}(h : 0<=d/\d<=9):UInt8.ofNat ((wr .u8 (wr .u64 (48+d))):Int).toNat=dch d:=by
 have e:wr .u8 (wr .u64 (48+d))=48+d:=by rw[Ii (by omega)];simp only[wr,IntKind.wrap,IntKind.bits];simp;omega
 rw[e];rfl
theorem Btq(l:List Int):(txt l).length=l.length:=by simp[txt]
theorem Bqq(n:Int):txt (Vw (n.natAbs / 10))++[dch ((n.natAbs % 10:Nat):Int)]=if n=0 then [48] else txt (Vw n.natAbs):=by
 by_cases h0:n=0
 ·subst h0;rw[if_pos rfl,show(0:Int).natAbs / 10=0 from rfl,T7];rfl
 ·rw[if_neg h0,An8 (n:=n.natAbs) (by omega),A2h]
def Acv:Sig:=⟨32,[(0,.int .i64),(3,.sl .byte true),(4,.int .u64)],[],[],0,0,0,[],[]⟩
abbrev K5:=Int×List UInt8×Int
def I7{R:Type}(rec:K5->Option R)(kx:Ex->K5->Option R)(v:K5):Option R:=match v with
 |(v,v1,v2) =>
 cond (decide (0<v2)) (
  chk (decide (1+v1.length<=Ag)) (
  rec (v,([(UInt8.ofNat ((wr .u8 (wr .u64 (48+(Int.tmod v2 10)))):Int).toNat)]++v1),(wr .u64 (Int.tdiv v2 10))))) (
  kx (.exit 0) (v,v1,v2))
def Aph(R:Type)(k:Nat):Px R:=pxO [(276,cA Ax0)] [] [(3,Al k Acv (I7))] []
def Acy(k:Nat)(x:HV [.int .i64]):Option (HV [.str]):=match x with
 |n =>
 Aj (λrec=>I7 rec (λe vz=>match vz with|(v3,v4,_)=>match e with
  |.exit 0 =>
  cond (decide (v3<0)) (
   chk (decide ([45].length+v4.length<=Fz)) (
   some ([45]++v4))) (
   some v4)
  |_=>none)) k (n,[(UInt8.ofNat ((wr .u8 (wr .u64 (48+(Int.tmod (Dt n) 10)))):Int).toNat)],(wr .u64 (Int.tdiv (Dt n) 10)))
theorem A0l(k:Nat):FO 358 [.int .i64] [.str] (Acy k):=fR (px:=Aph _ k) (n:=1) Tryz.func358 rfl (λcx H=>by have h0:Lv cx (Aph (HV [.str]) k):=lv H (c1 H A0m Ae) Aa Ab;have hlvdigits_0:=lO H h0 (b:=lp Tryz.f358 0) (k:=k) (n:=0) (s:=Acv) (step:=I7) (λ_ _ _ (_,_,_)=>by kernel_rfl) Ai;exact⟨h0,(A2 Ai hlvdigits_0)⟩) λ_=>by kernel_rfl
abbrev Au2(n:Int):Str:=Bx4 n
def Af6:FT [.int .i64] [.str]:=λx=>some (Au2 x)
theorem B04{n:Int}(h:inI n):Dt n=(n.natAbs:Int):=by rw[Auz h];simp[M0];split<;>omega
theorem Ack{R:Type}{kx:Ex->K5->Option R}{n:Int}{b:Str->Option R}(h2:∀out x,kx (.exit 0) (n,out,x)=b out):∀(k a:Nat) (out:Str),(a:Int)<=18446744073709551615->(Vw a).length<k->out.length+(Vw a).length<=1000->Aj (λrec=>I7 rec kx) k (n,out,(a:Int))=b (txt (Vw a)++out)
 |0,a,out,_,h,_=>absurd h (Zm1 _)
 |k+1,a,out,ha,h,ho=>by
  rw[A0];by_cases h0:a=0
  ·subst h0;simp only[I7,h2];rw[Zd1 (by omega),T7];rfl
  ·have hd:=An8 h0;rw[hd,Zf1] at h ho;have e1:Int.tmod (a:Int) 10=((a % 10:Nat):Int):=rfl;have e2:wr .u64 (Int.tdiv (a:Int) 10)=((a / 10:Nat):Int):=by have:Int.tdiv (a:Int) 10=((a / 10:Nat):Int):=rfl;rw[this,Ii (by omega)]
   have ih:=Ack h2 k (a / 10) ([dch ((a % 10:Nat):Int)]++out) (by omega) (by omega) (by simp;omega);simp only[I7,e1,e2,Bxd (show 0<=((a % 10:Nat):Int)/\((a % 10:Nat):Int)<=9 by omega),ih];rw[Ze1 (show(0:Int)<(a:Int) by omega),Ze1 (show 1+out.length<=Ag by simp[Ag];omega),hd,A2h];simp[chk]
theorem A4a:FO 358 [.int .i64] [.str] Af6 :=.fin 0 A0l λn r hb hx=>⟨30,by
 have hb:=Bp hb;simp only[Af6,Za1] at hx;subst hx;have hl:(Vw (n.natAbs / 10)).length<=20:=A2t 20 _ (by
  simp only[inI] at hb;have:pw 20=100000000000000000000:=by kernel_rfl
  omega)
 have e1:Int.tmod (n.natAbs:Int) 10=((n.natAbs % 10:Nat):Int):=rfl;have e2:wr .u64 (Int.tdiv (n.natAbs:Int) 10)=((n.natAbs / 10:Nat):Int):=by have:Int.tdiv (n.natAbs:Int) 10=((n.natAbs / 10:Nat):Int):=rfl;simp only[inI] at hb;rw[this,Ii (by omega)]
 simp only[Acy,B04 hb,e1,e2,Bxd (show 0<=((n.natAbs % 10:Nat):Int)/\((n.natAbs % 10:Nat):Int)<=9 by omega)];refine(Ack (b:=λout=>cond (decide (n<0)) (chk (decide ([45].length+out.length<=Fz)) (some ([45]++out))) (some out)) (λ_ _=>rfl) 30 (n.natAbs / 10) [dch ((n.natAbs % 10:Nat):Int)] (by simp only[inI] at hb;omega) (by omega) (by simp only[Zf1,Zi1];omega)).trans ?_;have et:=Bqq n;have hlen:(txt (Vw (n.natAbs / 10))++[dch ((n.natAbs % 10:Nat):Int)]).length<=21:=by rw[Zh1,Btq];simp only[Zf1,Zi1];omega
 have hc:decide ([45].length+(txt (Vw (n.natAbs / 10))++[dch ((n.natAbs % 10:Nat):Int)]).length<=Fz)=true:=Ze1 (by simp only[Zf1,Zi1,Fz];omega);simp only[hc,chk,Ah];rw[et];simp only[Au2,Bx4];by_cases h:n<0
 ·rw[Ze1 h,if_pos h];rfl
 ·rw[Zd1 h,if_neg h];rfl⟩
def quo:Str->Str
 |[]=>[]
 |b::l=>if b=39 then 39::39::quo l else b::quo l
theorem Bbo(s:Str):(quo s).length<=2*s.length:=by induction s with|nil=>simp[quo]|cons b l ih =>simp[quo];split<;>simp<;>omega
theorem Aue:∀s:Str,(Lib.index s [39] = -1/\quo s=s)\/∃i:Nat,Lib.index s [39]=(i:Int)/\i<s.length/\quo s=s.take i++[39,39]++quo (s.drop (i+1))
 |[] =>.inl ⟨rfl,rfl⟩
 |b::l=>by
  by_cases h:b=39
  ·subst h;refine .inr ⟨0,rfl,by simp,by simp[quo]⟩
  ·have hp:List.isPrefixOf [39] (b::l)=false:=by simp only[List.isPrefixOf,Bool.and_true];exact beq_eq_false_iff_ne.2 (Ne.symm h)
   rcases Aue l with ⟨h1,h2⟩|⟨i,h1,h2,h3⟩
   ·left;refine⟨?_,by simp[quo,if_neg h,h2]⟩;unfold Lib.index;rw[hp,h1];rfl
   ·right;refine⟨i+1,?_,by simpa using h2,?_⟩
    ·unfold Lib.index;rw[hp,h1];have:((i:Int) == -1)=false:=beq_eq_false_iff_ne.2 (by omega);simp
    ·simp[quo,if_neg h,h3]
theorem Ass:∀(f:Nat) (s:Str),s.length<f->Lib.replaceK [39] [39,39] (Lib.countFrom [39] f s) s=quo s
 |0,s,h=>absurd h (Zm1 _)
 |f+1,s,h=>by
  rcases Aue s with ⟨h1,h2⟩|⟨i,h1,h2,h3⟩
  ·simp[Lib.countFrom,h1];exact h2.symm
  ·have hn:((i:Int) == -1)=false:=beq_eq_false_iff_ne.2 (by omega);have ih:=Ass f (s.drop (i+1)) (by rw[Za2];omega);have e:Lib.countFrom [39] (f+1) s=Lib.countFrom [39] f (s.drop (i+1))+1:=by simp[Lib.countFrom,h1];simp[Nat.add_comm]
   rw[e,Lib.replaceK_hit _ _ _ _ i h1];simp only[Zf1,Zi1];rw[ih,h3]
theorem Bvs(s:Str):Lib.replaceAll s [39] [39,39]=quo s:=by
 have e:Lib.replaceNum s [39] (-1)=Lib.countFrom [39] (s.length+1) s:=by unfold Lib.replaceNum;rw[if_pos (.inl (by decide))];rfl
 have hc:=Ass (s.length+1) s (by omega);rw[<-e] at hc;exact hc
theorem A6a{s:Str}(h:s.length<=3000):An3 s [39] [39,39]=some (quo s):=by have h2:Lib.count s [39]*1<=s.length:=(Lib.countB_mul_le ⟨#[39]⟩ (by decide) s.length ⟨s.toArray⟩ (Zn1 _));have h3:=Bbo s;simp only[An3,Bvs];rw[Ze1 (show s.length<4294967281 by omega),Ze1 (show 1<=([39]:Str).length by decide),Ze1 (show s.length+Lib.count s [39]*([39,39]:Str).length<=140737488355328 by simp;omega),Ze1 (show(quo s).length<=maxLen by simp[maxLen];omega)];rfl
def Bh9(R:Type):Px R:=pxO [(101,cA Aa0),(358,cA Af6),(359,cA Akh),(360,cA A7r)] [] [] []
def Ago(x:HV [.sv .val]):Option (HV [.str]):=match x with
 |v =>
 cond (!(A7 v)) (
  some []) (
  cond (decide (v.kind=2)) (
  chk (inb v.n 2) (
   some (at' .str [[70,65,76,83,69],[84,82,85,69]] v.n))) (
  cond (decide (v.kind=3)) (
   some (Au2 v.n)) (
   cond (decide (v.kind=4)) (
   (An3 v.s [39] [39,39]).bind λx =>
    chk (decide ([39].length+x.length<=Fz)) (
    chk (decide (([39]++x).length+[39].length<=Fz)) (
     some (([39]++x)++[39])))) (
   cond (decide (v.kind=5)) (
    (Bsd v.s).bind λx1 =>
    chk (decide ([120,39].length+x1.length<=Fz)) (
     chk (decide (([120,39]++x1).length+[39].length<=Fz)) (
     some (([120,39]++x1)++[39])))) (
    some [78,85,76,76])))))
theorem A4v:FO 328 [.sv .val] [.str] (Ago):=fR (px:=Bh9 _) (n:=0) Tryz.func328 rfl (λ_ H=>⟨lv H (c1 H Aeu (c1 H A4a (c1 H Bfk (c1 H Bvl Ae)))) Aa Ab,Ai⟩) λ_=>by kernel_rfl
def L4(v:Val):Str:=cond (A7 v) (if v.kind=2 then(if v.n=0 then [70,65,76,83,69] else [84,82,85,69]) else if v.kind=3 then Bx4 v.n else if v.kind=4 then 39::(quo v.s++[39]) else if v.kind=5 then 120::39::(A3s v.s++[39]) else [78,85,76,76]) []
def Aby:FT [.sv .val] [.str]:=λx=>some (L4 x)
theorem Asu{v:Val}(h:A7 v=true)(hk:v.kind=4\/v.kind=5):v.s.length<=1000:=by
 rcases hk with h4|h5
 ·simp[A7,h4] at h;omega
 ·simp[A7,h5] at h;omega
theorem A53{v:Val}(h:A7 v=true)(hk:v.kind=2):v.n=0\/v.n=1:=by
 by_cases h0:v.n=0
 ·exact .inl h0
 ·by_cases h1:v.n=1
  ·exact .inr h1
  ·simp[A7,hk,h0,h1] at h
theorem Atl:FO 328 [.sv .val] [.str] Aby :=.fin0 A4v λv r _ hx=>by
 simp only[Aby,Za1] at hx;subst hx;simp only[Ago,L4];cases hr:A7 v with
 |false=>rfl
 |true =>
  simp only[Zt1,Af,Ah];by_cases k2:v.kind=2
  ·rw[Ze1 k2,if_pos k2];rcases A53 hr k2 with h|h<;>rw[h]<;>rfl
  ·rw[Zd1 k2,if_neg k2];by_cases k3:v.kind=3
   ·rw[Ze1 k3,if_pos k3];rfl
   ·rw[Zd1 k3,if_neg k3];by_cases k4:v.kind=4
    ·have hl:=Asu hr (.inl k4);have hq:=Bbo v.s;rw[Ze1 k4,if_pos k4];simp only[Ah,Af,A6a (show v.s.length<=3000 by omega),Zc1];refine(A0g (Ze1 ?_)).trans ((A0g (Ze1 ?_)).trans rfl)
     ·simp only[Zf1,Zi1,Fz];omega
     ·simp only[Zh1,Zf1,Zi1,Fz];omega
    ·rw[Zd1 k4,if_neg k4];by_cases k5:v.kind=5
     ·have hl:=Asu hr (.inr k5);have hh:=Bri v.s;have hv:Bsd v.s=some (A3s v.s):=by simp only[Bsd];rw[Ze1 (by omega)];rfl
      rw[Ze1 k5,if_pos k5];simp only[Ah,Af,hv,Zc1];refine(A0g (Ze1 ?_)).trans ((A0g (Ze1 ?_)).trans rfl)
      ·simp only[Zf1,Zi1,Fz];omega
      ·simp only[Zh1,Zf1,Zi1,Fz];omega
     ·rw[Zd1 k5,if_neg k5];rfl
def Bp7(R:Type):Px R:=pxO [] [] [] []
def Zk(x:HV [.int .i64]):Option (HV [.int .i64]):=match x with
 |kind =>
 let j1:=λ(p1:Bool) =>
  cond (p1) (
  some 0) (
  let j:=λ(p5:Bool) =>
   cond (p5) (
   some 1) (
   cond (!decide ((V1 signsL kind)=[])) (
    some 2) (
    some (-1)))
  cond (decide (kind=3)) (
   j true) (
   cond (decide (kind=15)) (
   j true) (
   j (decide (kind=16)))))
 cond (decide (kind=1)) (
  j1 true) (
  j1 (decide (kind=2)))
theorem Bii:FO 185 [.int .i64] [.int .i64] (Zk):=fR (px:=Bp7 _) (n:=0) Tryz.func185 rfl (λ_ H=>⟨lv H Ae Aa Ab,Ai⟩) λ_=>by kernel_rfl
def parts(kind:Int):Int :=
 let j1:=λ(p1:Bool) =>
  cond (p1) (
  0) (
  let j:=λ(p5:Bool) =>
   cond (p5) (
   1) (
   cond (!decide ((V1 signsL kind)=[])) (
    2) (
    (-1)))
  cond (decide (kind=3)) (
   j true) (
   cond (decide (kind=15)) (
   j true) (
   j (decide (kind=16)))))
 cond (decide (kind=1)) (
  j1 true) (
  j1 (decide (kind=2)))
theorem Bgd(x:HV [.int .i64]):Zk x=some (parts x):=by
 first
  |exact rfl
  |simp only[Zk,parts,A4]
def Axn:FT [.int .i64] [.int .i64]:=λx=>some (parts x)
theorem Ayu:FO 185 [.int .i64] [.int .i64] Axn :=.fin0 Bii λx _ _ hx=>(Bgd x).trans hx
mutual
def C5:Xpr->Nat
 |.mk _ _ _ l=>1+esizes l
def esizes:List Xpr->Nat
 |[]=>0
 |x::l=>1+C5 x+esizes l
end
theorem Ef:∀{l:List Xpr}{x:Xpr},x∈l->C5 x<esizes l
 |y::l,x,h=>by
  simp at h;simp[esizes];rcases h with rfl|h
  ·omega
  ·have:=Ef h;omega
theorem Pw:∀(l:List Xpr),l.length<=esizes l
 |[]=>by simp
 |x::l=>by have:=Pw l;simp[esizes];omega
theorem Ng(e:Xpr) : 0<C5 e:=by cases e;simp[C5];omega
theorem R6(e:Xpr):C5 e=1+esizes e.l:=by cases e;simp[C5,Xpr.l]
theorem Ari{e:Xpr}(h:BdExpr e):ln e.l.length/\∀x,x∈e.l->BdExpr x:=by obtain⟨_,_,_,_,_,_,_,h4,h5⟩:=h;exact⟨h4,h5⟩
def Ahi:Sig:=⟨19,[(0,.sl .expr false),(4,.int .i64),(7,.int .i64),(8,.int .i64)],[(1,.fn 186 [.ptr 1 0])],[(1,.cells [.int .i64])],80,80,400,[],[]⟩
abbrev Oj:=List Xpr×Int×Int×Int×Int
def M2{R:Type}(rf:FT [.sv .expr,.int .i64] [.bool])(rec:Oj->Option R)(kx:Ex->Oj->Option R)(v:Oj):Option R:=match v with
 |(v,v1,v2,v3,w) =>
 cond (decide (v3<v2)) (
  chk (inb v3 v.length) (
  (rf ((at' .expr v v3),(wr .i64 (w-1)))).bind λx =>
   cond (!x) (
   kx .ret (v,v3,v2,v3,w)) (
   rec (v,v1,v2,(wr .i64 (v3+1)),w)))) (
  kx (.exit 0) (v,v1,v2,v3,w))
def Qa(R:Type)(_k:Nat)(rf:FT [.sv .expr,.int .i64] [.bool]):Px R:=pxO [(134,cA rf)] [] [] []
noncomputable def Wy(R:Type)(k:Nat)(rf:FT [.sv .expr,.int .i64] [.bool]):Px R:=pxO [(186,Aw 120 600 (Qa R k rf) Tryz.f186)] [] [(2,Al k Ahi (M2 rf))] []
noncomputable def Agp(R:Type)(k:Nat)(rf:FT [.sv .expr,.int .i64] [.bool]):Px R:=pxO [(184,Aw 80 400 (Wy R k rf) Tryz.f184)] [] [] []
noncomputable def Aqs(R:Type)(k:Nat)(rf:FT [.sv .expr,.int .i64] [.bool]):Px R:=pxO [(59,cA Nr),(83,cA Km),(132,Aw 40 200 (Agp R k rf) Tryz.f132)] [(185,qA Axn)] [] []
def Gb(k:Nat)(rf:FT [.sv .expr,.int .i64] [.bool])(x:HV [.sv .expr,.int .i64]):Option (HV [.bool]):=match x with
 |(e,most) =>
 cond (decide (most=0)) (
  some false) (
  cond (!decide ((e.l.length:Int)=(parts e.kind))) (
  some false) (
  let j2:=λ(_:Unit) =>
   let j1:=λ(_:Unit) =>
   Aj (λrec=>M2 rf rec (λe vz=>match vz with|(_,v5,_,_,_)=>match e with
    |.ret =>
    some (!(decide (0<=v5)))
    |.exit 0 =>
    some true
    |_=>none)) k (e.l,0,(e.l.length:Int),0,most)
   let j:=λ(p5:Bool) =>
   cond (p5) (
    some false) (
    cond (!decide (e.kind=2)) (
    cond (!decide (e.name=[])) (
     some false) (
     j1 ())) (
    j1 ()))
   cond (decide (e.kind=2)) (
   j (!(G2 e.name))) (
   j false)
  cond (decide (e.kind=1)) (
   cond (!decide ((Fa e.v)=0)) (
   some false) (
   cond (decide (e.v.kind=3)) (
    cond (decide (e.v.n<0)) (
    some false) (
    j2 ())) (
    j2 ()))) (
   cond (!decide (e.v=(Val.mk 0 0 []))) (
   some false) (
   j2 ()))))
theorem A6l(k:Nat)(rf:FT [.sv .expr,.int .i64] [.bool])(hrf:FO 134 [.sv .expr,.int .i64] [.bool] rf):FO 134 [.sv .expr,.int .i64] [.bool] (Gb k rf):=fR (px:=Aqs _ k rf) (n:=0) Tryz.func134 rfl (λcx H=>by have h3:Lv cx (Qa (HV [.bool]) k rf):=lv H (c1 H hrf Ae) Aa Ab;have h2:Lv cx (Wy (HV [.bool]) k rf):=lv H (Am (cR H h3 Tryz.func186 rfl (n:=0) (Ai)) Ae) Aa Ab;have hleright_0:=lO H h2 (b:=lp Tryz.f184 0) (k:=k) (n:=0) (s:=Ahi) (step:=M2 rf) (λ_ _ _ (_,_,_,_,_)=>by kernel_rfl) Ai;have h1:Lv cx (Agp (HV [.bool]) k rf):=lv H (Am (cR H h2 Tryz.func184 rfl (n:=1) ((A2 Ai hleright_0))) Ae) Aa Ab;have h0:Lv cx (Aqs (HV [.bool]) k rf):=lv H (c1 H Mh (c1 H Mt (Am (cR H h1 Tryz.func132 rfl (n:=0) (Ai)) Ae))) (q1 H Ayu Aa) Ab;exact⟨h0,Ai⟩) λ(_,_)=>by kernel_rfl
def eok(k:Int)(v:Val)(nm:Str):Bool:=cond (decide (k=1)) (decide (Fa v=0) && !(decide (v.kind=3)&&decide (v.n<0))) (decide (v=⟨0,0,[]⟩))&&cond (decide (k=2)) (G2 nm) (decide (nm=[]))
mutual
def C2:Xpr->Int->Bool
 |.mk k v nm l,m => !decide (m=0)&&decide ((l.length:Int)=parts k)&&eok k v nm&&erights l (wr .i64 (m-1))
def erights:List Xpr->Int->Bool
 |[],_=>true
 |x::l,m=>C2 x m&&erights l m
end
def Qz:FT [.sv .expr,.int .i64] [.bool]:=λx=>some (C2 x.1 x.2)
theorem Agj{R:Type}{rf:FT [.sv .expr,.int .i64] [.bool]}{kx:Ex->Oj->Option R}{l:List Xpr}{m:Int}{a b:Option R}(hn:ln l.length)(hrf:∀x,x∈l->rf (x,wr .i64 (m-1))=some (C2 x (wr .i64 (m-1))))(h1:∀(j:Nat),kx .ret (l,(j:Int),(l.length:Int),(j:Int),m)=a)(h2:∀q j,kx (.exit 0) (l,q,(l.length:Int),j,m)=b):∀(k i:Nat) q,i<=l.length->l.length-i<k->Aj (λrec=>M2 rf rec kx) k (l,q,(l.length:Int),(i:Int),m)=cond (erights (l.drop i) (wr .i64 (m-1))) b a
 |0,i,q,_,h=>by omega
 |k+1,i,q,hi,h=>by
  rw[A0];by_cases hl:i<l.length
  ·simp only[M2,Ao hl hn,(Agj hn hrf h1 h2 k (i+1) q (by omega) (by omega)),h1,Ay hl,Aq (c :=.expr) hl,Au hl,Bool.cond_decide,erights,hrf _ (List.getElem_mem hl)];rw[if_pos (by omega)];cases C2 l[i] (wr .i64 (m-1))<;>rfl
  ·simp[M2,h2,Bool.cond_decide];rw[if_neg (by omega),Zk1 (by omega)];rfl
theorem Bey(e:Xpr)(m:Int):C2 e m=(!decide (m=0)&&decide ((e.l.length:Int)=parts e.kind)&&eok e.kind e.v e.name&&erights e.l (wr .i64 (m-1))):=by cases e;simp[C2];rfl
theorem Ak7(k:Nat):∀(n:Nat) (e:Xpr) (m:Int),BdExpr e->C5 e<=n->C5 e<=k->Aj (Gb k) n (e,m)=some (C2 e m)
 |0,e,m,_,h,_=>by have:=Ng e;omega
 |n+1,e,m,hb,h,hk=>by
  obtain⟨hb4,hb5⟩:=Ari hb;rw[R6] at h hk;have hl:=Pw e.l;have hrf:∀x,x∈e.l->∀m,Aj (Gb k) n (x,m)=some (C2 x m):=λx hx m=>Ak7 k n x m (hb5 x hx) (by have:=Ef hx;omega) (by have:=Ef hx;omega);have hloop:=Agj (R:=Bool) (rf:=Aj (Gb k) n) (l:=e.l) (m:=m) (a:=some false) (b:=some true) (kx:=λe v=>match v with
   |(_,v5,_,_,_)=>match e with
    |.ret=>some (!(decide (0<=v5)))
    |.exit 0=>some true
    |_=>none) hb4 (λx hx=>hrf x hx _) (λj=>by simp) (λ_ _=>rfl) k 0 0 (Nat.zero_le _) (by omega)
  have e0:((0:Nat):Int)=0:=rfl;rw[e0] at hloop;rw[A0,Bey];simp only[Gb] at hloop ⊢;rw[hloop];simp only[Zq1,eok];by_cases hm:m=0
  ·simp[hm]
  ·rw[Zd1 hm];simp only[Af,Zs1,Bool.true_and];by_cases hp:(e.l.length:Int)=parts e.kind
   ·rw[Ze1 hp];by_cases h1:e.kind=1
    ·have h2:¬e.kind=2:=by omega
     rw[Ze1 h1,Zd1 h2];simp only[Ah,Af,Zs1,Zt1,Bool.true_and];cases decide (Fa e.v=0)<;>cases decide (e.v.kind=3)<;>cases decide (e.v.n<0)<;>cases decide (e.name=[])<;>cases erights e.l (wr .i64 (m-1))<;>rfl
    ·rw[Zd1 h1];simp only[Af,Zt1,Bool.true_and];cases decide (e.v=Val.mk 0 0 [])<;>cases decide (e.kind=2)<;>cases decide (e.name=[])<;>cases G2 e.name<;>cases erights e.l (wr .i64 (m-1))<;>rfl
   ·rw[Zd1 hp];rfl
theorem To:FO 134 [.sv .expr,.int .i64] [.bool] Qz:=by refine .fin (ι:=Nat) 0 (F:=λn=>Aj (Gb n) n) (λn=>FnOk.rec' (Sx.enters_of Tryz.func134 rfl rfl) (λrf hrf=>A6l n rf hrf) n) λ(e,m) r hb hx=>⟨C5 e,?_⟩;exact(Ak7 (C5 e) (C5 e) e m hb.1 (Zn1 _) (Zn1 _)).trans hx
def Blg(R:Type):Px R:=pxO [(134,cA Qz)] [] [] []
def Y3(x:HV [.sv .expr]):Option (HV [.int .i64]):=match x with
 |e =>
 cond (!(C2 e 30)) (
  some 2) (
  some 0)
theorem Bik:FO 237 [.sv .expr] [.int .i64] (Y3):=fR (px:=Blg _) (n:=0) Tryz.func237 rfl (λ_ H=>⟨lv H (c1 H To Ae) Aa Ab,Ai⟩) λ_=>by kernel_rfl
def Agi(e:Xpr):Int :=
 cond (!(C2 e 30)) (
  2) (
  0)
theorem Bfd(x:HV [.sv .expr]):Y3 x=some (Agi x):=by
 first
  |exact rfl
  |simp only[Y3,Agi,A4]
def Axr:FT [.sv .expr] [.int .i64]:=λx=>some (Agi x)
theorem A12:FO 237 [.sv .expr] [.int .i64] Axr :=.fin0 Bik λx _ _ hx=>(Bfd x).trans hx
end Go.Proofs.YtblaahgjaopdnaaGreatDoor
