/- Texts of the proof,one behind the other: Si,Sk,Es,Ix,En,Ac,Ad,Sc,No,So,Sd,Se,Lx,Ly. -/
import Derived.Test.YtbkinkalnmbpjaaGreatDoorR4
set_option linter.all false
namespace Go.Proofs.YtbkinkalnmbpjaaGreatDoor
open Go.Sx Go.RowKit
theorem Bu8:ElTy Tryz.prog 23 9 1 16:=elTy_of (by kernel_rfl)
theorem Bva:ElTy Tryz.prog 22 92 5 48:=elTy_of (by kernel_rfl)
theorem A92:ElTy Tryz.prog 24 35 6 80:=elTy_of (by kernel_rfl)
theorem Qk:ElTy Tryz.prog 25 72 2 40:=elTy_of (by kernel_rfl)
def Gt(t:TypeId)(sz n:Nat)(xs:List Value):Value->Sx.Loc->(World->Prop)->Prop:=λv L _=>L=[.row v t sz n xs]
theorem U1{cx:Sx.Cx}{L:Sx.Loc}{F:World->Prop}{t:TypeId}{sz n:Nat}{xs:List Value}{Φ:Sx.Loc->(World->Prop)->Prop}(hF:∀w,F w->n=0/\xs=[])(h : Φ (.row (.slice none 0 0) t sz n xs::L) F):Rt cx L F Φ :=.mk λw hs=>by obtain⟨h1,h2⟩:=hF w hs.here;subst h1 h2;exact⟨_,_,h,hs.newRow t sz⟩
theorem Ait{a:Option Addr}{n c sz:Nat}{xs:List Value}(ha:a.isNone=true)(w:World)(h:RdS (.slice a n c) sz n xs w):n=0/\xs=[]:=by
 obtain⟨hl,a',c',he,hr⟩:=h;have h0:n=0:=by
  rcases hr with h0|⟨b,off,e,_⟩
  ·exact h0
  ·simp only[Value.slice.injEq] at he;rw[he.1,e] at ha;cases ha
 subst h0;exact⟨rfl,List.eq_nil_of_length_eq_zero (by simpa using hl)⟩
set_option maxRecDepth 20000 in
theorem Ax9(a:Option Addr)(n c:Nat)(xs:List Value)(h1:xs.all one=true)(hbig:n<=1000000):Con Tryz.prog 84 [.slice a n c] [] (RdS (.slice a n c) 1 n xs) (Gt 9 1 n xs):=by
 refine Ee Tryz.func84 Tryz.ntmps84 rfl (by kernel_rfl) rfl λw M =>?_
 repeat' (first|(refine Ma ?_;(first|refine E6 ?_|(apply Bm rfl rfl;(first|exact p_move rfl|exact p_assign rfl|exact p_lensl (by dsimp only;decide +kernel) rfl|exact p_eql rfl rfl|exact p_gtr rfl rfl|exact p_not rfl|exact Ai rfl rfl (by omega)|exact Aj rfl rfl (by omega)))|(apply Bm rfl rfl;exact U4 1 (by dsimp only;decide +kernel) rfl rfl)|(refine Md rfl rfl Bu8 rfl rfl rfl rfl ?_;intro b)|fail))|(refine Lw ?_;(first|refine E5 ?_|refine Bz ?_|refine Dm ?_|refine Cs (by dsimp only;decide +kernel) Aq ?_|(refine Ch rfl ?_ ?_<;>intro hc<;>try (first|contradiction|(exfalso;omega)))|(refine C7 rfl ?_ ?_<;>intro hc<;>try contradiction)|refine Di rfl rfl ?_|fail))|(refine L4 ?_;(first|refine E9 ?_|(refine Cr Aq ?_)|fail)))
 ·exact U1 (Ait (by assumption)) rfl
 ·refine Aa0 1 ?_;refine Aat 0 rfl rfl Bu8 rfl rfl rfl (Aas (λw h=>h)) h1 (by omega) (by omega) ?_;intro v'
  repeat' (first|(refine Ma ?_;(first|refine E6 ?_|(apply Bm rfl rfl;(first|exact p_move rfl|exact p_assign rfl|exact p_lensl (by dsimp only;decide +kernel) rfl|exact p_eql rfl rfl|exact p_gtr rfl rfl|exact p_not rfl|exact Ai rfl rfl (by omega)|exact Aj rfl rfl (by omega)))|fail|fail))|(refine Lw ?_;(first|refine E5 ?_|refine Bz ?_|refine Dm ?_|refine Cs (by dsimp only;decide +kernel) Aq ?_|(refine Ch rfl ?_ ?_<;>intro hc<;>try (first|contradiction|(exfalso;omega)))|(refine C7 rfl ?_ ?_<;>intro hc<;>try contradiction)|refine Di rfl rfl ?_|fail))|(refine L4 ?_;(first|refine E9 ?_|(refine Cr Aq ?_)|fail)))
  refine Fi ?_;simp[Gt]
set_option maxRecDepth 20000 in
theorem Awh(a:Option Addr)(n c:Nat)(xs:List Value)(h1:xs.all one=true)(hbig:n<=1000000):Con Tryz.prog 83 [.slice a n c] [] (RdS (.slice a n c) 5 n xs) (Gt 92 5 n xs):=by
 refine Ee Tryz.func83 Tryz.ntmps83 rfl (by kernel_rfl) rfl λw M =>?_
 repeat' (first|(refine Ma ?_;(first|refine E6 ?_|(apply Bm rfl rfl;(first|exact p_move rfl|exact p_assign rfl|exact p_lensl (by dsimp only;decide +kernel) rfl|exact p_eql rfl rfl|exact p_gtr rfl rfl|exact p_not rfl|exact Ai rfl rfl (by omega)|exact Aj rfl rfl (by omega)))|(apply Bm rfl rfl;exact U4 5 (by dsimp only;decide +kernel) rfl rfl)|(refine Md rfl rfl Bva rfl rfl rfl rfl ?_;intro b)|fail))|(refine Lw ?_;(first|refine E5 ?_|refine Bz ?_|refine Dm ?_|refine Cs (by dsimp only;decide +kernel) Aq ?_|(refine Ch rfl ?_ ?_<;>intro hc<;>try (first|contradiction|(exfalso;omega)))|(refine C7 rfl ?_ ?_<;>intro hc<;>try contradiction)|refine Di rfl rfl ?_|fail))|(refine L4 ?_;(first|refine E9 ?_|(refine Cr Aq ?_)|fail)))
 ·exact U1 (Ait (by assumption)) rfl
 ·refine Aa0 5 ?_;refine Aat 0 rfl rfl Bva rfl rfl rfl (Aas (λw h=>h)) h1 (by omega) (by omega) ?_;intro v'
  repeat' (first|(refine Ma ?_;(first|refine E6 ?_|(apply Bm rfl rfl;(first|exact p_move rfl|exact p_assign rfl|exact p_lensl (by dsimp only;decide +kernel) rfl|exact p_eql rfl rfl|exact p_gtr rfl rfl|exact p_not rfl|exact Ai rfl rfl (by omega)|exact Aj rfl rfl (by omega)))|fail|fail))|(refine Lw ?_;(first|refine E5 ?_|refine Bz ?_|refine Dm ?_|refine Cs (by dsimp only;decide +kernel) Aq ?_|(refine Ch rfl ?_ ?_<;>intro hc<;>try (first|contradiction|(exfalso;omega)))|(refine C7 rfl ?_ ?_<;>intro hc<;>try contradiction)|refine Di rfl rfl ?_|fail))|(refine L4 ?_;(first|refine E9 ?_|(refine Cr Aq ?_)|fail)))
  refine Fi ?_;simp[Gt]
set_option maxRecDepth 20000 in
theorem Axp(a:Option Addr)(n c:Nat)(xs:List Value)(h1:xs.all one=true)(hbig:n<=1000000):Con Tryz.prog 153 [.slice a n c] [] (RdS (.slice a n c) 6 n xs) (Gt 35 6 n xs):=by
 refine Ee Tryz.func153 Tryz.ntmps153 rfl (by kernel_rfl) rfl λw M =>?_
 repeat' (first|(refine Ma ?_;(first|refine E6 ?_|(apply Bm rfl rfl;(first|exact p_move rfl|exact p_assign rfl|exact p_lensl (by dsimp only;decide +kernel) rfl|exact p_eql rfl rfl|exact p_gtr rfl rfl|exact p_not rfl|exact Ai rfl rfl (by omega)|exact Aj rfl rfl (by omega)))|(apply Bm rfl rfl;exact U4 6 (by dsimp only;decide +kernel) rfl rfl)|(refine Md rfl rfl A92 rfl rfl rfl rfl ?_;intro b)|fail))|(refine Lw ?_;(first|refine E5 ?_|refine Bz ?_|refine Dm ?_|refine Cs (by dsimp only;decide +kernel) Aq ?_|(refine Ch rfl ?_ ?_<;>intro hc<;>try (first|contradiction|(exfalso;omega)))|(refine C7 rfl ?_ ?_<;>intro hc<;>try contradiction)|refine Di rfl rfl ?_|fail))|(refine L4 ?_;(first|refine E9 ?_|(refine Cr Aq ?_)|fail)))
 ·exact U1 (Ait (by assumption)) rfl
 ·refine Aa0 6 ?_;refine Aat 0 rfl rfl A92 rfl rfl rfl (Aas (λw h=>h)) h1 (by omega) (by omega) ?_;intro v'
  repeat' (first|(refine Ma ?_;(first|refine E6 ?_|(apply Bm rfl rfl;(first|exact p_move rfl|exact p_assign rfl|exact p_lensl (by dsimp only;decide +kernel) rfl|exact p_eql rfl rfl|exact p_gtr rfl rfl|exact p_not rfl|exact Ai rfl rfl (by omega)|exact Aj rfl rfl (by omega)))|fail|fail))|(refine Lw ?_;(first|refine E5 ?_|refine Bz ?_|refine Dm ?_|refine Cs (by dsimp only;decide +kernel) Aq ?_|(refine Ch rfl ?_ ?_<;>intro hc<;>try (first|contradiction|(exfalso;omega)))|(refine C7 rfl ?_ ?_<;>intro hc<;>try contradiction)|refine Di rfl rfl ?_|fail))|(refine L4 ?_;(first|refine E9 ?_|(refine Cr Aq ?_)|fail)))
  refine Fi ?_;simp[Gt]
set_option maxRecDepth 20000 in
theorem Ayr(a:Option Addr)(n c:Nat)(xs:List Value)(h1:xs.all one=true)(hbig:n<=1000000):Con Tryz.prog 50 [.slice a n c] [] (RdS (.slice a n c) 2 n xs) (Gt 72 2 n xs):=by
 refine Ee Tryz.func50 Tryz.ntmps50 rfl (by kernel_rfl) rfl λw M =>?_
 repeat' (first|(refine Ma ?_;(first|refine E6 ?_|(apply Bm rfl rfl;(first|exact p_move rfl|exact p_assign rfl|exact p_lensl (by dsimp only;decide +kernel) rfl|exact p_eql rfl rfl|exact p_gtr rfl rfl|exact p_not rfl|exact Ai rfl rfl (by omega)|exact Aj rfl rfl (by omega)))|(apply Bm rfl rfl;exact U4 2 (by dsimp only;decide +kernel) rfl rfl)|(refine Md rfl rfl Qk rfl rfl rfl rfl ?_;intro b)|fail))|(refine Lw ?_;(first|refine E5 ?_|refine Bz ?_|refine Dm ?_|refine Cs (by dsimp only;decide +kernel) Aq ?_|(refine Ch rfl ?_ ?_<;>intro hc<;>try (first|contradiction|(exfalso;omega)))|(refine C7 rfl ?_ ?_<;>intro hc<;>try contradiction)|refine Di rfl rfl ?_|fail))|(refine L4 ?_;(first|refine E9 ?_|(refine Cr Aq ?_)|fail)))
 ·exact U1 (Ait (by assumption)) rfl
 ·refine Aa0 2 ?_;refine Aat 0 rfl rfl Qk rfl rfl rfl (Aas (λw h=>h)) h1 (by omega) (by omega) ?_;intro v'
  repeat' (first|(refine Ma ?_;(first|refine E6 ?_|(apply Bm rfl rfl;(first|exact p_move rfl|exact p_assign rfl|exact p_lensl (by dsimp only;decide +kernel) rfl|exact p_eql rfl rfl|exact p_gtr rfl rfl|exact p_not rfl|exact Ai rfl rfl (by omega)|exact Aj rfl rfl (by omega)))|fail|fail))|(refine Lw ?_;(first|refine E5 ?_|refine Bz ?_|refine Dm ?_|refine Cs (by dsimp only;decide +kernel) Aq ?_|(refine Ch rfl ?_ ?_<;>intro hc<;>try (first|contradiction|(exfalso;omega)))|(refine C7 rfl ?_ ?_<;>intro hc<;>try contradiction)|refine Di rfl rfl ?_|fail))|(refine L4 ?_;(first|refine E9 ?_|(refine Cr Aq ?_)|fail)))
  refine Fi ?_;simp[Gt]
set_option maxRecDepth 20000 in
theorem Ap2(a:Option Addr)(c:Nat):Con Tryz.prog 153 [.slice a 0 c] [] (λ_=>True) (λv _ _=>∃a',v = .slice a' 0 0):=by
 refine Ee Tryz.func153 Tryz.ntmps153 rfl (by kernel_rfl) rfl λw M =>?_
 repeat' (first|(refine Ma ?_;(first|refine E6 ?_|(apply Bm rfl rfl;(first|exact p_move rfl|exact p_assign rfl|exact p_lensl (by dsimp only;decide +kernel) rfl|exact p_eql rfl rfl|exact p_gtr rfl rfl|exact p_not rfl|exact Ai rfl rfl (by omega)|exact Aj rfl rfl (by omega)))|(apply Bm rfl rfl;exact U4 6 (by dsimp only;decide +kernel) rfl rfl)|(refine Md rfl rfl A92 rfl rfl rfl rfl ?_;intro b)|(apply Bm rfl rfl;exact Asf A92 rfl rfl)|fail))|(refine Lw ?_;(first|refine E5 ?_|refine Bz ?_|refine Dm ?_|refine Cs (by dsimp only;decide +kernel) Aq ?_|(refine Ch rfl ?_ ?_<;>intro hc<;>try (first|contradiction|(exfalso;omega)))|(refine C7 rfl ?_ ?_<;>intro hc<;>try contradiction)|refine Di rfl rfl ?_|fail))|(refine L4 ?_;(first|refine E9 ?_|(refine Cr Aq ?_)|fail)))
 ·exact Fi ⟨_,rfl⟩
 ·exact Fi ⟨_,rfl⟩
set_option maxRecDepth 20000 in
theorem Aqg(a:Option Addr)(c:Nat):Con Tryz.prog 50 [.slice a 0 c] [] (λ_=>True) (λv _ _=>∃a',v = .slice a' 0 0):=by
 refine Ee Tryz.func50 Tryz.ntmps50 rfl (by kernel_rfl) rfl λw M =>?_
 repeat' (first|(refine Ma ?_;(first|refine E6 ?_|(apply Bm rfl rfl;(first|exact p_move rfl|exact p_assign rfl|exact p_lensl (by dsimp only;decide +kernel) rfl|exact p_eql rfl rfl|exact p_gtr rfl rfl|exact p_not rfl|exact Ai rfl rfl (by omega)|exact Aj rfl rfl (by omega)))|(apply Bm rfl rfl;exact U4 2 (by dsimp only;decide +kernel) rfl rfl)|(refine Md rfl rfl Qk rfl rfl rfl rfl ?_;intro b)|(apply Bm rfl rfl;exact Asf Qk rfl rfl)|fail))|(refine Lw ?_;(first|refine E5 ?_|refine Bz ?_|refine Dm ?_|refine Cs (by dsimp only;decide +kernel) Aq ?_|(refine Ch rfl ?_ ?_<;>intro hc<;>try (first|contradiction|(exfalso;omega)))|(refine C7 rfl ?_ ?_<;>intro hc<;>try contradiction)|refine Di rfl rfl ?_|fail))|(refine L4 ?_;(first|refine E9 ?_|(refine Cr Aq ?_)|fail)))
 ·exact Fi ⟨_,rfl⟩
 ·exact Fi ⟨_,rfl⟩
theorem Ado{P:Program}(w:World)(tS tR e:TypeId)(ht:P.underlying tS=some (.slice e))(size:Nat)(hz:∀w,(Go.sizeOf e).run P w = .ok size w)
  (a b:Addr) (la ca lb cb:Nat) (hne:a.block≠b.block) (c1 c2:Array Value) (t1 t2:TypeId) (f1:Nat×Nat)
  (ha:w.heap[a.block]? = some (.cells c1 t1 f1)) (hb:w.heap[b.block]? = some (.cells c2 t2 (0,0))) (h1:c1.size≠0) :
  (Extern.SlicesOverlaps.overlaps #[tS,tS] #[tR] #[.slice (some a) la ca,.slice (some b) lb cb]).run P w = .ok (.bool false) w:=by
 have hnb:(a.block != b.block)=true:=by simpa using hne
 have hnb':(a.block == b.block)=false:=by simpa using hne
 have hsa:w.shape? a.block=some (t1,c1.size):=by simp[World.shape?,ha]
 have hsb:w.shape? b.block=some (t2,c2.size):=by simp[World.shape?,hb]
 have hfb:∀o sp,w.frozen? ⟨b.block,o,sp⟩=false:=λo sp=>by simp[World.frozen?,hb]
 change Sem.run P (α:=Value) (do
  let some t:=(#[tS,tS]:Array TypeId)[0]? | stuck "slices.overlaps: no parameter types"
  let .slice elem <-underlying t|stuck "slices.overlaps: slice type expected"
  let size <-sizeOf elem;match(some a:Option Addr),(some b:Option Addr) with
  |some a,some b =>
   if la=0\/lb=0\/size=0 then pure (Value.bool false)
   else if a.block != b.block&&(<-frozen a)&&(<-frozen b) then unsupported .addressObserved
   else do
    if a.block != b.block then do
     noView a;noView b
     if <-mayBeOne a b then return Value.bool ((<-choose (.extern "sameAddr.stringBytes" 2)) == 1)
    pure (Value.bool (a.block == b.block&&a.off<b.off+lb*size&&b.off<a.off+la*size))
  |_,_=>pure (Value.bool false)) w=_
 by_cases h0:la=0\/lb=0\/size=0
 ·simp[run_underlying ht,hz,h0]
 ·obtain⟨k1,hk1⟩:∃k1,c1.size=k1+1:=⟨c1.size-1,by omega⟩;cases hf1:w.frozen? a<;>simp[run_underlying ht,hz,h0,hnb,hnb',frozen,noView,viewAt,mayBeOne,stringish,shape,Sem.run,hsa,hsb,hfb,hf1,hk1]
section
variable {cx:Sx.Cx}{k:List KI}{e:Sx.Env}{L:Sx.Loc}{F:World->Prop}{Q:Exit->Act->World->Prop}{ops:Array Oper}{rest:List Oper}
theorem Btb{dst:Nat}{fo x y:Operand}{ts:Array TypeId}{t tS tR elem u':TypeId}{pos:String}{after:Array Edge}{g':Option (Nat×Bool)}{f:FuncId}{g go lb cb vb vo la ca sz:Nat}{cs:List Value}(i:Nat)(hg:Gd ops e g' = some true)(hd:Nat.blt dst cx.n=true)
  (hf:Env.ev e fo=some (.func (.func f) #[] #[])) (hx:Env.ev e x=some (.slice (some ⟨vb,vo,none⟩) la ca)) (hy:Env.ev e y=some (.slice (some ⟨g,go,none⟩) lb cb)) (hi:L[i]? = some (.blk g cs u')) (hne:vb≠g) (hsrc:∀w,F w->∃u,w.cell? ⟨vb,vo,none⟩=some u)
  (hrun:∀args w,(callFunc f args).run cx.P w=((Extern.SlicesOverlaps.overlaps #[tS,tS] #[tR] args).run cx.P w).andThen λv w' =>.ok (.value v) w') (ht:cx.P.underlying tS=some (.slice elem)) (hz:tySz cx.P elem=some sz)
  (h:O cx ops rest k ((dst,.bool false)::e) L F Q):O cx ops (⟨some dst,.call ⟨.value fo, #[x,y],ts⟩,t,pos,after,g'⟩::rest) k e L F Q:=by
 refine Acd (λr L' F'=>r = .bool false/\L' = L/\F' = F) hg hd (λa w he hst=>⟨.bool false,w,L,F,?_,hst,rfl,rfl,rfl⟩) (λr L' F' ⟨hr,hL,hF⟩=>by rw[hr,hL,hF];exact h);have hgh:w.heap[g]? = some (.cells cs.toArray u' (0,0)):=hst.ok _ (List.mem_of_getElem? hi);obtain⟨u,hu⟩:=hsrc w hst.here;obtain⟨c1,t1,f1,hh,hc1⟩:∃c1 t1 f1,w.heap[vb]? = some (.cells c1 t1 f1)/\c1.size≠0:=by
  unfold World.cell? at hu;split at hu
  ·rename_i c t' f' hh;refine⟨c,t',f',hh,λh0 =>?_⟩;simp only[Option.isSome_none,Zj2,if_false] at hu;have:=(Zh2.1 hu).1;omega
  ·cases hu
 have hov:=Ado (P:=cx.P) w tS tR elem ht sz (λw=>Sx.run_sizeOf hz w) ⟨vb,vo,none⟩ ⟨g,go,none⟩ la ca lb cb hne c1 _ t1 u' f1 hh hgh hc1;simp only[execOp,resolve,he.ev hf,he.ev hx,he.ev hy,Deferred.ofValue,Sem.run_bind,Sem.run_pure,Result.andThen_ok,invoke,List.map_toArray,Zw1,List.map_nil];rw[show(#[] ++ #[Value.slice (some ⟨vb,vo,none⟩) la ca,Value.slice (some ⟨g,go,none⟩) lb cb] ++ #[]:Array Value) = #[Value.slice (some ⟨vb,vo,none⟩) la ca,Value.slice (some ⟨g,go,none⟩) lb cb] by simp,hrun,hov];rfl
end
def put(c z:List Value)(o:Nat):List Value:=c.take o++z++c.drop (o+z.length)
theorem P7{c z:List Value}{o:Nat}(h:o+z.length<=c.length):(put c z o).length=c.length:=by simp only[put,Zh1,List.length_take,Za2];omega
theorem Ahy{c z:List Value}{o:Nat}(h:o+z.length<=c.length)(q:Nat):(put c z o)[q]? = if o<=q/\q<o+z.length then z[q-o]? else c[q]? := by
 have ht:(c.take o).length=o:=by simp;omega
 simp only[put,Zj1];by_cases h1:q<o
 ·rw[List.getElem?_append_left (by omega),if_neg (by omega),List.getElem?_take,if_pos h1]
 ·rw[List.getElem?_append_right (by omega),ht];by_cases h2:q<o+z.length
  ·rw[List.getElem?_append_left (by omega),if_pos (by omega)]
  ·rw[List.getElem?_append_right (by omega),if_neg (by omega),List.getElem?_drop];congr 1;omega
def A22(cs ys:List Value)(i n:Nat):List Value:=cs.take (i*2)++ys++(cs.drop (i*2)).take ((n-i)*2)
theorem A1i{cs ys:List Value}{i n:Nat}(hin:i<=n)(hl:n*2<=cs.length)(hy:ys.length=2)(q:Nat):(A22 cs ys i n)[q]? = if q<i*2 then cs[q]? else if q<i*2+2 then ys[q-i*2]? else if q<(n+1)*2 then cs[q-2]? else none:=by
 have ht:(cs.take (i*2)).length=i*2:=by simp;omega
 have hd:((cs.drop (i*2)).take ((n-i)*2)).length=(n-i)*2:=by simp;omega
 simp only[A22,Zj1];by_cases h1:q<i*2
 ·rw[List.getElem?_append_left (by omega),if_pos h1,List.getElem?_take,if_pos h1]
 ·rw[List.getElem?_append_right (by omega),ht,if_neg h1];by_cases h2:q<i*2+2
  ·rw[List.getElem?_append_left (by omega),if_pos h2]
  ·rw[List.getElem?_append_right (by omega),if_neg h2,hy,List.getElem?_take,List.getElem?_drop];by_cases h3:q<(n+1)*2
   ·rw[if_pos h3,if_pos (by omega)];congr 1;omega
   ·rw[if_neg h3,if_neg (by omega)]
theorem Bjv{cs ys Z:List Value}{i n:Nat}(hin:i<=n)(hl:(n+1)*2<=cs.length)(hy:ys.length=2)(hZ:Z=(cs.drop (i*2)).take ((n-i)*2)):(put (put cs Z ((i+1)*2)) ys (i*2)).length=cs.length/\(put (put cs Z ((i+1)*2)) ys (i*2)).take ((n+1)*2)=A22 cs ys i n:=by
 have hZl:Z.length=(n-i)*2:=by rw[hZ];simp;omega
 have h1:(i+1)*2+Z.length<=cs.length:=by omega
 have h2:i*2+ys.length<=(put cs Z ((i+1)*2)).length:=by rw[P7 h1];omega
 refine⟨by rw[P7 h2,P7 h1],List.ext_getElem? λq =>?_⟩;rw[List.getElem?_take,A1i hin (by omega) hy,Ahy h2,Ahy h1,hZl,hy,hZ,List.getElem?_take,List.getElem?_drop];by_cases a1:q<(n+1)*2
 ·rw[if_pos a1];by_cases a2:q<i*2
  ·rw[if_neg (by omega),if_neg (by omega),if_pos a2]
  ·rw[if_neg a2];by_cases a3:q<i*2+2
   ·rw[if_pos (by omega),if_pos a3]
   ·rw[if_neg (by omega),if_neg a3,if_pos a1,if_pos (by omega),if_pos (by omega)];congr 1;omega
 ·rw[if_neg a1,if_neg (by omega),if_neg (by omega),if_neg a1]
theorem Bs6{cs ys c1 Z:List Value}{i n q:Nat}(hin:i<=n)(hl:n*2<=cs.length)(hy:ys.length=2)(hZ:Z=(cs.drop (i*2)).take ((n-i)*2))(hc1:c1.take (i*2)=cs.take (i*2))(hq:n+1<=q)(hcl:c1.length=q*2):(put (put c1 ys (i*2)) Z ((i+1)*2)).length=q*2/\(put (put c1 ys (i*2)) Z ((i+1)*2)).take ((n+1)*2)=A22 cs ys i n:=by
 have hZl:Z.length=(n-i)*2:=by rw[hZ];simp;omega
 have h2:i*2+ys.length<=c1.length:=by omega
 have h1:(i+1)*2+Z.length<=(put c1 ys (i*2)).length:=by rw[P7 h2];omega
 refine⟨by rw[P7 h1,P7 h2,hcl],List.ext_getElem? λk =>?_⟩;rw[List.getElem?_take,A1i hin hl hy,Ahy h1,Ahy h2,hZl,hy,hZ,List.getElem?_take,List.getElem?_drop];have hck:k<i*2->c1[k]? = cs[k]? :=λhk=>by have:=congrArg (·[k]?) hc1;simpa[List.getElem?_take,hk] using this
 by_cases a1:k<(n+1)*2
 ·rw[if_pos a1];by_cases a2:k<i*2
  ·rw[if_neg (by omega),if_neg (by omega),if_pos a2,hck a2]
  ·rw[if_neg a2];by_cases a3:k<i*2+2
   ·rw[if_neg (by omega),if_pos (by omega),if_pos a3]
   ·rw[if_pos (by omega),if_pos (by omega),if_neg a3,if_pos a1];congr 1;omega
 ·rw[if_neg a1,if_neg (by omega),if_neg (by omega),if_neg a1]
def Bsa(t:TypeId)(g n i cap:Nat)(cs ys:List Value):Value->Sx.Loc->(World->Prop)->Prop:=λv L _ =>
 (∃cs',v = .slice (some ⟨g,0,none⟩) (n+1) cap/\n+1<=cap/\L=[.blk g cs' t]/\cs'.length=cs.length/\cs'.take ((n+1)*2)=A22 cs ys i n) \/
 (∃b cap' cs',v = .slice (some ⟨b,0,none⟩) (n+1) cap'/\n+1<=cap'/\cap'<=maxLen/\L=[.blk b cs' t,.blk g cs t]/\cs'.length=cap'*2/\cs'.take ((n+1)*2)=A22 cs ys i n)
theorem Bvl(args:Array Value)(w:World):(callFunc 154 args).run Tryz.prog w=((Extern.SlicesOverlaps.overlaps #[25,25] #[4] args).run Tryz.prog w).andThen λv w' =>.ok (.value v) w':=run_callFunc_extern Tryz.func154 (by kernel_rfl) rfl (by kernel_rfl) (e:=Extern.SlicesOverlaps.overlaps #[25,25] #[4]) (by kernel_rfl) args w
theorem Buu{cs:List Value}{n i:Nat}(h1:∀v,v∈cs.take (n*2)->one v=true)(hin:i<=n){v:Value}(hv:v∈(cs.drop (i*2)).take ((n-i)*2)):one v=true:=by
 refine h1 v ?_;obtain⟨q,hq⟩:=List.getElem?_of_mem hv;rw[List.getElem?_take] at hq;split at hq
 ·rw[List.getElem?_drop] at hq;exact List.mem_of_getElem? ((List.getElem?_take_of_lt (by omega)).trans hq)
 ·cases hq
set_option maxRecDepth 20000 in
theorem Buc(g n i cap vb vo vc:Nat)(cs ys:List Value)(hn : 0<n)(hin:i<=n)(hnc:n<=cap)(hl:cs.length=cap*2)(h1:∀v,v∈cs.take (n*2)->one v=true)(hy:ys.length=2)(hy1:∀v,v∈ys->one v=true)(hne:vb≠g)(hbig:n<=1000000) :
  Con Tryz.prog 90 [.slice (some ⟨g,0,none⟩) n cap,.int .i64 i,.slice (some ⟨vb,vo,none⟩) 1 vc] [.blk g cs 72] (λw=>∀(j:Nat) v,ys[j]? = some v->w.cell? ⟨vb,vo+j,none⟩=some v) (Bsa 72 g n i cap cs ys):=by
 refine Ee Tryz.func90 Tryz.ntmps90 rfl (by kernel_rfl) rfl λw M =>?_
 repeat' (first|(refine Ma ?_;(first|refine E6 ?_|(apply Bm rfl rfl;(first|exact p_move rfl|exact p_assign rfl|exact p_lensl (by dsimp only;decide +kernel) rfl|exact p_eql rfl rfl|exact p_gtr rfl rfl|exact p_not rfl|exact Ai rfl rfl (by omega)|exact Aj rfl rfl (by omega)))|(apply Bm rfl rfl;exact Bv1 2 (by dsimp only;decide +kernel) rfl rfl (by omega))|(apply Bm rfl rfl;exact Bxo 2 (by dsimp only;decide +kernel) rfl)|(apply Bm rfl rfl;exact Qi 2 (by dsimp only;decide +kernel) rfl rfl (by omega))|(apply Bm rfl rfl;exact A5q 2 (by dsimp only;decide +kernel) rfl rfl (by omega))|fail))|(refine Lw ?_;(first|refine E5 ?_|refine Bz ?_|refine Dm ?_|refine Cs (by dsimp only;decide +kernel) Aq ?_|(refine Ch rfl ?_ ?_<;>intro hc<;>try (first|contradiction|(exfalso;omega)))|(refine C7 rfl ?_ ?_<;>intro hc<;>try contradiction)|refine Di rfl rfl ?_|fail))|(refine L4 ?_;(first|refine E9 ?_|(refine Cr Aq ?_)|fail))|(refine Aod ?_;(first|(apply Ay 0 rfl rfl rfl (by decide +kernel);(first|exact p_move rfl|exact p_assign rfl|exact p_lensl (by dsimp only;decide +kernel) rfl|exact p_eql rfl rfl|exact p_gtr rfl rfl|exact p_not rfl|exact Ai rfl rfl (by omega)|exact Aj rfl rfl (by omega)))|refine d_off 0 rfl rfl rfl (by decide +kernel) ?_|(apply Ay 1 rfl rfl rfl (by decide +kernel);(first|exact p_move rfl|exact p_assign rfl|exact p_lensl (by dsimp only;decide +kernel) rfl|exact p_eql rfl rfl|exact p_gtr rfl rfl|exact p_not rfl|exact Ai rfl rfl (by omega)|exact Aj rfl rfl (by omega)))|refine d_off 1 rfl rfl rfl (by decide +kernel) ?_|(apply Ay 2 rfl rfl rfl (by decide +kernel);(first|exact p_move rfl|exact p_assign rfl|exact p_lensl (by dsimp only;decide +kernel) rfl|exact p_eql rfl rfl|exact p_gtr rfl rfl|exact p_not rfl|exact Ai rfl rfl (by omega)|exact Aj rfl rfl (by omega)))|refine d_off 2 rfl rfl rfl (by decide +kernel) ?_|(apply Ay 3 rfl rfl rfl (by decide +kernel);(first|exact p_move rfl|exact p_assign rfl|exact p_lensl (by dsimp only;decide +kernel) rfl|exact p_eql rfl rfl|exact p_gtr rfl rfl|exact p_not rfl|exact Ai rfl rfl (by omega)|exact Aj rfl rfl (by omega)))|refine d_off 3 rfl rfl rfl (by decide +kernel) ?_|(apply Ay 4 rfl rfl rfl (by decide +kernel);(first|exact p_move rfl|exact p_assign rfl|exact p_lensl (by dsimp only;decide +kernel) rfl|exact p_eql rfl rfl|exact p_gtr rfl rfl|exact p_not rfl|exact Ai rfl rfl (by omega)|exact Aj rfl rfl (by omega)))|refine d_off 4 rfl rfl rfl (by decide +kernel) ?_|(apply Ay 5 rfl rfl rfl (by decide +kernel);(first|exact p_move rfl|exact p_assign rfl|exact p_lensl (by dsimp only;decide +kernel) rfl|exact p_eql rfl rfl|exact p_gtr rfl rfl|exact p_not rfl|exact Ai rfl rfl (by omega)|exact Aj rfl rfl (by omega)))|refine d_off 5 rfl rfl rfl (by decide +kernel) ?_|(apply Ay 6 rfl rfl rfl (by decide +kernel);(first|exact p_move rfl|exact p_assign rfl|exact p_lensl (by dsimp only;decide +kernel) rfl|exact p_eql rfl rfl|exact p_gtr rfl rfl|exact p_not rfl|exact Ai rfl rfl (by omega)|exact Aj rfl rfl (by omega)))|refine d_off 6 rfl rfl rfl (by decide +kernel) ?_|(apply Ay 7 rfl rfl rfl (by decide +kernel);(first|exact p_move rfl|exact p_assign rfl|exact p_lensl (by dsimp only;decide +kernel) rfl|exact p_eql rfl rfl|exact p_gtr rfl rfl|exact p_not rfl|exact Ai rfl rfl (by omega)|exact Aj rfl rfl (by omega)))|refine d_off 7 rfl rfl rfl (by decide +kernel) ?_|refine S6 (by decide +kernel) ?_|fail)))
 ·obtain rfl:i=n:=by omega
  have hin':cs.take (i*2)++ys=A22 cs ys i i:=by simp[A22]
  by_cases hr:i+1<=cap
  ·refine Bf0 (zs:=ys) 0 rfl rfl Qk rfl rfl rfl (λw hs=>hs.here) (by rw[hy]) hr (by omega) hy1 rfl ?_
   repeat' (first|(refine Ma ?_;(first|refine E6 ?_|(apply Bm rfl rfl;(first|exact p_move rfl|exact p_assign rfl|exact p_lensl (by dsimp only;decide +kernel) rfl|exact p_eql rfl rfl|exact p_gtr rfl rfl|exact p_not rfl|exact Ai rfl rfl (by omega)|exact Aj rfl rfl (by omega)))|fail|fail))|(refine Lw ?_;(first|refine E5 ?_|refine Bz ?_|refine Dm ?_|refine Cs (by dsimp only;decide +kernel) Aq ?_|(refine Ch rfl ?_ ?_<;>intro hc<;>try (first|contradiction|(exfalso;omega)))|(refine C7 rfl ?_ ?_<;>intro hc<;>try contradiction)|refine Di rfl rfl ?_|fail))|(refine L4 ?_;(first|refine E9 ?_|(refine Cr Aq ?_)|fail))|(refine Aod ?_;(first|(apply Ay 0 rfl rfl rfl (by decide +kernel);(first|exact p_move rfl|exact p_assign rfl|exact p_lensl (by dsimp only;decide +kernel) rfl|exact p_eql rfl rfl|exact p_gtr rfl rfl|exact p_not rfl|exact Ai rfl rfl (by omega)|exact Aj rfl rfl (by omega)))|refine d_off 0 rfl rfl rfl (by decide +kernel) ?_|(apply Ay 1 rfl rfl rfl (by decide +kernel);(first|exact p_move rfl|exact p_assign rfl|exact p_lensl (by dsimp only;decide +kernel) rfl|exact p_eql rfl rfl|exact p_gtr rfl rfl|exact p_not rfl|exact Ai rfl rfl (by omega)|exact Aj rfl rfl (by omega)))|refine d_off 1 rfl rfl rfl (by decide +kernel) ?_|(apply Ay 2 rfl rfl rfl (by decide +kernel);(first|exact p_move rfl|exact p_assign rfl|exact p_lensl (by dsimp only;decide +kernel) rfl|exact p_eql rfl rfl|exact p_gtr rfl rfl|exact p_not rfl|exact Ai rfl rfl (by omega)|exact Aj rfl rfl (by omega)))|refine d_off 2 rfl rfl rfl (by decide +kernel) ?_|(apply Ay 3 rfl rfl rfl (by decide +kernel);(first|exact p_move rfl|exact p_assign rfl|exact p_lensl (by dsimp only;decide +kernel) rfl|exact p_eql rfl rfl|exact p_gtr rfl rfl|exact p_not rfl|exact Ai rfl rfl (by omega)|exact Aj rfl rfl (by omega)))|refine d_off 3 rfl rfl rfl (by decide +kernel) ?_|(apply Ay 4 rfl rfl rfl (by decide +kernel);(first|exact p_move rfl|exact p_assign rfl|exact p_lensl (by dsimp only;decide +kernel) rfl|exact p_eql rfl rfl|exact p_gtr rfl rfl|exact p_not rfl|exact Ai rfl rfl (by omega)|exact Aj rfl rfl (by omega)))|refine d_off 4 rfl rfl rfl (by decide +kernel) ?_|(apply Ay 5 rfl rfl rfl (by decide +kernel);(first|exact p_move rfl|exact p_assign rfl|exact p_lensl (by dsimp only;decide +kernel) rfl|exact p_eql rfl rfl|exact p_gtr rfl rfl|exact p_not rfl|exact Ai rfl rfl (by omega)|exact Aj rfl rfl (by omega)))|refine d_off 5 rfl rfl rfl (by decide +kernel) ?_|(apply Ay 6 rfl rfl rfl (by decide +kernel);(first|exact p_move rfl|exact p_assign rfl|exact p_lensl (by dsimp only;decide +kernel) rfl|exact p_eql rfl rfl|exact p_gtr rfl rfl|exact p_not rfl|exact Ai rfl rfl (by omega)|exact Aj rfl rfl (by omega)))|refine d_off 6 rfl rfl rfl (by decide +kernel) ?_|(apply Ay 7 rfl rfl rfl (by decide +kernel);(first|exact p_move rfl|exact p_assign rfl|exact p_lensl (by dsimp only;decide +kernel) rfl|exact p_eql rfl rfl|exact p_gtr rfl rfl|exact p_not rfl|exact Ai rfl rfl (by omega)|exact Aj rfl rfl (by omega)))|refine d_off 7 rfl rfl rfl (by decide +kernel) ?_|refine S6 (by decide +kernel) ?_|fail)))
   refine Fi (.inl ⟨_,rfl,hr,rfl,P7 (z:=ys) (o:=i*2) (by omega),?_⟩);rw[<-hin'];exact List.take_left' (by simp;omega)
  ·refine Bgw (zs:=ys) 0 rfl rfl Qk rfl rfl rfl (λw hs=>hs.here) (by rw[hy]) (by omega) (by omega) (by simp only[maxLen];omega) (by omega) ?_;intro b' q tl hq1 hq2 htl
   repeat' (first|(refine Ma ?_;(first|refine E6 ?_|(apply Bm rfl rfl;(first|exact p_move rfl|exact p_assign rfl|exact p_lensl (by dsimp only;decide +kernel) rfl|exact p_eql rfl rfl|exact p_gtr rfl rfl|exact p_not rfl|exact Ai rfl rfl (by omega)|exact Aj rfl rfl (by omega)))|fail|fail))|(refine Lw ?_;(first|refine E5 ?_|refine Bz ?_|refine Dm ?_|refine Cs (by dsimp only;decide +kernel) Aq ?_|(refine Ch rfl ?_ ?_<;>intro hc<;>try (first|contradiction|(exfalso;omega)))|(refine C7 rfl ?_ ?_<;>intro hc<;>try contradiction)|refine Di rfl rfl ?_|fail))|(refine L4 ?_;(first|refine E9 ?_|(refine Cr Aq ?_)|fail))|(refine Aod ?_;(first|(apply Ay 0 rfl rfl rfl (by decide +kernel);(first|exact p_move rfl|exact p_assign rfl|exact p_lensl (by dsimp only;decide +kernel) rfl|exact p_eql rfl rfl|exact p_gtr rfl rfl|exact p_not rfl|exact Ai rfl rfl (by omega)|exact Aj rfl rfl (by omega)))|refine d_off 0 rfl rfl rfl (by decide +kernel) ?_|(apply Ay 1 rfl rfl rfl (by decide +kernel);(first|exact p_move rfl|exact p_assign rfl|exact p_lensl (by dsimp only;decide +kernel) rfl|exact p_eql rfl rfl|exact p_gtr rfl rfl|exact p_not rfl|exact Ai rfl rfl (by omega)|exact Aj rfl rfl (by omega)))|refine d_off 1 rfl rfl rfl (by decide +kernel) ?_|(apply Ay 2 rfl rfl rfl (by decide +kernel);(first|exact p_move rfl|exact p_assign rfl|exact p_lensl (by dsimp only;decide +kernel) rfl|exact p_eql rfl rfl|exact p_gtr rfl rfl|exact p_not rfl|exact Ai rfl rfl (by omega)|exact Aj rfl rfl (by omega)))|refine d_off 2 rfl rfl rfl (by decide +kernel) ?_|(apply Ay 3 rfl rfl rfl (by decide +kernel);(first|exact p_move rfl|exact p_assign rfl|exact p_lensl (by dsimp only;decide +kernel) rfl|exact p_eql rfl rfl|exact p_gtr rfl rfl|exact p_not rfl|exact Ai rfl rfl (by omega)|exact Aj rfl rfl (by omega)))|refine d_off 3 rfl rfl rfl (by decide +kernel) ?_|(apply Ay 4 rfl rfl rfl (by decide +kernel);(first|exact p_move rfl|exact p_assign rfl|exact p_lensl (by dsimp only;decide +kernel) rfl|exact p_eql rfl rfl|exact p_gtr rfl rfl|exact p_not rfl|exact Ai rfl rfl (by omega)|exact Aj rfl rfl (by omega)))|refine d_off 4 rfl rfl rfl (by decide +kernel) ?_|(apply Ay 5 rfl rfl rfl (by decide +kernel);(first|exact p_move rfl|exact p_assign rfl|exact p_lensl (by dsimp only;decide +kernel) rfl|exact p_eql rfl rfl|exact p_gtr rfl rfl|exact p_not rfl|exact Ai rfl rfl (by omega)|exact Aj rfl rfl (by omega)))|refine d_off 5 rfl rfl rfl (by decide +kernel) ?_|(apply Ay 6 rfl rfl rfl (by decide +kernel);(first|exact p_move rfl|exact p_assign rfl|exact p_lensl (by dsimp only;decide +kernel) rfl|exact p_eql rfl rfl|exact p_gtr rfl rfl|exact p_not rfl|exact Ai rfl rfl (by omega)|exact Aj rfl rfl (by omega)))|refine d_off 6 rfl rfl rfl (by decide +kernel) ?_|(apply Ay 7 rfl rfl rfl (by decide +kernel);(first|exact p_move rfl|exact p_assign rfl|exact p_lensl (by dsimp only;decide +kernel) rfl|exact p_eql rfl rfl|exact p_gtr rfl rfl|exact p_not rfl|exact Ai rfl rfl (by omega)|exact Aj rfl rfl (by omega)))|refine d_off 7 rfl rfl rfl (by decide +kernel) ?_|refine S6 (by decide +kernel) ?_|fail)))
   refine Fi (.inr ⟨_,_,_,rfl,hq1,hq2,rfl,by simp;omega,?_⟩);rw[<-hin'];exact List.take_left' (by simp;omega)
 ·refine A5e (kn :=.i64) 0 rfl rfl Qk (by dsimp only;decide +kernel) rfl rfl rfl (by omega) (by omega) (by omega) (by simp only[maxLen];omega) (by omega) ?_;intro b' q tl hq1 hq2 htl
  repeat' (first|(refine Ma ?_;(first|refine E6 ?_|(apply Bm rfl rfl;(first|exact p_move rfl|exact p_assign rfl|exact p_lensl (by dsimp only;decide +kernel) rfl|exact p_eql rfl rfl|exact p_gtr rfl rfl|exact p_not rfl|exact Ai rfl rfl (by omega)|exact Aj rfl rfl (by omega)))|(apply Bm rfl rfl;exact Qi 2 (by dsimp only;decide +kernel) rfl rfl (by omega))|fail))|(refine Lw ?_;(first|refine E5 ?_|refine Bz ?_|refine Dm ?_|refine Cs (by dsimp only;decide +kernel) Aq ?_|(refine Ch rfl ?_ ?_<;>intro hc<;>try (first|contradiction|(exfalso;omega)))|(refine C7 rfl ?_ ?_<;>intro hc<;>try contradiction)|refine Di rfl rfl ?_|fail))|(refine L4 ?_;(first|refine E9 ?_|(refine Cr Aq ?_)|fail))|(refine Aod ?_;(first|(apply Ay 0 rfl rfl rfl (by decide +kernel);(first|exact p_move rfl|exact p_assign rfl|exact p_lensl (by dsimp only;decide +kernel) rfl|exact p_eql rfl rfl|exact p_gtr rfl rfl|exact p_not rfl|exact Ai rfl rfl (by omega)|exact Aj rfl rfl (by omega)))|refine d_off 0 rfl rfl rfl (by decide +kernel) ?_|(apply Ay 1 rfl rfl rfl (by decide +kernel);(first|exact p_move rfl|exact p_assign rfl|exact p_lensl (by dsimp only;decide +kernel) rfl|exact p_eql rfl rfl|exact p_gtr rfl rfl|exact p_not rfl|exact Ai rfl rfl (by omega)|exact Aj rfl rfl (by omega)))|refine d_off 1 rfl rfl rfl (by decide +kernel) ?_|(apply Ay 2 rfl rfl rfl (by decide +kernel);(first|exact p_move rfl|exact p_assign rfl|exact p_lensl (by dsimp only;decide +kernel) rfl|exact p_eql rfl rfl|exact p_gtr rfl rfl|exact p_not rfl|exact Ai rfl rfl (by omega)|exact Aj rfl rfl (by omega)))|refine d_off 2 rfl rfl rfl (by decide +kernel) ?_|(apply Ay 3 rfl rfl rfl (by decide +kernel);(first|exact p_move rfl|exact p_assign rfl|exact p_lensl (by dsimp only;decide +kernel) rfl|exact p_eql rfl rfl|exact p_gtr rfl rfl|exact p_not rfl|exact Ai rfl rfl (by omega)|exact Aj rfl rfl (by omega)))|refine d_off 3 rfl rfl rfl (by decide +kernel) ?_|(apply Ay 4 rfl rfl rfl (by decide +kernel);(first|exact p_move rfl|exact p_assign rfl|exact p_lensl (by dsimp only;decide +kernel) rfl|exact p_eql rfl rfl|exact p_gtr rfl rfl|exact p_not rfl|exact Ai rfl rfl (by omega)|exact Aj rfl rfl (by omega)))|refine d_off 4 rfl rfl rfl (by decide +kernel) ?_|(apply Ay 5 rfl rfl rfl (by decide +kernel);(first|exact p_move rfl|exact p_assign rfl|exact p_lensl (by dsimp only;decide +kernel) rfl|exact p_eql rfl rfl|exact p_gtr rfl rfl|exact p_not rfl|exact Ai rfl rfl (by omega)|exact Aj rfl rfl (by omega)))|refine d_off 5 rfl rfl rfl (by decide +kernel) ?_|(apply Ay 6 rfl rfl rfl (by decide +kernel);(first|exact p_move rfl|exact p_assign rfl|exact p_lensl (by dsimp only;decide +kernel) rfl|exact p_eql rfl rfl|exact p_gtr rfl rfl|exact p_not rfl|exact Ai rfl rfl (by omega)|exact Aj rfl rfl (by omega)))|refine d_off 6 rfl rfl rfl (by decide +kernel) ?_|(apply Ay 7 rfl rfl rfl (by decide +kernel);(first|exact p_move rfl|exact p_assign rfl|exact p_lensl (by dsimp only;decide +kernel) rfl|exact p_eql rfl rfl|exact p_gtr rfl rfl|exact p_not rfl|exact Ai rfl rfl (by omega)|exact Aj rfl rfl (by omega)))|refine d_off 7 rfl rfl rfl (by decide +kernel) ?_|refine S6 (by decide +kernel) ?_|fail)))
  refine Avh (zs:=ys) 0 rfl rfl Qk rfl rfl rfl (λw hs=>hs.here) ?_ ?_ hy1 ?_
  ·rw[hy,show Nat.min 1 _=1 from Nat.min_eq_left (by omega)]
  ·simp only[Zh1,List.length_take];omega
  ·repeat' (first|(refine Ma ?_;(first|refine E6 ?_|(apply Bm rfl rfl;(first|exact p_move rfl|exact p_assign rfl|exact p_lensl (by dsimp only;decide +kernel) rfl|exact p_eql rfl rfl|exact p_gtr rfl rfl|exact p_not rfl|exact Ai rfl rfl (by omega)|exact Aj rfl rfl (by omega)))|fail|fail))|(refine Lw ?_;(first|refine E5 ?_|refine Bz ?_|refine Dm ?_|refine Cs (by dsimp only;decide +kernel) Aq ?_|(refine Ch rfl ?_ ?_<;>intro hc<;>try (first|contradiction|(exfalso;omega)))|(refine C7 rfl ?_ ?_<;>intro hc<;>try contradiction)|refine Di rfl rfl ?_|fail))|(refine L4 ?_;(first|refine E9 ?_|(refine Cr Aq ?_)|fail))|(refine Aod ?_;(first|(apply Ay 0 rfl rfl rfl (by decide +kernel);(first|exact p_move rfl|exact p_assign rfl|exact p_lensl (by dsimp only;decide +kernel) rfl|exact p_eql rfl rfl|exact p_gtr rfl rfl|exact p_not rfl|exact Ai rfl rfl (by omega)|exact Aj rfl rfl (by omega)))|refine d_off 0 rfl rfl rfl (by decide +kernel) ?_|(apply Ay 1 rfl rfl rfl (by decide +kernel);(first|exact p_move rfl|exact p_assign rfl|exact p_lensl (by dsimp only;decide +kernel) rfl|exact p_eql rfl rfl|exact p_gtr rfl rfl|exact p_not rfl|exact Ai rfl rfl (by omega)|exact Aj rfl rfl (by omega)))|refine d_off 1 rfl rfl rfl (by decide +kernel) ?_|(apply Ay 2 rfl rfl rfl (by decide +kernel);(first|exact p_move rfl|exact p_assign rfl|exact p_lensl (by dsimp only;decide +kernel) rfl|exact p_eql rfl rfl|exact p_gtr rfl rfl|exact p_not rfl|exact Ai rfl rfl (by omega)|exact Aj rfl rfl (by omega)))|refine d_off 2 rfl rfl rfl (by decide +kernel) ?_|(apply Ay 3 rfl rfl rfl (by decide +kernel);(first|exact p_move rfl|exact p_assign rfl|exact p_lensl (by dsimp only;decide +kernel) rfl|exact p_eql rfl rfl|exact p_gtr rfl rfl|exact p_not rfl|exact Ai rfl rfl (by omega)|exact Aj rfl rfl (by omega)))|refine d_off 3 rfl rfl rfl (by decide +kernel) ?_|(apply Ay 4 rfl rfl rfl (by decide +kernel);(first|exact p_move rfl|exact p_assign rfl|exact p_lensl (by dsimp only;decide +kernel) rfl|exact p_eql rfl rfl|exact p_gtr rfl rfl|exact p_not rfl|exact Ai rfl rfl (by omega)|exact Aj rfl rfl (by omega)))|refine d_off 4 rfl rfl rfl (by decide +kernel) ?_|(apply Ay 5 rfl rfl rfl (by decide +kernel);(first|exact p_move rfl|exact p_assign rfl|exact p_lensl (by dsimp only;decide +kernel) rfl|exact p_eql rfl rfl|exact p_gtr rfl rfl|exact p_not rfl|exact Ai rfl rfl (by omega)|exact Aj rfl rfl (by omega)))|refine d_off 5 rfl rfl rfl (by decide +kernel) ?_|(apply Ay 6 rfl rfl rfl (by decide +kernel);(first|exact p_move rfl|exact p_assign rfl|exact p_lensl (by dsimp only;decide +kernel) rfl|exact p_eql rfl rfl|exact p_gtr rfl rfl|exact p_not rfl|exact Ai rfl rfl (by omega)|exact Aj rfl rfl (by omega)))|refine d_off 6 rfl rfl rfl (by decide +kernel) ?_|(apply Ay 7 rfl rfl rfl (by decide +kernel);(first|exact p_move rfl|exact p_assign rfl|exact p_lensl (by dsimp only;decide +kernel) rfl|exact p_eql rfl rfl|exact p_gtr rfl rfl|exact p_not rfl|exact Ai rfl rfl (by omega)|exact Aj rfl rfl (by omega)))|refine d_off 7 rfl rfl rfl (by decide +kernel) ?_|refine S6 (by decide +kernel) ?_|fail)))
   apply Ay 4 rfl rfl rfl (by decide +kernel) (Qi 2 (by dsimp only;decide +kernel) rfl rfl (by omega));apply Ay 7 rfl rfl rfl (by decide +kernel) (Qi 2 (by dsimp only;decide +kernel) rfl rfl (by omega));refine Bvc 8 rfl (by decide +kernel) ?_;refine Avh 0 rfl rfl Qk rfl rfl rfl (Atr (n:=(n-i)*2) 1 rfl) ?_ ?_ ?_ ?_
   ·have:Nat.min (n-(i:Int).toNat) ((i:Int).toNat+((n:Int)+((1:Nat):Int)-(i:Int)).toNat-((i:Int)+((1:Nat):Int)).toNat)=n-i:=(Nat.min_eq_left (by omega)).trans (by omega);rw[this,List.length_take,Za2];omega
   ·simp only[Zh1,List.length_take,Za2];omega
   ·intro v hv;exact Buu h1 hin (by simpa using hv)
   ·repeat' (first|(refine Ma ?_;(first|refine E6 ?_|(apply Bm rfl rfl;(first|exact p_move rfl|exact p_assign rfl|exact p_lensl (by dsimp only;decide +kernel) rfl|exact p_eql rfl rfl|exact p_gtr rfl rfl|exact p_not rfl|exact Ai rfl rfl (by omega)|exact Aj rfl rfl (by omega)))|fail|fail))|(refine Lw ?_;(first|refine E5 ?_|refine Bz ?_|refine Dm ?_|refine Cs (by dsimp only;decide +kernel) Aq ?_|(refine Ch rfl ?_ ?_<;>intro hc<;>try (first|contradiction|(exfalso;omega)))|(refine C7 rfl ?_ ?_<;>intro hc<;>try contradiction)|refine Di rfl rfl ?_|fail))|(refine L4 ?_;(first|refine E9 ?_|(refine Cr Aq ?_)|fail))|(refine Aod ?_;(first|(apply Ay 0 rfl rfl rfl (by decide +kernel);(first|exact p_move rfl|exact p_assign rfl|exact p_lensl (by dsimp only;decide +kernel) rfl|exact p_eql rfl rfl|exact p_gtr rfl rfl|exact p_not rfl|exact Ai rfl rfl (by omega)|exact Aj rfl rfl (by omega)))|refine d_off 0 rfl rfl rfl (by decide +kernel) ?_|(apply Ay 1 rfl rfl rfl (by decide +kernel);(first|exact p_move rfl|exact p_assign rfl|exact p_lensl (by dsimp only;decide +kernel) rfl|exact p_eql rfl rfl|exact p_gtr rfl rfl|exact p_not rfl|exact Ai rfl rfl (by omega)|exact Aj rfl rfl (by omega)))|refine d_off 1 rfl rfl rfl (by decide +kernel) ?_|(apply Ay 2 rfl rfl rfl (by decide +kernel);(first|exact p_move rfl|exact p_assign rfl|exact p_lensl (by dsimp only;decide +kernel) rfl|exact p_eql rfl rfl|exact p_gtr rfl rfl|exact p_not rfl|exact Ai rfl rfl (by omega)|exact Aj rfl rfl (by omega)))|refine d_off 2 rfl rfl rfl (by decide +kernel) ?_|(apply Ay 3 rfl rfl rfl (by decide +kernel);(first|exact p_move rfl|exact p_assign rfl|exact p_lensl (by dsimp only;decide +kernel) rfl|exact p_eql rfl rfl|exact p_gtr rfl rfl|exact p_not rfl|exact Ai rfl rfl (by omega)|exact Aj rfl rfl (by omega)))|refine d_off 3 rfl rfl rfl (by decide +kernel) ?_|(apply Ay 4 rfl rfl rfl (by decide +kernel);(first|exact p_move rfl|exact p_assign rfl|exact p_lensl (by dsimp only;decide +kernel) rfl|exact p_eql rfl rfl|exact p_gtr rfl rfl|exact p_not rfl|exact Ai rfl rfl (by omega)|exact Aj rfl rfl (by omega)))|refine d_off 4 rfl rfl rfl (by decide +kernel) ?_|(apply Ay 5 rfl rfl rfl (by decide +kernel);(first|exact p_move rfl|exact p_assign rfl|exact p_lensl (by dsimp only;decide +kernel) rfl|exact p_eql rfl rfl|exact p_gtr rfl rfl|exact p_not rfl|exact Ai rfl rfl (by omega)|exact Aj rfl rfl (by omega)))|refine d_off 5 rfl rfl rfl (by decide +kernel) ?_|(apply Ay 6 rfl rfl rfl (by decide +kernel);(first|exact p_move rfl|exact p_assign rfl|exact p_lensl (by dsimp only;decide +kernel) rfl|exact p_eql rfl rfl|exact p_gtr rfl rfl|exact p_not rfl|exact Ai rfl rfl (by omega)|exact Aj rfl rfl (by omega)))|refine d_off 6 rfl rfl rfl (by decide +kernel) ?_|(apply Ay 7 rfl rfl rfl (by decide +kernel);(first|exact p_move rfl|exact p_assign rfl|exact p_lensl (by dsimp only;decide +kernel) rfl|exact p_eql rfl rfl|exact p_gtr rfl rfl|exact p_not rfl|exact Ai rfl rfl (by omega)|exact Aj rfl rfl (by omega)))|refine d_off 7 rfl rfl rfl (by decide +kernel) ?_|refine S6 (by decide +kernel) ?_|fail)))
    have e1:i+((n:Int)+((1:Nat):Int)-(i:Int)).toNat=n+1:=by omega
    have e2:((i:Int)+((1:Nat):Int)).toNat=i+1:=by omega
    simp only[e1,e2,Int.toNat_natCast,Nat.zero_add] at hq1 htl ⊢;have hd:=Bs6 (c1:=cs.take (i*2)++tl) (q:=q) hin (by omega) hy rfl (List.take_left' (by simp;omega)) hq1 (by simp;omega);refine Fi (.inr ⟨_,_,_,rfl,hq1,hq2,rfl,hd.1,hd.2⟩)
 ·refine Btb 0 rfl rfl rfl rfl rfl rfl hne (λw h=>⟨_,h 0 _ (Zo1 (by omega))⟩) Bvl rfl rfl ?_
  repeat' (first|(refine Ma ?_;(first|refine E6 ?_|(apply Bm rfl rfl;(first|exact p_move rfl|exact p_assign rfl|exact p_lensl (by dsimp only;decide +kernel) rfl|exact p_eql rfl rfl|exact p_gtr rfl rfl|exact p_not rfl|exact Ai rfl rfl (by omega)|exact Aj rfl rfl (by omega)))|fail|fail))|(refine Lw ?_;(first|refine E5 ?_|refine Bz ?_|refine Dm ?_|refine Cs (by dsimp only;decide +kernel) Aq ?_|(refine Ch rfl ?_ ?_<;>intro hc<;>try (first|contradiction|(exfalso;omega)))|(refine C7 rfl ?_ ?_<;>intro hc<;>try contradiction)|refine Di rfl rfl ?_|fail))|(refine L4 ?_;(first|refine E9 ?_|(refine Cr Aq ?_)|fail))|(refine Aod ?_;(first|(apply Ay 0 rfl rfl rfl (by decide +kernel);(first|exact p_move rfl|exact p_assign rfl|exact p_lensl (by dsimp only;decide +kernel) rfl|exact p_eql rfl rfl|exact p_gtr rfl rfl|exact p_not rfl|exact Ai rfl rfl (by omega)|exact Aj rfl rfl (by omega)))|refine d_off 0 rfl rfl rfl (by decide +kernel) ?_|(apply Ay 1 rfl rfl rfl (by decide +kernel);(first|exact p_move rfl|exact p_assign rfl|exact p_lensl (by dsimp only;decide +kernel) rfl|exact p_eql rfl rfl|exact p_gtr rfl rfl|exact p_not rfl|exact Ai rfl rfl (by omega)|exact Aj rfl rfl (by omega)))|refine d_off 1 rfl rfl rfl (by decide +kernel) ?_|(apply Ay 2 rfl rfl rfl (by decide +kernel);(first|exact p_move rfl|exact p_assign rfl|exact p_lensl (by dsimp only;decide +kernel) rfl|exact p_eql rfl rfl|exact p_gtr rfl rfl|exact p_not rfl|exact Ai rfl rfl (by omega)|exact Aj rfl rfl (by omega)))|refine d_off 2 rfl rfl rfl (by decide +kernel) ?_|(apply Ay 3 rfl rfl rfl (by decide +kernel);(first|exact p_move rfl|exact p_assign rfl|exact p_lensl (by dsimp only;decide +kernel) rfl|exact p_eql rfl rfl|exact p_gtr rfl rfl|exact p_not rfl|exact Ai rfl rfl (by omega)|exact Aj rfl rfl (by omega)))|refine d_off 3 rfl rfl rfl (by decide +kernel) ?_|(apply Ay 4 rfl rfl rfl (by decide +kernel);(first|exact p_move rfl|exact p_assign rfl|exact p_lensl (by dsimp only;decide +kernel) rfl|exact p_eql rfl rfl|exact p_gtr rfl rfl|exact p_not rfl|exact Ai rfl rfl (by omega)|exact Aj rfl rfl (by omega)))|refine d_off 4 rfl rfl rfl (by decide +kernel) ?_|(apply Ay 5 rfl rfl rfl (by decide +kernel);(first|exact p_move rfl|exact p_assign rfl|exact p_lensl (by dsimp only;decide +kernel) rfl|exact p_eql rfl rfl|exact p_gtr rfl rfl|exact p_not rfl|exact Ai rfl rfl (by omega)|exact Aj rfl rfl (by omega)))|refine d_off 5 rfl rfl rfl (by decide +kernel) ?_|(apply Ay 6 rfl rfl rfl (by decide +kernel);(first|exact p_move rfl|exact p_assign rfl|exact p_lensl (by dsimp only;decide +kernel) rfl|exact p_eql rfl rfl|exact p_gtr rfl rfl|exact p_not rfl|exact Ai rfl rfl (by omega)|exact Aj rfl rfl (by omega)))|refine d_off 6 rfl rfl rfl (by decide +kernel) ?_|(apply Ay 7 rfl rfl rfl (by decide +kernel);(first|exact p_move rfl|exact p_assign rfl|exact p_lensl (by dsimp only;decide +kernel) rfl|exact p_eql rfl rfl|exact p_gtr rfl rfl|exact p_not rfl|exact Ai rfl rfl (by omega)|exact Aj rfl rfl (by omega)))|refine d_off 7 rfl rfl rfl (by decide +kernel) ?_|refine S6 (by decide +kernel) ?_|fail)))
  apply Ay 4 rfl rfl rfl (by decide +kernel) (Qi 2 (by dsimp only;decide +kernel) rfl rfl (by omega));apply Ay 7 rfl rfl rfl (by decide +kernel) (Qi 2 (by dsimp only;decide +kernel) rfl rfl (by omega));refine Bvc 8 rfl (by decide +kernel) ?_;refine Avh 0 rfl rfl Qk rfl rfl rfl (Atr (n:=(n-i)*2) 0 rfl) ?_ ?_ ?_ ?_
  ·have:Nat.min (((n:Int)+((1:Nat):Int)).toNat-(i:Int).toNat) (((n:Int)+((1:Nat):Int)).toNat-((i:Int)+((1:Nat):Int)).toNat)=n-i:=(Nat.min_eq_right (by omega)).trans (by omega);rw[this,List.length_take,Za2];omega
  ·simp only[List.length_take,Za2];omega
  ·intro v hv;exact Buu h1 hin (by simpa using hv)
  ·repeat' (first|(refine Ma ?_;(first|refine E6 ?_|(apply Bm rfl rfl;(first|exact p_move rfl|exact p_assign rfl|exact p_lensl (by dsimp only;decide +kernel) rfl|exact p_eql rfl rfl|exact p_gtr rfl rfl|exact p_not rfl|exact Ai rfl rfl (by omega)|exact Aj rfl rfl (by omega)))|(apply Bm rfl rfl;exact Qi 2 (by dsimp only;decide +kernel) rfl rfl (by omega))|fail))|(refine Lw ?_;(first|refine E5 ?_|refine Bz ?_|refine Dm ?_|refine Cs (by dsimp only;decide +kernel) Aq ?_|(refine Ch rfl ?_ ?_<;>intro hc<;>try (first|contradiction|(exfalso;omega)))|(refine C7 rfl ?_ ?_<;>intro hc<;>try contradiction)|refine Di rfl rfl ?_|fail))|(refine L4 ?_;(first|refine E9 ?_|(refine Cr Aq ?_)|fail))|(refine Aod ?_;(first|(apply Ay 0 rfl rfl rfl (by decide +kernel);(first|exact p_move rfl|exact p_assign rfl|exact p_lensl (by dsimp only;decide +kernel) rfl|exact p_eql rfl rfl|exact p_gtr rfl rfl|exact p_not rfl|exact Ai rfl rfl (by omega)|exact Aj rfl rfl (by omega)))|refine d_off 0 rfl rfl rfl (by decide +kernel) ?_|(apply Ay 1 rfl rfl rfl (by decide +kernel);(first|exact p_move rfl|exact p_assign rfl|exact p_lensl (by dsimp only;decide +kernel) rfl|exact p_eql rfl rfl|exact p_gtr rfl rfl|exact p_not rfl|exact Ai rfl rfl (by omega)|exact Aj rfl rfl (by omega)))|refine d_off 1 rfl rfl rfl (by decide +kernel) ?_|(apply Ay 2 rfl rfl rfl (by decide +kernel);(first|exact p_move rfl|exact p_assign rfl|exact p_lensl (by dsimp only;decide +kernel) rfl|exact p_eql rfl rfl|exact p_gtr rfl rfl|exact p_not rfl|exact Ai rfl rfl (by omega)|exact Aj rfl rfl (by omega)))|refine d_off 2 rfl rfl rfl (by decide +kernel) ?_|(apply Ay 3 rfl rfl rfl (by decide +kernel);(first|exact p_move rfl|exact p_assign rfl|exact p_lensl (by dsimp only;decide +kernel) rfl|exact p_eql rfl rfl|exact p_gtr rfl rfl|exact p_not rfl|exact Ai rfl rfl (by omega)|exact Aj rfl rfl (by omega)))|refine d_off 3 rfl rfl rfl (by decide +kernel) ?_|(apply Ay 4 rfl rfl rfl (by decide +kernel);(first|exact p_move rfl|exact p_assign rfl|exact p_lensl (by dsimp only;decide +kernel) rfl|exact p_eql rfl rfl|exact p_gtr rfl rfl|exact p_not rfl|exact Ai rfl rfl (by omega)|exact Aj rfl rfl (by omega)))|refine d_off 4 rfl rfl rfl (by decide +kernel) ?_|(apply Ay 5 rfl rfl rfl (by decide +kernel);(first|exact p_move rfl|exact p_assign rfl|exact p_lensl (by dsimp only;decide +kernel) rfl|exact p_eql rfl rfl|exact p_gtr rfl rfl|exact p_not rfl|exact Ai rfl rfl (by omega)|exact Aj rfl rfl (by omega)))|refine d_off 5 rfl rfl rfl (by decide +kernel) ?_|(apply Ay 6 rfl rfl rfl (by decide +kernel);(first|exact p_move rfl|exact p_assign rfl|exact p_lensl (by dsimp only;decide +kernel) rfl|exact p_eql rfl rfl|exact p_gtr rfl rfl|exact p_not rfl|exact Ai rfl rfl (by omega)|exact Aj rfl rfl (by omega)))|refine d_off 6 rfl rfl rfl (by decide +kernel) ?_|(apply Ay 7 rfl rfl rfl (by decide +kernel);(first|exact p_move rfl|exact p_assign rfl|exact p_lensl (by dsimp only;decide +kernel) rfl|exact p_eql rfl rfl|exact p_gtr rfl rfl|exact p_not rfl|exact Ai rfl rfl (by omega)|exact Aj rfl rfl (by omega)))|refine d_off 7 rfl rfl rfl (by decide +kernel) ?_|refine S6 (by decide +kernel) ?_|fail)))
   refine Avh (zs:=ys) 0 rfl rfl Qk rfl rfl rfl (λw hs=>hs.here) ?_ ?_ hy1 ?_
   ·rw[hy,show Nat.min 1 _=1 from Nat.min_eq_left (by omega)]
   ·simp only[Zh1,List.length_take,Za2];omega
   ·repeat' (first|(refine Ma ?_;(first|refine E6 ?_|(apply Bm rfl rfl;(first|exact p_move rfl|exact p_assign rfl|exact p_lensl (by dsimp only;decide +kernel) rfl|exact p_eql rfl rfl|exact p_gtr rfl rfl|exact p_not rfl|exact Ai rfl rfl (by omega)|exact Aj rfl rfl (by omega)))|fail|fail))|(refine Lw ?_;(first|refine E5 ?_|refine Bz ?_|refine Dm ?_|refine Cs (by dsimp only;decide +kernel) Aq ?_|(refine Ch rfl ?_ ?_<;>intro hc<;>try (first|contradiction|(exfalso;omega)))|(refine C7 rfl ?_ ?_<;>intro hc<;>try contradiction)|refine Di rfl rfl ?_|fail))|(refine L4 ?_;(first|refine E9 ?_|(refine Cr Aq ?_)|fail))|(refine Aod ?_;(first|(apply Ay 0 rfl rfl rfl (by decide +kernel);(first|exact p_move rfl|exact p_assign rfl|exact p_lensl (by dsimp only;decide +kernel) rfl|exact p_eql rfl rfl|exact p_gtr rfl rfl|exact p_not rfl|exact Ai rfl rfl (by omega)|exact Aj rfl rfl (by omega)))|refine d_off 0 rfl rfl rfl (by decide +kernel) ?_|(apply Ay 1 rfl rfl rfl (by decide +kernel);(first|exact p_move rfl|exact p_assign rfl|exact p_lensl (by dsimp only;decide +kernel) rfl|exact p_eql rfl rfl|exact p_gtr rfl rfl|exact p_not rfl|exact Ai rfl rfl (by omega)|exact Aj rfl rfl (by omega)))|refine d_off 1 rfl rfl rfl (by decide +kernel) ?_|(apply Ay 2 rfl rfl rfl (by decide +kernel);(first|exact p_move rfl|exact p_assign rfl|exact p_lensl (by dsimp only;decide +kernel) rfl|exact p_eql rfl rfl|exact p_gtr rfl rfl|exact p_not rfl|exact Ai rfl rfl (by omega)|exact Aj rfl rfl (by omega)))|refine d_off 2 rfl rfl rfl (by decide +kernel) ?_|(apply Ay 3 rfl rfl rfl (by decide +kernel);(first|exact p_move rfl|exact p_assign rfl|exact p_lensl (by dsimp only;decide +kernel) rfl|exact p_eql rfl rfl|exact p_gtr rfl rfl|exact p_not rfl|exact Ai rfl rfl (by omega)|exact Aj rfl rfl (by omega)))|refine d_off 3 rfl rfl rfl (by decide +kernel) ?_|(apply Ay 4 rfl rfl rfl (by decide +kernel);(first|exact p_move rfl|exact p_assign rfl|exact p_lensl (by dsimp only;decide +kernel) rfl|exact p_eql rfl rfl|exact p_gtr rfl rfl|exact p_not rfl|exact Ai rfl rfl (by omega)|exact Aj rfl rfl (by omega)))|refine d_off 4 rfl rfl rfl (by decide +kernel) ?_|(apply Ay 5 rfl rfl rfl (by decide +kernel);(first|exact p_move rfl|exact p_assign rfl|exact p_lensl (by dsimp only;decide +kernel) rfl|exact p_eql rfl rfl|exact p_gtr rfl rfl|exact p_not rfl|exact Ai rfl rfl (by omega)|exact Aj rfl rfl (by omega)))|refine d_off 5 rfl rfl rfl (by decide +kernel) ?_|(apply Ay 6 rfl rfl rfl (by decide +kernel);(first|exact p_move rfl|exact p_assign rfl|exact p_lensl (by dsimp only;decide +kernel) rfl|exact p_eql rfl rfl|exact p_gtr rfl rfl|exact p_not rfl|exact Ai rfl rfl (by omega)|exact Aj rfl rfl (by omega)))|refine d_off 6 rfl rfl rfl (by decide +kernel) ?_|(apply Ay 7 rfl rfl rfl (by decide +kernel);(first|exact p_move rfl|exact p_assign rfl|exact p_lensl (by dsimp only;decide +kernel) rfl|exact p_eql rfl rfl|exact p_gtr rfl rfl|exact p_not rfl|exact Ai rfl rfl (by omega)|exact Aj rfl rfl (by omega)))|refine d_off 7 rfl rfl rfl (by decide +kernel) ?_|refine S6 (by decide +kernel) ?_|fail)))
    have e1:((n:Int)+((1:Nat):Int)).toNat=n+1:=by omega
    have e2:((i:Int)+((1:Nat):Int)).toNat=i+1:=by omega
    simp only[e1,e2,Int.toNat_natCast,Nat.zero_add];have hd:=Bjv (cs:=cs) hin (by omega) hy rfl;exact Fi (.inl ⟨_,rfl,by omega,rfl,hd.1,hd.2⟩)
set_option maxRecDepth 20000 in
theorem Bk5(a:Option Addr)(vb vo vc:Nat)(ys:List Value)(hy:ys.length=2)(hy1:∀v,v∈ys->one v=true) :
  Con Tryz.prog 90 [.slice a 0 0,.int .i64 0,.slice (some ⟨vb,vo,none⟩) 1 vc] [] (λw=>∀(j:Nat) v,ys[j]? = some v->w.cell? ⟨vb,vo+j,none⟩=some v) (λv L _=>∃b cap' cs',v = .slice (some ⟨b,0,none⟩) 1 cap'/\1<=cap'/\cap'<=maxLen/\L=[.blk b cs' 72]/\cs'.length=cap'*2/\cs'.take 2=ys):=by
 refine Ee Tryz.func90 Tryz.ntmps90 rfl (by kernel_rfl) rfl λw M =>?_
 repeat' (first|(refine Ma ?_;(first|refine E6 ?_|(apply Bm rfl rfl;(first|exact p_move rfl|exact p_assign rfl|exact p_lensl (by dsimp only;decide +kernel) rfl|exact p_eql rfl rfl|exact p_gtr rfl rfl|exact p_not rfl|exact Ai rfl rfl (by omega)|exact Aj rfl rfl (by omega)))|(apply Bm rfl rfl;exact A5q 2 (by dsimp only;decide +kernel) rfl rfl (by omega))|fail))|(refine Lw ?_;(first|refine E5 ?_|refine Bz ?_|refine Dm ?_|refine Cs (by dsimp only;decide +kernel) Aq ?_|(refine Ch rfl ?_ ?_<;>intro hc<;>try (first|contradiction|(exfalso;omega)))|(refine C7 rfl ?_ ?_<;>intro hc<;>try contradiction)|refine Di rfl rfl ?_|fail))|(refine L4 ?_;(first|refine E9 ?_|(refine Cr Aq ?_)|fail))|(refine Aod ?_;(first|(apply Ay 0 rfl rfl rfl (by decide +kernel);(first|exact p_move rfl|exact p_assign rfl|exact p_lensl (by dsimp only;decide +kernel) rfl|exact p_eql rfl rfl|exact p_gtr rfl rfl|exact p_not rfl|exact Ai rfl rfl (by omega)|exact Aj rfl rfl (by omega)))|refine d_off 0 rfl rfl rfl (by decide +kernel) ?_|(apply Ay 1 rfl rfl rfl (by decide +kernel);(first|exact p_move rfl|exact p_assign rfl|exact p_lensl (by dsimp only;decide +kernel) rfl|exact p_eql rfl rfl|exact p_gtr rfl rfl|exact p_not rfl|exact Ai rfl rfl (by omega)|exact Aj rfl rfl (by omega)))|refine d_off 1 rfl rfl rfl (by decide +kernel) ?_|(apply Ay 2 rfl rfl rfl (by decide +kernel);(first|exact p_move rfl|exact p_assign rfl|exact p_lensl (by dsimp only;decide +kernel) rfl|exact p_eql rfl rfl|exact p_gtr rfl rfl|exact p_not rfl|exact Ai rfl rfl (by omega)|exact Aj rfl rfl (by omega)))|refine d_off 2 rfl rfl rfl (by decide +kernel) ?_|(apply Ay 3 rfl rfl rfl (by decide +kernel);(first|exact p_move rfl|exact p_assign rfl|exact p_lensl (by dsimp only;decide +kernel) rfl|exact p_eql rfl rfl|exact p_gtr rfl rfl|exact p_not rfl|exact Ai rfl rfl (by omega)|exact Aj rfl rfl (by omega)))|refine d_off 3 rfl rfl rfl (by decide +kernel) ?_|(apply Ay 4 rfl rfl rfl (by decide +kernel);(first|exact p_move rfl|exact p_assign rfl|exact p_lensl (by dsimp only;decide +kernel) rfl|exact p_eql rfl rfl|exact p_gtr rfl rfl|exact p_not rfl|exact Ai rfl rfl (by omega)|exact Aj rfl rfl (by omega)))|refine d_off 4 rfl rfl rfl (by decide +kernel) ?_|(apply Ay 5 rfl rfl rfl (by decide +kernel);(first|exact p_move rfl|exact p_assign rfl|exact p_lensl (by dsimp only;decide +kernel) rfl|exact p_eql rfl rfl|exact p_gtr rfl rfl|exact p_not rfl|exact Ai rfl rfl (by omega)|exact Aj rfl rfl (by omega)))|refine d_off 5 rfl rfl rfl (by decide +kernel) ?_|(apply Ay 6 rfl rfl rfl (by decide +kernel);(first|exact p_move rfl|exact p_assign rfl|exact p_lensl (by dsimp only;decide +kernel) rfl|exact p_eql rfl rfl|exact p_gtr rfl rfl|exact p_not rfl|exact Ai rfl rfl (by omega)|exact Aj rfl rfl (by omega)))|refine d_off 6 rfl rfl rfl (by decide +kernel) ?_|(apply Ay 7 rfl rfl rfl (by decide +kernel);(first|exact p_move rfl|exact p_assign rfl|exact p_lensl (by dsimp only;decide +kernel) rfl|exact p_eql rfl rfl|exact p_gtr rfl rfl|exact p_not rfl|exact Ai rfl rfl (by omega)|exact Aj rfl rfl (by omega)))|refine d_off 7 rfl rfl rfl (by decide +kernel) ?_|refine S6 (by decide +kernel) ?_|fail)))
 refine A43 (zs:=ys) rfl rfl Qk rfl rfl (λw hs=>hs.here) (by rw[hy]) (by omega) (by simp only[maxLen];omega) (by omega) hy1 ?_;intro b' q tl hq1 hq2 htl
 repeat' (first|(refine Ma ?_;(first|refine E6 ?_|(apply Bm rfl rfl;(first|exact p_move rfl|exact p_assign rfl|exact p_lensl (by dsimp only;decide +kernel) rfl|exact p_eql rfl rfl|exact p_gtr rfl rfl|exact p_not rfl|exact Ai rfl rfl (by omega)|exact Aj rfl rfl (by omega)))|fail|fail))|(refine Lw ?_;(first|refine E5 ?_|refine Bz ?_|refine Dm ?_|refine Cs (by dsimp only;decide +kernel) Aq ?_|(refine Ch rfl ?_ ?_<;>intro hc<;>try (first|contradiction|(exfalso;omega)))|(refine C7 rfl ?_ ?_<;>intro hc<;>try contradiction)|refine Di rfl rfl ?_|fail))|(refine L4 ?_;(first|refine E9 ?_|(refine Cr Aq ?_)|fail))|(refine Aod ?_;(first|(apply Ay 0 rfl rfl rfl (by decide +kernel);(first|exact p_move rfl|exact p_assign rfl|exact p_lensl (by dsimp only;decide +kernel) rfl|exact p_eql rfl rfl|exact p_gtr rfl rfl|exact p_not rfl|exact Ai rfl rfl (by omega)|exact Aj rfl rfl (by omega)))|refine d_off 0 rfl rfl rfl (by decide +kernel) ?_|(apply Ay 1 rfl rfl rfl (by decide +kernel);(first|exact p_move rfl|exact p_assign rfl|exact p_lensl (by dsimp only;decide +kernel) rfl|exact p_eql rfl rfl|exact p_gtr rfl rfl|exact p_not rfl|exact Ai rfl rfl (by omega)|exact Aj rfl rfl (by omega)))|refine d_off 1 rfl rfl rfl (by decide +kernel) ?_|(apply Ay 2 rfl rfl rfl (by decide +kernel);(first|exact p_move rfl|exact p_assign rfl|exact p_lensl (by dsimp only;decide +kernel) rfl|exact p_eql rfl rfl|exact p_gtr rfl rfl|exact p_not rfl|exact Ai rfl rfl (by omega)|exact Aj rfl rfl (by omega)))|refine d_off 2 rfl rfl rfl (by decide +kernel) ?_|(apply Ay 3 rfl rfl rfl (by decide +kernel);(first|exact p_move rfl|exact p_assign rfl|exact p_lensl (by dsimp only;decide +kernel) rfl|exact p_eql rfl rfl|exact p_gtr rfl rfl|exact p_not rfl|exact Ai rfl rfl (by omega)|exact Aj rfl rfl (by omega)))|refine d_off 3 rfl rfl rfl (by decide +kernel) ?_|(apply Ay 4 rfl rfl rfl (by decide +kernel);(first|exact p_move rfl|exact p_assign rfl|exact p_lensl (by dsimp only;decide +kernel) rfl|exact p_eql rfl rfl|exact p_gtr rfl rfl|exact p_not rfl|exact Ai rfl rfl (by omega)|exact Aj rfl rfl (by omega)))|refine d_off 4 rfl rfl rfl (by decide +kernel) ?_|(apply Ay 5 rfl rfl rfl (by decide +kernel);(first|exact p_move rfl|exact p_assign rfl|exact p_lensl (by dsimp only;decide +kernel) rfl|exact p_eql rfl rfl|exact p_gtr rfl rfl|exact p_not rfl|exact Ai rfl rfl (by omega)|exact Aj rfl rfl (by omega)))|refine d_off 5 rfl rfl rfl (by decide +kernel) ?_|(apply Ay 6 rfl rfl rfl (by decide +kernel);(first|exact p_move rfl|exact p_assign rfl|exact p_lensl (by dsimp only;decide +kernel) rfl|exact p_eql rfl rfl|exact p_gtr rfl rfl|exact p_not rfl|exact Ai rfl rfl (by omega)|exact Aj rfl rfl (by omega)))|refine d_off 6 rfl rfl rfl (by decide +kernel) ?_|(apply Ay 7 rfl rfl rfl (by decide +kernel);(first|exact p_move rfl|exact p_assign rfl|exact p_lensl (by dsimp only;decide +kernel) rfl|exact p_eql rfl rfl|exact p_gtr rfl rfl|exact p_not rfl|exact Ai rfl rfl (by omega)|exact Aj rfl rfl (by omega)))|refine d_off 7 rfl rfl rfl (by decide +kernel) ?_|refine S6 (by decide +kernel) ?_|fail)))
 refine Fi ⟨_,_,_,rfl,hq1,hq2,rfl,by simp;omega,?_⟩;exact List.take_left' hy
end Go.Proofs.YtbkinkalnmbpjaaGreatDoor
namespace Go.Proofs.YtbkinkalnmbpjaaGreatDoor
open Go.Ax
theorem A1a:ClOk Tryz.prog 84 (elT .str) (csz .str):=⟨Sx.enters_of Tryz.func84 rfl (by kernel_rfl),Ax9⟩
def Nb(l:List (Str)):Option (List (Str)):=cond (decide (l.length<=1000000)) (some l) none
def Y2:FT [.sl .str false] [.sl .str true]:=λx=>Nb x
theorem Agt:FO 84 [.sl .str false] [.sl .str true] Y2:=A2b A1a
theorem Ay4:ClOk Tryz.prog 83 (elT .col) (csz .col):=⟨Sx.enters_of Tryz.func83 rfl (by kernel_rfl),Awh⟩
def Ane(l:List (Col)):Option (List (Col)):=cond (decide (l.length<=1000000)) (some l) none
def Ao5:FT [.sl .col false] [.sl .col true]:=λx=>Ane x
theorem A2r:FO 83 [.sl .col false] [.sl .col true] Ao5:=A2b Ay4
theorem Agk:ClOk Tryz.prog 153 (elT .expr) (csz .expr):=⟨Sx.enters_of Tryz.func153 rfl (by kernel_rfl),Axp⟩
theorem A1x:ClOk Tryz.prog 50 (elT .idx) (csz .idx):=⟨Sx.enters_of Tryz.func50 rfl (by kernel_rfl),Ayr⟩
theorem Abo:Arz Tryz.prog 153:=Ap2
theorem Awx:Arz Tryz.prog 50:=Aqg
theorem Bvn:InsOk Tryz.prog 90 (elT .idx):=⟨Sx.enters_of Tryz.func90 rfl (by kernel_rfl),λ_ _ _ _ _ _ _ _ _ h1 h2 h3 h4 h5 h6 h7 h8 h9=>Buc _ _ _ _ _ _ _ _ _ h1 h2 h3 h4 h5 h6 h7 h8 h9,λ_ _ _ _ _ h1 h2=>Bk5 _ _ _ _ _ h1 h2⟩
mutual
def Gm:Xpr->Xpr->Bool
 |.mk k v n l,.mk k' v' n' l'=>decide (k=k')&&decide (v=v')&&decide (n=n')&&xsames l l'
def xsames:List Xpr->List Xpr->Bool
 |[],[]=>true
 |x::l,y::m=>Gm x y&&xsames l m
 |_,_=>false
end
mutual
theorem Ac1:∀a b:Xpr,Gm a b=true↔a=b
 |.mk k v n l,.mk k' v' n' l'=>by
  simp only[Gm,Zb1,Zg1,xsames_iff l l',Xpr.mk.injEq];constructor
  ·rintro⟨⟨⟨h1,h2⟩,h3⟩,h4⟩;exact⟨h1,h2,h3,h4⟩
  ·rintro⟨h1,h2,h3,h4⟩;exact⟨⟨⟨h1,h2⟩,h3⟩,h4⟩
theorem xsames_iff:∀a b:List Xpr,xsames a b=true↔a=b
 |[],[]=>by simp[xsames]
 |x::l,y::m=>by simp only[xsames,Zb1,Ac1 x y,xsames_iff l m,Ze2]
 |[],_::_=>by simp[xsames]
 |_::_,[]=>by simp[xsames]
end
instance:DecidableEq Xpr:=λa b=>decidable_of_iff (Gm a b=true) (Ac1 a b)
theorem Hp(a b:Xpr):Gm a b=decide (a=b):=by rw[Bool.eq_iff_iff,Ac1,Zg1]
theorem Alo{a b:List Xpr}(h:xsames a b=true):a.length=b.length:=by rw[(xsames_iff a b).1 h]
theorem A1j(a b:Xpr):Gm a b=(decide (a.kind=b.kind)&&decide (a.v=b.v)&&decide (a.name=b.name)&&xsames a.l b.l):=by cases a;cases b;simp only[Gm];rfl
def Aoj:Sig:=⟨32,[(1,.sl .expr false),(6,.bool),(15,.sl .expr false),(16,.int .i64),(17,.int .i64)],[(2,.fn 184 [])],[],40,40,200,[],[]⟩
abbrev Tz:=List Xpr×Bool×List Xpr×Int×Int
def Wh{R:Type}(rf:FT [.sv .expr,.sv .expr] [.bool])(rec:Tz->Option R)(kx:Ex->Tz->Option R)(v:Tz):Option R:=match v with
 |(v,v1,v2,v3,v4) =>
 cond (decide (v4<v3)) (
  chk (inb v4 v2.length) (
  chk (inb v4 v.length) (
   (rf ((at' .expr v2 v4),(at' .expr v v4))).bind λx =>
   cond (!x) (
    kx .ret (v,false,v2,v3,v4)) (
    rec (v,v1,v2,v3,(wr .i64 (v4+1))))))) (
  kx (.exit 0) (v,v1,v2,v3,v4))
def Ao1(R:Type)(k:Nat)(rf:FT [.sv .expr,.sv .expr] [.bool]):Px R:=pxO [(184,cA rf)] [] [(4,Am k Aoj (Wh rf))] []
noncomputable def Az0(R:Type)(k:Nat)(rf:FT [.sv .expr,.sv .expr] [.bool]):Px R:=pxO [(188,A2 40 200 (Ao1 R k rf) Tryz.f188)] [] [] []
def Hw(k:Nat)(rf:FT [.sv .expr,.sv .expr] [.bool])(x:HV [.sv .expr,.sv .expr]):Option (HV [.bool]):=match x with
 |(a,b) =>
 let j1:=λ(p:Bool) =>
  let j:=λ(p1:Bool) =>
  cond (p1) (
   cond (!decide ((a.l.length:Int)=(b.l.length:Int))) (
   some false) (
   Al (λrec=>Wh rf rec (λe vz=>match vz with|(_,v6,_,_,_)=>match e with
    |.ret =>
    some v6
    |.exit 0 =>
    some true
    |_=>none)) k (b.l,false,a.l,(a.l.length:Int),0))) (
   some false)
  cond (p) (
  j (decide (a.name=b.name))) (
  j false)
 cond (decide (a.kind=b.kind)) (
  j1 (decide (a.v=b.v))) (
  j1 false)
theorem Bfd(k:Nat)(rf:FT [.sv .expr,.sv .expr] [.bool])(hrf:FO 184 [.sv .expr,.sv .expr] [.bool] rf):FO 184 [.sv .expr,.sv .expr] [.bool] (Hw k rf):=fR (px:=Az0 _ k rf) (n:=0) Tryz.func184 rfl (λcx H=>by have h1:Lv cx (Ao1 (HV [.bool]) k rf):=lv H (c1 H hrf Ae) Ab Aa;have hlasame_0:=lO H h1 (b:=lp Tryz.f188 0) (k:=k) (n:=0) (s:=Aoj) (step:=Wh rf) (λ_ _ _ (_,_,_,_,_)=>by kernel_rfl) Ah;have h0:Lv cx (Az0 (HV [.bool]) k rf):=lv H (Az (cR H h1 Tryz.func188 rfl (n:=1) ((A5 Ah hlasame_0))) Ae) Ab Aa;exact⟨h0,Ah⟩) λ(_,_)=>by kernel_rfl
def Q5(a b:Xpr):Bool:=Gm a b
def Wl:FT [.sv .expr,.sv .expr] [.bool]:=λx=>some (Q5 x.1 x.2)
theorem A6h{R:Type}{rf:FT [.sv .expr,.sv .expr] [.bool]}{kx:Ex->Tz->Option R}{l m:List Xpr}{c:Bool->Option R}(hn:ln l.length)(hm:l.length=m.length)(hrf:∀x,x∈l->∀y,y∈m->rf (x,y)=some (Gm x y))
  (h1:∀i,kx .ret (m,false,l,(l.length:Int),i)=c false) (h2:∀q i,kx (.exit 0) (m,q,l,(l.length:Int),i)=c true) (k:Nat) (hk:l.length<k):Al (λrec=>Wh rf rec kx) k (m,false,l,(l.length:Int),0)=c (xsames l m):=by
 refine(A3 l.length (λi=>(m,false,l,(l.length:Int),(i:Int))) (λi=>c (xsames (l.drop i) (m.drop i))) (λi hi rec hr =>?_) (λrec =>?_) k 0 (Nat.zero_le _) (by omega)).trans (by rw[Zq1,Zq1])
 ·have hi2:i<m.length:=by omega
  simp only[Wh,Cf hi,Af,Aw hi,Aw hi2,chk,As (c :=.expr) hi,As (c :=.expr) hi2,hrf _ (List.getElem_mem hi) _ (List.getElem_mem hi2),Zc1,Au hi hn,hr,h1,Ak hi,Ak hi2,xsames];cases Gm l[i] m[i]<;>rfl
 ·simp only[Wh,Cg,Ag,h2];rw[Zk1 (Zn1 _),Zk1 (by omega)];rfl
theorem Au0(k:Nat):∀(n:Nat) (a b:Xpr),BdExpr a->BdExpr b->A1 a<=n->A1 a<=k->Al (Hw k) n (a,b)=some (Gm a b)
 |0,a,b,_,_,h,_=>by have:=B5 a;omega
 |n+1,a,b,ha,hb,h,hk=>by
  obtain⟨hb4,hb5⟩:=Aao ha;obtain⟨hc4,hc5⟩:=Aao hb;rw[Bv] at h hk;have hl:=Ej a.l;have hrf:∀x,x∈a.l->∀y,y∈b.l->Al (Hw k) n (x,y)=some (Gm x y):=λx hx y hy=>Au0 k n x y (hb5 x hx) (hc5 y hy) (by have:=Bg hx;omega) (by have:=Bg hx;omega);rw[Bb,A1j];simp only[Hw];by_cases hlen:a.l.length=b.l.length
  ·have hloop:=A6h (R:=Bool) (rf:=Al (Hw k) n) (l:=a.l) (m:=b.l) (c:=some) (kx:=λe v=>match v with
    |(_,v6,_,_,_)=>match e with
     |.ret=>some v6
     |.exit 0=>some true
     |_=>none) hb4 hlen hrf (λ_=>rfl) (λ_ _=>rfl) k (by omega)
   rw[hloop,Ze1 (show(a.l.length:Int)=(b.l.length:Int) by omega)];cases decide (a.kind=b.kind)<;>cases decide (a.v=b.v)<;>cases decide (a.name=b.name)<;>cases xsames a.l b.l<;>rfl
  ·have hno:xsames a.l b.l=false:=by cases hs:xsames a.l b.l with|false=>rfl|true=>exact absurd (Alo hs) hlen
   rw[hno,Zd1 (show ¬(a.l.length:Int)=(b.l.length:Int) by omega)];cases decide (a.kind=b.kind)<;>cases decide (a.v=b.v)<;>cases decide (a.name=b.name)<;>rfl
theorem Rs:FO 184 [.sv .expr,.sv .expr] [.bool] Wl:=by refine .fin (ι:=Nat) 0 (F:=λn=>Al (Hw n) n) (λn=>FnOk.rec' (Sx.enters_of Tryz.func184 rfl rfl) (λrf hrf=>Bfd n rf hrf) n) λ(a,b) r hb hx=>⟨A1 a,?_⟩;exact(Au0 (A1 a) (A1 a) a b hb.1 hb.2 (Zn1 _) (Zn1 _)).trans hx
def Aj1:Sig:=⟨53,[(4,.bool),(5,.int .i64)],[(2,.ptr 0 0),(3,.ptr 1 0)],[(0,.one (.sv .expr)),(1,.one (.sv .expr))],2,0,0,[],[]⟩
abbrev T5:=Bool×Int×Xpr×Xpr
def V0{R:Type}(rf:FT [.sv .expr,.sv .expr] [.bool])(rec:T5->Option R)(kx:Ex->T5->Option R)(v:T5):Option R:=match v with
 |(v,v1,w,w1) =>
 cond (decide (v1<(w.l.length:Int))) (
  chk (inb v1 w.l.length) (
  chk (inb v1 w1.l.length) (
   (rf ((at' .expr w.l v1),(at' .expr w1.l v1))).bind λx =>
   cond (!x) (
    kx .ret (false,v1,w,w1)) (
    rec (v,(wr .i64 (v1+1)),w,w1))))) (
  kx (.exit 0) (v,v1,w,w1))
def A11(R:Type)(k:Nat)(rf:FT [.sv .expr,.sv .expr] [.bool]):Px R:=pxO [(99,cA rf)] [] [(4,Am k Aj1 (V0 rf))] []
def Hs(k:Nat)(rf:FT [.sv .expr,.sv .expr] [.bool])(x:HV [.sv .expr,.sv .expr]):Option (HV [.bool]):=match x with
 |(a,b) =>
 let j:=λ(p:Bool) =>
  cond (p) (
  some false) (
  cond (!decide (a.name=b.name)) (
   some false) (
   cond (!decide ((a.l.length:Int)=(b.l.length:Int))) (
   some false) (
   Al (λrec=>V0 rf rec (λe vz=>match vz with|(v2,_,_,_)=>match e with
    |.ret =>
    some v2
    |.exit 0 =>
    some true
    |_=>none)) k (false,0,a,b))))
 cond (!decide (a.kind=b.kind)) (
  j true) (
  j (!decide (a.v=b.v)))
theorem Bg8(k:Nat)(rf:FT [.sv .expr,.sv .expr] [.bool])(hrf:FO 99 [.sv .expr,.sv .expr] [.bool] rf):FO 99 [.sv .expr,.sv .expr] [.bool] (Hs k rf):=fR (px:=A11 _ k rf) (n:=1) Tryz.func99 rfl (λcx H=>by have h0:Lv cx (A11 (HV [.bool]) k rf):=lv H (c1 H hrf Ae) Ab Aa;have hlrsame_0:=lO H h0 (b:=lp Tryz.f99 0) (k:=k) (n:=0) (s:=Aj1) (step:=V0 rf) (λ_ _ _ (_,_,_,_)=>by kernel_rfl) Ah;exact⟨h0,(A5 Ah hlrsame_0)⟩) λ(_,_)=>by kernel_rfl
def Aqt(a b:Xpr):Bool:=Gm a b
def Axb:FT [.sv .expr,.sv .expr] [.bool]:=λx=>some (Aqt x.1 x.2)
theorem A79{R:Type}{rf:FT [.sv .expr,.sv .expr] [.bool]}{kx:Ex->T5->Option R}{a b:Xpr}{c:Bool->Option R}(hn:ln a.l.length)(hm:a.l.length=b.l.length)(hrf:∀x,x∈a.l->∀y,y∈b.l->rf (x,y)=some (Gm x y))
  (h1:∀i,kx .ret (false,i,a,b)=c false) (h2:∀q i,kx (.exit 0) (q,i,a,b)=c true) (k:Nat) (hk:a.l.length<k):Al (λrec=>V0 rf rec kx) k (false,0,a,b)=c (xsames a.l b.l):=by
 refine(A3 a.l.length (λi=>(false,(i:Int),a,b)) (λi=>c (xsames (a.l.drop i) (b.l.drop i))) (λi hi rec hr =>?_) (λrec =>?_) k 0 (Nat.zero_le _) (by omega)).trans (by rw[Zq1,Zq1])
 ·have hi2:i<b.l.length:=by omega
  simp only[V0,Cf hi,Af,Aw hi,Aw hi2,chk,As (c :=.expr) hi,As (c :=.expr) hi2,hrf _ (List.getElem_mem hi) _ (List.getElem_mem hi2),Zc1,Au hi hn,hr,h1,Ak hi,Ak hi2,xsames];cases Gm a.l[i] b.l[i]<;>rfl
 ·simp only[V0,Cg,Ag,h2];rw[Zk1 (Zn1 _),Zk1 (by omega)];rfl
theorem Avc(k:Nat):∀(n:Nat) (a b:Xpr),BdExpr a->BdExpr b->A1 a<=n->A1 a<=k->Al (Hs k) n (a,b)=some (Gm a b)
 |0,a,b,_,_,h,_=>by have:=B5 a;omega
 |n+1,a,b,ha,hb,h,hk=>by
  obtain⟨hb4,hb5⟩:=Aao ha;obtain⟨hc4,hc5⟩:=Aao hb;rw[Bv] at h hk;have hl:=Ej a.l;have hrf:∀x,x∈a.l->∀y,y∈b.l->Al (Hs k) n (x,y)=some (Gm x y):=λx hx y hy=>Avc k n x y (hb5 x hx) (hc5 y hy) (by have:=Bg hx;omega) (by have:=Bg hx;omega);rw[Bb,A1j];simp only[Hs];by_cases hlen:a.l.length=b.l.length
  ·have hloop:=A79 (R:=Bool) (rf:=Al (Hs k) n) (a:=a) (b:=b) (c:=some) (kx:=λe v=>match v with
    |(v2,_,_,_)=>match e with
     |.ret=>some v2
     |.exit 0=>some true
     |_=>none) hb4 hlen hrf (λ_=>rfl) (λ_ _=>rfl) k (by omega)
   rw[hloop,Ze1 (show(a.l.length:Int)=(b.l.length:Int) by omega)];cases decide (a.kind=b.kind)<;>cases decide (a.v=b.v)<;>cases decide (a.name=b.name)<;>cases xsames a.l b.l<;>rfl
  ·have hno:xsames a.l b.l=false:=by cases hs:xsames a.l b.l with|false=>rfl|true=>exact absurd (Alo hs) hlen
   rw[hno,Zd1 (show ¬(a.l.length:Int)=(b.l.length:Int) by omega)];cases decide (a.kind=b.kind)<;>cases decide (a.v=b.v)<;>cases decide (a.name=b.name)<;>rfl
theorem A2a:FO 99 [.sv .expr,.sv .expr] [.bool] Axb:=by refine .fin (ι:=Nat) 0 (F:=λn=>Al (Hs n) n) (λn=>FnOk.rec' (Sx.enters_of Tryz.func99 rfl rfl) (λrf hrf=>Bg8 n rf hrf) n) λ(a,b) r hb hx=>⟨A1 a,?_⟩;exact(Avc (A1 a) (A1 a) a b hb.1 hb.2 (Zn1 _) (Zn1 _)).trans hx
def Ard:Sig:=⟨19,[(0,.sl .str false),(1,.str),(4,.int .i64),(7,.int .i64),(8,.int .i64)],[],[],0,0,0,[],[]⟩
abbrev Acc:=List Str×Str×Int×Int×Int
def Acy{R:Type}(rec:Acc->Option R)(kx:Ex->Acc->Option R)(v:Acc):Option R:=match v with
 |(v,v1,v2,v3,v4) =>
 cond (decide (v4<v3)) (
  chk (inb v4 v.length) (
  cond (decide (v1=(at' .str v v4))) (
   kx .ret (v,v1,v4,v3,v4)) (
   rec (v,v1,v2,v3,(wr .i64 (v4+1)))))) (
  kx (.exit 0) (v,v1,v2,v3,v4))
def Bb7(R:Type)(k:Nat):Px R:=pxO [] [] [(2,Am k Ard (Acy))] []
def Ar7(k:Nat)(x:HV [.sl .str false,.str]):Option (HV [.int .i64]):=match x with
 |(l,s) =>
 Al (λrec=>Acy rec (λe vz=>match vz with|(_,_,v7,_,_)=>match e with
  |.ret =>
  some v7
  |.exit 0 =>
  some (-1)
  |_=>none)) k (l,s,0,(l.length:Int),0)
theorem Bmt(k:Nat):FO 103 [.sl .str false,.str] [.int .i64] (Ar7 k):=fR (px:=Bb7 _ k) (n:=1) Tryz.func103 rfl (λcx H=>by have h0:Lv cx (Bb7 (HV [.int .i64]) k):=lv H Ae Ab Aa;have hlsidx_0:=lO H h0 (b:=lp Tryz.f103 0) (k:=k) (n:=0) (s:=Ard) (step:=Acy) (λ_ _ _ (_,_,_,_,_)=>by kernel_rfl) Ah;exact⟨h0,(A5 Ah hlsidx_0)⟩) λ(_,_)=>by kernel_rfl
def Bw5(l:List Str)(s:Str):Int:=Lp.idx s l 0
def A6o:FT [.sl .str false,.str] [.int .i64]:=λx=>some (Bw5 x.1 x.2)
theorem Asz{R:Type}{kx:Ex->Acc->Option R}{l:List Str}{s:Str}{c:Int->Option R}(hl:ln l.length)(h1:∀(r:Int) (i:Int),kx .ret (l,s,r,(l.length:Int),i)=c r)(h2:∀q:Int,kx (.exit 0) (l,s,q,(l.length:Int),(l.length:Int))=c (-1)) :
  ∀(k i:Nat) (q:Int),i<=l.length->l.length-i<k->Al (λrec=>Acy rec kx) k (l,s,q,(l.length:Int),(i:Int))=c (Lp.idx s (l.drop i) i)
 |0,i,_,_,h=>absurd h (Zm1 _)
 |k+1,i,q,hi,h=>by
  rw[Bb];by_cases hlt:i<l.length
  ·have ih:=Asz hl h1 h2 k (i+1) q (by omega) (by omega);have e1:decide ((i:Int)<(l.length:Int))=true:=Ze1 (by omega);have en:((i+1:Nat):Int)=(i:Int)+1:=by omega
   simp only[Acy,e1,Af,Aw hlt,chk,As (c :=.str) hlt,Au hlt hl,ih,h1];rw[Ak hlt,Lp.idx,en];by_cases hx:s=l[i]
   ·rw[Ze1 hx,if_pos hx,Af]
   ·rw[Zd1 hx,if_neg hx,Ag]
  ·have hi:i=l.length:=by omega
   subst hi;simp only[Acy,Zd1 (show ¬((l.length:Nat):Int)<(l.length:Int) by omega),Ag,h2,Zc2,Lp.idx]
theorem Bse:FO 103 [.sl .str false,.str] [.int .i64] A6o :=.fin 0 Bmt λ(l,s) r hb hx=>⟨l.length+1,by simp only[A6o,Za1] at hx;rw[<-hx];simp only[Ar7];exact Asz (c:=λq=>some q) hb.1.1 (λ_ _=>rfl) (λ_=>rfl) (l.length+1) 0 0 (Nat.zero_le _) (by omega)⟩
def Bsd(R:Type):Px R:=pxO [(103,cA A6o)] [] [] []
def Aed(x:HV [.sl .str false,.str]):Option (HV [.bool]):=match x with
 |(l,s) =>
 some (decide (0<=(Bw5 l s)))
theorem Bn5:FO 41 [.sl .str false,.str] [.bool] (Aed):=fR (px:=Bsd _) (n:=0) Tryz.func41 rfl (λ_ H=>⟨lv H (c1 H Bse Ae) Ab Aa,Ah⟩) λ(_,_)=>by kernel_rfl
def A0a(l:List Str)(s:Str):Bool :=(decide (0<=(Bw5 l s)))
theorem Bqp(x:HV [.sl .str false,.str]):Aed x=some (A0a x.1 x.2):=by
 first
  |exact rfl
  |simp only[Aed,A0a,A0]
def A5p:FT [.sl .str false,.str] [.bool]:=λx=>some (A0a x.1 x.2)
theorem A90:FO 41 [.sl .str false,.str] [.bool] A5p :=.fin0 Bn5 λx _ _ hx=>(Bqp x).trans hx
theorem Ba8(l:List Str)(s:Str):A0a l s=l.contains s:=by have e:A0a l s=decide (0<=Lp.idx s l 0):=rfl;rw[e,Bool.eq_iff_iff,Zg1,Lp.idx_ge s l 0 (Int.le_refl 0)];simp
def Atv:Sig:=⟨26,[(0,.sl .col false),(1,.sl .col false),(4,.bool),(12,.int .i64),(13,.int .i64)],[],[],0,0,0,[],[]⟩
abbrev Abx:=List Col×List Col×Bool×Int×Int
def Ael{R:Type}(rec:Abx->Option R)(kx:Ex->Abx->Option R)(v:Abx):Option R:=match v with
 |(v,v1,v2,v3,v4) =>
 cond (decide (v4<v3)) (
  chk (inb v4 v.length) (
  chk (inb v4 v1.length) (
   cond (!decide ((at' .col v v4)=(at' .col v1 v4))) (
   kx .ret (v,v1,false,v3,v4)) (
   rec (v,v1,v2,v3,(wr .i64 (v4+1))))))) (
  kx (.exit 0) (v,v1,v2,v3,v4))
def Bb8(R:Type)(k:Nat):Px R:=pxO [] [] [(4,Am k Atv (Ael))] []
def Avd(k:Nat)(x:HV [.sl .col false,.sl .col false]):Option (HV [.bool]):=match x with
 |(a,b) =>
 cond (!decide ((a.length:Int)=(b.length:Int))) (
  some false) (
  Al (λrec=>Ael rec (λe vz=>match vz with|(_,_,v7,_,_)=>match e with
  |.ret =>some v7
  |.exit 0 =>some true
  |_=>none)) k (a,b,false,(a.length:Int),0))
theorem Bl9(k:Nat):FO 185 [.sl .col false,.sl .col false] [.bool] (Avd k):=fR (px:=Bb8 _ k) (n:=1) Tryz.func185 rfl (λcx H=>by have h0:Lv cx (Bb8 (HV [.bool]) k):=lv H Ae Ab Aa;have hlaeqc_0:=lO H h0 (b:=lp Tryz.f185 0) (k:=k) (n:=0) (s:=Atv) (step:=Ael) (λ_ _ _ (_,_,_,_,_)=>by kernel_rfl) Ah;exact⟨h0,(A5 Ah hlaeqc_0)⟩) λ(_,_)=>by kernel_rfl
def Bs4(a b:List Col):Bool:=decide (a=b)
def A87:FT [.sl .col false,.sl .col false] [.bool]:=λx=>some (Bs4 x.1 x.2)
theorem Bhr{R:Type}{kx:Ex->Abx->Option R}{a b:List Col}{c:Bool->Option R}(hn:ln a.length)(he:a.length=b.length)(h1:∀i,kx .ret (a,b,false,(a.length:Int),i)=c false)(h2:∀q i,kx (.exit 0) (a,b,q,(a.length:Int),i)=c true)(k:Nat)(hk:a.length<k) :
  Al (λrec=>Ael rec kx) k (a,b,false,(a.length:Int),0)=c (decide (a=b)):=by
 refine(A3 a.length (λi=>(a,b,false,(a.length:Int),(i:Int))) (λi=>c (decide (a.drop i=b.drop i))) (λi hi rec hr =>?_) (λrec =>?_) k 0 (Nat.zero_le _) (by omega)).trans (by rw[Zq1,Zq1])
 ·have hi2:i<b.length:=by omega
  simp only[Ael,Cf hi,Af,Aw hi,Aw hi2,chk,As (c :=.col) hi,As (c :=.col) hi2,Au hi hn,hr,h1,Ak hi,Ak hi2,Ze2];by_cases hx:a[i]=b[i]
  ·rw[Ze1 hx];simp[hx]
  ·rw[Zd1 hx];simp[hx]
 ·simp only[Ael,Cg,Ag,h2];rw[Zk1 (Zn1 _),Zk1 (by omega)];rfl
theorem Bud:FO 185 [.sl .col false,.sl .col false] [.bool] A87 :=.fin 0 Bl9 λ(a,b) r hb hx=>⟨a.length+1,by
 simp only[A87,Za1] at hx;rw[<-hx];simp only[Avd,Bs4];by_cases he:a.length=b.length
 ·rw[Ze1 (show(a.length:Int)=(b.length:Int) by omega),Zt1,Ag];exact Bhr (c:=some) hb.1.1 he (λ_=>rfl) (λ_ _=>rfl) (a.length+1) (by omega)
 ·rw[Zd1 (show ¬(a.length:Int)=(b.length:Int) by omega),Zd1 (λh=>he (by rw[h]))];rfl⟩
def Aqx:Sig:=⟨26,[(0,.sl .str false),(1,.sl .str false),(4,.bool),(12,.int .i64),(13,.int .i64)],[],[],0,0,0,[],[]⟩
abbrev Abj:=List Str×List Str×Bool×Int×Int
def Ac9{R:Type}(rec:Abj->Option R)(kx:Ex->Abj->Option R)(v:Abj):Option R:=match v with
 |(v,v1,v2,v3,v4) =>
 cond (decide (v4<v3)) (
  chk (inb v4 v.length) (
  chk (inb v4 v1.length) (
   cond (!decide ((at' .str v v4)=(at' .str v1 v4))) (
   kx .ret (v,v1,false,v3,v4)) (
   rec (v,v1,v2,v3,(wr .i64 (v4+1))))))) (
  kx (.exit 0) (v,v1,v2,v3,v4))
def Bab(R:Type)(k:Nat):Px R:=pxO [] [] [(4,Am k Aqx (Ac9))] []
def Avb(k:Nat)(x:HV [.sl .str false,.sl .str false]):Option (HV [.bool]):=match x with
 |(a,b) =>
 cond (!decide ((a.length:Int)=(b.length:Int))) (
  some false) (
  Al (λrec=>Ac9 rec (λe vz=>match vz with|(_,_,v7,_,_)=>match e with
  |.ret =>some v7
  |.exit 0 =>some true
  |_=>none)) k (a,b,false,(a.length:Int),0))
theorem Bn8(k:Nat):FO 186 [.sl .str false,.sl .str false] [.bool] (Avb k):=fR (px:=Bab _ k) (n:=1) Tryz.func186 rfl (λcx H=>by have h0:Lv cx (Bab (HV [.bool]) k):=lv H Ae Ab Aa;have hlaeqs_0:=lO H h0 (b:=lp Tryz.f186 0) (k:=k) (n:=0) (s:=Aqx) (step:=Ac9) (λ_ _ _ (_,_,_,_,_)=>by kernel_rfl) Ah;exact⟨h0,(A5 Ah hlaeqs_0)⟩) λ(_,_)=>by kernel_rfl
def Bmd(a b:List Str):Bool:=decide (a=b)
def A6s:FT [.sl .str false,.sl .str false] [.bool]:=λx=>some (Bmd x.1 x.2)
theorem Bf6{R:Type}{kx:Ex->Abj->Option R}{a b:List Str}{c:Bool->Option R}(hn:ln a.length)(he:a.length=b.length)(h1:∀i,kx .ret (a,b,false,(a.length:Int),i)=c false)(h2:∀q i,kx (.exit 0) (a,b,q,(a.length:Int),i)=c true)(k:Nat)(hk:a.length<k) :
  Al (λrec=>Ac9 rec kx) k (a,b,false,(a.length:Int),0)=c (decide (a=b)):=by
 refine(A3 a.length (λi=>(a,b,false,(a.length:Int),(i:Int))) (λi=>c (decide (a.drop i=b.drop i))) (λi hi rec hr =>?_) (λrec =>?_) k 0 (Nat.zero_le _) (by omega)).trans (by rw[Zq1,Zq1])
 ·have hi2:i<b.length:=by omega
  simp only[Ac9,Cf hi,Af,Aw hi,Aw hi2,chk,As (c :=.str) hi,As (c :=.str) hi2,Au hi hn,hr,h1,Ak hi,Ak hi2,Ze2];by_cases hx:a[i]=b[i]
  ·rw[Ze1 hx];simp[hx]
  ·rw[Zd1 hx];simp[hx]
 ·simp only[Ac9,Cg,Ag,h2];rw[Zk1 (Zn1 _),Zk1 (by omega)];rfl
theorem Bsk:FO 186 [.sl .str false,.sl .str false] [.bool] A6s :=.fin 0 Bn8 λ(a,b) r hb hx=>⟨a.length+1,by
 simp only[A6s,Za1] at hx;rw[<-hx];simp only[Avb,Bmd];by_cases he:a.length=b.length
 ·rw[Ze1 (show(a.length:Int)=(b.length:Int) by omega),Zt1,Ag];exact Bf6 (c:=some) hb.1.1 he (λ_=>rfl) (λ_ _=>rfl) (a.length+1) (by omega)
 ·rw[Zd1 (show ¬(a.length:Int)=(b.length:Int) by omega),Zd1 (λh=>he (by rw[h]))];rfl⟩
def Atc:Sig:=⟨26,[(0,.sl .bool false),(1,.sl .bool false),(4,.bool),(12,.int .i64),(13,.int .i64)],[],[],0,0,0,[],[]⟩
abbrev Zx:=List Bool×List Bool×Bool×Int×Int
def Aex{R:Type}(rec:Zx->Option R)(kx:Ex->Zx->Option R)(v:Zx):Option R:=match v with
 |(v,v1,v2,v3,v4) =>
 cond (decide (v4<v3)) (
  chk (inb v4 v.length) (
  chk (inb v4 v1.length) (
   cond (!decide ((at' .bool v v4)=(at' .bool v1 v4))) (
   kx .ret (v,v1,false,v3,v4)) (
   rec (v,v1,v2,v3,(wr .i64 (v4+1))))))) (
  kx (.exit 0) (v,v1,v2,v3,v4))
def Bce(R:Type)(k:Nat):Px R:=pxO [] [] [(4,Am k Atc (Aex))] []
def Aq4(k:Nat)(x:HV [.sl .bool false,.sl .bool false]):Option (HV [.bool]):=match x with
 |(a,b) =>
 cond (!decide ((a.length:Int)=(b.length:Int))) (
  some false) (
  Al (λrec=>Aex rec (λe vz=>match vz with|(_,_,v7,_,_)=>match e with
  |.ret =>some v7
  |.exit 0 =>some true
  |_=>none)) k (a,b,false,(a.length:Int),0))
theorem Bqk(k:Nat):FO 187 [.sl .bool false,.sl .bool false] [.bool] (Aq4 k):=fR (px:=Bce _ k) (n:=1) Tryz.func187 rfl (λcx H=>by have h0:Lv cx (Bce (HV [.bool]) k):=lv H Ae Ab Aa;have hlaeqb_0:=lO H h0 (b:=lp Tryz.f187 0) (k:=k) (n:=0) (s:=Atc) (step:=Aex) (λ_ _ _ (_,_,_,_,_)=>by kernel_rfl) Ah;exact⟨h0,(A5 Ah hlaeqb_0)⟩) λ(_,_)=>by kernel_rfl
def Buk(a b:List Bool):Bool:=decide (a=b)
def A5m:FT [.sl .bool false,.sl .bool false] [.bool]:=λx=>some (Buk x.1 x.2)
theorem Bhf{R:Type}{kx:Ex->Zx->Option R}{a b:List Bool}{c:Bool->Option R}(hn:ln a.length)(he:a.length=b.length)(h1:∀i,kx .ret (a,b,false,(a.length:Int),i)=c false)(h2:∀q i,kx (.exit 0) (a,b,q,(a.length:Int),i)=c true)(k:Nat)(hk:a.length<k) :
  Al (λrec=>Aex rec kx) k (a,b,false,(a.length:Int),0)=c (decide (a=b)):=by
 refine(A3 a.length (λi=>(a,b,false,(a.length:Int),(i:Int))) (λi=>c (decide (a.drop i=b.drop i))) (λi hi rec hr =>?_) (λrec =>?_) k 0 (Nat.zero_le _) (by omega)).trans (by rw[Zq1,Zq1])
 ·have hi2:i<b.length:=by omega
  simp only[Aex,Cf hi,Af,Aw hi,Aw hi2,chk,As (c :=.bool) hi,As (c :=.bool) hi2,Au hi hn,hr,h1,Ak hi,Ak hi2,Ze2];by_cases hx:a[i]=b[i]
  ·rw[Ze1 hx];simp[hx]
  ·rw[Zd1 hx];simp[hx]
 ·simp only[Aex,Cg,Ag,h2];rw[Zk1 (Zn1 _),Zk1 (by omega)];rfl
theorem Br8:FO 187 [.sl .bool false,.sl .bool false] [.bool] A5m :=.fin 0 Bqk λ(a,b) r hb hx=>⟨a.length+1,by
 simp only[A5m,Za1] at hx;rw[<-hx];simp only[Aq4,Buk];by_cases he:a.length=b.length
 ·rw[Ze1 (show(a.length:Int)=(b.length:Int) by omega),Zt1,Ag];exact Bhf (c:=some) hb.1.1 he (λ_=>rfl) (λ_ _=>rfl) (a.length+1) (by omega)
 ·rw[Zd1 (show ¬(a.length:Int)=(b.length:Int) by omega),Zd1 (λh=>he (by rw[h]))];rfl⟩
instance:DecidableEq SetE:=λa b=>decidable_of_iff (a.name=b.name/\a.e=b.e) (by cases a;cases b;simp)
def Axy(a b:SetE):Bool:=decide (a.name=b.name)&&Gm a.e b.e
theorem A3g(a b:SetE):Axy a b=decide (a=b):=by cases a;cases b;simp only[Axy,Hp,SetE.mk.injEq,Bool.decide_and]
def Anx(a b:Stm):Bool:=decide (a.kind=b.kind)&&decide (a.name=b.name)&&decide (a.on=b.on)&&decide (a.has=b.has)&&decide (a.most=b.most)&&decide (a.whr=b.whr)&&(decide (a.cols=b.cols)&&decide (a.names=b.names)&&decide (a.order=b.order)&&decide (a.desc=b.desc)&&decide (a.l=b.l))&&decide (a.rows=b.rows)&&decide (a.sets=b.sets)
theorem Atn(a b:Stm):Anx a b=true↔a=b:=by
 cases a;cases b;simp only[Anx,Zb1,Zg1,Stm.mk.injEq];constructor
 ·rintro⟨⟨⟨⟨⟨⟨⟨⟨h1,h2⟩,h3⟩,h4⟩,h5⟩,h6⟩,⟨⟨⟨h7,h8⟩,h9⟩,h10⟩,h11⟩,h12⟩,h13⟩;exact⟨h1,h2,h3,h7,h8,h11,h12,h13,h4,h6,h9,h10,h5⟩
 ·rintro⟨h1,h2,h3,h7,h8,h11,h12,h13,h4,h6,h9,h10,h5⟩;exact⟨⟨⟨⟨⟨⟨⟨⟨h1,h2⟩,h3⟩,h4⟩,h5⟩,h6⟩,⟨⟨⟨h7,h8⟩,h9⟩,h10⟩,h11⟩,h12⟩,h13⟩
def Afg:Sig:=⟨32,[(1,.sl .set false),(6,.bool),(15,.sl .set false),(16,.int .i64),(17,.int .i64)],[(2,.fn 192 [])],[],40,40,600,[],[]⟩
abbrev O6:=List SetE×Bool×List SetE×Int×Int
def M8{R:Type}(rec:O6->Option R)(kx:Ex->O6->Option R)(v:O6):Option R:=match v with
 |(b,f,c,d,a) =>
 cond (decide (a<d)) (
  chk (inb a c.length) (
  chk (inb a b.length) (
   cond (decide (((at' .set c a).name)=((at' .set b a).name))) (
   cond (!(Q5 (Gf ((at' .set c a).e)) (Gf ((at' .set b a).e)))) (
    kx .ret (b,false,c,d,a)) (
    rec (b,f,c,d,(wr .i64 (a+1))))) (
   kx .ret (b,false,c,d,a))))) (
  kx (.exit 0) (b,f,c,d,a))
def Ahi:Sig:=⟨32,[(1,.sl .expr false),(6,.bool),(15,.sl .expr false),(16,.int .i64),(17,.int .i64)],[(2,.fn 184 [])],[(0,.one (.sv .stmt)),(1,.one (.sv .stmt))],120,120,600,[],[]⟩
abbrev Pm:=List Xpr×Bool×List Xpr×Int×Int×Stm×Stm
def Nh{R:Type}(rec:Pm->Option R)(kx:Ex->Pm->Option R)(v:Pm):Option R:=match v with
 |(b,e,c,d,a,w4,w5) =>
 cond (decide (a<d)) (
  chk (inb a c.length) (
  chk (inb a b.length) (
   cond (!(Q5 (at' .expr c a) (at' .expr b a))) (
   kx .ret (b,false,c,d,a,w4,w5)) (
   rec (b,e,c,d,(wr .i64 (a+1)),w4,w5))))) (
  kx (.exit 0) (b,e,c,d,a,w4,w5))
def Ahd:Sig:=⟨32,[(1,.sl .exprs false),(6,.bool),(15,.sl .exprs false),(16,.int .i64),(17,.int .i64)],[(2,.fn 190 [])],[(0,.one (.sv .stmt)),(1,.one (.sv .stmt))],40,40,400,[],[]⟩
abbrev Qj:=List (List Xpr)×Bool×List (List Xpr)×Int×Int×Stm×Stm
def Mc{R:Type}(k:Nat)(rec:Qj->Option R)(kx:Ex->Qj->Option R)(v:Qj):Option R:=match v with
 |(c,f,b,d,a,w2,w3) =>
 cond (decide (a<d)) (
  chk (inb a b.length) (
  chk (inb a c.length) (
   cond (!decide (((at' .exprs b a).length:Int)=((at' .exprs c a).length:Int))) (
   kx .ret (c,false,b,d,a,w2,w3)) (
   Al (λrc=>Nh rc (λe vz=>match vz with|(_,i,_,_,_,g,h)=>match e with
    |.ret =>
    cond (!i) (
     kx .ret (c,false,b,d,a,g,h)) (
     rec (c,f,b,d,(wr .i64 (a+1)),g,h))
    |.exit 0 =>
    rec (c,f,b,d,(wr .i64 (a+1)),g,h)
    |_=>none)) k ((at' .exprs c a),false,(at' .exprs b a),((at' .exprs b a).length:Int),0,w2,w3))))) (
  kx (.exit 0) (c,f,b,d,a,w2,w3))
def Af2:Sig:=⟨32,[(1,.sl .expr false),(6,.bool),(15,.sl .expr false),(16,.int .i64),(17,.int .i64)],[(2,.fn 184 [])],[(0,.one (.sv .stmt)),(1,.one (.sv .stmt))],40,40,200,[],[]⟩
abbrev Qh:=List Xpr×Bool×List Xpr×Int×Int×Stm×Stm
def N4{R:Type}(rec:Qh->Option R)(kx:Ex->Qh->Option R)(v:Qh):Option R:=match v with
 |(v,v1,v2,v3,v4,w,w1) =>
 cond (decide (v4<v3)) (
  chk (inb v4 v2.length) (
  chk (inb v4 v.length) (
   cond (!(Q5 (at' .expr v2 v4) (at' .expr v v4))) (
   kx .ret (v,false,v2,v3,v4,w,w1)) (
   rec (v,v1,v2,v3,(wr .i64 (v4+1)),w,w1))))) (
  kx (.exit 0) (v,v1,v2,v3,v4,w,w1))
def Agh(R:Type)(k:Nat):Px R:=pxO [(184,cA Wl)] [] [(4,Am k Af2 (N4))] []
def Qr(R:Type)(k:Nat):Px R:=pxO [(184,cA Wl)] [] [(4,Am k Ahi (Nh))] []
noncomputable def Xl(R:Type)(k:Nat):Px R:=pxO [(188,A2 120 600 (Qr R k) Tryz.f188)] [] [] []
noncomputable def Afh(R:Type)(k:Nat):Px R:=pxO [(190,A2 80 600 (Xl R k) Tryz.f190)] [] [(4,Am k Ahd (Mc k))] []
def W2(R:Type)(_k:Nat):Px R:=pxO [(184,cA Wl)] [] [] []
noncomputable def Af7(R:Type)(k:Nat):Px R:=pxO [(192,A2 80 800 (W2 R k) Tryz.f192)] [] [(4,Am k Afg (M8))] []
noncomputable def Ar5(R:Type)(k:Nat):Px R:=pxO [(184,cA Wl),(185,cA A87),(186,cA A6s),(187,cA A5m),(188,A2 40 200 (Agh R k) Tryz.f188),(189,A2 40 400 (Afh R k) Tryz.f189),(191,A2 40 600 (Af7 R k) Tryz.f191)] [] [] []
def Tu(k:Nat)(x:HV [.sv .stmt,.sv .stmt]):Option (HV [.bool]):=match x with
 |(a,b) =>
 let j9:=λ(p6:Bool) =>
  let j8:=λ(m:Bool) (q6:Stm) (q7:Stm) =>
  let j7:=λ(n:Bool) =>
   let j6:=λ(o:Bool) (c:Stm) (d:Stm) =>
   cond (o) (
    cond (!decide ((c.sets.length:Int)=(d.sets.length:Int))) (
    some false) (
    Al (λrec=>M8 rec (λe vz=>match vz with|(_,q,_,_,_)=>match e with
     |.ret =>
     some q
     |.exit 0 =>
     some true
     |_=>none)) k (d.sets,false,c.sets,(c.sets.length:Int),0))) (
    some false)
   cond (n) (
   cond (!decide ((q6.rows.length:Int)=(q7.rows.length:Int))) (
    j6 false q6 q7) (
    Al (λrec=>Mc k rec (λe vz=>match vz with|(_,r,_,_,_,f,g)=>match e with
    |.ret =>j6 r f g
    |.exit 0 =>j6 true f g
    |_=>none)) k (q7.rows,false,q6.rows,(q6.rows.length:Int),0,q6,q7))) (
   j6 false q6 q7)
  cond (p6) (
   j7 m) (
   j7 false)
  let j5:=λ(p7:Bool) =>
  let j4:=λ(p8:Bool) =>
   let j3:=λ(p9:Bool) =>
   cond (p9) (
    cond (!decide ((a.l.length:Int)=(b.l.length:Int))) (
    j8 false a b) (
    Al (λrec=>N4 rec (λe vz=>match vz with|(_,v6,_,_,_,h,i)=>match e with
     |.ret =>
     j8 v6 h i
     |.exit 0 =>
     j8 true h i
     |_=>none)) k (b.l,false,a.l,(a.l.length:Int),0,a,b))) (
    j8 false a b)
   cond (p8) (
   j3 (Buk a.desc b.desc)) (
   j3 false)
  cond (p7) (
   j4 (Bmd a.order b.order)) (
   j4 false)
  cond ((Bs4 a.cols b.cols)) (
  j5 (Bmd a.names b.names)) (
  j5 false)
 let j2:=λ(p:Bool) =>
  let j1:=λ(p1:Bool) =>
  let j:=λ(p2:Bool) =>
   cond (p2) (
   cond (decide (a.most=b.most)) (
    j9 (Q5 (Gf a.whr) (Gf b.whr))) (
    j9 false)) (
   j9 false)
  cond (p1) (
   j (decide (a.has=b.has))) (
   j false)
  cond (p) (
  j1 (decide (a.on=b.on))) (
  j1 false)
 cond (decide (a.kind=b.kind)) (
  j2 (decide (a.name=b.name))) (
  j2 false)
theorem A5d(k:Nat):FO 114 [.sv .stmt,.sv .stmt] [.bool] (Tu k):=fR (px:=Ar5 _ k) (n:=0) Tryz.func114 rfl (λcx H=>by have h1:Lv cx (Agh (HV [.bool]) k):=lv H (c1 H Rs Ae) Ab Aa;have hlastmts_0:=lO H h1 (b:=lp Tryz.f188 0) (k:=k) (n:=0) (s:=Af2) (step:=N4) (λ_ _ _ (_,_,_,_,_,_,_)=>by kernel_rfl) Ah;have h4:Lv cx (Qr (HV [.bool]) k):=lv H (c1 H Rs Ae) Ab Aa;have hlastmts_2:=lO H h4 (b:=lp Tryz.f188 0) (k:=k) (n:=0) (s:=Ahi) (step:=Nh) (λ_ _ _ (_,_,_,_,_,_,_)=>by kernel_rfl) Ah;have h3:Lv cx (Xl (HV [.bool]) k):=lv H (Az (cR H h4 Tryz.func188 rfl (n:=1) ((A5 Ah hlastmts_2))) Ae) Ab Aa;have h2:Lv cx (Afh (HV [.bool]) k):=lv H (Az (cR H h3 Tryz.func190 rfl (n:=0) (Ah)) Ae) Ab Aa;have hlastmts_1:=lO H h2 (b:=lp Tryz.f189 0) (k:=k) (n:=0) (s:=Ahd) (step:=Mc k) (λ_ _ _ (_,_,_,_,_,_,_)=>by kernel_rfl) Ah;have h6:Lv cx (W2 (HV [.bool]) k):=lv H (c1 H Rs Ae) Ab Aa;have h5:Lv cx (Af7 (HV [.bool]) k):=lv H (Az (cR H h6 Tryz.func192 rfl (n:=0) (Ah)) Ae) Ab Aa;have hlastmts_3:=lO H h5 (b:=lp Tryz.f191 0) (k:=k) (n:=0) (s:=Afg) (step:=M8) (λ_ _ _ (_,_,_,_,_)=>by kernel_rfl) Ah;have h0:Lv cx (Ar5 (HV [.bool]) k):=lv H (c1 H Rs (c1 H Bud (c1 H Bsk (c1 H Br8 (Az (cR H h1 Tryz.func188 rfl (n:=1) ((A5 Ah hlastmts_0))) (Az (cR H h2 Tryz.func189 rfl (n:=1) ((A5 Ah hlastmts_1))) (Az (cR H h5 Tryz.func191 rfl (n:=1) ((A5 Ah hlastmts_3))) Ae))))))) Ab Aa;exact⟨h0,Ah⟩) λ(_,_)=>by kernel_rfl
def A55(a b:Stm):Bool:=Anx a b
def Azf:FT [.sv .stmt,.sv .stmt] [.bool]:=λx=>some (A55 x.1 x.2)
theorem Aa8{α:Type}[DecidableEq α](x y : α)(l m:List α):decide (x::l=y::m)=(decide (x=y)&&decide (l=m)):=by simp only[Ze2,Bool.decide_and]
theorem Aqh{R:Type}{kx:Ex->Qh->Option R}{l m:List Xpr}{s t:Stm}{c:Bool->Option R}(hn:ln l.length)(hm:l.length=m.length)
  (h1:∀i,kx .ret (m,false,l,(l.length:Int),i,s,t)=c false) (h2:∀q i,kx (.exit 0) (m,q,l,(l.length:Int),i,s,t)=c true) (k:Nat) (hk:l.length<k):Al (λrec=>N4 rec kx) k (m,false,l,(l.length:Int),0,s,t)=c (decide (l=m)):=by
 refine(A3 l.length (λi=>(m,false,l,(l.length:Int),(i:Int),s,t)) (λi=>c (decide (l.drop i=m.drop i))) (λi hi rec hr =>?_) (λrec =>?_) k 0 (Nat.zero_le _) (by omega)).trans (by rw[Zq1,Zq1])
 ·have hi2:i<m.length:=by omega
  simp only[N4,Cf hi,Af,Aw hi,Aw hi2,chk,As (c :=.expr) hi,As (c :=.expr) hi2,Au hi hn,hr,h1,Ak hi,Ak hi2,Aa8,Q5,Hp];cases decide (l[i]=m[i])<;>rfl
 ·simp only[N4,Cg,Ag,h2];rw[Zk1 (Zn1 _),Zk1 (by omega)];rfl
theorem Ap3{R:Type}{kx:Ex->Pm->Option R}{l m:List Xpr}{s t:Stm}{c:Bool->Option R}(hn:ln l.length)(hm:l.length=m.length)
  (h1:∀i,kx .ret (m,false,l,(l.length:Int),i,s,t)=c false) (h2:∀q i,kx (.exit 0) (m,q,l,(l.length:Int),i,s,t)=c true) (k:Nat) (hk:l.length<k):Al (λrec=>Nh rec kx) k (m,false,l,(l.length:Int),0,s,t)=c (decide (l=m)):=by
 refine(A3 l.length (λi=>(m,false,l,(l.length:Int),(i:Int),s,t)) (λi=>c (decide (l.drop i=m.drop i))) (λi hi rec hr =>?_) (λrec =>?_) k 0 (Nat.zero_le _) (by omega)).trans (by rw[Zq1,Zq1])
 ·have hi2:i<m.length:=by omega
  simp only[Nh,Cf hi,Af,Aw hi,Aw hi2,chk,As (c :=.expr) hi,As (c :=.expr) hi2,Au hi hn,hr,h1,Ak hi,Ak hi2,Aa8,Q5,Hp];cases decide (l[i]=m[i])<;>rfl
 ·simp only[Nh,Cg,Ag,h2];rw[Zk1 (Zn1 _),Zk1 (by omega)];rfl
theorem Aqc{R:Type}{kx:Ex->Qj->Option R}{l m:List (List Xpr)}{s t:Stm}{c:Bool->Option R}(hn:ln l.length)(hm:l.length=m.length)(hr0:∀x,x∈l->ln x.length)(k:Nat)(hkr:∀x,x∈l->List.length x<k)
  (h1:∀i,kx .ret (m,false,l,(l.length:Int),i,s,t)=c false) (h2:∀q i,kx (.exit 0) (m,q,l,(l.length:Int),i,s,t)=c true) (hk:l.length<k):Al (λrec=>Mc k rec kx) k (m,false,l,(l.length:Int),0,s,t)=c (decide (l=m)):=by
 refine(A3 l.length (λi=>(m,false,l,(l.length:Int),(i:Int),s,t)) (λi=>c (decide (l.drop i=m.drop i))) (λi hi rec hr =>?_) (λrec =>?_) k 0 (Nat.zero_le _) (by omega)).trans (by rw[Zq1,Zq1])
 ·have hi2:i<m.length:=by omega
  simp only[Mc,Cf hi,Af,Aw hi,Aw hi2,chk,As (c :=.exprs) hi,As (c :=.exprs) hi2,Au hi hn,Ak hi,Ak hi2,Aa8];by_cases hlen:l[i].length=m[i].length
  ·rw[Ze1 (show(l[i].length:Int)=(m[i].length:Int) by omega),Zt1,Ag];rw[Ap3 (c:=λb=>cond b (c (decide (l.drop (i+1)=m.drop (i+1)))) (c false)) (hr0 _ (List.getElem_mem hi)) hlen (λ_=>h1 _) (λ_ _=>hr) k (hkr _ (List.getElem_mem hi))];cases decide (l[i]=m[i])<;>rfl
  ·rw[Zd1 (show ¬(l[i].length:Int)=(m[i].length:Int) by omega),Zd1 (λh=>hlen (by rw[h])),h1];rfl
 ·simp only[Mc,Cg,Ag,h2];rw[Zk1 (Zn1 _),Zk1 (by omega)];rfl
theorem Aqd{R:Type}{kx:Ex->O6->Option R}{l m:List SetE}{c:Bool->Option R}(hn:ln l.length)(hm:l.length=m.length)
  (h1:∀i,kx .ret (m,false,l,(l.length:Int),i)=c false) (h2:∀q i,kx (.exit 0) (m,q,l,(l.length:Int),i)=c true) (k:Nat) (hk:l.length<k):Al (λrec=>M8 rec kx) k (m,false,l,(l.length:Int),0)=c (decide (l=m)):=by
 refine(A3 l.length (λi=>(m,false,l,(l.length:Int),(i:Int))) (λi=>c (decide (l.drop i=m.drop i))) (λi hi rec hr =>?_) (λrec =>?_) k 0 (Nat.zero_le _) (by omega)).trans (by rw[Zq1,Zq1])
 ·have hi2:i<m.length:=by omega
  simp only[M8,Cf hi,Af,Aw hi,Aw hi2,chk,As (c :=.set) hi,As (c :=.set) hi2,Au hi hn,hr,h1,Ak hi,Ak hi2,Aa8,Q5,<-A3g,Axy,Fh];cases decide (l[i].name=m[i].name)<;>cases Gm l[i].e m[i].e<;>rfl
 ·simp only[M8,Cg,Ag,h2];rw[Zk1 (Zn1 _),Zk1 (by omega)];rfl
theorem Awz{α:Type}[DecidableEq α]{l m:List α}(h:¬l.length=m.length):decide (l=m)=false:=Zd1 λe=>h (by rw[e])
def Btv(s:Stm):Nat:=s.l.length+s.rows.length+s.sets.length+(s.rows.map List.length).sum
theorem Baq{l:List (List Xpr)}{x:List Xpr}(h:x∈l):x.length<=(l.map List.length).sum:=by
 induction l with
 |nil=>cases h
 |cons y l ih =>
  simp only[Zw1,List.sum_cons];rcases List.mem_cons.1 h with rfl|h
  ·omega
  ·have:=ih h;omega
theorem Bob(k:Nat)(a b:Stm)(hb:BdStm a)(hk:Btv a<k):Tu k (a,b)=some (Anx a b):=by
 have hk2:=hk;simp only[Btv] at hk2;simp -zeta only [Tu,Q5,Hp,Fh,Bs4,Bmd,Buk];extract_lets j6 j9 j j1 j2;have h6:∀q,j6 q a b=some (q&&decide (a.sets=b.sets)):=λq=>by
  simp -zeta only [j6];cases q with
  |false=>rfl
  |true =>
   rw[Af,Bool.true_and];by_cases hs:a.sets.length=b.sets.length
   ·rw[Ze1 (show(a.sets.length:Int)=(b.sets.length:Int) by omega),Zt1,Ag];exact Aqd (c:=some) hb.sets.1 hs (λ_=>rfl) (λ_ _=>rfl) k (by omega)
   ·rw[Zd1 (show ¬(a.sets.length:Int)=(b.sets.length:Int) by omega),Awz hs];rfl
 have h9:∀p,j9 p=some (p&&(decide (a.cols=b.cols)&&decide (a.names=b.names)&&decide (a.order=b.order)&&decide (a.desc=b.desc)&&decide (a.l=b.l))&&decide (a.rows=b.rows)&&decide (a.sets=b.sets)):=λp=>by
  simp -zeta only [j9];extract_lets j8 j3 j4 j5;have h8:∀q,j8 q a b=some (p&&q&&decide (a.rows=b.rows)&&decide (a.sets=b.sets)):=λq=>by
   simp -zeta only [j8];extract_lets j7;have h7:∀q,j7 q=some (q&&decide (a.rows=b.rows)&&decide (a.sets=b.sets)):=λq=>by
    simp -zeta only [j7];cases q with
    |false=>exact(h6 false).trans rfl
    |true =>
     rw[Af,Bool.true_and];by_cases hs:a.rows.length=b.rows.length
     ·rw[Ze1 (show(a.rows.length:Int)=(b.rows.length:Int) by omega),Zt1,Ag];refine(Aqc (c:=λq=>j6 q a b) hb.rows.1 hs (λx hx=>(hb.rows.2 x hx).1) k (λx hx=>by have:=Baq hx;omega) (λ_=>rfl) (λ_ _=>rfl) (by omega)).trans (h6 _)
     ·rw[Zd1 (show ¬(a.rows.length:Int)=(b.rows.length:Int) by omega),Awz hs];exact(h6 false).trans rfl
   cases p with|false=>exact(h7 false).trans rfl|true=>exact(h7 q).trans (by rw[Bool.true_and])
  have h3:∀q,j3 q=some (p&&(q&&decide (a.l=b.l))&&decide (a.rows=b.rows)&&decide (a.sets=b.sets)):=λq=>by
   simp -zeta only [j3];cases q with
   |false=>exact h8 false
   |true =>
    rw[Af,Bool.true_and];by_cases hs:a.l.length=b.l.length
    ·rw[Ze1 (show(a.l.length:Int)=(b.l.length:Int) by omega),Zt1,Ag];exact(Aqh (c:=λq=>j8 q a b) hb.l.1 hs (λ_=>rfl) (λ_ _=>rfl) k (by omega)).trans (h8 _)
    ·rw[Zd1 (show ¬(a.l.length:Int)=(b.l.length:Int) by omega),Awz hs];exact h8 false
  have h4:∀q,j4 q=some (p&&(q&&decide (a.desc=b.desc)&&decide (a.l=b.l))&&decide (a.rows=b.rows)&&decide (a.sets=b.sets)):=λq=>by simp -zeta only [j4];cases q with|false=>exact h3 false|true=>exact(h3 _).trans (by rw[Bool.true_and])
  have h5:∀q,j5 q=some (p&&(q&&decide (a.order=b.order)&&decide (a.desc=b.desc)&&decide (a.l=b.l))&&decide (a.rows=b.rows)&&decide (a.sets=b.sets)):=λq=>by simp -zeta only [j5];cases q with|false=>exact h4 false|true=>exact(h4 _).trans (by rw[Bool.true_and])
  cases decide (a.cols=b.cols) with|false=>exact h5 false|true=>exact(h5 _).trans (by simp only[Bool.true_and])
 simp -zeta only [j2,j1,j,Anx];cases decide (a.kind=b.kind) with
 |false=>exact(h9 false).trans rfl
 |true =>
  cases decide (a.name=b.name) with
  |false=>exact(h9 false).trans rfl
  |true =>
   cases decide (a.on=b.on) with
   |false=>exact(h9 false).trans rfl
   |true =>
    cases decide (a.has=b.has) with
    |false=>exact(h9 false).trans rfl
    |true =>cases decide (a.most=b.most) with|false=>exact(h9 false).trans rfl|true=>exact(h9 _).trans (by simp only[Bool.true_and])
theorem Bi8:FO 114 [.sv .stmt,.sv .stmt] [.bool] Azf :=.fin 0 A5d λ(a,b) r hb hx=>⟨Btv a+1,(Bob (Btv a+1) a b hb.1 (by omega)).trans hx⟩
instance:DecidableEq Stm:=λa b=>decidable_of_iff (Anx a b=true) (Atn a b)
theorem Bh4(a b:Stm):Anx a b=decide (a=b):=by rw[Bool.eq_iff_iff,Atn,Zg1]
def Bp4(R:Type):Px R:=pxO [] [] [] []
def Yj(x:HV [.int .i64]):Option (HV [.bool]):=match x with
 |n =>
 cond (decide (1<=n)) (
  some (decide (n<=100))) (
  some false)
theorem Bip:FO 117 [.int .i64] [.bool] (Yj):=fR (px:=Bp4 _) (n:=0) Tryz.func117 rfl (λ_ H=>⟨lv H Ae Ab Aa,Ah⟩) λ_=>by kernel_rfl
def C0(n:Int):Bool :=
 cond (decide (1<=n)) (
  (decide (n<=100))) (
  false)
theorem Biv(x:HV [.int .i64]):Yj x=some (C0 x):=by
 first
  |exact rfl
  |simp only[Yj,C0,A0]
def Aa9:FT [.int .i64] [.bool]:=λx=>some (C0 x)
theorem Z2:FO 117 [.int .i64] [.bool] Aa9 :=.fin0 Bip λx _ _ hx=>(Biv x).trans hx
theorem Azi(n:Nat):C0 (n:Int)=(decide (1<=n)&&decide (n<=100)):=by simp only[C0];rw[show decide ((1:Int)<=(n:Int))=decide (1<=n) from Zy1.2 (by omega),show decide ((n:Int)<=100)=decide (n<=100) from Zy1.2 (by omega)];cases decide (1<=n)<;>rfl
def Aog:Sig:=⟨26,[(0,.sl .str false),(2,.bool),(5,.sl .str false),(6,.int .i64),(7,.int .i64)],[],[],0,0,0,[],[]⟩
abbrev Vi:=List Str×Bool×List Str×Int×Int
def Ua{R:Type}(rec:Vi->Option R)(kx:Ex->Vi->Option R)(v:Vi):Option R:=match v with
 |(v,v1,v2,v3,v4) =>
 cond (decide (v4<v3)) (
  chk (inb v4 v2.length) (
  cond (!(Df (at' .str v2 v4))) (
   kx .ret (v,false,v2,v3,v4)) (
   chk (Ev 0 v4 v.length) (
   cond ((A0a (v.take (v4:Int).toNat) (at' .str v2 v4))) (
    kx .ret (v,false,v2,v3,v4)) (
    rec (v,v1,v2,v3,(wr .i64 (v4+1)))))))) (
  kx (.exit 0) (v,v1,v2,v3,v4))
def Azv(R:Type)(k:Nat):Px R:=pxO [(113,cA O9),(41,cA A5p)] [] [(2,Am k Aog (Ua))] []
def Aoq(k:Nat)(x:HV [.sl .str false]):Option (HV [.bool]):=match x with
 |l =>
 Al (λrec=>Ua rec (λe vz=>match vz with|(v5,v6,_,_,_)=>match e with
  |.ret =>
  some v6
  |.exit 0 =>
  some (decide ((v5.length:Int)<=100))
  |_=>none)) k (l,false,l,(l.length:Int),0)
theorem Bhi(k:Nat):FO 118 [.sl .str false] [.bool] (Aoq k):=fR (px:=Azv _ k) (n:=1) Tryz.func118 rfl (λcx H=>by have h0:Lv cx (Azv (HV [.bool]) k):=lv H (c1 H Tg (c1 H A90 Ae)) Ab Aa;have hlaonce_0:=lO H h0 (b:=lp Tryz.f118 0) (k:=k) (n:=0) (s:=Aog) (step:=Ua) (λ_ _ _ (_,_,_,_,_)=>by kernel_rfl) Ah;exact⟨h0,(A5 Ah hlaonce_0)⟩) λ_=>by kernel_rfl
def S3:List Str->List Str->Bool
 |_,[]=>true
 |seen,s::r=>Df s && !seen.contains s&&S3 (seen++[s]) r
def Ds(l:List Str):Bool:=S3 [] l&&decide (l.length<=100)
def Zk:FT [.sl .str false] [.bool]:=λx=>some (Ds x)
theorem Apq{l:List Str}{i:Nat}(hi:i<l.length):l.take (i+1)=l.take i++[l[i]]:=by rw[List.take_add_one,Zo1 hi];rfl
theorem A9n{R:Type}{kx:Ex->Vi->Option R}{l:List Str}{c:Bool->Option R}(hn:ln l.length)(h1:∀i,kx .ret (l,false,l,(l.length:Int),i)=c false)(h2:∀q i,kx (.exit 0) (l,q,l,(l.length:Int),i)=c true)(k:Nat)(hk:l.length<k) :
  Al (λrec=>Ua rec kx) k (l,false,l,(l.length:Int),0)=c (S3 [] l):=by
 refine(A3 l.length (λi=>(l,false,l,(l.length:Int),(i:Int))) (λi=>c (S3 (l.take i) (l.drop i))) (λi hi rec hr =>?_) (λrec =>?_) k 0 (Nat.zero_le _) (by omega)).trans (by rw[Zq1,List.take_zero])
 ·have hu:Ev 0 (i:Int) l.length=true:=by simp[Ev];omega
  simp only[Ua,Cf hi,Af,Aw hi,chk,As (c :=.str) hi,Au hi hn,hr,h1,Ak hi,S3,hu,Int.toNat_natCast,Ba8,Apq hi];cases Df l[i]<;>cases (l.take i).contains l[i]<;>rfl
 ·simp only[Ua,Cg,Ag,h2];rw[Zk1 (Zn1 _)];rfl
theorem Akn:FO 118 [.sl .str false] [.bool] Zk :=.fin 0 Bhi λl r hb hx=>⟨l.length+1,by simp only[Zk,Za1] at hx;rw[<-hx];simp only[Aoq];refine(A9n (l:=l) (c:=λb=>cond b (some (decide ((l.length:Int)<=100))) (some false)) hb.1 (λ_=>rfl) (λ_ _=>rfl) (l.length+1) (by omega)).trans ?_;rw[show decide ((l.length:Int)<=100)=decide (l.length<=100) from Zy1.2 (by omega),Ds];cases S3 [] l<;>rfl⟩
def Afk:Sig:=⟨19,[(0,.sl .expr false),(4,.int .i64),(7,.int .i64),(8,.int .i64)],[(1,.fn 194 [])],[],80,80,400,[],[]⟩
abbrev Qc:=List Xpr×Int×Int×Int
def N7{R:Type}(rec:Qc->Option R)(kx:Ex->Qc->Option R)(v:Qc):Option R:=match v with
 |(v,v1,v2,v3) =>
 cond (decide (v3<v2)) (
  chk (inb v3 v.length) (
  cond (!(A8 (at' .expr v v3) 30)) (
   kx .ret (v,v3,v2,v3)) (
   rec (v,v1,v2,(wr .i64 (v3+1)))))) (
  kx (.exit 0) (v,v1,v2,v3))
def Qs(R:Type)(_k:Nat):Px R:=pxO [(168,cA Ti)] [] [] []
noncomputable def Wz(R:Type)(k:Nat):Px R:=pxO [(194,A2 120 600 (Qs R k) Tryz.f194)] [] [(2,Am k Afk (N7))] []
noncomputable def Ahm(R:Type)(k:Nat):Px R:=pxO [(237,A2 80 400 (Wz R k) Tryz.f237)] [] [] []
noncomputable def Au9(R:Type)(k:Nat):Px R:=pxO [(193,A2 40 200 (Ahm R k) Tryz.f193)] [] [] []
def Afn(k:Nat)(x:HV [.sl .expr false]):Option (HV [.bool]):=match x with
 |l =>
 cond (decide ((l.length:Int)<=100)) (
  Al (λrec=>N7 rec (λe vz=>match vz with|(_,v5,_,_)=>match e with
  |.ret =>some (!(decide (0<=v5)))
  |.exit 0 =>some true
  |_=>none)) k (l,0,(l.length:Int),0)) (
  some false)
theorem A7p(k:Nat):FO 119 [.sl .expr false] [.bool] (Afn k):=fR (px:=Au9 _ k) (n:=0) Tryz.func119 rfl (λcx H=>by have h3:Lv cx (Qs (HV [.bool]) k):=lv H (c1 H Wm Ae) Ab Aa;have h2:Lv cx (Wz (HV [.bool]) k):=lv H (Az (cR H h3 Tryz.func194 rfl (n:=0) (Ah)) Ae) Ab Aa;have hlaexprs_0:=lO H h2 (b:=lp Tryz.f237 0) (k:=k) (n:=0) (s:=Afk) (step:=N7) (λ_ _ _ (_,_,_,_)=>by kernel_rfl) Ah;have h1:Lv cx (Ahm (HV [.bool]) k):=lv H (Az (cR H h2 Tryz.func237 rfl (n:=1) ((A5 Ah hlaexprs_0))) Ae) Ab Aa;have h0:Lv cx (Au9 (HV [.bool]) k):=lv H (Az (cR H h1 Tryz.func193 rfl (n:=0) (Ah)) Ae) Ab Aa;exact⟨h0,Ah⟩) λ_=>by kernel_rfl
def Fx(l:List Xpr):Bool:=decide (l.length<=100)&&l.all λe=>A8 e 30
def Zu:FT [.sl .expr false] [.bool]:=λx=>some (Fx x)
theorem A3q{R:Type}{kx:Ex->Qc->Option R}{l:List Xpr}{c:Bool->Option R}(hn:ln l.length)(h1:∀i:Nat,kx .ret (l,(i:Int),(l.length:Int),(i:Int))=c false)(h2:∀q i,kx (.exit 0) (l,q,(l.length:Int),i)=c true)(k:Nat)(hk:l.length<k) :
  Al (λrec=>N7 rec kx) k (l,0,(l.length:Int),0)=c (l.all λe=>A8 e 30):=by
 refine(A3 l.length (λi=>(l,(0:Int),(l.length:Int),(i:Int))) (λi=>c ((l.drop i).all λe=>A8 e 30)) (λi hi rec hr =>?_) (λrec =>?_) k 0 (Nat.zero_le _) (by omega)).trans (by rw[Zq1])
 ·simp only[N7,Cf hi,Af,Aw hi,chk,As (c :=.expr) hi,Au hi hn,hr,h1,Ak hi,Zv1];cases A8 l[i] 30<;>rfl
 ·simp only[N7,Cg,Ag,h2];rw[Zk1 (Zn1 _)];rfl
theorem Aub:FO 119 [.sl .expr false] [.bool] Zu :=.fin 0 A7p λl r hb hx=>⟨l.length+1,by
 simp only[Zu,Za1] at hx;rw[<-hx];simp only[Afn,Fx];rw[show decide ((l.length:Int)<=100)=decide (l.length<=100) from Zy1.2 (by omega)];cases decide (l.length<=100) with
 |false=>rfl
 |true =>rw[Af,Bool.true_and];exact A3q (l:=l) (c:=some) hb.1 (λi=>by simp) (λ_ _=>rfl) (l.length+1) (by omega)⟩
def Ajy:Sig:=⟨19,[(0,.sl .exprs false),(4,.int .i64),(7,.int .i64),(8,.int .i64)],[(1,.fn 196 [])],[],80,80,400,[],[]⟩
abbrev V5:=List (List Xpr)×Int×Int×Int
def Vh{R:Type}(rec:V5->Option R)(kx:Ex->V5->Option R)(v:V5):Option R:=match v with
 |(v,v1,v2,v3) =>
 cond (decide (v3<v2)) (
  chk (inb v3 v.length) (
  cond (decide (((at' .exprs v v3).length:Int)=0)) (
   kx .ret (v,v3,v2,v3)) (
   cond (!(Fx (at' .exprs v v3))) (
   kx .ret (v,v3,v2,v3)) (
   rec (v,v1,v2,(wr .i64 (v3+1))))))) (
  kx (.exit 0) (v,v1,v2,v3))
def Qz(R:Type)(_k:Nat):Px R:=pxO [(119,cA Zu)] [] [] []
noncomputable def Z8(R:Type)(k:Nat):Px R:=pxO [(196,A2 120 600 (Qz R k) Tryz.f196)] [] [(2,Am k Ajy (Vh))] []
noncomputable def Api(R:Type)(k:Nat):Px R:=pxO [(238,A2 80 400 (Z8 R k) Tryz.f238)] [] [] []
noncomputable def A3k(R:Type)(k:Nat):Px R:=pxO [(117,cA Aa9),(195,A2 40 200 (Api R k) Tryz.f195)] [] [] []
def Ao6(k:Nat)(x:HV [.sl .exprs false]):Option (HV [.bool]):=match x with
 |l =>
 cond ((C0 (l.length:Int))) (
  Al (λrec=>Vh rec (λe vz=>match vz with|(_,v5,_,_)=>match e with
  |.ret =>some (!(decide (0<=v5)))
  |.exit 0 =>some true
  |_=>none)) k (l,0,(l.length:Int),0)) (
  some false)
theorem Bhy(k:Nat):FO 120 [.sl .exprs false] [.bool] (Ao6 k):=fR (px:=A3k _ k) (n:=0) Tryz.func120 rfl (λcx H=>by have h3:Lv cx (Qz (HV [.bool]) k):=lv H (c1 H Aub Ae) Ab Aa;have h2:Lv cx (Z8 (HV [.bool]) k):=lv H (Az (cR H h3 Tryz.func196 rfl (n:=0) (Ah)) Ae) Ab Aa;have hlarows_0:=lO H h2 (b:=lp Tryz.f238 0) (k:=k) (n:=0) (s:=Ajy) (step:=Vh) (λ_ _ _ (_,_,_,_)=>by kernel_rfl) Ah;have h1:Lv cx (Api (HV [.bool]) k):=lv H (Az (cR H h2 Tryz.func238 rfl (n:=1) ((A5 Ah hlarows_0))) Ae) Ab Aa;have h0:Lv cx (A3k (HV [.bool]) k):=lv H (c1 H Z2 (Az (cR H h1 Tryz.func195 rfl (n:=0) (Ah)) Ae)) Ab Aa;exact⟨h0,Ah⟩) λ_=>by kernel_rfl
def Aoi(r:List Xpr):Bool := !decide (r.length=0)&&Fx r
def Atb(l:List (List Xpr)):Bool:=C0 (l.length:Int)&&l.all Aoi
def Awc:FT [.sl .exprs false] [.bool]:=λx=>some (Atb x)
theorem A4y{R:Type}{kx:Ex->V5->Option R}{l:List (List Xpr)}{c:Bool->Option R}(hn:ln l.length)(h1:∀i:Nat,kx .ret (l,(i:Int),(l.length:Int),(i:Int))=c false)(h2:∀q i,kx (.exit 0) (l,q,(l.length:Int),i)=c true)(k:Nat)(hk:l.length<k) :
  Al (λrec=>Vh rec kx) k (l,0,(l.length:Int),0)=c (l.all Aoi):=by
 refine(A3 l.length (λi=>(l,(0:Int),(l.length:Int),(i:Int))) (λi=>c ((l.drop i).all Aoi)) (λi hi rec hr =>?_) (λrec =>?_) k 0 (Nat.zero_le _) (by omega)).trans (by rw[Zq1])
 ·simp only[Vh,Cf hi,Af,Aw hi,chk,As (c :=.exprs) hi,Au hi hn,hr,h1,Ak hi,Zv1,Aoi];rw[show decide ((l[i].length:Int)=0)=decide (l[i].length=0) from Zy1.2 (by omega)];cases decide (l[i].length=0)<;>cases Fx l[i]<;>rfl
 ·simp only[Vh,Cg,Ag,h2];rw[Zk1 (Zn1 _)];rfl
theorem Bn4:FO 120 [.sl .exprs false] [.bool] Awc :=.fin 0 Bhy λl r hb hx=>⟨l.length+1,by
 simp only[Awc,Za1] at hx;rw[<-hx];simp only[Ao6,Atb];cases C0 (l.length:Int) with
 |false=>rfl
 |true =>rw[Af,Bool.true_and];exact A4y (l:=l) (c:=some) hb.1 (λi=>by simp) (λ_ _=>rfl) (l.length+1) (by omega)⟩
def Bmv(R:Type):Px R:=pxO [(184,cA Wl)] [] [] []
def Yd(x:HV [.sv .expr]):Option (HV [.bool]):=match x with
 |e =>
 some (Q5 e (Xpr.mk 0 ⟨0,0,[]⟩ [] []))
theorem Bdw:FO 197 [.sv .expr] [.bool] (Yd):=fR (px:=Bmv _) (n:=0) Tryz.func197 rfl (λ_ H=>⟨lv H (c1 H Rs Ae) Ab Aa,Ah⟩) λ_=>by kernel_rfl
def Aup(e:Xpr):Bool :=(Q5 e (Xpr.mk 0 ⟨0,0,[]⟩ [] []))
theorem Bg1(x:HV [.sv .expr]):Yd x=some (Aup x):=by
 first
  |exact rfl
  |simp only[Yd,Aup,A0]
def Bbn:FT [.sv .expr] [.bool]:=λx=>some (Aup x)
theorem Bnz:FO 197 [.sv .expr] [.bool] Bbn :=.fin0 Bdw λx _ _ hx=>(Bg1 x).trans hx
theorem Bki(e:Xpr):Aup e=decide (e = .mk 0 ⟨0,0,[]⟩ [] []):=Hp e _
def Be9(R:Type):Px R:=pxO [(197,cA Bbn),(168,cA Ti)] [] [] []
def Q8(x:HV [.sv .stmt]):Option (HV [.bool]):=match x with
 |s =>
 cond (!s.has) (
  some (Aup (Gf s.whr))) (
  some (A8 (Gf s.whr) 30))
theorem A82:FO 122 [.sv .stmt] [.bool] (Q8):=fR (px:=Be9 _) (n:=0) Tryz.func122 rfl (λ_ H=>⟨lv H (c1 H Bnz (c1 H Wm Ae)) Ab Aa,Ah⟩) λ_=>by kernel_rfl
def G8(s:Stm):Bool :=
 cond (!s.has) (
  (Aup (Gf s.whr))) (
  (A8 (Gf s.whr) 30))
theorem A46(x:HV [.sv .stmt]):Q8 x=some (G8 x):=by
 first
  |exact rfl
  |simp only[Q8,G8,A0]
def A3l:FT [.sv .stmt] [.bool]:=λx=>some (G8 x)
theorem Bi2:FO 122 [.sv .stmt] [.bool] A3l :=.fin0 A82 λx _ _ hx=>(A46 x).trans hx
theorem Ar4(s:Stm):G8 s=cond s.has (A8 s.whr 30) (decide (s.whr = .mk 0 ⟨0,0,[]⟩ [] [])):=by simp only[G8,Fh,Bki];cases s.has<;>rfl
def Ajm:Sig:=⟨44,[(0,.sl .col false),(2,.bool),(3,.sl .str true),(6,.sl .col false),(7,.int .i64),(8,.int .i64)],[],[],0,0,0,[],[]⟩
abbrev Uj:=List Col×Bool×List Str×List Col×Int×Int
def T8{R:Type}(rec:Uj->Option R)(kx:Ex->Uj->Option R)(v:Uj):Option R:=match v with
 |(v,v1,v2,v3,v4,v5) =>
 cond (decide (v5<v4)) (
  chk (inb v5 v3.length) (
  let j:=λ(p:Bool) =>
   cond (p) (
   kx .ret (v,false,v2,v3,v4,v5)) (
   cond (!decide (((at' .col v3 v5).ref)=[])) (
    cond (!(Df ((at' .col v3 v5).ref))) (
    kx .ret (v,false,v2,v3,v4,v5)) (
    chk (decide (v2.length+1<=Ao)) (
     rec (v,v1,(v2++[((at' .col v3 v5).name)]),v3,v4,(wr .i64 (v5+1)))))) (
    chk (decide (v2.length+1<=Ao)) (
    rec (v,v1,(v2++[((at' .col v3 v5).name)]),v3,v4,(wr .i64 (v5+1))))))
  cond (decide ((at' .col v3 v5).kind<2)) (
   j true) (
   j (decide (5<(at' .col v3 v5).kind))))) (
  kx (.exit 0) (v,v1,v2,v3,v4,v5))
def A1q(R:Type)(k:Nat):Px R:=pxO [(113,cA O9),(117,cA Aa9),(118,cA Zk)] [] [(3,Am k Ajm (T8))] []
def Akj(k:Nat)(x:HV [.sl .col false]):Option (HV [.bool]):=match x with
 |l =>
 Al (λrec=>T8 rec (λe vz=>match vz with|(v6,v7,v8,_,_,_)=>match e with
  |.ret =>
  some v7
  |.exit 0 =>
  cond ((C0 (v6.length:Int))) (
   some (Ds v8)) (
   some false)
  |_=>none)) k (l,false,[],l,(l.length:Int),0)
theorem Bei(k:Nat):FO 116 [.sl .col false] [.bool] (Akj k):=fR (px:=A1q _ k) (n:=1) Tryz.func116 rfl (λcx H=>by have h0:Lv cx (A1q (HV [.bool]) k):=lv H (c1 H Tg (c1 H Z2 (c1 H Akn Ae))) Ab Aa;have hlacols_0:=lO H h0 (b:=lp Tryz.f116 0) (k:=k) (n:=0) (s:=Ajm) (step:=T8) (λ_ _ _ (_,_,_,_,_,_)=>by kernel_rfl) Ah;exact⟨h0,(A5 Ah hlacols_0)⟩) λ_=>by kernel_rfl
def Ij(c:Col):Bool:=decide (2<=c.kind)&&decide (c.kind<=5)&&(decide (c.ref=[])||Df c.ref)
def Ban(l:List Col):Option Bool:=if l.length<=1000000 then some (l.all Ij&&C0 (l.length:Int)&&Ds (l.map (·.name))) else none
def Axi:FT [.sl .col false] [.bool]:=λx=>Ban x
theorem A7r{R:Type}{kx:Ex->Uj->Option R}{l:List Col}{c:Bool->Option R}(hn:l.length<=1000000)(h1:∀o i,kx .ret (l,false,o,l,(l.length:Int),i)=c false)(h2:∀q o i,kx (.exit 0) (l,q,o,l,(l.length:Int),i)=cond (C0 (l.length:Int)) (c (Ds o)) (c false))(k:Nat)(hk:l.length<k) :
  Al (λrec=>T8 rec kx) k (l,false,[],l,(l.length:Int),0)=c (l.all Ij&&C0 (l.length:Int)&&Ds (l.map (·.name))):=by
 have hl:ln l.length:=by simp only[ln];omega
 refine(A3 l.length (λi=>(l,false,(l.take i).map (·.name),l,(l.length:Int),(i:Int))) (λi=>c ((l.drop i).all Ij&&C0 (l.length:Int)&&Ds (l.map (·.name)))) (λi hi rec hr =>?_) (λrec =>?_) k 0 (Nat.zero_le _) (by omega)).trans (by rw[Zq1])
 ·have ht:(l.take (i+1)).map (·.name)=(l.take i).map (·.name)++[l[i].name]:=by rw[List.take_add_one,Zo1 hi,List.map_append];rfl
  have hlen:((l.take i).map (·.name)).length+1<=Ao:=by simp only[List.length_map,List.length_take,Ao];omega
  rw[ht] at hr;simp only[T8,Cf hi,Af,Aw hi,chk,As (c :=.col) hi,Au hi hl,hr,h1,Ak hi,Zv1,Ij,Ze1 hlen];by_cases ha:l[i].kind<2
  ·rw[Ze1 ha,Zd1 (show ¬ 2<=l[i].kind by omega)];rfl
  ·rw[Zd1 ha,Ze1 (show 2<=l[i].kind by omega)];by_cases hb : 5<l[i].kind
   ·rw[Ze1 hb,Zd1 (show ¬l[i].kind<=5 by omega)];rfl
   ·rw[Zd1 hb,Ze1 (show l[i].kind<=5 by omega)];cases decide (l[i].ref=[])<;>cases Df l[i].ref<;>rfl
 ·simp only[T8,Cg,Ag,h2];rw[Zk1 (Zn1 _),List.take_length];cases C0 (l.length:Int)<;>rfl
theorem Bk7:FO 116 [.sl .col false] [.bool] Axi :=.fin 0 Bei λl r hb hx=>⟨l.length+1,by
 simp only[Axi,Ban] at hx;split at hx
 ·rename_i h;rw[<-hx];simp only[Akj];refine A7r (l:=l) (c:=some) h (λ_ _=>rfl) (λ_ _ _ =>?_) (l.length+1) (by omega);cases C0 (l.length:Int)<;>rfl
 ·cases hx⟩
def An3:Sig:=⟨29,[(0,.sl .set false),(2,.bool),(3,.sl .str true),(6,.sl .set false),(7,.int .i64),(8,.int .i64)],[],[],0,0,0,[],[]⟩
abbrev Vs:=List SetE×Bool×List Str×List SetE×Int×Int
def Vg{R:Type}(rec:Vs->Option R)(kx:Ex->Vs->Option R)(v:Vs):Option R:=match v with
 |(v,v1,v2,v3,v4,v5) =>
 cond (decide (v5<v4)) (
  chk (inb v5 v3.length) (
  cond (!(A8 (Gf ((at' .set v3 v5).e)) 30)) (
   kx .ret (v,false,v2,v3,v4,v5)) (
   chk (decide (v2.length+1<=Ao)) (
   rec (v,v1,(v2++[((at' .set v3 v5).name)]),v3,v4,(wr .i64 (v5+1))))))) (
  kx (.exit 0) (v,v1,v2,v3,v4,v5))
def A27(R:Type)(k:Nat):Px R:=pxO [(168,cA Ti),(117,cA Aa9),(118,cA Zk)] [] [(3,Am k An3 (Vg))] []
def Aom(k:Nat)(x:HV [.sl .set false]):Option (HV [.bool]):=match x with
 |l =>
 Al (λrec=>Vg rec (λe vz=>match vz with|(v6,v7,v8,_,_,_)=>match e with
  |.ret =>
  some v7
  |.exit 0 =>
  cond ((C0 (v6.length:Int))) (
   some (Ds v8)) (
   some false)
  |_=>none)) k (l,false,[],l,(l.length:Int),0)
theorem Bge(k:Nat):FO 121 [.sl .set false] [.bool] (Aom k):=fR (px:=A27 _ k) (n:=1) Tryz.func121 rfl (λcx H=>by have h0:Lv cx (A27 (HV [.bool]) k):=lv H (c1 H Wm (c1 H Z2 (c1 H Akn Ae))) Ab Aa;have hlasets_0:=lO H h0 (b:=lp Tryz.f121 0) (k:=k) (n:=0) (s:=An3) (step:=Vg) (λ_ _ _ (_,_,_,_,_,_)=>by kernel_rfl) Ah;exact⟨h0,(A5 Ah hlasets_0)⟩) λ_=>by kernel_rfl
def Bb4(l:List SetE):Option Bool:=if l.length<=1000000 then some (l.all (λx=>A8 x.e 30)&&C0 (l.length:Int)&&Ds (l.map (·.name))) else none
def Ayo:FT [.sl .set false] [.bool]:=λx=>Bb4 x
theorem A6g{R:Type}{kx:Ex->Vs->Option R}{l:List SetE}{c:Bool->Option R}(hn:l.length<=1000000)(h1:∀o i,kx .ret (l,false,o,l,(l.length:Int),i)=c false)(h2:∀q o i,kx (.exit 0) (l,q,o,l,(l.length:Int),i)=cond (C0 (l.length:Int)) (c (Ds o)) (c false))(k:Nat)(hk:l.length<k) :
  Al (λrec=>Vg rec kx) k (l,false,[],l,(l.length:Int),0)=c (l.all (λx=>A8 x.e 30)&&C0 (l.length:Int)&&Ds (l.map (·.name))):=by
 have hl:ln l.length:=by simp only[ln];omega
 refine(A3 l.length (λi=>(l,false,(l.take i).map (·.name),l,(l.length:Int),(i:Int))) (λi=>c ((l.drop i).all (λx=>A8 x.e 30)&&C0 (l.length:Int)&&Ds (l.map (·.name)))) (λi hi rec hr =>?_) (λrec =>?_) k 0 (Nat.zero_le _) (by omega)).trans (by rw[Zq1])
 ·have ht:(l.take (i+1)).map (·.name)=(l.take i).map (·.name)++[l[i].name]:=by rw[List.take_add_one,Zo1 hi,List.map_append];rfl
  have hlen:((l.take i).map (·.name)).length+1<=Ao:=by simp only[List.length_map,List.length_take,Ao];omega
  rw[ht] at hr;simp only[Vg,Cf hi,Af,Aw hi,chk,As (c :=.set) hi,Au hi hl,hr,h1,Ak hi,Zv1,Ze1 hlen,Fh];cases A8 l[i].e 30<;>rfl
 ·simp only[Vg,Cg,Ag,h2];rw[Zk1 (Zn1 _),List.take_length];cases C0 (l.length:Int)<;>rfl
theorem Bly:FO 121 [.sl .set false] [.bool] Ayo :=.fin 0 Bge λl r hb hx=>⟨l.length+1,by
 simp only[Ayo,Bb4] at hx;split at hx
 ·rename_i h;rw[<-hx];simp only[Aom];refine A6g (l:=l) (c:=some) h (λ_ _=>rfl) (λ_ _ _ =>?_) (l.length+1) (by omega);cases C0 (l.length:Int)<;>rfl
 ·cases hx⟩
def noX:Xpr :=.mk 0 ⟨0,0,[]⟩ [] []
def noS:Stm:=⟨0,[],[],[],[],[],[],[],false,noX,[],[],0⟩
def Bou(R:Type):Px R:=pxO [] [] [] []
def Akf(x:HV [.sv .stmt]):Option (HV [.sv .stmt]):=match x with
 |s =>
 cond (decide (s.kind=1)) (
  some (Stm.mk 0 [] s.on [] [] [] s.rows s.sets s.has (Gf s.whr) s.order s.desc s.most)) (
  cond (decide (s.kind=3)) (
  some (Stm.mk 0 [] [] s.cols [] s.l s.rows s.sets s.has (Gf s.whr) s.order s.desc s.most)) (
  cond (decide (s.kind=5)) (
   some (Stm.mk 0 [] s.on s.cols s.names s.l [] s.sets s.has (Gf s.whr) s.order s.desc s.most)) (
   cond (decide (s.kind=6)) (
   some (Stm.mk 0 [] s.on s.cols s.names s.l s.rows [] false (Xpr.mk 0 ⟨0,0,[]⟩ [] []) s.order s.desc s.most)) (
   cond (decide (s.kind=7)) (
    some (Stm.mk 0 [] s.on s.cols s.names s.l s.rows s.sets false (Xpr.mk 0 ⟨0,0,[]⟩ [] []) s.order s.desc s.most)) (
    cond (decide (s.kind=8)) (
    some (Stm.mk 0 [] s.on s.cols s.names [] s.rows s.sets false (Xpr.mk 0 ⟨0,0,[]⟩ [] []) [] [] 0)) (
    some (Stm.mk 0 [] s.on s.cols s.names s.l s.rows s.sets s.has (Gf s.whr) s.order s.desc s.most)))))))
theorem Bgj:FO 115 [.sv .stmt] [.sv .stmt] (Akf):=fR (px:=Bou _) (n:=0) Tryz.func115 rfl (λ_ H=>⟨lv H Ae Ab Aa,Ah⟩) λ_=>by kernel_rfl
def Cn(s:Stm):Stm :=
 if s.kind=1 then { s with kind:=0,name:=[],cols:=[],names:=[],l:=[] }
 else if s.kind=3 then { s with kind:=0,name:=[],on:=[],names:=[] }
 else if s.kind=5 then { s with kind:=0,name:=[],rows:=[] }
 else if s.kind=6 then { s with kind:=0,name:=[],sets:=[],has:=false,whr:=noX }
 else if s.kind=7 then { s with kind:=0,name:=[],has:=false,whr:=noX }
 else if s.kind=8 then { s with kind:=0,name:=[],l:=[],has:=false,whr:=noX,order:=[],desc:=[],most:=0 }
 else { s with kind:=0,name:=[] }
def Ax8:FT [.sv .stmt] [.sv .stmt]:=λx=>some (Cn x)
theorem Bji:FO 115 [.sv .stmt] [.sv .stmt] Ax8 :=.fin0 Bgj λs r hb hx=>by
 simp only[Ax8,Za1] at hx;rw[<-hx];simp only[Akf,Cn,Fh,Bool.cond_decide];split; · rfl
 split; · rfl
 split; · rfl
 split; · rfl
 split; · rfl
 split<;>rfl
def Be4(R:Type):Px R:=pxO [(113,cA O9),(115,cA Ax8),(114,cA Azf),(116,cA Axi),(117,cA Aa9),(118,cA Zk),(119,cA Zu),(120,cA Awc),(121,cA Ayo),(122,cA A3l)] [] [] []
def Ahb(x:HV [.sv .stmt]):Option (HV [.int .i64]):=match x with
 |s =>
 let j7:=λ(p1:Bool) =>
  cond (decide (s.kind=1)) (
  let j1:=λ(p2:Bool) =>
   let j:=λ(p3:Bool) =>
   cond (p3) (
    cond ((Ds s.names)) (
    cond (!(Fx s.l)) (
     some 2) (
     some 0)) (
    some 2)) (
    some 2)
   cond (p2) (
   j (C0 (s.names.length:Int))) (
   j false)
  cond (p1) (
   (Ban s.cols).bind λx =>
   j1 x) (
   j1 false)) (
  cond (decide (s.kind=3)) (
   let j2:=λ(p7:Bool) =>
   cond (p7) (
    cond ((C0 (s.names.length:Int))) (
    cond (!(Ds s.names)) (
     some 2) (
     some 0)) (
    some 2)) (
    some 2)
   cond (p1) (
   j2 (Df s.on)) (
   j2 false)) (
   let j6:=λ(a:Bool) =>
   cond (a) (
    cond (!p1) (
    some 2) (
    some 0)) (
    cond (decide (s.kind=5)) (
    cond (p1) (
     cond (!(Atb s.rows)) (
     some 2) (
     some 0)) (
     some 2)) (
    cond (decide (s.kind=6)) (
     cond (p1) (
     (Bb4 s.sets).bind λx1 =>
      cond (x1) (
      cond (!(G8 s)) (
       some 2) (
       some 0)) (
      some 2)) (
     some 2)) (
     cond (decide (s.kind=7)) (
     cond (p1) (
      cond (!(G8 s)) (
      some 2) (
      some 0)) (
      some 2)) (
     cond (decide (s.kind=8)) (
      let j5:=λ(b:Bool) =>
      let j4:=λ(c:Bool) =>
       let j3:=λ(d:Bool) =>
       cond (d) (
        cond (decide ((s.desc.length:Int)=(s.order.length:Int))) (
        cond (!(decide ((-1)<=s.most))) (
         some 2) (
         some 0)) (
        some 2)) (
        some 2)
       cond (c) (
       j3 (Ds s.order)) (
       j3 false)
      cond (b) (
       j4 (G8 s)) (
       j4 false)
      cond (p1) (
      j5 (Fx s.l)) (
      j5 false)) (
      some 2)))))
   cond (decide (s.kind=2)) (
   j6 (decide (s.kind=2))) (
   j6 (decide (s.kind=4)))))
 cond ((Df s.name)) (
  j7 (A55 (Cn s) (Stm.mk 0 [] [] [] [] [] [] [] false (Xpr.mk 0 ⟨0,0,[]⟩ [] []) [] [] 0))) (
  j7 false)
theorem A78:FO 53 [.sv .stmt] [.int .i64] (Ahb):=fR (px:=Be4 _) (n:=0) Tryz.func53 rfl (λ_ H=>⟨lv H (c1 H Tg (c1 H Bji (c1 H Bi8 (c1 H Bk7 (c1 H Z2 (c1 H Akn (c1 H Aub (c1 H Bn4 (c1 H Bly (c1 H Bi2 Ae)))))))))) Ab Aa,Ah⟩) λ_=>by kernel_rfl
def Bp(s:Stm):Bool:=Df s.name&&decide (Cn s=noS)&&(
 if s.kind=1 then s.cols.all Ij&&C0 (s.cols.length:Int)&&Ds (s.cols.map (·.name))&&C0 (s.names.length:Int)&&Ds s.names&&Fx s.l
 else if s.kind=3 then Df s.on&&C0 (s.names.length:Int)&&Ds s.names
 else if s.kind=2\/s.kind=4 then true
 else if s.kind=5 then Atb s.rows
 else if s.kind=6 then s.sets.all (λx=>A8 x.e 30)&&C0 (s.sets.length:Int)&&Ds (s.sets.map (·.name))&&G8 s
 else if s.kind=7 then G8 s
 else if s.kind=8 then Fx s.l&&G8 s&&Ds s.order&&decide (s.desc.length=s.order.length)&&decide (-1<=s.most)
 else false)
def Js(s:Stm):Option Int:=if s.cols.length<=1000000/\s.sets.length<=1000000 then some (cond (Bp s) 0 2) else none
def Nq:FT [.sv .stmt] [.int .i64]:=λx=>Js x
theorem Vn:FO 53 [.sv .stmt] [.int .i64] Nq :=.fin0 A78 λs r hb hx=>by
 simp only[Nq,Js] at hx;split at hx
 case isFalse=>cases hx
 rename_i h;rw[<-hx];have e1:Ban s.cols=some (s.cols.all Ij&&C0 (s.cols.length:Int)&&Ds (s.cols.map (·.name))):=if_pos h.1;have e2:Bb4 s.sets=some (s.sets.all (λx=>A8 x.e 30)&&C0 (s.sets.length:Int)&&Ds (s.sets.map (·.name))):=if_pos h.2;have e3:A55 (Cn s) (Stm.mk 0 [] [] [] [] [] [] [] false (Xpr.mk 0 ⟨0,0,[]⟩ [] []) [] [] 0)=decide (Cn s=noS):=Bh4 _ _;have e4:decide ((s.desc.length:Int)=(s.order.length:Int))=decide (s.desc.length=s.order.length):=Zy1.2 (by omega);simp only[Ahb,Bp,e1,e2,e3,e4,Zc1];generalize Df s.name=A;generalize decide (Cn s=noS)=B;generalize (s.cols.all Ij&&C0 (s.cols.length:Int)&&Ds (s.cols.map (·.name)))=C;generalize C0 (s.names.length:Int)=D;generalize Ds s.names=E;generalize Fx s.l=F;generalize Df s.on=G;generalize Atb s.rows=H;generalize (s.sets.all (λx=>A8 x.e 30)&&C0 (s.sets.length:Int)&&Ds (s.sets.map (·.name)))=I;generalize G8 s=J;generalize Ds s.order=K;generalize decide (s.desc.length=s.order.length)=L;generalize decide (-1<=s.most)=M;by_cases h1:s.kind=1
 ·rw[Ze1 h1,if_pos h1];cases A<;>cases B<;>cases C<;>cases D<;>cases E<;>cases F<;>rfl
 rw[Zd1 h1,if_neg h1];by_cases h3:s.kind=3
 ·rw[Ze1 h3,if_pos h3];cases A<;>cases B<;>cases G<;>cases D<;>cases E<;>rfl
 rw[Zd1 h3,if_neg h3];by_cases h24:s.kind=2\/s.kind=4
 ·rw[if_pos h24];rcases h24 with h2|h2
  ·rw[Ze1 h2];cases A<;>cases B<;>rfl
  ·rw[Ze1 h2,Zd1 (show ¬s.kind=2 by omega)];cases A<;>cases B<;>rfl
 rw[if_neg h24,Zd1 (show ¬s.kind=2 by omega),Zd1 (show ¬s.kind=4 by omega)];by_cases h5:s.kind=5
 ·rw[Ze1 h5,if_pos h5];cases A<;>cases B<;>cases H<;>rfl
 rw[Zd1 h5,if_neg h5];by_cases h6:s.kind=6
 ·rw[Ze1 h6,if_pos h6];cases A<;>cases B<;>cases I<;>cases J<;>rfl
 rw[Zd1 h6,if_neg h6];by_cases h7:s.kind=7
 ·rw[Ze1 h7,if_pos h7];cases A<;>cases B<;>cases J<;>rfl
 rw[Zd1 h7,if_neg h7];by_cases h8:s.kind=8
 ·rw[Ze1 h8,if_pos h8];cases A<;>cases B<;>cases F<;>cases J<;>cases K<;>cases L<;>cases M<;>rfl
 rw[Zd1 h8,if_neg h8];cases A<;>cases B<;>rfl
def Q7:Sig:=⟨26,[(10,.int .i64),(11,.int .i64)],[(1,.ptr 0 0),(2,.ptr 1 0)],[(0,.oc [.int .i64,.int .i64,.int .i64,.str,.str] 2 .expr),(1,.one (.sv .expr)),(2,.one (.dn .expr))],3,0,0,[],[]⟩
abbrev Gk:=Int×Int×Int×Int×Int×Str×Str×Int×Int×Xpr×List Xpr
def Kj{R:Type}(rf:FT [.sv .expr] [.sv .expr])(rec:Gk->Option R)(kx:Ex->Gk->Option R)(v:Gk):Option R:=match v with
 |(v,v1,w,w1,w2,w3,w4,w5,w6,w7,w8) =>
 cond (decide (v1<v)) (
  chk (inO v1 w6) (
  chk (inb (w5+v1) w8.length) (
   (rf (at' .expr w8 (w5+v1))).bind λx =>
   chk (inO v1 w6) (
    chk (inb (w5+v1) w8.length) (
    rec (v,(wr .i64 (v1+1)),w,w1,w2,w3,w4,w5,w6,w7,(w8.set ((w5+v1):Int).toNat x))))))) (
  kx (.exit 0) (v,v1,w,w1,w2,w3,w4,w5,w6,w7,w8))
noncomputable def Al0(R:Type)(_k:Nat)(rf:FT [.sv .expr] [.sv .expr]):Px R:=pxO [(153,Aj8 .expr)] [(87,qA rf)] [] []
noncomputable def T2(R:Type)(k:Nat)(rf:FT [.sv .expr] [.sv .expr]):Px R:=pxO [(153,Aj8 .expr)] [(87,qA rf)] [(3,A5c (Al0 R k rf) (lp Tryz.f87 0) k Q7 (Kj rf))] []
theorem A2n(R:Type)(k:Nat)(rf:FT [.sv .expr] [.sv .expr]):∀(fr:List Fr) (rec:Gk->Option R) (kx:Ex->Gk->Option R) (v:Gk),Tp (T2 R k rf) Q7 (lp Tryz.f87 0) fr rec kx v=Kj rf rec kx v
 |fr,rec,kx,(v,v1,w,w1,w2,w3,w4,w5,w6,w7,w8)=>by kernel_rfl
def Im(k:Nat)(rf:FT [.sv .expr] [.sv .expr])(x:HV [.sv .expr]):Option (HV [.sv .expr]):=match x with
 |e =>
 chk (decide (e.l.length<=1000000)) (
  cond (List.isEmpty e.l) (
  some (Xpr.mk e.kind ⟨e.v.kind,e.v.n,e.v.s⟩ e.name [])) (
  Al (λrec=>Kj rf rec (λe vz=>match vz with|(_,_,v4,v5,v6,v7,v8,v9,a,_,b)=>match e with
   |.exit 0 =>
   chk (decide ((0:Int)<=v9)&&decide ((0:Int)<=a)&&decide ((v9+a)<=(b.length:Int))) (
    some (Xpr.mk v4 ⟨v5,v6,v7⟩ v8 (cut b v9 (v9+a))))
   |_=>none)) k ((e.l.length:Int),0,e.kind,e.v.kind,e.v.n,e.v.s,e.name,0,(e.l.length:Int),(Xpr.mk 0 ⟨0,0,[]⟩ [] []),e.l)))
theorem A7g(k:Nat)(rf:FT [.sv .expr] [.sv .expr])(hrf:FO 87 [.sv .expr] [.sv .expr] rf):FO 87 [.sv .expr] [.sv .expr] (Im k rf):=fR (px:=T2 _ k rf) (n:=1) Tryz.func87 rfl (λcx H=>by have h0:Lv cx (T2 (HV [.sv .expr]) k rf):=lv H (Az (cCl H Agk Abo) Ae) (q1 H hrf Ab) Aa;have h00:Lv cx (Al0 (HV [.sv .expr]) k rf):=lv H (Az (cCl H Agk Abo) Ae) (q1 H hrf Ab) Aa;have hlcopied_0:Cl cx (T2 (HV [.sv .expr]) k rf) (lp Tryz.f87 0):=A5y h0.p h0.c h0.q (by rw[H.p];exact follows) h00.p h00.c h00.q (λ_ _ _=>rfl) (k:=k) (s:=Q7) (step:=Kj rf) (λ_ _=>by kernel_rfl) (by kernel_rfl) (A2n _ k rf) (Ke (n:=0) (by kernel_rfl) Ah);exact⟨h0,(A5 Ah hlcopied_0)⟩) λ_=>by kernel_rfl
def Amt(e:Xpr):Option Xpr:=cond (decide (A1 e<=1000000)) (some e) none
def Ank:FT [.sv .expr] [.sv .expr]:=λx=>Amt x
theorem Bte{i n:Nat}(h:i<n):inO (i:Int) (n:Int)=true:=by simp only[inO,Zb1,Zg1];omega
theorem Az1{R:Type}{rf:FT [.sv .expr] [.sv .expr]}{kx:Ex->Gk->Option R}{a b n:Int}{s nm:Str}{z:Xpr}{l:List Xpr}{c:Option R}(hn:ln l.length)(hrf:∀x,x∈l->rf x=some x)(h2:kx (.exit 0) ((l.length:Int),(l.length:Int),a,b,n,s,nm,0,(l.length:Int),z,l)=c)(k:Nat)(hk:l.length<k) :
  Al (λrec=>Kj rf rec kx) k ((l.length:Int),0,a,b,n,s,nm,0,(l.length:Int),z,l)=c:=by
 refine A3 l.length (λi=>((l.length:Int),(i:Int),a,b,n,s,nm,0,(l.length:Int),z,l)) (λ_=>c) (λi hi rec hr =>?_) (λrec =>?_) k 0 (Nat.zero_le _) (by omega)
 ·simp only[Kj,Cf hi,Af,Int.zero_add,Bte hi,Aw hi,chk,As (c :=.expr) hi,hrf _ (List.getElem_mem hi),Zc1,Au hi hn,Int.toNat_natCast,List.set_getElem_self,hr]
 ·simp only[Kj,Cg,Ag,h2]
theorem Ali(k:Nat):∀(n:Nat) (e:Xpr),BdExpr e->A1 e<=n->A1 e<=k->A1 e<=1000000->Al (Im k) n e=some e
 |0,e,_,h,_,_=>by have:=B5 e;omega
 |n+1,e,hb,h,hk,ho=>by
  obtain⟨hb4,hb5⟩:=Aao hb;rw[Bv] at h hk ho;have hl:=Ej e.l;have hrf:∀x,x∈e.l->Al (Im k) n x=some x:=λx hx=>Ali k n x (hb5 x hx) (by have:=Bg hx;omega) (by have:=Bg hx;omega) (by have:=Bg hx;omega);rw[Bb];simp only[Im];rw[Ze1 (show e.l.length<=1000000 by omega)];simp only[chk,Af];cases he:e.l with
  |nil =>simp only[List.isEmpty_nil,Af];obtain⟨kd,v,nm,l⟩:=e;simp only[Xpr.l] at he;subst he;rfl
  |cons x t =>
   rw[<-he];have:List.isEmpty e.l=false:=by rw[he];rfl
   rw[this];simp only[Ag];refine(Az1 (c:=some e) hb4 hrf ?_ k (by omega));have h1:(decide ((0:Int)<=0)&&decide ((0:Int)<=(e.l.length:Int))&&decide ((0:Int)+(e.l.length:Int)<=(e.l.length:Int)))=true:=by simp
   simp only[h1,Af,Bby];cases e;rfl
theorem Bf4:FO 87 [.sv .expr] [.sv .expr] Ank:=by refine .fin (ι:=Nat) 0 (F:=λn=>Al (Im n) n) (λn=>FnOk.rec' (Sx.enters_of Tryz.func87 rfl rfl) (λrf hrf=>A7g n rf hrf) n) λe r hb hx=>⟨A1 e,?_⟩;simp only[Ank,Amt] at hx;cases hd:decide (A1 e<=1000000) with|false=>rw[hd] at hx;cases hx|true =>rw[hd] at hx;exact(Ali (A1 e) (A1 e) e hb (Zn1 _) (Zn1 _) (of_decide_eq_true hd)).trans hx
def Ato:Sig:=⟨19,[(0,.sl .col false),(4,.int .i64),(7,.int .i64),(8,.int .i64)],[(1,.fn 215 [.ptr 1 0])],[(1,.cells [.str])],40,40,200,[],[]⟩
abbrev Z4:=List Col×Int×Int×Int×Str
def Ad9{R:Type}(rec:Z4->Option R)(kx:Ex->Z4->Option R)(v:Z4):Option R:=match v with
 |(v,v1,v2,v3,w) =>
 cond (decide (v3<v2)) (
  chk (inb v3 v.length) (
  cond (decide (((at' .col v v3).name)=w)) (
   kx .ret (v,v3,v2,v3,w)) (
   rec (v,v1,v2,(wr .i64 (v3+1)),w)))) (
  kx (.exit 0) (v,v1,v2,v3,w))
def Ahp(R:Type)(_k:Nat):Px R:=pxO [] [] [] []
noncomputable def Atp(R:Type)(k:Nat):Px R:=pxO [(215,A2 80 400 (Ahp R k) Tryz.f215)] [] [(2,Am k Ato (Ad9))] []
noncomputable def A9u(R:Type)(k:Nat):Px R:=pxO [(214,A2 40 200 (Atp R k) Tryz.f214)] [] [] []
def Asj(k:Nat)(x:HV [.sv .tbl,.str]):Option (HV [.int .i64]):=match x with
 |(t,s) =>
 Al (λrec=>Ad9 rec (λe vz=>match vz with|(_,v5,_,_,_)=>match e with
  |.ret =>
  some v5
  |.exit 0 =>
  some (-1)
  |_=>none)) k (t.cols,0,(t.cols.length:Int),0,s)
theorem Bpo(k:Nat):FO 152 [.sv .tbl,.str] [.int .i64] (Asj k):=fR (px:=A9u _ k) (n:=0) Tryz.func152 rfl (λcx H=>by have h2:Lv cx (Ahp (HV [.int .i64]) k):=lv H Ae Ab Aa;have h1:Lv cx (Atp (HV [.int .i64]) k):=lv H (Az (cR H h2 Tryz.func215 rfl (n:=0) (Ah)) Ae) Ab Aa;have hlscol_0:=lO H h1 (b:=lp Tryz.f214 0) (k:=k) (n:=0) (s:=Ato) (step:=Ad9) (λ_ _ _ (_,_,_,_,_)=>by kernel_rfl) Ah;have h0:Lv cx (A9u (HV [.int .i64]) k):=lv H (Az (cR H h1 Tryz.func214 rfl (n:=1) ((A5 Ah hlscol_0))) Ae) Ab Aa;exact⟨h0,Ah⟩) λ(_,_)=>by kernel_rfl
def Bq4(t:Tbl)(s:Str):Int:=Cd t.cols s
def A80:FT [.sv .tbl,.str] [.int .i64]:=λx=>some (Bq4 x.1 x.2)
theorem Bgi{R:Type}{kx:Ex->Z4->Option R}{s:Str}{cols:List Col}{g:Int->Option R}(hn:ln cols.length)(h1:∀i:Nat,kx .ret (cols,(i:Int),(cols.length:Int),(i:Int),s)=g i)(h2:kx (.exit 0) (cols,0,(cols.length:Int),(cols.length:Int),s)=g (-1))(k:Nat)(hk:cols.length<k) :
  Al (λrec=>Ad9 rec kx) k (cols,0,(cols.length:Int),0,s)=g (Cd cols s):=by
 refine(A3 cols.length (λi=>(cols,0,(cols.length:Int),(i:Int),s)) (λi=>g (Be (cols.drop i) s i)) (λi hi rec hr =>?_) (λrec =>?_) k 0 (Nat.zero_le _) (by omega)).trans (by rw[Zq1];rfl)
 ·simp only[Ad9,Cf hi,Af,Aw hi,chk,As (c :=.col) hi,Au hi hn,hr,h1,Ak hi,Be,Bool.cond_decide];split<;>rfl
 ·simp only[Ad9,Cg,Ag,h2];rw[Zk1 (Zn1 _)];rfl
theorem Btz:FO 152 [.sv .tbl,.str] [.int .i64] A80 :=.fin 0 Bpo λ(t,s) r hb hx=>⟨t.cols.length+1,by simp only[A80,Za1,Bq4] at hx;simp only[Asj];exact(Bgi (g:=some) hb.1.cols.1 (λ_=>rfl) rfl _ (by omega)).trans (congrArg some hx)⟩
def Asn:Sig:=⟨19,[(0,.sl .str false),(4,.int .i64),(7,.int .i64),(8,.int .i64)],[(1,.fn 151 [.ptr 0 0])],[(0,.one (.sv .tbl))],80,80,400,[],[]⟩
abbrev Abd:=List Str×Int×Int×Int×Tbl
def Aeb{R:Type}(rec:Abd->Option R)(kx:Ex->Abd->Option R)(v:Abd):Option R:=match v with
 |(v,v1,v2,v3,w) =>
 cond (decide (v3<v2)) (
  chk (inb v3 v.length) (
  cond (decide ((Bq4 w (at' .str v v3))<0)) (
   kx .ret (v,v3,v2,v3,w)) (
   rec (v,v1,v2,(wr .i64 (v3+1)),w)))) (
  kx (.exit 0) (v,v1,v2,v3,w))
def W1(R:Type)(_k:Nat):Px R:=pxO [(152,cA A80)] [] [] []
noncomputable def Afs(R:Type)(k:Nat):Px R:=pxO [(151,A2 120 600 (W1 R k) Tryz.f151)] [] [(2,Am k Asn (Aeb))] []
noncomputable def As9(R:Type)(k:Nat):Px R:=pxO [(213,A2 80 400 (Afs R k) Tryz.f213)] [] [] []
noncomputable def Bb1(R:Type)(k:Nat):Px R:=pxO [(150,A2 40 200 (As9 R k) Tryz.f150)] [] [] []
def Aui(k:Nat)(x:HV [.sv .tbl,.sl .str false]):Option (HV [.bool]):=match x with
 |(t,names) =>
 Al (λrec=>Aeb rec (λe vz=>match vz with|(_,v5,_,_,_)=>match e with
  |.ret =>
  some (!(decide (0<=v5)))
  |.exit 0 =>
  some true
  |_=>none)) k (names,0,(names.length:Int),0,t)
theorem Bqm(k:Nat):FO 85 [.sv .tbl,.sl .str false] [.bool] (Aui k):=fR (px:=Bb1 _ k) (n:=0) Tryz.func85 rfl (λcx H=>by have h3:Lv cx (W1 (HV [.bool]) k):=lv H (c1 H Btz Ae) Ab Aa;have h2:Lv cx (Afs (HV [.bool]) k):=lv H (Az (cR H h3 Tryz.func151 rfl (n:=0) (Ah)) Ae) Ab Aa;have hlsall_0:=lO H h2 (b:=lp Tryz.f213 0) (k:=k) (n:=0) (s:=Asn) (step:=Aeb) (λ_ _ _ (_,_,_,_,_)=>by kernel_rfl) Ah;have h1:Lv cx (As9 (HV [.bool]) k):=lv H (Az (cR H h2 Tryz.func213 rfl (n:=1) ((A5 Ah hlsall_0))) Ae) Ab Aa;have h0:Lv cx (Bb1 (HV [.bool]) k):=lv H (Az (cR H h1 Tryz.func150 rfl (n:=0) (Ah)) Ae) Ab Aa;exact⟨h0,Ah⟩) λ(_,_)=>by kernel_rfl
def Ih(t:Tbl)(names:List Str):Bool:=names.all λs => !decide (Cd t.cols s<0)
def Ax2:FT [.sv .tbl,.sl .str false] [.bool]:=λx=>some (Ih x.1 x.2)
theorem Bh7{R:Type}{kx:Ex->Abd->Option R}{t:Tbl}{l:List Str}{a b:Option R}(hn:ln l.length)(h1:∀i:Nat,kx .ret (l,(i:Int),(l.length:Int),(i:Int),t)=a)(h2:kx (.exit 0) (l,0,(l.length:Int),(l.length:Int),t)=b)(k:Nat)(hk:l.length<k) :
  Al (λrec=>Aeb rec kx) k (l,0,(l.length:Int),0,t)=cond (Ih t l) b a:=by
 refine(A3 l.length (λi=>(l,0,(l.length:Int),(i:Int),t)) (λi=>cond (Ih t (l.drop i)) b a) (λi hi rec hr =>?_) (λrec =>?_) k 0 (Nat.zero_le _) (by omega)).trans (by rw[Zq1])
 ·simp only[Aeb,Cf hi,Af,Aw hi,chk,As (c :=.str) hi,Au hi hn,hr,h1,Ak hi,Ih,Zv1,Bq4];cases decide (Cd t.cols l[i]<0)<;>rfl
 ·simp only[Aeb,Cg,Ag,h2];rw[Zk1 (Zn1 _)];rfl
theorem Bcu:FO 85 [.sv .tbl,.sl .str false] [.bool] Ax2 :=.fin 0 Bqm λ(t,l) r hb hx=>⟨l.length+1,by
 simp only[Ax2,Za1] at hx;simp only[Aui];refine(Bh7 (a:=some false) (b:=some true) hb.2.1 (λi =>?_) rfl _ (by omega)).trans ?_
 ·show some (!decide ((0:Int)<=(i:Int)))=some false;rw[Ze1 (by omega)];rfl
 ·rw[<-hx];cases Ih t l<;>rfl⟩
structure LinC {α:Type}(c : α->α->Int):Prop where
 rng:∀x y,c x y = -1\/c x y=0\/c x y=1
 eq:∀x y,c x y=0↔x=y
 anti:∀x y,c y x = -(c x y)
 tr:∀x y z,c x y<=0->c y z<=0->c x z<=0
def Hn(p q:Int):Int:=if p=0 then q else p
theorem A2i{p q:Int}(h:Hn p q<=0):p<=0/\(p=0->q<=0):=by simp only[Hn] at h;split at h<;>omega
theorem Aok{α β:Type}{c : α->α->Int}{d : β->β->Int}(hc:LinC c){x y z : α}{u v w : β}(hd:d u v<=0->d v w<=0->d u w<=0)(h1:Hn (c x y) (d u v)<=0)(h2:Hn (c y z) (d v w)<=0):Hn (c x z) (d u w)<=0:=by
 obtain⟨a1,a2⟩:=A2i h1;obtain⟨b1,b2⟩:=A2i h2;have t:=hc.tr x y z a1 b1;simp only[Hn];split
 ·rename_i h0;have e:=(hc.eq x z).1 h0;subst e;have an:=hc.anti x y;have p0:c x y=0:=by omega
  have q0:c y x=0:=by omega
  exact hd (a2 p0) (b2 q0)
 ·exact t
def Qw{α:Type}(c : α->α->Int):List α->List α->Int
 |[],[]=>0
 |[],_::_ => -1
 |_::_,[]=>1
 |x::a,y::b=>Hn (c x y) (Qw c a b)
theorem Bjw{α:Type}{c : α->α->Int}(hc:LinC c):LinC (Qw c):=by
 refine⟨?_,?_,?_,?_⟩
 ·intro x;induction x with
  |nil=>intro y;cases y<;>simp[Qw]
  |cons x a ih =>
   intro y;cases y with
   |nil=>simp[Qw]
   |cons y b =>
    simp only[Qw,Hn];split
    ·exact ih b
    ·exact hc.rng x y
 ·intro x;induction x with
  |nil=>intro y;cases y<;>simp[Qw]
  |cons x a ih =>
   intro y;cases y with
   |nil=>simp[Qw]
   |cons y b =>
    simp only[Qw,Hn,Ze2];split
    ·rename_i h;rw[ih b];exact⟨λe=>⟨(hc.eq x y).1 h,e⟩,λe=>e.2⟩
    ·rename_i h;exact⟨λe=>absurd e h,λe=>absurd ((hc.eq x y).2 e.1) h⟩
 ·intro x;induction x with
  |nil=>intro y;cases y<;>simp[Qw]
  |cons x a ih =>intro y;cases y with|nil=>simp[Qw]|cons y b =>have h:=hc.anti x y;have hb:=ih b;simp only[Qw,Hn];split<;>split<;>omega
 ·intro x;induction x with
  |nil=>intro y z _ _;cases z<;>simp[Qw]
  |cons x a ih =>
   intro y z h1 h2;cases y with
   |nil=>simp[Qw] at h1
   |cons y b =>cases z with|nil=>simp[Qw] at h2|cons z e =>simp only[Qw] at h1 h2 ⊢;exact Aok hc (λp q=>ih b e p q) h1 h2
theorem sg_lin:LinC Eh:=by
 have e:∀x y,Eh x y=if x<y then -1 else if y<x then 1 else 0:=λx y=>by simp only[Eh,Bool.cond_decide]
 refine⟨λx y =>?_,λx y =>?_,λx y =>?_,λx y z h1 h2 =>?_⟩
 ·rw[e];split
  ·simp
  ·split<;>simp
 ·rw[e];split
  ·simp;omega
  ·split
   ·simp;omega
   ·simp;omega
 ·rw[e,e];split<;>split<;>(try split)<;>omega
 ·rw[e] at h1 h2 ⊢;split at h1
  ·split at h2
   ·rw[if_pos (by omega)];omega
   ·split at h2
    ·omega
    ·rw[if_pos (by omega)];omega
  ·split at h1
   ·omega
   ·split at h2
    ·rw[if_pos (by omega)];omega
    ·split at h2
     ·omega
     ·rw[if_neg (by omega),if_neg (by omega)];omega
def Bop(a b:UInt8):Int:=Eh (a.toNat:Int) (b.toNat:Int)
theorem Boz:LinC Bop:=by
 refine⟨λx y=>sg_lin.rng _ _,λx y =>?_,λx y=>sg_lin.anti _ _,λx y z=>sg_lin.tr _ _ _⟩;simp only[Bop];rw[sg_lin.eq];constructor
 ·intro h;exact UInt8.toNat_inj.1 (by omega)
 ·intro h;rw[h]
theorem A4b:∀a b:Str,Iv a b=Qw Bop a b
 |[],[]=>rfl
 |[],_::_=>rfl
 |_::_,[]=>rfl
 |a::l,b::m=>by
  have ih:=A4b l m;simp only[Iv,Lib.compareBytes] at ih ⊢;simp only[Qw,Hn,Bop,Eh,Bool.cond_decide,<-ih];by_cases h1:a<b
  ·have:(a.toNat:Int)<(b.toNat:Int):=by have:=UInt8.lt_iff_toNat_lt.1 h1;omega
   simp[h1,this]
  ·by_cases h2:b<a
   ·have h3:¬(a.toNat:Int)<(b.toNat:Int):=by have:=UInt8.lt_iff_toNat_lt.1 h2;omega
    have h4:(b.toNat:Int)<(a.toNat:Int):=by have:=UInt8.lt_iff_toNat_lt.1 h2;omega
    simp[h1,h2,h3,h4]
   ·have h3:a=b:=UInt8.le_antisymm (UInt8.not_lt.1 h2) (UInt8.not_lt.1 h1);subst h3;simp[h1]
theorem scmp_lin:LinC Iv:=by
 have e:(Iv:Str->Str->Int)=Qw Bop:=by funext a b;exact A4b a b
 rw[e];exact Bjw Boz
theorem N5(a b:Val):O3 a b=Hn (Eh a.kind b.kind) (Hn (Eh a.n b.n) (Iv a.s b.s)):=by
 simp only[O3,Hb,Hn];by_cases h1:Eh a.kind b.kind=0
 ·rw[Ze1 h1,if_pos h1];by_cases h2:Eh a.n b.n=0
  ·rw[Ze1 h2,if_pos h2];rfl
  ·rw[Zd1 h2,if_neg h2];rfl
 ·rw[Zd1 h1,if_neg h1];rfl
theorem vcmp_lin:LinC O3:=by
 refine⟨λx y =>?_,λx y =>?_,λx y =>?_,λx y z h1 h2 =>?_⟩
 ·rw[N5];simp only[Hn];split
  ·split
   ·exact scmp_lin.rng _ _
   ·exact sg_lin.rng _ _
  ·exact sg_lin.rng _ _
 ·rw[N5];have e1:=sg_lin.eq x.kind y.kind;have e2:=sg_lin.eq x.n y.n;have e3:=scmp_lin.eq x.s y.s;obtain⟨k,n,s⟩:=x;obtain⟨k',n',s'⟩:=y;simp only[Hn,Val.mk.injEq] at *;split
  ·split
   ·rename_i h1 h2;rw[e3,e1.1 h1,e2.1 h2];simp
   ·rename_i h1 h2;exact⟨λh=>absurd h h2,λh=>absurd (e2.2 h.2.1) h2⟩
  ·rename_i h1;exact⟨λh=>absurd h h1,λh=>absurd (e1.2 h.1) h1⟩
 ·rw[N5,N5];have e1:=sg_lin.anti x.kind y.kind;have e2:=sg_lin.anti x.n y.n;have e3:=scmp_lin.anti x.s y.s;simp only[Hn];split<;>split<;>(try split)<;>(try split)<;>omega
 ·rw[N5] at h1 h2 ⊢;refine Aok (d:=λ(p q:Int×Str)=>Hn (Eh p.1 q.1) (Iv p.2 q.2)) (u:=(x.n,x.s)) (v:=(y.n,y.s)) (w:=(z.n,z.s)) sg_lin ?_ h1 h2;intro h3 h4;exact Aok (d:=Iv) sg_lin (λp q=>scmp_lin.tr _ _ _ p q) h3 h4
def ltN(a b:Str):Bool:=decide (Iv a b<0)
theorem Bbf(a:Str):ltN a a=false:=by have:=(scmp_lin.eq a a).2 rfl;simp only[ltN,this];rfl
theorem A72{a b c:Str}(h1:ltN a b=true)(h2:ltN b c=true):ltN a c=true:=by
 simp only[ltN,Zg1] at *;have h3:=scmp_lin.tr a b c (by omega) (by omega);rcases Int.lt_or_eq_of_le h3 with h|h
 ·exact h
 ·have e:=(scmp_lin.eq a c).1 h;subst e;have:=scmp_lin.anti a b;omega
theorem Bsh(a b:Str):ltN a b=true\/a=b\/ltN b a=true:=by
 simp only[ltN,Zg1];rcases scmp_lin.rng a b with h|h|h
 ·left;omega
 ·exact .inr (.inl ((scmp_lin.eq a b).1 h))
 ·right;right;have:=scmp_lin.anti a b;omega
theorem A6i{a b:Str}(h:ltN a b=true):a≠b:=λe=>by rw[e,Bbf] at h;cases h
def Bj:List Idx->Bool
 |[]=>true
 |x::l=>l.all (λy=>ltN x.name y.name)&&Bj l
def Mq(l:List Idx)(x:Idx):List Idx:=l.takeWhile (λy=>ltN y.name x.name)++x::l.dropWhile (λy=>ltN y.name x.name)
def Qv(l:List Idx)(s:Str):Bool:=l.any λy=>decide (y.name=s)
def Ey(l:List Idx)(s:Str):Nat:=(l.takeWhile λy=>ltN y.name s).length
theorem Ayd(l:List Idx)(s:Str):Ey l s<=l.length:=by
 induction l with
 |nil=>simp[Ey]
 |cons x l ih =>
  simp only[Ey,List.takeWhile_cons] at ih ⊢;split
  ·simp only[Zf1];omega
  ·simp
theorem Abu:∀{l:List Idx}{s:Str},Bj l=true->∀(h:Nat) (hl:h<l.length),ltN l[h].name s=decide (h<Ey l s)
 |[],_,_,h,hl=>by simp at hl
 |x::l,s,hs,h,hl=>by
  simp only[Bj,Zb1,Zg2] at hs;have ih:=Abu (l:=l) (s:=s) hs.2;have hp:Ey (x::l) s=if ltN x.name s then Ey l s+1 else 0:=by simp only[Ey,List.takeWhile_cons];split<;>simp
  rw[hp];cases hx:ltN x.name s with
  |true =>simp only[if_true];cases h with|zero=>simp[hx]|succ h =>simp only[List.getElem_cons_succ];rw[ih h (by simpa using hl)];simp
  |false =>
   simp only[Zj2,if_false,Zm1,decide_false];cases h with
   |zero=>simpa using hx
   |succ h =>simp only[List.getElem_cons_succ];cases hq:ltN (l[h]'(by simpa using hl)).name s with|false=>rfl|true=>rw[A72 (hs.1 _ (List.getElem_mem _)) hq] at hx;cases hx
theorem Oz:∀{l:List Idx},Bj l=true->∀(i j:Nat) (hi:i<l.length) (hj:j<l.length),i<j->ltN l[i].name l[j].name=true
 |[],_,i,j,hi,_,_=>by simp at hi
 |x::l,hs,i,j,hi,hj,hij=>by
  simp only[Bj,Zb1,Zg2] at hs;cases j with
  |zero=>omega
  |succ j =>cases i with|zero=>exact hs.1 _ (List.getElem_mem _)|succ i=>exact Oz hs.2 i j (by simpa using hi) (by simpa using hj) (by omega)
theorem Bcw{l:List Idx}{s:Str}:Qv l s=true↔∃y,y∈l/\y.name=s:=by simp[Qv]
theorem Bbq{l:List Idx}{s:Str}(hs:Bj l=true):Qv l s=true↔∃h:Ey l s<l.length,l[Ey l s].name=s:=by
 rw[Bcw];constructor
 ·rintro⟨y,hy,e⟩;obtain⟨k,hk,rfl⟩:=List.getElem_of_mem hy;have h1:=Abu (s:=s) hs k hk;rw[e,Bbf] at h1;have hkp:¬k<Ey l s:=λh=>by rw[Ze1 h] at h1;cases h1
  have hpl:Ey l s<l.length:=by omega
  refine⟨hpl,?_⟩;rcases Nat.lt_or_eq_of_le (Nat.le_of_not_lt hkp) with h|h
  ·have h2:=Oz hs _ k hpl hk h;rw[e] at h2;have h3:=Abu (s:=s) hs _ hpl;rw[h2] at h3;simp at h3
  ·subst h;exact e
 ·rintro⟨h,e⟩;exact⟨_,List.getElem_mem h,e⟩
theorem Boe(l:List Idx)(s:Str):l.take (Ey l s)=l.takeWhile (λy=>ltN y.name s):=by have:=List.takeWhile_append_dropWhile (p:=λy:Idx=>ltN y.name s) (l:=l);have h2:(l.takeWhile (λy=>ltN y.name s)++l.dropWhile (λy=>ltN y.name s)).take (Ey l s)=l.takeWhile (λy=>ltN y.name s):=List.take_left' rfl;rwa[this] at h2
theorem Bkj(l:List Idx)(s:Str):l.drop (Ey l s)=l.dropWhile (λy=>ltN y.name s):=by have:=List.takeWhile_append_dropWhile (p:=λy:Idx=>ltN y.name s) (l:=l);have h2:(l.takeWhile (λy=>ltN y.name s)++l.dropWhile (λy=>ltN y.name s)).drop (Ey l s)=l.dropWhile (λy=>ltN y.name s):=List.drop_left' rfl;rwa[this] at h2
theorem Akd(l:List Idx)(x:Idx):Mq l x=l.take (Ey l x.name)++x::l.drop (Ey l x.name):=by rw[Boe,Bkj,Mq]
theorem Bcv{l:List Idx}{x y:Idx}:y∈Mq l x↔y=x\/y∈l:=by
 rw[Akd];have:y∈l↔y∈l.take (Ey l x.name)\/y∈l.drop (Ey l x.name):=by rw[<-List.mem_append,List.take_append_drop]
 rw[this];simp only[List.mem_append,List.mem_cons];constructor
 ·rintro(h|h|h)
  ·exact .inr (.inl h)
  ·exact .inl h
  ·exact .inr (.inr h)
 ·rintro(h|h|h)
  ·exact .inr (.inl h)
  ·exact .inl h
  ·exact .inr (.inr h)
theorem Bax(l:List Idx)(x:Idx):(Mq l x).length=l.length+1:=by rw[Akd];have:=Ayd l x.name;simp only[Zh1,List.length_take,Zf1,Za2];omega
theorem Xt:∀{l:List Idx}{x:Idx},Bj l=true->Qv l x.name=false->Bj (Mq l x)=true
 |[],x,_,_=>by simp[Mq,Bj]
 |y::l,x,hs,hh=>by
  have hs':=hs;simp only[Bj,Zb1,Zg2] at hs';simp only[Qv,List.any_cons,Bool.or_eq_false_iff,decide_eq_false_iff_not] at hh;have ih:=Xt (l:=l) (x:=x) hs'.2 hh.2;cases hy:ltN y.name x.name with
  |true =>
   have e:Mq (y::l) x=y::Mq l x:=by simp[Mq,hy]
   rw[e];simp only[Bj,Zb1,Zg2];refine⟨λz hz =>?_,ih⟩;rcases Bcv.1 hz with rfl|hz
   ·exact hy
   ·exact hs'.1 z hz
  |false =>
   have e:Mq (y::l) x=x::y::l:=by simp[Mq,hy]
   have hxy:ltN x.name y.name=true:=by
    rcases Bsh x.name y.name with h|h|h
    ·exact h
    ·exact absurd h.symm hh.1
    ·rw[h] at hy;cases hy
   rw[e];simp only[Bj,Zb1,Zg2];refine⟨λz hz =>?_,hs'⟩;rcases List.mem_cons.1 hz with rfl|hz
   ·exact hxy
   ·exact A72 hxy (hs'.1 z hz)
theorem A2m:∀{l:List Idx}{x:Idx},(∀y,y∈l->ltN y.name x.name=true)->Mq l x=l++[x]
 |[],x,_=>rfl
 |y::l,x,h=>by
  have hy:=h y (by simp);have e:Mq (y::l) x=y::Mq l x:=by simp[Mq,hy]
  rw[e,A2m λz hz=>h z (by simp[hz])];rfl
theorem W6:∀{p q:List Idx},Bj (p++q)=true->Bj p=true/\∀y z,y∈p->z∈q->ltN y.name z.name=true
 |[],_,_=>⟨rfl,λ_ _ h=>by cases h⟩
 |x::p,q,h=>by
  simp only[Zb2,Bj,Zb1,Zg2,List.mem_append] at h;obtain⟨h1,h2⟩:=W6 h.2;refine⟨?_,λy z hy hz =>?_⟩
  ·simp only[Bj,Zb1,Zg2];exact⟨λy hy=>h.1 y (.inl hy),h1⟩
  ·rcases List.mem_cons.1 hy with rfl|hy
   ·exact h.1 z (.inr hz)
   ·exact h2 y z hy hz
def Fu:Tbl:=⟨[],[],[],[],[]⟩
def Afc(cols:List Col)(e:Xpr):Int:=cond (decide ((Ci e cols).2=0)) (cond (decide ((Ci e cols).1=2)||decide ((Ci e cols).1=1)) 0 151) (Ci e cols).2
def Ff(cols:List Col):List Xpr->Int
 |[]=>0
 |e::l=>cond (decide (Afc cols e=0)) (Ff cols l) (Afc cols e)
def L6(s:Stm):Bool:=decide (s.cols.length<=1000000)&&(decide (s.sets.length<=1000000)&&(decide (s.names.length<=1000000)&&(decide (s.l.length<=1000000)&&s.l.all λe=>decide (A1 e<=1000000))))
def G4(s:Stm):Tbl×Int:=cond (decide (s.kind=1)&&Bp s) (cond (Ih ⟨s.name,s.cols,s.names,[],[]⟩ s.names) (cond (decide (Ff s.cols s.l=0)) (⟨s.name,s.cols,s.names,s.l,[]⟩,0) (Fu,Ff s.cols s.l)) (Fu,150)) (Fu,2)
def Aju:Sig:=⟨70,[(3,.int .i64),(34,.sl .expr false),(35,.int .i64),(36,.int .i64)],[(2,.ptr 1 0),(4,.ptr 2 0)],[(1,.cells [.str,.sl .col true,.sl .str true,.sl .expr true,.sl .idx true]),(2,.cells [.str,.sl .col false,.sl .str false,.sl .expr true,.sl .idx true])],3,0,0,[],[]⟩
abbrev Vz:=Int×List Xpr×Int×Int×Str×List Col×List Str×List Xpr×List Idx×Str×List Col×List Str×List Xpr×List Idx
def Ux{R:Type}(rec:Vz->Option R)(kx:Ex->Vz->Option R)(v:Vz):Option R:=match v with
 |(v,v1,v2,v3,w,w1,w2,w3,w4,w5,w6,w7,w8,w9) =>
 cond (decide (v3<v2)) (
  chk (inb v3 v1.length) (
  let j:=λ(p6:Int) =>
   cond (!decide (p6=0)) (
   kx .ret (p6,v1,v2,v3,[],[],[],[],[],w5,w6,w7,w8,w9)) (
   (Amt (at' .expr v1 v3)).bind λx3 =>
    chk (decide (w8.length+1<=Ao)) (
    rec (v,v1,v2,(wr .i64 (v3+1)),w,w1,w2,w3,w4,w5,w6,w7,(w8++[x3]),w9)))
  cond (decide ((Ci (at' .expr v1 v3) w6).2=0)) (
   cond (!decide ((Ci (at' .expr v1 v3) w6).1=2)) (
   cond (!decide ((Ci (at' .expr v1 v3) w6).1=1)) (
    j 151) (
    j ((Ci (at' .expr v1 v3) w6).2))) (
   j ((Ci (at' .expr v1 v3) w6).2))) (
   j ((Ci (at' .expr v1 v3) w6).2)))) (
  kx (.exit 0) (v,v1,v2,v3,w,w1,w2,w3,w4,w5,w6,w7,w8,w9))
def A2e(R:Type)(k:Nat):Px R:=pxO [(53,cA Nq),(85,cA Ax2),(86,cA Bar)] [(83,qA Ao5),(84,qA Y2),(87,qA Ank)] [(7,Am k Aju (Ux))] []
def Apl(k:Nat)(x:HV [.sv .stmt]):Option (HV [.sv .tbl,.int .i64]):=match x with
 |s =>
 cond (!decide (s.kind=1)) (
  some ((Tbl.mk [] [] [] [] []),2)) (
  (Js s).bind λx =>
  cond (!decide (x=0)) (
   some ((Tbl.mk [] [] [] [] []),2)) (
   (Ane s.cols).bind λx1 =>
   (Nb s.names).bind λx2 =>
    cond (!(Ih (Tbl.mk s.name x1 x2 [] []) x2)) (
    some ((Tbl.mk [] [] [] [] []),150)) (
    Al (λrec=>Ux rec (λe vz=>match vz with|(v4,_,_,_,v8,v9,a,b,c,d,f,g,h,i)=>match e with
     |.ret =>
     some ((Tbl.mk v8 v9 a b c),v4)
     |.exit 0 =>
     some ((Tbl.mk d f g h i),0)
     |_=>none)) k (0,s.l,(s.l.length:Int),0,[],[],[],[],[],s.name,x1,x2,[],[]))))
theorem Bie(k:Nat):FO 34 [.sv .stmt] [.sv .tbl,.int .i64] (Apl k):=fR (px:=A2e _ k) (n:=1) Tryz.func34 rfl (λcx H=>by have h0:Lv cx (A2e (HV [.sv .tbl,.int .i64]) k):=lv H (c1 H Vn (c1 H Bcu (c1 H Bnw Ae))) (q1 H A2r (q1 H Agt (q1 H Bf4 Ab))) Aa;have hlsmake_0:=lO H h0 (b:=lp Tryz.f34 0) (k:=k) (n:=0) (s:=Aju) (step:=Ux) (λ_ _ _ (_,_,_,_,_,_,_,_,_,_,_,_,_,_)=>by kernel_rfl) Ah;exact⟨h0,(A5 Ah hlsmake_0)⟩) λ_=>by kernel_rfl
def Ava(s:Stm):Option (Tbl×Int):=cond (L6 s) (some (G4 s)) none
def Aia:FT [.sv .stmt] [.sv .tbl,.int .i64]:=λx=>Ava x
theorem A9j{R:Type}{kx:Ex->Vz->Option R}{nm:Str}{cols:List Col}{names:List Str}{l:List Xpr}{b:Option R}{g:Int->Option R}(hn:l.length<=1000000)(hs:l.all (λe=>decide (A1 e<=1000000))=true)(h1:∀(p:Int) (i:Nat) (acc:List Xpr),kx .ret (p,l,(l.length:Int),(i:Int),[],[],[],[],[],nm,cols,names,acc,[])=g p)(h2:kx (.exit 0) (0,l,(l.length:Int),(l.length:Int),[],[],[],[],[],nm,cols,names,l,[])=b)(k:Nat)(hk:l.length<k) :
  Al (λrec=>Ux rec kx) k (0,l,(l.length:Int),0,[],[],[],[],[],nm,cols,names,[],[])=cond (decide (Ff cols l=0)) b (g (Ff cols l)):=by
 have hl:ln l.length:=by simp only[ln];omega
 refine(A3 l.length (λi=>(0,l,(l.length:Int),(i:Int),[],[],[],[],[],nm,cols,names,l.take i,[])) (λi=>cond (decide (Ff cols (l.drop i)=0)) b (g (Ff cols (l.drop i)))) (λi hi rec hr =>?_) (λrec =>?_) k 0 (Nat.zero_le _) (by omega)).trans (by rw[Zq1])
 ·have ht:l.take (i+1)=l.take i++[l[i]]:=by rw[List.take_add_one,Zo1 hi];rfl
  have hlen:decide ((l.take i).length+1<=Ao)=true:=Ze1 (by simp only[List.length_take,Ao];omega);have hc:Amt l[i]=some l[i]:=by have:=Zg2.1 hs _ (List.getElem_mem hi);simp only[Amt,this,Af]
  rw[ht] at hr;simp only[Ux,Cf hi,Af,Aw hi,chk,As (c :=.expr) hi,hc,Zc1,hlen,Au hi hl,hr,h1,Ak hi,Ff,Afc];by_cases hf:(Ci l[i] cols).2=0
  ·by_cases ha:(Ci l[i] cols).1=2
   ·simp[hf,ha]
   ·by_cases hb:(Ci l[i] cols).1=1
    ·simp[hf,hb]
    ·simp[hf,ha,hb]
  ·simp[hf]
 ·simp only[Ux,Cg,Ag,h2,List.take_length];rw[Zk1 (Zn1 _)];rfl
theorem Bij{s:Stm}(h:L6 s=true):s.cols.length<=1000000/\s.sets.length<=1000000/\s.names.length<=1000000/\s.l.length<=1000000/\s.l.all (λe=>decide (A1 e<=1000000))=true:=by simp only[L6,Zb1,Zg1] at h;exact h
theorem A0f:FO 34 [.sv .stmt] [.sv .tbl,.int .i64] Aia :=.fin 0 Bie λs r hb hx=>⟨s.l.length+1,by
 simp only[Aia,Ava] at hx;cases hs:L6 s with
 |false=>rw[hs] at hx;cases hx
 |true =>
  rw[hs] at hx;simp only[Af,Za1] at hx;rw[<-hx];obtain⟨q1,q2,q3,q4,q5⟩:=Bij hs;have ec:Js s=some (cond (Bp s) 0 2):=if_pos ⟨q1,q2⟩;simp only[Apl,ec,Zc1,Ane,Nb,Ze1 q1,Ze1 q3,Af,G4];cases decide (s.kind=1) with
  |false=>rfl
  |true =>
   cases Bp s with
   |false=>rfl
   |true =>
    simp only[Zt1,Ag,Af,Bool.and_self,decide_true];cases Ih ⟨s.name,s.cols,s.names,[],[]⟩ s.names with
    |false=>rfl
    |true =>simp only[Zt1,Ag,Af];refine(A9j (g:=λp=>some (Fu,p)) (b:=some (⟨s.name,s.cols,s.names,s.l,[]⟩,0)) q4 q5 (λ_ _ _=>rfl) rfl _ (by omega)).trans ?_;cases decide (Ff s.cols s.l=0)<;>rfl⟩
def Bo1(R:Type):Px R:=pxO [] [] [] []
def Xn(x:HV [.sv .tbl]):Option (HV [.sv .stmt]):=match x with
 |t =>
 some (Stm.mk 1 t.name [] t.cols t.key t.checks [] [] false (Xpr.mk 0 ⟨0,0,[]⟩ [] []) [] [] 0)
theorem Bfv:FO 25 [.sv .tbl] [.sv .stmt] (Xn):=fR (px:=Bo1 _) (n:=0) Tryz.func25 rfl (λ_ H=>⟨lv H Ae Ab Aa,Ah⟩) λ_=>by kernel_rfl
def Dz(t:Tbl):Stm :=(Stm.mk 1 t.name [] t.cols t.key t.checks [] [] false (Xpr.mk 0 ⟨0,0,[]⟩ [] []) [] [] 0)
theorem Bdl(x:HV [.sv .tbl]):Xn x=some (Dz x):=by
 first
  |exact rfl
  |simp only[Xn,Dz,A0]
def Av5:FT [.sv .tbl] [.sv .stmt]:=λx=>some (Dz x)
theorem A2u:FO 25 [.sv .tbl] [.sv .stmt] Av5 :=.fin0 Bfv λx _ _ hx=>(Bdl x).trans hx
def Be6(R:Type):Px R:=pxO [] [] [] []
def R5(x:HV [.sv .tbl,.sv .idx]):Option (HV [.sv .stmt]):=match x with
 |(t,x) =>
 some (Stm.mk 3 x.name t.name [] x.cols [] [] [] false (Xpr.mk 0 ⟨0,0,[]⟩ [] []) [] [] 0)
theorem A6j:FO 26 [.sv .tbl,.sv .idx] [.sv .stmt] (R5):=fR (px:=Be6 _) (n:=0) Tryz.func26 rfl (λ_ H=>⟨lv H Ae Ab Aa,Ah⟩) λ(_,_)=>by kernel_rfl
def C8(t:Tbl)(x:Idx):Stm :=(Stm.mk 3 x.name t.name [] x.cols [] [] [] false (Xpr.mk 0 ⟨0,0,[]⟩ [] []) [] [] 0)
theorem A5a(x:HV [.sv .tbl,.sv .idx]):R5 x=some (C8 x.1 x.2):=by
 first
  |exact rfl
  |simp only[R5,C8,A0]
def Ak1:FT [.sv .tbl,.sv .idx] [.sv .stmt]:=λx=>some (C8 x.1 x.2)
theorem Aqq:FO 26 [.sv .tbl,.sv .idx] [.sv .stmt] Ak1 :=.fin0 A6j λx _ _ hx=>(A5a x).trans hx
def A53(R:Type):Px R:=pxO [(108,cA Xz)] [] [] []
def P5(x:HV [.sv .idx,.str]):Option (HV [.int .i64]):=match x with
 |(x,name) =>
 some (Hb x.name name)
theorem Az4:FO 89 [.sv .idx,.str] [.int .i64] (P5):=fR (px:=A53 _) (n:=0) Tryz.func89 rfl (λ_ H=>⟨lv H (c1 H Afb Ae) Ab Aa,Ah⟩) λ(_,_)=>by kernel_rfl
def Le(x:Idx)(name:Str):Int :=(Hb x.name name)
theorem A0l(x:HV [.sv .idx,.str]):P5 x=some (Le x.1 x.2):=by
 first
  |exact rfl
  |simp only[P5,Le,A0]
def As0:FT [.sv .idx,.str] [.int .i64]:=λx=>some (Le x.1 x.2)
theorem A8x:FO 89 [.sv .idx,.str] [.int .i64] As0 :=.fin0 Az4 λx _ _ hx=>(A0l x).trans hx
def Al2:Sig:=⟨49,[(0,.sl .idx false),(1,.str),(8,.int .i64),(9,.int .i64),(10,.int .i64)],[(2,.fn 89 [])],[(0,.one (.sv .tbl)),(1,.one (.sv .stmt)),(2,.one (.sv .tbl))],40,40,200,[],[]⟩
abbrev Vq:=List Idx×Str×Int×Int×Int×Tbl×Stm×Tbl
def Wi{R:Type}(rec:Vq->Option R)(kx:Ex->Vq->Option R)(v:Vq):Option R:=match v with
 |(v,v1,v2,v3,v4,w,w1,w2) =>
 cond (decide (v3<v4)) (
  chk (inb (wr .i64 (Fw .u64 (wr .u64 (wr .i64 (v3+v4))) 1)) v.length) (
  cond (decide ((Le (at' .idx v (wr .i64 (Fw .u64 (wr .u64 (wr .i64 (v3+v4))) 1))) v1)<0)) (
   rec (v,v1,v2,(wr .i64 ((wr .i64 (Fw .u64 (wr .u64 (wr .i64 (v3+v4))) 1))+1)),v4,w,w1,w2)) (
   rec (v,v1,v2,v3,(wr .i64 (Fw .u64 (wr .u64 (wr .i64 (v3+v4))) 1)),w,w1,w2)))) (
  kx (.exit 0) (v,v1,v2,v3,v4,w,w1,w2))
def Ald(R:Type)(k:Nat):Px R:=pxO [(89,cA As0)] [] [(3,Am k Al2 (Wi))] []
noncomputable def Azd(R:Type)(k:Nat):Px R:=pxO [(53,cA Nq),(85,cA Ax2),(90,Aii),(88,A2 40 200 (Ald R k) Tryz.f88)] [(84,qA Y2)] [] [(50,Aio .idx)]
def Akg(k:Nat)(x:HV [.sv .tbl,.sv .stmt]):Option (HV [.sv .tbl,.int .i64]):=match x with
 |(t,s) =>
 cond (!decide (s.kind=3)) (
  some ((Tbl.mk [] [] [] [] []),2)) (
  (Js s).bind λx =>
  cond (!decide (x=0)) (
   some ((Tbl.mk [] [] [] [] []),2)) (
   cond (!decide (s.on=t.name)) (
   some ((Tbl.mk [] [] [] [] []),2)) (
   Al (λrec=>Wi rec (λe vz=>match vz with|(v5,v6,v7,v8,_,a,b,_)=>match e with
    |.exit 0 =>
    let j:=λ(c:Bool) =>
     cond (c) (
     some ((Tbl.mk [] [] [] [] []),160)) (
     cond (decide (100<=(a.idx.length:Int))) (
      some ((Tbl.mk [] [] [] [] []),3)) (
      cond (!(Ih a b.names)) (
      some ((Tbl.mk [] [] [] [] []),150)) (
      chk (decide (a.idx.length<=1000000)) (
       cond (List.isEmpty a.idx) (
       (Nb b.names).bind λx1 =>
        chk (decide (v8=0)) (
        some ((Tbl.mk a.name a.cols a.key a.checks [(Idx.mk b.name x1)]),0))) (
       (Nb b.names).bind λx2 =>
        chk (decide ((0:Int)=0)&&decide ((0:Int)<(a.idx.length:Int))&&decide ((a.idx.length:Int)=(a.idx.length:Int))&&decide ((0:Int)<=v8)&&decide (v8<=(a.idx.length:Int))&&decide ((a.idx.length:Int)<=(1000000:Int))) (
        some ((Tbl.mk a.name a.cols a.key a.checks (List.take (v8:Int).toNat a.idx++(Idx.mk b.name x2)::List.drop (v8:Int).toNat a.idx)),0)))))))
    cond (decide (v8<v7)) (
     chk (inb v8 v5.length) (
     j (decide ((Le (at' .idx v5 v8) v6)=0)))) (
     j false)
    |_=>none)) k (t.idx,s.name,(t.idx.length:Int),0,(t.idx.length:Int),t,s,(Tbl.mk [] [] [] [] [])))))
theorem Bg2(k:Nat):FO 35 [.sv .tbl,.sv .stmt] [.sv .tbl,.int .i64] (Akg k):=fR (px:=Azd _ k) (n:=0) Tryz.func35 rfl (λcx H=>by have h1:Lv cx (Ald (HV [.sv .tbl,.int .i64]) k):=lv H (c1 H A8x Ae) Ab Aa;have hlswith_0:=lO H h1 (b:=lp Tryz.f88 0) (k:=k) (n:=0) (s:=Al2) (step:=Wi) (λ_ _ _ (_,_,_,_,_,_,_,_)=>by kernel_rfl) Ah;have h0:Lv cx (Azd (HV [.sv .tbl,.int .i64]) k):=lv H (c1 H Vn (c1 H Bcu (Az (Byq H Bvn) (Az (cR H h1 Tryz.func88 rfl (n:=1) ((A5 Ah hlswith_0))) Ae)))) (q1 H Agt Ab) (Aq2 (Byj H A1x Awx) Aa);exact⟨h0,Ah⟩) λ(_,_)=>by kernel_rfl
def A0e(t:Tbl)(s:Stm):Tbl×Int:=cond (decide (s.kind=3)&&(Bp s&&decide (s.on=t.name))) (cond (Qv t.idx s.name) (Fu,160) (cond (decide (100<=t.idx.length)) (Fu,3) (cond (Ih t s.names) ({ t with idx:=Mq t.idx ⟨s.name,s.names⟩ },0) (Fu,150)))) (Fu,2)
def Apg(t:Tbl)(s:Stm):Bool:=decide (s.cols.length<=1000000)&&(decide (s.sets.length<=1000000)&&(decide (s.names.length<=1000000)&&(decide (t.idx.length<=1000000)&&Bj t.idx)))
def Aqs(t:Tbl)(s:Stm):Option (Tbl×Int):=cond (Apg t s) (some (A0e t s)) none
def Ah1:FT [.sv .tbl,.sv .stmt] [.sv .tbl,.int .i64]:=λx=>Aqs x.1 x.2
theorem Byk{n:Nat}(h:n<=4000000):wr .u64 (n:Int)=(n:Int):=by
 have e:wr .u64 (n:Int)=(n:Int) % 18446744073709551616:=by simp[wr,IntKind.wrap,IntKind.bits,IntKind.signed]
 omega
theorem Bwo{a:Int}:Fw .u64 a 1=a / 2:=by show a.fdiv (2 ^ min (1:Int).toNat IntKind.u64.bits)=_;rw[show(2:Int) ^ min (1:Int).toNat IntKind.u64.bits=2 from by decide];exact Int.fdiv_eq_ediv_of_nonneg _ (by omega)
theorem Btx{a b:Nat}(h:a+b<=4000000):wr .i64 (Fw .u64 (wr .u64 (wr .i64 ((a:Int)+(b:Int)))) 1)=(((a+b) / 2:Nat):Int):=by rw[show(a:Int)+(b:Int)=((a+b:Nat):Int) by omega,Bjm (by simp only[ln];omega),Byk h,Bwo,show((a+b:Nat):Int) / 2=(((a+b) / 2:Nat):Int) by omega,Bjm (by simp only[ln];omega)]
theorem Xw{R:Type}{kx:Ex->Vq->Option R}{l:List Idx}{nm:Str}{t t2:Tbl}{s:Stm}{c:Option R}(hs:Bj l=true)(hn:l.length<=1000000)(h2:kx (.exit 0) (l,nm,(l.length:Int),(Ey l nm:Int),(Ey l nm:Int),t,s,t2)=c):∀(k lo hi:Nat),lo<=Ey l nm->Ey l nm<=hi->hi<=l.length->hi-lo<k ->
  Al (λrec=>Wi rec kx) k (l,nm,(l.length:Int),(lo:Int),(hi:Int),t,s,t2)=c
 |0,lo,hi,_,_,_,h=>by omega
 |k+1,lo,hi,h3,h4,h5,h=>by
  rw[Bb];by_cases hlt:lo<hi
  ·have hm:(lo+hi) / 2<l.length:=by omega
   have hp:=Abu (s:=nm) hs _ hm;have hb:decide (Le l[(lo+hi) / 2] nm<0)=decide ((lo+hi) / 2<Ey l nm):=hp;have ih1:=Xw hs hn h2 k ((lo+hi) / 2+1) hi;have ih2:=Xw hs hn h2 k lo ((lo+hi) / 2);simp only[Wi,Ze1 (show(lo:Int)<(hi:Int) by omega),Af,Btx (show lo+hi<=4000000 by omega),Aw hm,chk,As (c :=.idx) hm,hb,Au hm (show ln l.length by simp only[ln];omega)];by_cases hq:(lo+hi) / 2<Ey l nm
   ·rw[Ze1 hq];exact ih1 (by omega) h4 h5 (by omega)
   ·rw[Zd1 hq];exact ih2 h3 (by omega) (by omega) (by omega)
  ·have e1:lo=Ey l nm:=by omega
   have e2:hi=Ey l nm:=by omega
   simp only[Wi,Zd1 (show ¬(lo:Int)<(hi:Int) by omega),Ag];rw[e1,e2];exact h2
theorem Bqv{l:List Idx}{nm:Str}(hs:Bj l=true){R:Type}{A B:Option R}:(cond (decide ((Ey l nm:Int)<(l.length:Int))) (chk (inb (Ey l nm:Int) l.length) (cond (decide (Le (at' .idx l (Ey l nm:Int)) nm=0)) A B)) B)=cond (Qv l nm) A B:=by
 by_cases hp:Ey l nm<l.length
 ·rw[Ze1 (show(Ey l nm:Int)<(l.length:Int) by omega)];simp only[Af,Aw hp,chk,As (c :=.idx) hp];have e:decide (Le l[Ey l nm] nm=0)=Qv l nm:=by
   rw[Bool.eq_iff_iff,Bbq hs,Zg1];constructor
   ·intro h;exact⟨hp,(scmp_lin.eq _ _).1 h⟩
   ·rintro⟨_,h⟩;exact(scmp_lin.eq _ _).2 h
  rw[e]
 ·rw[Zd1 (show ¬(Ey l nm:Int)<(l.length:Int) by omega)];have e:Qv l nm=false:=by cases h:Qv l nm with|false=>rfl|true=>exact absurd ((Bbq hs).1 h).1 hp
  rw[e];rfl
theorem Bgx{t:Tbl}{s:Stm}(h:Apg t s=true):s.cols.length<=1000000/\s.sets.length<=1000000/\s.names.length<=1000000/\t.idx.length<=1000000/\Bj t.idx=true:=by simp only[Apg,Zb1,Zg1] at h;exact h
theorem A4g:FO 35 [.sv .tbl,.sv .stmt] [.sv .tbl,.int .i64] Ah1 :=.fin 0 Bg2 λ(t,s) r hb hx=>⟨t.idx.length+1,by
 simp only[Ah1,Aqs] at hx;cases hs:Apg t s with
 |false=>rw[hs] at hx;cases hx
 |true =>
  rw[hs] at hx;simp only[Af,Za1] at hx;rw[<-hx];obtain⟨q1,q2,q3,q4,q5⟩:=Bgx hs;have ec:Js s=some (cond (Bp s) 0 2):=if_pos ⟨q1,q2⟩;simp only[Akg,ec,Zc1,Nb,A0e];cases decide (s.kind=3) with
  |false=>rfl
  |true =>
   cases Bp s with
   |false=>rfl
   |true =>
    cases decide (s.on=t.name) with
    |false=>rfl
    |true =>
     simp only[Zt1,Ag,Af,Bool.and_self,decide_true];refine(Xw (c:=some (cond (Qv t.idx s.name) (Fu,160) (cond (decide (100<=t.idx.length)) (Fu,3) (cond (Ih t s.names) ({ t with idx:=Mq t.idx ⟨s.name,s.names⟩ },0) (Fu,150))))) q5 q4 ?_ _ 0 t.idx.length (Nat.zero_le _) (Ayd _ _) (Zn1 _) (by omega)).trans rfl;have hle:=Ayd t.idx s.name;simp only;rw[Bqv q5];cases Qv t.idx s.name with
     |true=>rfl
     |false =>
      have e100:decide ((100:Int)<=(t.idx.length:Int))=decide (100<=t.idx.length):=Zy1.2 (by omega);simp only[Ag,e100];cases decide (100<=t.idx.length) with
      |true=>rfl
      |false =>
       simp only[Ag];cases Ih t s.names with
       |false=>rfl
       |true =>
        simp only[Zt1,Ag,Af,chk,Ze1 q4];simp only[Ze1 q3,Af,Zc1];cases hE:t.idx.isEmpty with
        |true =>have h0:t.idx=[]:=List.isEmpty_iff.1 hE;simp only[Af,h0];rfl
        |false =>
         have hpos : 0<t.idx.length:=by cases h0:t.idx with|nil=>rw[h0] at hE;cases hE|cons x l=>simp only[Zf1];omega
         simp only[Ag,Akd,Int.toNat_natCast];have hck:decide ((0:Int)<(t.idx.length:Int))=true/\decide ((0:Int)<=(Ey t.idx s.name:Int))=true/\decide ((Ey t.idx s.name:Int)<=(t.idx.length:Int))=true/\decide ((t.idx.length:Int)<=1000000)=true:=by simp only[Zg1];omega
         simp only[hck.1,hck.2.1,hck.2.2.1,hck.2.2.2,Bool.and_self,Af]⟩
def Wq:Sig:=⟨58,[(3,.bool),(39,.sl .idx false),(40,.int .i64),(41,.int .i64)],[(1,.ptr 0 0),(2,.ptr 1 0),(4,.ptr 2 0)],[(0,.one (.sv .tbl)),(1,.one (.sv .tbl)),(2,.one (.sv .tbl))],3,0,0,[],[]⟩
abbrev I4:=Bool×List Idx×Int×Int×Tbl×Tbl×Tbl
def Hr{R:Type}(rec:I4->Option R)(kx:Ex->I4->Option R)(v:I4):Option R:=match v with
 |(d,b,c,a,w3,w4,w5) =>
 cond (decide (a<c)) (
  chk (inb a b.length) (
  chk (inb a w3.idx.length) (
   cond (!decide (((at' .idx b a).name)=((at' .idx w3.idx a).name))) (
   kx .ret (false,b,c,a,w3,(Tbl.mk [] [] [] [] []),w5)) (
   rec (d,b,c,(wr .i64 (a+1)),w3,w4,w5))))) (
  kx (.exit 2) (d,b,c,a,w3,w4,w5))
def W8:Sig:=⟨58,[(3,.bool),(20,.sl .idx false),(21,.int .i64),(22,.int .i64)],[(1,.ptr 0 0),(2,.ptr 1 0),(4,.ptr 2 0)],[(0,.one (.sv .tbl)),(1,.one (.sv .tbl)),(2,.one (.sv .tbl))],3,0,0,[],[]⟩
abbrev I3:=Bool×List Idx×Int×Int×Tbl×Tbl×Tbl
def Hv{R:Type}(rec:I3->Option R)(kx:Ex->I3->Option R)(v:I3):Option R:=match v with
 |(v,v1,v2,v3,w,w1,w2) =>
 cond (decide (v3<v2)) (
  chk (inb v3 v1.length) (
  (Aqs w2 (C8 w (at' .idx v1 v3))).bind λ(x2,x3) =>
   cond (!decide (x3=0)) (
   kx .ret (false,v1,v2,v3,w,(Tbl.mk [] [] [] [] []),x2)) (
   rec (v,v1,v2,(wr .i64 (v3+1)),w,w1,x2)))) (
  kx (.exit 0) (v,v1,v2,v3,w,w1,w2))
def Ahg(R:Type)(k:Nat):Px R:=pxO [(25,cA Av5),(34,cA Aia)] [(26,qA Ak1),(35,qA Ah1)] [(5,Am k W8 (Hv)),(12,Am k Wq (Hr))] []
def Xf(k:Nat)(x:HV [.sv .tbl]):Option (HV [.sv .tbl,.bool]):=match x with
 |t =>
 (Ava (Dz t)).bind λ(x,x1) =>
  cond (!decide (x1=0)) (
  some ((Tbl.mk [] [] [] [] []),false)) (
  Al (λrec=>Hv rec (λe vz=>match vz with|(v4,_,_,_,v8,v9,a)=>match e with
   |.ret =>
   some (v9,v4)
   |.exit 0 =>
   Al (λrec=>Hr rec (λe vz=>match vz with|(b,_,_,_,_,c,d)=>match e with
    |.ret =>
    some (c,b)
    |.exit 2 =>
    some (d,true)
    |_=>none)) k (v4,a.idx,(a.idx.length:Int),0,v8,v9,a)
   |_=>none)) k (false,t.idx,(t.idx.length:Int),0,t,(Tbl.mk [] [] [] [] []),x))
theorem Axk(k:Nat):FO 44 [.sv .tbl] [.sv .tbl,.bool] (Xf k):=fR (px:=Ahg _ k) (n:=2) Tryz.func44 rfl (λcx H=>by have h0:Lv cx (Ahg (HV [.sv .tbl,.bool]) k):=lv H (c1 H A2u (c1 H A0f Ae)) (q1 H Aqq (q1 H A4g Ab)) Aa;have hlsrebuilt_0:=lO H h0 (b:=lp Tryz.f44 0) (k:=k) (n:=0) (s:=W8) (step:=Hv) (λ_ _ _ (_,_,_,_,_,_,_)=>by kernel_rfl) Ah;have hlsrebuilt_1:=lO H h0 (b:=lp Tryz.f44 1) (k:=k) (n:=0) (s:=Wq) (step:=Hr) (λ_ _ _ (_,_,_,_,_,_,_)=>by kernel_rfl) Ah;exact⟨h0,(A5 (A5 Ah hlsrebuilt_0) hlsrebuilt_1)⟩) λ_=>by kernel_rfl
def I0(t:Tbl)(x:Idx):Bool:=Bp (C8 t x)&&Ih t x.cols
def ixs(t:Tbl):List Idx->List Idx->Option (List Idx)
 |acc,[]=>some acc
 |acc,x::l=>cond (I0 t x&&(!Qv acc x.name&&decide (acc.length<100))) (ixs t (Mq acc x) l) none
def Fq(t:Tbl):Bool:=decide ((G4 (Dz t)).2=0)&&(Bj t.idx&&(decide (t.idx.length<=100)&&t.idx.all (I0 t)))
def Fv(t:Tbl):Bool:=L6 (Dz t)&&(decide (t.idx.length<=1000000)&&t.idx.all λx=>decide (x.cols.length<=1000000))
def Abq(t:Tbl):Option (Tbl×Bool):=cond (Fv t) (some (cond (Fq t) (t,true) (Fu,false))) none
def Yo:FT [.sv .tbl] [.sv .tbl,.bool]:=λx=>Abq x
theorem Btl{t:Tbl}{acc:List Idx}{x:Idx}:A0e { t with idx:=acc } (C8 t x)=cond (Bp (C8 t x)) (cond (Qv acc x.name) (Fu,160) (cond (decide (100<=acc.length)) (Fu,3) (cond (Ih t x.cols) ({ t with idx:=Mq acc x },0) (Fu,150)))) (Fu,2):=by simp only[A0e,C8,decide_true,Bool.and_true,Bool.true_and];rfl
theorem A0n{t:Tbl}:∀{l acc a:List Idx},Bj acc=true->ixs t acc l=some a->Bj a=true/\(∀y,y∈a↔y∈acc\/y∈l)/\a.length=acc.length+l.length/\l.all (I0 t)=true/\(acc.length<=100->a.length<=100)
 |[],acc,a,hs,h=>by simp only[ixs,Za1] at h;subst h;exact⟨hs,by simp,by simp,rfl,id⟩
 |x::l,acc,a,hs,h=>by
  simp only[ixs] at h;cases hc:I0 t x&&(!Qv acc x.name&&decide (acc.length<100)) with
  |false=>rw[hc] at h;cases h
  |true =>
   rw[hc] at h;simp only[Af] at h;simp only[Zb1,Bool.not_eq_true',Zg1] at hc;obtain⟨h1,h2,h3,h4,h5⟩:=A0n (Xt hs hc.2.1) h;rw[Bax] at h3 h5;refine⟨h1,λy =>?_,by simp only[Zf1];omega,by simp[h4,hc.1],λ_=>h5 (by omega)⟩;rw[h2,Bcv,List.mem_cons];constructor
   ·rintro((h|h)|h)
    ·exact .inr (.inl h)
    ·exact .inl h
    ·exact .inr (.inr h)
   ·rintro(h|h|h)
    ·exact .inl (.inr h)
    ·exact .inl (.inl h)
    ·exact .inr h
theorem Avz{t:Tbl}:∀{q p:List Idx},Bj (p++q)=true->(p++q).length<=100->q.all (I0 t)=true->ixs t p q=some (p++q)
 |[],p,_,_,_=>by simp[ixs]
 |x::q,p,hs,hn,hk=>by
  simp only[Zv1,Zb1] at hk;have hlt:=(W6 hs).2;have h1:Qv p x.name=false:=by cases h:Qv p x.name with|false=>rfl|true =>obtain⟨y,hy,e⟩:=Bcw.1 h;exact absurd e (A6i (hlt y x hy (by simp)))
  have h2:decide (p.length<100)=true:=Ze1 (by simp only[Zh1,Zf1] at hn;omega);have h3:Mq p x=p++[x]:=A2m λy hy=>hlt y x hy (by simp);simp only[ixs,hk.1,h1,h2,Zs1,Bool.and_self,Af,h3];rw[Avz (by simpa using hs) (by simpa using hn) hk.2];simp
def Ahr:List Idx->List Idx->Bool
 |x::a,y::b=>decide (x.name=y.name)&&Ahr a b
 |_,_=>true
theorem Azq:∀{a b:List Idx},Ahr a b=true->∀(i:Nat) (hi:i<a.length) (hj:i<b.length),a[i].name=b[i].name
 |[],_,_,i,hi,_=>by simp at hi
 |_::_,[],_,i,_,hj=>by simp at hj
 |x::a,y::b,h,i,hi,hj=>by simp only[Ahr,Zb1,Zg1] at h;cases i with|zero=>exact h.1|succ i=>exact Azq h.2 i (by simpa using hi) (by simpa using hj)
theorem Ar1:∀a:List Idx,Ahr a a=true
 |[]=>rfl
 |x::a=>by simp[Ahr,Ar1 a]
theorem Bhj{l:List Idx}(hs:Bj l=true){x y:Idx}(hx:x∈l)(hy:y∈l)(e:x.name=y.name):x=y:=by
 obtain⟨i,hi,rfl⟩:=List.getElem_of_mem hx;obtain⟨j,hj,rfl⟩:=List.getElem_of_mem hy;rcases Nat.lt_trichotomy i j with h|h|h
 ·exact absurd e (A6i (Oz hs i j hi hj h))
 ·subst h;rfl
 ·exact absurd e.symm (A6i (Oz hs j i hj hi h))
theorem Btf{a b:List Idx}(hs:Bj a=true)(hm:∀y,y∈a↔y∈b)(hn:a.length=b.length)(h:Ahr a b=true):a=b :=List.ext_getElem hn λi hi hj=>Bhj hs (List.getElem_mem hi) ((hm _).2 (List.getElem_mem hj)) (Azq h i hi hj)
theorem Bwm{t:Tbl}{R:Type}{g:List Idx->R}{c:R}:(match ixs t [] t.idx with|some a=>cond (Ahr a t.idx) (g a) c|none=>c)=cond (Bj t.idx&&(decide (t.idx.length<=100)&&t.idx.all (I0 t))) (g t.idx) c:=by
 cases hx:ixs t [] t.idx with
 |none =>cases hc:Bj t.idx&&(decide (t.idx.length<=100)&&t.idx.all (I0 t)) with|false=>rfl|true =>simp only[Zb1,Zg1] at hc;rw[Avz (p:=[]) (by simpa using hc.1) (by simpa using hc.2.1) hc.2.2] at hx;cases hx
 |some a =>
  obtain⟨h1,h2,h3,h4,h5⟩:=A0n (by rfl) hx;simp only;cases hs:Ahr a t.idx with
  |true =>have e:=Btf h1 (λy=>by rw[h2];simp) (by simpa using h3) hs;rw[<-e,h1];rw[<-e] at h4;rw[h4,Ze1 (h5 (by simp))];rfl
  |false =>cases hc:Bj t.idx&&(decide (t.idx.length<=100)&&t.idx.all (I0 t)) with|false=>rfl|true =>simp only[Zb1,Zg1] at hc;rw[Avz (p:=[]) (by simpa using hc.1) (by simpa using hc.2.1) hc.2.2] at hx;cases hx;rw[Zf2,Ar1] at hs;cases hs
theorem Nl{t:Tbl}(h:Fv t=true):L6 (Dz t)=true/\t.idx.length<=1000000/\∀x,x∈t.idx->x.cols.length<=1000000:=by simp only[Fv,Zb1,Zg2,Zg1] at h;exact h
theorem A4c{R:Type}{kx:Ex->I3->Option R}{t:Tbl}{g:List Idx->Option R}{c:Option R}(hs:Fv t=true)(h1:∀i p,kx .ret (false,t.idx,(t.idx.length:Int),i,t,Fu,p)=c)(h2:∀a:List Idx,a.length=t.idx.length->kx (.exit 0) (false,t.idx,(t.idx.length:Int),(t.idx.length:Int),t,Fu,{ t with idx:=a })=g a)(k:Nat)(hk:t.idx.length<k) :
  Al (λrec=>Hv rec kx) k (false,t.idx,(t.idx.length:Int),0,t,Fu,{ t with idx:=[] })=(match ixs t [] t.idx with|some a=>g a|none=>c):=by
 obtain⟨_,hn,hcs⟩:=Nl hs;have hl:ln t.idx.length:=by simp only[ln];omega
 refine(Dj t.idx.length (λi (acc:List Idx)=>(false,t.idx,(t.idx.length:Int),(i:Int),t,Fu,{ t with idx:=acc })) (λi acc=>Bj acc=true/\acc.length=i) (λi acc=>(match ixs t acc (t.idx.drop i) with|some a=>g a|none=>c)) (λi hi acc ha rec hr =>?_) (λacc ha rec =>?_) k 0 [] (Nat.zero_le _) (by omega) ⟨rfl,rfl⟩).trans (by rw[Zq1])
 ·have hw:Aqs { t with idx:=acc } (C8 t t.idx[i])=some (A0e { t with idx:=acc } (C8 t t.idx[i])):=by
   have:Apg { t with idx:=acc } (C8 t t.idx[i])=true:=by have h1:=hcs _ (List.getElem_mem hi);have h2:=ha.2;show(decide ((0:Nat)<=1000000)&&(decide ((0:Nat)<=1000000)&&(decide (t.idx[i].cols.length<=1000000)&&(decide (acc.length<=1000000)&&Bj acc))))=true;rw[Ze1 h1,Ze1 (show acc.length<=1000000 by omega),ha.1];rfl
   rw[Aqs,this];rfl
  simp only[Hv,Cf hi,Af,Aw hi,chk,As (c :=.idx) hi,hw,Zc1,Btl,Au hi hl,Ak hi,ixs,I0];cases Bp (C8 t t.idx[i]) with
  |false=>exact h1 _ _
  |true =>
   simp only[Af,Bool.true_and];cases hh:Qv acc t.idx[i].name with
   |true =>simp only[Af,Zt1,Bool.false_and,Bool.and_false];exact h1 _ _
   |false =>
    simp only[Ag,Zs1,Bool.true_and];by_cases h100:acc.length<100
    ·rw[Ze1 h100,Zd1 (show ¬ 100<=acc.length by omega)];simp only[Ag,Bool.and_true];cases Ih t t.idx[i].cols with|false=>exact h1 _ _|true =>simp only[Af];exact hr _ ⟨Xt ha.1 hh,by rw[Bax,ha.2]⟩
    ·rw[Zd1 h100,Ze1 (show 100<=acc.length by omega)];simp only[Af,Bool.and_false];exact h1 _ _
 ·simp only[Hv,Cg,Ag,h2 acc ha.2];rw[Zk1 (Zn1 _)];rfl
theorem Azl{R:Type}{kx:Ex->I4->Option R}{t:Tbl}{a:List Idx}{b c:Option R}(hs:Fv t=true)(ha:a.length=t.idx.length)(h1:∀i,kx .ret (false,a,(a.length:Int),i,t,Fu,{ t with idx:=a })=c)(h2:kx (.exit 2) (false,a,(a.length:Int),(a.length:Int),t,Fu,{ t with idx:=a })=b)(k:Nat)(hk:t.idx.length<k) :
  Al (λrec=>Hr rec kx) k (false,a,(a.length:Int),0,t,Fu,{ t with idx:=a })=cond (Ahr a t.idx) b c:=by
 obtain⟨_,hn,hcs⟩:=Nl hs;have hl:ln a.length:=by simp only[ln];omega
 refine(A3 a.length (λi=>(false,a,(a.length:Int),(i:Int),t,Fu,{ t with idx:=a })) (λi=>cond (Ahr (a.drop i) (t.idx.drop i)) b c) (λi hi rec hr =>?_) (λrec =>?_) k 0 (Nat.zero_le _) (by omega)).trans (by rw[Zq1,Zq1])
 ·have hi2:i<t.idx.length:=by omega
  simp only[Hr,Cf hi,Af,Aw hi,Aw hi2,chk,As (c :=.idx) hi,As (c :=.idx) hi2,Au hi hl,Ak hi,Ak hi2,Ahr,hr];cases decide (a[i].name=t.idx[i].name) with|false=>exact h1 _|true=>rfl
 ·simp only[Hr,Cg,Ag,h2];rw[Zk1 (Zn1 _)];rfl
theorem Bd5{t:Tbl}(h:(G4 (Dz t)).2=0):G4 (Dz t)=({ t with idx:=[] },0):=by
 simp only[G4] at h ⊢;generalize (decide ((Dz t).kind=1)&&Bp (Dz t))=b1 at h ⊢;generalize Ih ⟨(Dz t).name,(Dz t).cols,(Dz t).names,[],[]⟩ (Dz t).names=b2 at h ⊢;cases b1 with
 |false=>simp at h
 |true =>
  cases b2 with
  |false=>simp at h
  |true =>
   by_cases hc:Ff (Dz t).cols (Dz t).l=0
   ·simp only[hc,decide_true,Af];rfl
   ·simp[hc] at h
theorem A1f:FO 44 [.sv .tbl] [.sv .tbl,.bool] Yo :=.fin 0 Axk λt r hb hx=>⟨t.idx.length+1,by
 simp only[Yo,Abq] at hx;cases hs:Fv t with
 |false=>rw[hs] at hx;cases hx
 |true =>
  rw[hs] at hx;simp only[Af,Za1] at hx;rw[<-hx];obtain⟨q1,q2,q3⟩:=Nl hs;have em:Ava (Dz t)=some (G4 (Dz t)):=by rw[Ava,q1];rfl
  simp only[Xf,em,Zc1,Fq];by_cases h0:(G4 (Dz t)).2=0
  ·simp only[Bd5 h0,decide_true,Zt1,Ag,Bool.true_and];refine(A4c (c:=some (Fu,false)) (g:=λa=>cond (Ahr a t.idx) (some ({ t with idx:=a },true)) (some (Fu,false))) hs (λ_ _=>rfl) (λa ha =>?_) _ (by omega)).trans ?_
   ·exact Azl hs ha (λ_=>rfl) rfl _ (by omega)
   ·rw[Bwm (g:=λa=>some (({ t with idx:=a }:Tbl),true)),A0]
  ·simp only[Zd1 h0,Zs1,Af,Bool.false_and,Ag];rfl⟩
def Bdq(R:Type):Px R:=pxO [(44,cA Yo)] [] [] []
def Afj(x:HV [.sv .tbl]):Option (HV [.int .i64]):=match x with
 |t =>
 (Abq t).bind λ(_,x1) =>
  cond (!x1) (
  some 2) (
  some 0)
theorem A8i:FO 17 [.sv .tbl] [.int .i64] (Afj):=fR (px:=Bdq _) (n:=0) Tryz.func17 rfl (λ_ H=>⟨lv H (c1 H A1f Ae) Ab Aa,Ah⟩) λ_=>by kernel_rfl
def O2(t:Tbl):Option Int:=cond (Fv t) (some (cond (Fq t) 0 2)) none
def N8:FT [.sv .tbl] [.int .i64]:=λx=>O2 x
theorem U3:FO 17 [.sv .tbl] [.int .i64] N8 :=.fin0 A8i λt r hb hx=>by simp only[N8,O2] at hx;rw[<-hx];simp only[Afj,Abq];cases Fv t with|false=>rfl|true=>cases Fq t<;>rfl
theorem Bp7{m n:Nat}(h:m<=n):Ev 0 (m:Int) n=true:=by simp[Ev];omega
def Bow(R:Type):Px R:=pxO [] [] [] []
def Ao7(x:HV [.str,.str]):Option (HV [.bool]):=match x with
 |(l,m) =>
 cond (decide ((m.length:Int)<=(l.length:Int))) (
  chk (Ev 0 (m.length:Int) l.length) (
  some (decide ((l.take ((m.length:Int):Int).toNat)=m)))) (
  some false)
theorem Bhx:FO 270 [.str,.str] [.bool] (Ao7):=fR (px:=Bow _) (n:=0) Tryz.func270 rfl (λ_ H=>⟨lv H Ae Ab Aa,Ah⟩) λ(_,_)=>by kernel_rfl
def Bcr(l m:Str):Bool:=Lp.pre l m
def Aw7:FT [.str,.str] [.bool]:=λx=>some (Bcr x.1 x.2)
theorem Bnl:FO 270 [.str,.str] [.bool] Aw7 :=.fin0 Bhx λ(l,m) r hb hx=>by
 simp only[Aw7,Za1] at hx;subst hx;simp only[Ao7,Bcr,Lp.pre];have e:decide ((m.length:Int)<=(l.length:Int))=decide (m.length<=l.length):=Zy1.2 (by omega);rw[e];by_cases h:m.length<=l.length
 ·rw[Ze1 h,Af,Bp7 h,Int.toNat_natCast];rfl
 ·rw[Zd1 h];rfl
def Bq6(R:Type):Px R:=pxO [(270,cA Aw7)] [] [] []
def Acu(x:HV [.str,.str]):Option (HV [.bool]):=match x with
 |(l,m) =>
 some (Bcr l m)
theorem Bp2:FO 244 [.str,.str] [.bool] (Acu):=fR (px:=Bq6 _) (n:=0) Tryz.func244 rfl (λ_ H=>⟨lv H (c1 H Bnl Ae) Ab Aa,Ah⟩) λ(_,_)=>by kernel_rfl
def hpre(l:Str)(m:Str):Bool :=(Bcr l m)
theorem Bkh(x:HV [.str,.str]):Acu x=some (hpre x.1 x.2):=by
 first
  |exact rfl
  |simp only[Acu,hpre,A0]
def A8s:FT [.str,.str] [.bool]:=λx=>some (hpre x.1 x.2)
theorem Bc5:FO 244 [.str,.str] [.bool] A8s :=.fin0 Bp2 λx _ _ hx=>(Bkh x).trans hx
set_option maxRecDepth 20000 in
open Go.Sx in
theorem R1(l:Str)(c:Int):Con Tryz.prog 243 [S l,.int .u8 c] [] (λ_=>True) (Is (.int .i64 (Lib.indexByte l c.toNat.toUInt8))):=by
 have run:∀w,(callFunc 269 #[S l,.int .u8 c]).run Tryz.prog w = .ok (.value (.int .i64 (Lib.indexByte l c.toNat.toUInt8))) w:=λw=>by rw[run_callFunc_extern Tryz.func269 (by kernel_rfl) rfl (by kernel_rfl) (e:=Extern.BytealgIndexByte.indexByte) (by kernel_rfl)];simp[Lib.run_indexByteString,go_sem]
 refine Ee Tryz.func243 Tryz.ntmps243 rfl (by kernel_rfl) rfl λw M =>?_
 repeat' (first|refine E5 ?_|refine Bz ?_|refine E6 ?_|refine E9 ?_|refine n_blk ?_|refine g_block ?_|refine Dm ?_|refine g_exit ?_|refine x_here ?_|refine x_seq ?_|refine x_loop ?_|refine x_blk rfl ?_|refine g_scope ?_|refine n_scope ?_|refine x_scope ?_|refine g_label ?_|(apply Bm rfl rfl;(first|exact p_move rfl|exact p_assign rfl|exact p_lens (by dsimp only;decide +kernel) rfl|exact p_lensl (by dsimp only;decide +kernel) rfl|exact p_extract rfl rfl|exact p_pick_t rfl rfl|exact p_pick_f rfl rfl|exact p_eql rfl rfl|exact p_neq rfl rfl|exact p_lss rfl rfl|exact p_leq rfl rfl|exact p_gtr rfl rfl|exact p_geq rfl rfl|exact p_not rfl|exact p_eqls rfl rfl|exact p_neqs rfl rfl|exact Ai rfl rfl (by omega)|exact Aj rfl rfl (by omega)|exact p_index (by dsimp only;decide +kernel) rfl rfl (by omega)|exact p_cut (by dsimp only;decide +kernel) rfl rfl rfl (by omega)|exact p_cutlo (by dsimp only;decide +kernel) rfl rfl (by omega)|exact p_cuthi (by dsimp only;decide +kernel) rfl rfl (by omega)|exact p_fa (fo:=0) (by dsimp only;decide +kernel) rfl|exact p_fa (fo:=1) (by dsimp only;decide +kernel) rfl|exact p_fa (fo:=2) (by dsimp only;decide +kernel) rfl|exact p_fa (fo:=3) (by dsimp only;decide +kernel) rfl|exact p_nil rfl))|refine o_off rfl rfl ?_|refine o_off_none rfl ?_|(apply Bm rfl rfl (A93 rfl rfl run))|(refine o_gsd rfl rfl ?_ ?_<;>intro hc)|(refine o_gse rfl rfl ?_ ?_<;>intro hc)|(refine o_gsn rfl rfl ?_ ?_<;>intro hc)|(refine o_gsxd rfl rfl ?_ ?_<;>intro hc)|(refine o_gsx rfl rfl ?_ ?_<;>intro hc)|(refine o_gs rfl rfl ?_ ?_<;>intro hc)|refine g_cond_t rfl rfl ?_|refine g_cond_f rfl rfl ?_|refine g_cond_t rfl (Ze1 (by omega)) ?_|refine g_cond_f rfl (Zd1 (by omega)) ?_|(refine Ch rfl ?_ ?_<;>intro hc)|(refine g_conde rfl ?_ ?_<;>intro hc)|(refine g_condn rfl ?_ ?_<;>intro hc)|(refine g_condxd rfl ?_ ?_<;>intro hc)|(refine g_condx rfl ?_ ?_<;>intro hc)|(refine C7 rfl ?_ ?_<;>intro hc)|refine Di rfl rfl ?_|refine g_ret2 rfl rfl rfl ?_|refine g_ret3 rfl rfl rfl rfl ?_|fail)
 exact Bpj rfl
def sib(l:Str)(c:Int):Int:=Lib.indexByte l c.toNat.toUInt8
def Bj4:FT [.str,.int .u8] [.int .i64]:=λx=>some (sib x.1 x.2)
theorem Br2(l:Str)(c:Int) : -1<=sib l c/\sib l c<l.length+1:=by have:=Lp.indexByte_in l c.toNat.toUInt8;simp only[sib];omega
theorem Bwt:FO 243 [.str,.int .u8] [.int .i64] Bj4:=by
 refine FnOk.ofIs (R1 [] 0).enters rfl λx r hx =>?_;obtain⟨l,c⟩:=x;simp only[Bj4,Za1] at hx;subst hx;refine⟨[Sx.S l,.int .u8 c],_,λX vs h =>?_,R1 l c,λX hb =>?_⟩
 ·simp only[Cc,Co,Reps,Rep] at h;obtain⟨u,us,rfl,⟨rfl,_⟩,u2,us2,rfl,⟨rfl,_⟩,rfl⟩:=h;rfl
 ·simp only[Hi,Cc,Co];have h:=Br2 l c;have hl:ln l.length:=hb.1;refine Cz (Az9 ?_);simp only[IntKind.min,IntKind.max,IntKind.signed,IntKind.bits,sib,ln] at *;simp only[if_true];omega
def Bl3(R:Type):Px R:=pxO [(243,cA Bj4)] [] [] []
def Y9(x:HV [.str,.int .u8]):Option (HV [.int .i64]):=match x with
 |(l,c) =>
 some (sib l c)
theorem Bgm:FO 203 [.str,.int .u8] [.int .i64] (Y9):=fR (px:=Bl3 _) (n:=0) Tryz.func203 rfl (λ_ H=>⟨lv H (c1 H Bwt Ae) Ab Aa,Ah⟩) λ(_,_)=>by kernel_rfl
def Ks(l:Str)(c:Int):Int :=(sib l c)
theorem Bih(x:HV [.str,.int .u8]):Y9 x=some (Ks x.1 x.2):=by
 first
  |exact rfl
  |simp only[Y9,Ks,A0]
def Ahx:FT [.str,.int .u8] [.int .i64]:=λx=>some (Ks x.1 x.2)
theorem Amv:FO 203 [.str,.int .u8] [.int .i64] Ahx :=.fin0 Bgm λx _ _ hx=>(Bih x).trans hx
def Bm5(R:Type):Px R:=pxO [] [] [] []
def Y1(x:HV [.int .u8]):Option (HV [.bool]):=match x with
 |c =>
 cond (decide (65<=c)) (
  some (decide (c<=90))) (
  some false)
theorem Bgt:FO 246 [.int .u8] [.bool] (Y1):=fR (px:=Bm5 _) (n:=0) Tryz.func246 rfl (λ_ H=>⟨lv H Ae Ab Aa,Ah⟩) λ_=>by kernel_rfl
def Agj(c:Int):Bool :=
 cond (decide (65<=c)) (
  (decide (c<=90))) (
  false)
theorem Bh8(x:HV [.int .u8]):Y1 x=some (Agj x):=by
 first
  |exact rfl
  |simp only[Y1,Agj,A0]
def Ais:FT [.int .u8] [.bool]:=λx=>some (Agj x)
theorem Aon:FO 246 [.int .u8] [.bool] Ais :=.fin0 Bgt λx _ _ hx=>(Bh8 x).trans hx
theorem Aks(c:Int):Agj c=Lp.isUp c:=by simp only[Agj,Lp.isUp];cases decide (65<=c)<;>rfl
def Bke(R:Type):Px R:=pxO [(183,cA Aiu),(246,cA Ais)] [] [] []
def X6(x:HV [.str,.int .i64]):Option (HV [.bool]):=match x with
 |(s,i) =>
 cond (decide (i=(s.length:Int))) (
  some true) (
  chk (inb i s.length) (
  cond (!(Af8 (bat s i))) (
   chk (inb i s.length) (
   some (!(Agj (bat s i))))) (
   some false)))
theorem Bf3:FO 248 [.str,.int .i64] [.bool] (X6):=fR (px:=Bke _) (n:=0) Tryz.func248 rfl (λ_ H=>⟨lv H (c1 H Akc (c1 H Aon Ae)) Ab Aa,Ah⟩) λ(_,_)=>by kernel_rfl
def Wv(s:Str)(i:Int):Option Bool:=if 0<=i/\i<=s.length then some (Lp.aloneF s i) else none
def Ayt:FT [.str,.int .i64] [.bool]:=λx=>Wv x.1 x.2
theorem Brk(a b:Int):(a == b)=decide (a=b):=rfl
theorem Bt2(s:Str)(i:Int)(h : 0<=i/\i<=s.length):X6 (s,i)=some (Lp.aloneF s i):=by
 simp only[X6,Lp.aloneF,Amo,Aks,Brk];by_cases he:i=s.length
 ·rw[Ze1 he];rfl
 ·rw[Zd1 he,A3j (by omega)];show cond (!Lp.isIn (bat s i)) (some (!Lp.isUp (bat s i))) (some false)=some (!Lp.isIn (bat s i) && !Lp.isUp (bat s i));cases Lp.isIn (bat s i)<;>rfl
theorem Bm4:FO 248 [.str,.int .i64] [.bool] Ayt :=.fin0 Bf3 λ(s,i) r hb hx=>by
 simp only[Ayt,Wv] at hx;split at hx
 ·rename_i h;exact(Bt2 s i h).trans hx
 ·cases hx
def Agi:Sig:=⟨46,[(0,.str),(2,.int .i64),(3,.bool),(4,.int .i64),(11,.int .i64),(12,.int .i64)],[],[],0,0,0,[],[]⟩
abbrev P0:=Str×Int×Bool×Int×Int×Int
def Mw{R:Type}(rec:P0->Option R)(kx:Ex->P0->Option R)(v:P0):Option R:=match v with
 |(v,v1,v2,v3,v4,v5) =>
 cond (decide (v5<v4)) (
  chk (inb v5 v.length) (
  cond (!decide ((Tn v3 10).2=0)) (
   kx .ret (v,0,false,v3,v4,v5)) (
   cond (!decide ((Wp ((Tn v3 10).1) (wr .i64 (wr .u8 ((bat v v5)-48)))).2=0)) (
   kx .ret (v,0,false,v3,v4,v5)) (
   rec (v,v1,v2,(Wp ((Tn v3 10).1) (wr .i64 (wr .u8 ((bat v v5)-48)))).1,v4,(wr .i64 (v5+1))))))) (
  kx (.exit 0) (v,v1,v2,v3,v4,v5))
def Aq5(R:Type)(k:Nat):Px R:=pxO [(230,cA A47),(228,cA A8u)] [] [(3,Am k Agi (Mw))] []
def Afd(k:Nat)(x:HV [.str]):Option (HV [.int .i64,.bool]):=match x with
 |s =>
 Al (λrec=>Mw rec (λe vz=>match vz with|(v6,v7,v8,v9,_,_)=>match e with
  |.ret =>
  some (v7,v8)
  |.exit 0 =>
  cond (decide (v6=[48])) (
   some (v9,true)) (
   chk (inb 0 v6.length) (
   some (v9, !decide ((bat v6 0)=48))))
  |_=>none)) k (s,0,false,0,(s.length:Int),0)
theorem A8w(k:Nat):FO 249 [.str] [.int .i64,.bool] (Afd k):=fR (px:=Aq5 _ k) (n:=1) Tryz.func249 rfl (λcx H=>by have h0:Lv cx (Aq5 (HV [.int .i64,.bool]) k):=lv H (c1 H Bbi (c1 H Baz Ae)) Ab Aa;have hlnumber_0:=lO H h0 (b:=lp Tryz.f249 0) (k:=k) (n:=0) (s:=Agi) (step:=Mw) (λ_ _ _ (_,_,_,_,_,_)=>by kernel_rfl) Ah;exact⟨h0,(A5 Ah hlnumber_0)⟩) λ_=>by kernel_rfl
def Bnj(s:Str):Int×Bool:=match Lp.numGo s 0 with|some n=>(n,decide (s=[48]) || !decide (bat s 0=48))|none=>(0,false)
def Awt(s:Str):Option (Int×Bool):=match s with|[]=>none|_=>some (Bnj s)
def Ani:FT [.str] [.int .i64,.bool]:=λx=>Awt x
theorem Agp{R:Type}{kx:Ex->P0->Option R}{s:Str}{c:Option Int->Option R}(hs:ln s.length)(h1:∀n j,kx .ret (s,0,false,n,(s.length:Int),j)=c none)(h2:∀q r n j,kx (.exit 0) (s,q,r,n,(s.length:Int),j)=c (some n)):∀(k i:Nat) (q:Int) (r:Bool) (n:Int),inI n->i<=s.length->s.length-i<k->Al (λrec=>Mw rec kx) k (s,q,r,n,(s.length:Int),(i:Int))=c (Lp.numGo (s.drop i) n)
 |0,i,q,r,n,_,_,h=>absurd h (Zm1 _)
 |k+1,i,q,r,n,hn,hi,h=>by
  rw[Bb];by_cases hl:i<s.length
  ·have hd:=Lp.inI_dg (s[i].toNat:Int);have e10:inI (10:Int):=by simp only[inI];omega
   have em:=A4w hn e10;simp only[Mw,Aw hl,Ct hl,em];rw[Ze1 (show(i:Int)<(s.length:Int) by omega),Ak hl];simp only[Af,chk,Lp.numGo];by_cases hm:inI (n*10)
   ·have hm':=hm;simp only[inI] at hm';have ef:Ia (n*10)=(n*10,0):=by rw[Ia,if_pos hm']
    have ea:=A69 hm (show inI (wr .i64 (wr .u8 ((s[i].toNat:Int)-48))) from hd);simp only[ef,ea];by_cases hf:inI (n*10+Lp.dg (s[i].toNat:Int))
    ·have hf':=hf;simp only[inI] at hf';have eg:Ia (n*10+wr .i64 (wr .u8 ((s[i].toNat:Int)-48)))=(n*10+Lp.dg (s[i].toNat:Int),0):=by have hf2 : -9223372036854775808<=n*10+wr .i64 (wr .u8 ((s[i].toNat:Int)-48))/\n*10+wr .i64 (wr .u8 ((s[i].toNat:Int)-48))<=9223372036854775807:=hf';rw[Ia,if_pos hf2];rfl
     rw[eg,if_pos (show Lp.inI _/\Lp.inI _ from⟨hm,hf⟩)];have ih:=Agp hs h1 h2 k (i+1) q r (n*10+Lp.dg (s[i].toNat:Int)) hf (by omega) (by omega);rw[Au hl hs];exact ih
    ·have hf':=hf;simp only[inI] at hf';have eg:Ia (n*10+wr .i64 (wr .u8 ((s[i].toNat:Int)-48)))=(0,20):=by have hf2:¬(-9223372036854775808<=n*10+wr .i64 (wr .u8 ((s[i].toNat:Int)-48))/\n*10+wr .i64 (wr .u8 ((s[i].toNat:Int)-48))<=9223372036854775807):=hf';rw[Ia,if_neg hf2]
     rw[eg,if_neg (λh=>hf h.2)];exact h1 _ _
   ·have hm':=hm;simp only[inI] at hm';have ef:Ia (n*10)=(0,20):=by rw[Ia,if_neg hm']
    rw[if_neg (λh=>hm h.1)];simp only[ef];exact h1 _ _
  ·simp only[Mw,h2];rw[Zd1 (by omega),Zk1 (by omega)];rfl
theorem Bim:FO 249 [.str] [.int .i64,.bool] Ani :=.fin 0 A8w λs r hb hx=>⟨s.length+1,by
 simp only[Ani] at hx;cases s with
 |nil=>cases hx
 |cons b l =>
  have hx:some (Bnj (b::l))=some r:=hx;rw[<-hx];simp only[Afd];refine(Agp (s:=b::l) (c:=λo=>match o with|some n=>some (n,decide (b::l=[48]) || !decide (bat (b::l) 0=48))|none=>some (0,false)) hb (λ_ _=>rfl) (λ_ _ n _ =>?_) ((b::l).length+1) 0 0 false 0 (by simp[inI]) (Nat.zero_le _) (by omega)).trans ?_
  ·show cond (decide (b::l=[48])) (some (n,true)) (chk (inb 0 (b::l).length) (some (n, !decide (bat (b::l) 0=48))))=_;rw[A3j (by simp only[Zf1];omega)];cases decide (b::l=[48])<;>rfl
  ·simp only[Zq1,Bnj];cases Lp.numGo (b::l) 0<;>rfl⟩
def Ag0:Sig:=⟨40,[(0,.str),(4,.str),(5,.int .i64),(6,.sl .byte true),(7,.int .i64)],[],[],0,0,0,[],[]⟩
abbrev Pp:=Str×Str×Int×List UInt8×Int
def Nm{R:Type}(rec:Pp->Option R)(kx:Ex->Pp->Option R)(v:Pp):Option R:=match v with
 |(v,v1,v2,v3,v4) =>
 cond (decide (v4<(v.length:Int))) (
  chk (inb v4 v.length) (
  cond (decide ((bat v v4)=39)) (
   cond (decide ((wr .i64 (v4+1))=(v.length:Int))) (
   kx .ret (v,v3,(wr .i64 (v4+1)),v3,(wr .i64 (v4+1)))) (
   chk (inb (wr .i64 (v4+1)) v.length) (
    cond (!decide ((bat v (wr .i64 (v4+1)))=39)) (
    kx .ret (v,v3,(wr .i64 (v4+1)),v3,(wr .i64 (v4+1)))) (
    chk (inb (wr .i64 (v4+1)) v.length) (
     chk (decide (v3.length+1<=Ao)) (
     rec (v,v1,v2,(v3++[(UInt8.ofNat ((bat v (wr .i64 (v4+1))):Int).toNat)]),(wr .i64 ((wr .i64 (v4+1))+1))))))))) (
   chk (inb v4 v.length) (
   chk (decide (v3.length+1<=Ao)) (
    rec (v,v1,v2,(v3++[(UInt8.ofNat ((bat v v4):Int).toNat)]),(wr .i64 (v4+1)))))))) (
  kx (.exit 0) (v,v1,v2,v3,v4))
def Atz(R:Type)(k:Nat):Px R:=pxO [] [] [(3,Am k Ag0 (Nm))] []
def Agn(k:Nat)(x:HV [.str,.int .i64]):Option (HV [.str,.int .i64]):=match x with
 |(s,i) =>
 Al (λrec=>Nm rec (λe vz=>match vz with|(_,v6,v7,_,_)=>match e with
  |.ret =>
  some (v6,v7)
  |.exit 0 =>
  some ([],(-1))
  |_=>none)) k (s,[],0,[],i)
theorem A62(k:Nat):FO 250 [.str,.int .i64] [.str,.int .i64] (Agn k):=fR (px:=Atz _ k) (n:=1) Tryz.func250 rfl (λcx H=>by have h0:Lv cx (Atz (HV [.str,.int .i64]) k):=lv H Ae Ab Aa;have hlquoted_0:=lO H h0 (b:=lp Tryz.f250 0) (k:=k) (n:=0) (s:=Ag0) (step:=Nm) (λ_ _ _ (_,_,_,_,_)=>by kernel_rfl) Ah;exact⟨h0,(A5 Ah hlquoted_0)⟩) λ(_,_)=>by kernel_rfl
def Aw1(s:Str)(i:Int):Option (Str×Int):=if 0<=i/\i<=s.length/\s.length<=1000000 then some (Lp.qGo (s.drop i.toNat) [] i) else none
def Ao4:FT [.str,.int .i64] [.str,.int .i64]:=λx=>Aw1 x.1 x.2
theorem Anm(b:UInt8):UInt8.ofNat ((b.toNat:Int)).toNat=b:=by simp
theorem R8{R:Type}{kx:Ex->Pp->Option R}{s:Str}{c:Str×Int->Option R}(hs:s.length<=1000000)(h1:∀a j,kx .ret (s,a,j,a,j)=c (a,j))(h2:∀q r a j,kx (.exit 0) (s,q,r,a,j)=c ([], -1)):∀(k i:Nat) (q:Str) (r:Int) (a:Str),a.length<=i->i<=s.length->s.length-i<k->Al (λrec=>Nm rec kx) k (s,q,r,a,(i:Int))=c (Lp.qGo (s.drop (i:Int).toNat) a i)
 |0,i,q,r,a,_,_,h=>absurd h (Zm1 _)
 |k+1,i,q,r,a,ha,hi,h=>by
  rw[Bb];by_cases hl:i<s.length
  ·have hln:ln s.length:=by simp only[ln];omega
   have ea:decide (a.length+1<=Ao)=true:=Ze1 (by simp only[Ao];omega);have eb:Sx.byt s (i:Int)=(s[i].toNat:Int):=Ct hl;simp only[Nm,Aw hl,Au hl hln,Ct hl,ea,Anm];rw[Ze1 (show(i:Int)<(s.length:Int) by omega)];simp only[Af,chk];by_cases h39:(s[i].toNat:Int)=39
   ·rw[Ze1 h39,Af];by_cases he:i+1=s.length
    ·rw[Ze1 (show((i+1:Nat):Int)=(s.length:Int) by omega),Af,h1,Lp.q_last (by omega) (by omega) (eb.trans h39)];rfl
    ·have hl2:i+1<s.length:=by omega
     have eb2:Sx.byt s ((i:Int)+1)=(s[i+1].toNat:Int):=Ct hl2;rw[Zd1 (show ¬((i+1:Nat):Int)=(s.length:Int) by omega),Aw hl2,Ag];simp only[Af,Ct hl2,Anm];by_cases h3:(s[i+1].toNat:Int)=39
     ·have ih:=R8 hs h1 h2 k (i+1+1) q r (a++[s[i+1]]) (by simp only[Zh1,Zf1,Zi1];omega) (by omega) (by omega);have e39:s[i+1]=39:=by rw[<-UInt8.toNat_inj];exact Int.ofNat.inj h3
      rw[Ze1 h3,Lp.q_two (by omega) (by omega) (eb.trans h39) (eb2.trans h3),Au hl2 hln];simp only[Zt1,Ag];rw[ih,e39];rfl
     ·rw[Zd1 h3,Lp.q_close (by omega) (by omega) (eb.trans h39) (λe=>h3 (eb2.symm.trans e))];simp only[Zs1,Af,h1];rfl
   ·have ih:=R8 hs h1 h2 k (i+1) q r (a++[s[i]]) (by simp only[Zh1,Zf1,Zi1];omega) (by omega) (by omega);rw[Zd1 h39,Ag,ih,Lp.q_other (by omega) (by omega) (λe=>h39 (eb.symm.trans e))];have eg:s.getD (i:Int).toNat 0=s[i]:=by simp[List.getD_eq_getElem?_getD,hl]
    rw[eg];rfl
  ·simp only[Nm,h2];rw[Zd1 (by omega),Lp.q_end (by omega)];rfl
theorem Bja:FO 250 [.str,.int .i64] [.str,.int .i64] Ao4 :=.fin 0 A62 λ(s,i) r hb hx=>⟨s.length+1,by
 simp only[Ao4,Aw1] at hx;split at hx
 ·rename_i h;rw[<-hx];obtain⟨n,rfl⟩:=Int.eq_ofNat_of_zero_le h.1;simp only[Agn];exact R8 (c:=some) h.2.2 (λ_ _=>rfl) (λ_ _ _ _=>rfl) (s.length+1) n [] 0 [] (Nat.zero_le _) (by omega) (by omega)
 ·cases hx⟩
def Aps:Sig:=⟨19,[(0,.str),(2,.int .i64),(5,.sl .str true),(6,.int .i64),(7,.int .i64)],[],[],0,0,0,[],[]⟩
abbrev Aco:=Str×Int×List Str×Int×Int
def Axl{R:Type}(rec:Aco->Option R)(kx:Ex->Aco->Option R)(v:Aco):Option R:=match v with
 |(v,v1,v2,v3,v4) =>
 cond (decide (v4<v3)) (
  chk (inb v4 v2.length) (
  cond ((hpre v (at' .str v2 v4))) (
   kx .ret (v,2,v2,v3,v4)) (
   rec (v,v1,v2,v3,(wr .i64 (v4+1)))))) (
  kx (.exit 0) (v,v1,v2,v3,v4))
def A3i(R:Type)(k:Nat):Px R:=pxO [(244,cA A8s),(203,cA Ahx)] [] [(2,Am k Aps (Axl))] []
def Aow(k:Nat)(x:HV [.str]):Option (HV [.int .i64]):=match x with
 |s =>
 Al (λrec=>Axl rec (λe vz=>match vz with|(v5,v6,_,_,_)=>match e with
  |.ret =>
  some v6
  |.exit 0 =>
  chk (inb 0 v5.length) (
   cond (decide (0<=(Ks [40,41,44,42,61,60,62,43,45,59] (bat v5 0)))) (
   some 1) (
   some 0))
  |_=>none)) k (s,0,[[60,62],[60,61],[62,61]],3,0)
theorem Bhe(k:Nat):FO 251 [.str] [.int .i64] (Aow k):=fR (px:=A3i _ k) (n:=1) Tryz.func251 rfl (λcx H=>by have h0:Lv cx (A3i (HV [.int .i64]) k):=lv H (c1 H Bc5 (c1 H Amv Ae)) Ab Aa;have hllsign_0:=lO H h0 (b:=lp Tryz.f251 0) (k:=k) (n:=0) (s:=Aps) (step:=Axl) (λ_ _ _ (_,_,_,_,_)=>by kernel_rfl) Ah;exact⟨h0,(A5 Ah hllsign_0)⟩) λ_=>by kernel_rfl
def Bnf(s:Str):Option Int:=match s with|[]=>none|_=>some (Lp.signF s)
def Avx:FT [.str] [.int .i64]:=λx=>Bnf x
theorem Bp6:FO 251 [.str] [.int .i64] Avx :=.fin 0 Bhe λs r hb hx=>⟨4,by
 simp only[Avx] at hx;cases s with
 |nil=>cases hx
 |cons b l =>
  have hx:some (Lp.signF (b::l))=some r:=hx;rw[<-hx];have e0:inb 0 (b::l).length=true:=A3j (by simp only[Zf1];omega);have e1:hpre (b::l) [60,62]=Lp.pre (b::l) [60,62]:=rfl;have e2:hpre (b::l) [60,61]=Lp.pre (b::l) [60,61]:=rfl;have e3:hpre (b::l) [62,61]=Lp.pre (b::l) [62,61]:=rfl;have ei:Ks [40,41,44,42,61,60,62,43,45,59] (bat (b::l) 0)=Lib.indexByte Lp.signs (Sx.byt (b::l) 0).toNat.toUInt8:=rfl;simp only[Aow,Lp.signF,<-ei,<-e1,<-e2,<-e3];show cond (hpre (b::l) [60,62]) (some 2) (cond (hpre (b::l) [60,61]) (some 2) (cond (hpre (b::l) [62,61]) (some 2) (chk (inb 0 (b::l).length) (cond (decide (0<=Ks [40,41,44,42,61,60,62,43,45,59] (bat (b::l) 0))) (some 1) (some 0)))))=_;generalize Ks [40,41,44,42,61,60,62,43,45,59] (bat (b::l) 0)=z;rw[e0];by_cases hz : 0<=z
  ·rw[Ze1 hz,if_pos hz];cases hpre (b::l) [60,62]<;>cases hpre (b::l) [60,61]<;>cases hpre (b::l) [62,61]<;>rfl
  ·rw[Zd1 hz,if_neg hz];cases hpre (b::l) [60,62]<;>cases hpre (b::l) [60,61]<;>cases hpre (b::l) [62,61]<;>rfl⟩
def Bjd(R:Type):Px R:=pxO [] [] [] []
def R4(x:HV [.int .u8]):Option (HV [.int .u8,.bool]):=match x with
 |c =>
 let j:=λ(p1:Bool) =>
  cond (p1) (
  some ((wr .u8 (c-48)),true)) (
  cond (decide (97<=c)) (
   cond (decide (c<=102)) (
   some ((wr .u8 ((wr .u8 (c-97))+10)),true)) (
   some (0,false))) (
   some (0,false)))
 cond (decide (48<=c)) (
  j (decide (c<=57))) (
  j false)
theorem A81:FO 271 [.int .u8] [.int .u8,.bool] (R4):=fR (px:=Bjd _) (n:=0) Tryz.func271 rfl (λ_ H=>⟨lv H Ae Ab Aa,Ah⟩) λ_=>by kernel_rfl
def O8(c:Int):Int×Bool :=
 let j:=λ(p1:Bool) =>
  cond (p1) (
  ((wr .u8 (c-48)),true)) (
  cond (decide (97<=c)) (
   cond (decide (c<=102)) (
   ((wr .u8 ((wr .u8 (c-97))+10)),true)) (
   (0,false))) (
   (0,false)))
 cond (decide (48<=c)) (
  j (decide (c<=57))) (
  j false)
theorem A6l(x:HV [.int .u8]):R4 x=some (O8 x):=by
 first
  |exact rfl
  |simp only[R4,O8,A0]
def A0r:FT [.int .u8] [.int .u8,.bool]:=λx=>some (O8 x)
theorem Bic:FO 271 [.int .u8] [.int .u8,.bool] A0r :=.fin0 A81 λx _ _ hx=>(A6l x).trans hx
def Bv4(c:Int):Int×Bool:=match Lp.hexD c with|some n=>(n,true)|none=>(0,false)
theorem A5v:((List.range 256).all λn=>decide (O8 (n:Int)=Bv4 (n:Int)))=true:=by kernel_rfl
theorem Bgh(b:UInt8):O8 (b.toNat:Int)=Bv4 (b.toNat:Int):=by have h:=Zg2.1 A5v b.toNat (List.mem_range.2 b.toNat_lt);exact of_decide_eq_true h
def Anl:Sig:=⟨49,[(0,.str),(2,.sl .byte true),(3,.int .i64),(4,.sl .byte true),(5,.int .i64)],[],[],0,0,0,[],[]⟩
abbrev Va:=Str×List UInt8×Int×List UInt8×Int
def Wj{R:Type}(rec:Va->Option R)(kx:Ex->Va->Option R)(v:Va):Option R:=match v with
 |(v,v1,v2,v3,v4) =>
 cond (decide (v4<(v.length:Int))) (
  chk (inb v4 v.length) (
  chk (inb (wr .i64 (v4+1)) v.length) (
   cond (!((O8 (bat v v4)).2)) (
   kx .ret (v,[],11,v3,v4)) (
   cond (!((O8 (bat v (wr .i64 (v4+1)))).2)) (
    kx .ret (v,[],11,v3,v4)) (
    chk (decide (v3.length+1<=Ao)) (
    rec (v,v1,v2,(v3++[(UInt8.ofNat ((ior .u8 (Bjb .u8 ((O8 (bat v v4)).1) 4) ((O8 (bat v (wr .i64 (v4+1)))).1)):Int).toNat)]),(wr .i64 (v4+2))))))))) (
  kx (.exit 0) (v,v1,v2,v3,v4))
def A3a(R:Type)(k:Nat):Px R:=pxO [(271,cA A0r)] [] [(5,Am k Anl (Wj))] []
def Aot(k:Nat)(x:HV [.str]):Option (HV [.sl .byte true,.int .i64]):=match x with
 |s =>
 cond (!decide ((Int.tmod (s.length:Int) 2)=0)) (
  some ([],11)) (
  Al (λrec=>Wj rec (λe vz=>match vz with|(_,v6,v7,v8,_)=>match e with
  |.ret =>some (v6,v7)
  |.exit 0 =>some (v8,0)
  |_=>none)) k (s,[],0,[],0))
theorem Bjc(k:Nat):FO 245 [.str] [.sl .byte true,.int .i64] (Aot k):=fR (px:=A3a _ k) (n:=1) Tryz.func245 rfl (λcx H=>by have h0:Lv cx (A3a (HV [.sl .byte true,.int .i64]) k):=lv H (c1 H Bic Ae) Ab Aa;have hlunhex_0:=lO H h0 (b:=lp Tryz.f245 0) (k:=k) (n:=0) (s:=Anl) (step:=Wj) (λ_ _ _ (_,_,_,_,_)=>by kernel_rfl) Ah;exact⟨h0,(A5 Ah hlunhex_0)⟩) λ_=>by kernel_rfl
def unP(s:Str):Str×Int:=match(if s.length % 2=0 then Lp.unGo s [] else none) with|some b=>(b,0)|none=>([],11)
def Bba(s:Str):Option (Str×Int):=if s.length<=1000000 then some (unP s) else none
def Ayu:FT [.str] [.sl .byte true,.int .i64]:=λx=>Bba x
theorem Ai3{R:Type}{kx:Ex->Va->Option R}{s:Str}{c:Option Str->Option R}(hs:s.length<=1000000)(h1:∀a j,kx .ret (s,[],11,a,j)=c none)(h2:∀q r a j,kx (.exit 0) (s,q,r,a,j)=c (some a)):∀(k i:Nat) (q:Str) (r:Int) (a:Str),a.length<=i->i<=s.length->(s.length-i) % 2=0->s.length-i<k->Al (λrec=>Wj rec kx) k (s,q,r,a,(i:Int))=c (Lp.unGo (s.drop (i:Int).toNat) a)
 |0,i,q,r,a,_,_,_,h=>absurd h (Zm1 _)
 |k+1,i,q,r,a,ha,hi,hev,h=>by
  rw[Bb];by_cases hl:i<s.length
  ·have hl2:i+1<s.length:=by omega
   have hln:ln s.length:=by simp only[ln];omega
   have ea:decide (a.length+1<=Ao)=true:=Ze1 (by simp only[Ao];omega);have eb:Sx.byt s (i:Int)=(s[i].toNat:Int):=Ct hl;have eb2:Sx.byt s ((i:Int)+1)=(s[i+1].toNat:Int):=Ct hl2;have ew:wr .i64 ((i:Int)+2)=((i+1+1:Nat):Int):=by rw[Bf (by simp only[inI];omega)];omega
   simp only[Wj,Aw hl,Au hl hln,Ct hl,Ct hl2,Aw hl2,ea,ew,Bgh];rw[Ze1 (show(i:Int)<(s.length:Int) by omega),Lp.un_step (by omega) (by omega),eb,eb2];simp only[Af,chk,Bv4];cases hx:Lp.hexD (s[i].toNat:Int) with
   |none=>exact h1 _ _
   |some x =>cases hy:Lp.hexD (s[i+1].toNat:Int) with|none=>exact h1 _ _|some y =>have ih:=Ai3 hs h1 h2 k (i+1+1) q r (a++[UInt8.ofNat (x*16+y).toNat]) (by simp only[Zh1,Zf1,Zi1];omega) (by omega) (by omega) (by omega);have ej:ior .u8 (Bjb .u8 x 4) y=_:=Lp.joinhex' (Lp.hexD_lt hx) (Lp.hexD_lt hy);simp only[Zt1,Ag,ej,Anm];exact ih
  ·simp only[Wj,h2];rw[Zd1 (by omega),Zk1 (by omega)];rfl
theorem Bkg:FO 245 [.str] [.sl .byte true,.int .i64] Ayu :=.fin 0 Bjc λs r hb hx=>⟨s.length+1,by
 simp only[Ayu,Bba] at hx;split at hx
 ·rename_i h;rw[<-hx];have et:Int.tmod (s.length:Int) 2=((s.length % 2:Nat):Int):=rfl;simp only[Aot,et,unP];by_cases h2:s.length % 2=0
  ·rw[Ze1 (show((s.length % 2:Nat):Int)=0 by omega),if_pos h2,Zt1,Ag];refine(Ai3 (c:=λo=>match o with|some b=>some (b,(0:Int))|none=>some ([],11)) h (λ_ _ =>?_) (λ_ _ _ _ =>?_) (s.length+1) 0 [] 0 [] (Nat.zero_le _) (Nat.zero_le _) h2 (by omega)).trans ?_
   ·rfl
   ·rfl
   simp only[Int.toNat_natCast,Zq1];cases Lp.unGo s []<;>rfl
  ·rw[Zd1 (show ¬((s.length % 2:Nat):Int)=0 by omega),if_neg h2];rfl
 ·cases hx⟩
def Bo2(R:Type):Px R:=pxO [(41,cA A5p)] [] [] []
def Yy(x:HV [.str]):Option (HV [.bool]):=match x with
 |s =>
 some (A0a wordsL s)
theorem Bfa:FO 247 [.str] [.bool] (Yy):=fR (px:=Bo2 _) (n:=0) Tryz.func247 rfl (λ_ H=>⟨lv H (c1 H A90 Ae) Ab Aa,Ah⟩) λ_=>by kernel_rfl
def Auf(s:Str):Bool :=(A0a wordsL s)
theorem Bdh(x:HV [.str]):Yy x=some (Auf x):=by
 first
  |exact rfl
  |simp only[Yy,Auf,A0]
def Bc7:FT [.str] [.bool]:=λx=>some (Auf x)
theorem Bm2:FO 247 [.str] [.bool] Bc7 :=.fin0 Bfa λx _ _ hx=>(Bdh x).trans hx
theorem Boj(s:Str):Auf s=Lp.wordF s:=Ba8 wordsL s
end Go.Proofs.YtbkinkalnmbpjaaGreatDoor
