/- Texts of the proof,one behind the other: Kr,Zk,Zl,Fe,Ob,Oq,Zw,Da,Db,Oc,Ora,Od,Oe,Oi,Oj,Ok,Ol,Om,Oh,On,Ooa,Oo,Or,Rv,Ty2,Ni,Nod,Sea,Tri,Trp,Sto,Trb,Tc,Td. -/
import Derived.Test.YtcoaaebppfbbnaaGreatDoorV6
import Derived.Lib.Walk
import Derived.Lib.BytesEntry
import Derived.Laws.Externs
set_option linter.all false
open List renaming length->I,replicate->eK,range->dy,mem_append->fM,getElem_mem->fo,mem_cons->ek
open Option renaming some->J,none->ah
open Bool renaming true->ae,false->ai
open Decidable renaming decide->aa
open Go.Sem renaming run_bind->dG
open UInt8 renaming ofNat->bj
open Nat renaming ble->dz,le_trans->e2,zero_le->cp
open BitVec renaming ofInt->fO
open Go renaming Value->aA,IntKind->b',Oper->bw,World->aK,maxLen->c5,Program->cx
namespace Go
theorem w7{p:Prop}(h:p:=by simp only[da];omega):p:=h
theorem lr{p:Prop}(h:p:=by simp only[b5];omega):p:=h
theorem lW{p:Prop}(h:p:=by simp[da];omega):p:=h
theorem w8{p:Prop}(h:p:=by rw[ht (by simp only[da];omega)];rfl):p:=h
theorem AR{p:Prop}(h:p:=by simp only[jQ,bx,dM];omega):p:=h
theorem PC{p:Prop}(h:p:=by simp only[bJ,dc,List.length_singleton];omega):p:=h
theorem Ge{p:Prop}(h:p:=by simp only[upto,dc,bx,dM];omega):p:=h
theorem Gf{p:Prop}(h:p:=by simp only[upto,dm,bx,dM];omega):p:=h
theorem xb{p:Prop}(h:p:=by simp only[dm];omega):p:=h
theorem aev{p:Prop}(h:p:=by simp only[wL,aY (show I v.s<=68719476736 by omega),a8]):p:=h
theorem PE{p:Prop}(h:p:=by rw[nn,aW]at h;simp[je]at h;omega):p:=h
theorem PF{p:Prop}(h:p:=by rw[nn,b]at h;simp[je]at h;omega):p:=h
theorem PG{p:Prop}(h:p:=by rw[ht (by simp[da];omega)];omega):p:=h
theorem PH{p:Prop}(h:p:=by simp only[iJ,bx,dM];omega):p:=h
theorem GE{p:Prop}(h:p:=by rw[o]at h;simp only[je]at h;omega):p:=h
theorem PJ{p:Prop}(h:p:=by simp only[bx,dM];omega):p:=h
theorem PK{p:Prop}(h:p:=by simp only[bJ,ib];omega):p:=h
theorem Gq{p:Prop}(h:p:=by rw[aeX];simp;omega):p:=h
theorem Gw{p:Prop}(h:p:=by simpa using h2):p:=h
end Go
namespace Go
theorem Kt{p:Prop}(h:p:=by exact⟨_,_,rfl,.inr ⟨rfl,rfl⟩⟩):p:=h
theorem adW{p:Prop}(h:p:=by refine hH.2 ⟨λe=>UInt8.toNat_inj.1 ag,λe=>by rw[e]⟩):p:=h
end Go
namespace Go.dS
variable{P:cx}{t:hY}{w:aK}
theorem Rx{S:g7}{l:ar}{v:aA}(h:eI S w (.sl .byte l t) v):(Extern.Bytes.bytesOf v).run P w = .ok ⟨l.toArray⟩ w:=by
 obtain⟨a,cap,rfl,c⟩:=h.here.slice;cases l with
 |nil=>cases a<;>simp[Extern.Bytes.bytesOf,Extern.Bytes.loadBytes,go_sem]<;>rfl
 |cons x l=>
  rcases c with h|⟨b,o,rfl,_,d⟩
  .cases h
  .have f:=Lib.run_loadBytesX (P:=P) w ((x::l).map λb=>(b.toNat:Int)) ⟨b,o,ah⟩ .empty (λj y g=>by rw[List.getElem?_map]at g;obtain⟨z,i,rfl⟩:=Option.map_eq_some_iff.1 g;obtain⟨u,k,c⟩:=d j z i 0 (.int .u8 (z.toNat:Int)) rfl;cases c;rw[aw.hI];simpa[aL]using k)
   have e:Lib.bytesOf ((x::l).map λb=>(b.toNat:Int))=x::l:=by simp[Lib.bytesOf,Function.comp_def]
   rw[e,List.length_map]at f;simp only[Extern.Bytes.bytesOf,f];congr 1;apply ByteArray.ext;simp
theorem apP{S:g7}{l:ar}{v:aA}(h:eI S w (.sl .byte l t) v)(c:Int):(Extern.BytealgCount.count #[v,.int .u8 c]).run P w = .ok (.int .i64 (Lib.countByte l c.toNat.toUInt8)) w:=by
 have a:=Lib.run_countString (P:=P) ⟨l.toArray⟩ c w;have aj:=Rx (P:=P) h;change Sem.run P (do
  let b <-Extern.Bytes.bytesOf v;let cj <-Extern.Bytes.asByte (.int .u8 c)
  pure (goInt (b.foldl (λn x=>if x == cj then n+1 else n) (0:Nat)))) w=_
 change Sem.run P (do
  let b <-Extern.Bytes.bytesOf (.string ⟨l.toArray⟩);let cj <-Extern.Bytes.asByte (.int .u8 c)
  pure (goInt (b.foldl (λn x=>if x == cj then n+1 else n) (0:Nat)))) w=_ at a
 rw[dG]at a ⊢;rw[aj];exact a
theorem aru{S:g7}{l:ar}{v:aA}(h:eI S w (.sl .byte l t) v)(c:Int):(Extern.BytealgIndexByte.indexByte #[v,.int .u8 c]).run P w = .ok (.int .i64 (Lib.indexByte l c.toNat.toUInt8)) w:=by
 have a:=Lib.run_indexByteString (P:=P) ⟨l.toArray⟩ c w;have aj:=Rx (P:=P) h;change Sem.run P (do
  let b <-Extern.Bytes.bytesOf v;let cj <-Extern.Bytes.asByte (.int .u8 c);match(dy b.size).find? λi=>b[i]! == cj with
  |some i=>pure (goInt i)
  |none=>pure (goInt (-1))) w=_
 change Sem.run P (do
  let b <-Extern.Bytes.bytesOf (.string ⟨l.toArray⟩);let cj <-Extern.Bytes.asByte (.int .u8 c);match(dy b.size).find? λi=>b[i]! == cj with
  |some i=>pure (goInt i)
  |none=>pure (goInt (-1))) w=_ at a
 rw[dG]at a ⊢;rw[aj];exact a
end Go.dS
namespace Go.Proofs.YtcoaaebppfbbnaaGreatDoor
open Go.dS
def CX(s a:ar):af Int:=match a with|[c]=>J (Lib.countByte s c)|_=>ah
def MR:bb [aC,aC] [aq]:=λx=>CX x.1 x.2
theorem apU:aN 207 [aC,aC] [aq] MR:=by
 refine⟨aw.ga Tryz.func207 rfl b0,λx r j w M vs z k t=>?_⟩;obtain⟨s,d⟩:=x;obtain⟨c,rfl⟩:∃c,d=[c]:=by
  cases d with
  |nil=>cases j
  |cons c ayO=>cases ayO with|nil=>exact⟨c,rfl⟩|cons _ _=>cases j
 simp only[MR,CX,c4]at j;subst j;simp only[en,eT,aX,aB]at t;obtain⟨u,us,rfl,⟨h1,_⟩,v,aJ,rfl,⟨h2,_⟩,rfl⟩:=t;have h1:eI (v0 gP M w).S w (.sl .byte s .no) u:=h1;have h2:eI (v0 gP M w).S w (.sl .byte [c] .no) v:=h2;have walk:Calls Tryz.prog 207 #[u,v] w λe w'=>e = .returned (.int .i64 (Lib.countByte s c))/\w' = w:=by
  have b:=apP (P:=Tryz.prog) h1 (c.toNat:Int);have cF:(Int.toNat (c.toNat:Int)).toUInt8=c:=by simp
  rw[cF]at b;obtain⟨a2,y,rfl,l⟩:=h2.here.slice;rcases l with h|⟨dF,dq,rfl,_,f⟩
  .cases h
  obtain⟨q,i,cA⟩:=f 0 c rfl 0 (.int .u8 (c.toNat:Int)) rfl;cases cA;have i:w.cell? ⟨dF,dq,ah⟩=J (.int .u8 (c.toNat:Int)):=Gz
  obtain⟨a,cap,rfl,_⟩:=h1.here.slice;have m:=follows;have t0:=Tryz.underlying5;simp only[List.length_singleton];clear h1 h2 f z k
  set_option maxRecDepth 100000 in go_enter Tryz.func207,Tryz.ntmps207
  set_option maxRecDepth 100000 in go_wp2
  rw[run_callFunc_extern Tryz.func243 b0 b0 b0 (e:=Extern.BytealgCount.count) b0,b];simp only[Result.andThen];rw[bw.upon_value]
  set_option maxRecDepth 100000 in go_wp2
  go_ret
  exact⟨rfl,rfl⟩
 refine Calls.mono walk ?_;rintro dv w' ⟨rfl,rfl⟩;refine⟨_,⟨λ_=>0,λ_=>Option.none⟩,rfl,bF.refl _ _,λp g o n=>(by simp[c8]at n),λp q g o dq n=>(by simp[c8]at n),?_⟩;simp only[hl,en,eT,aB];have bB:Lib.countByte s c<=I s:=List.count_le_length;have cG:=h1.here.len;exact⟨trivial,sb (e2 bB cG)⟩
theorem aur(l:ar)(c:UInt8) : -1<=Lib.indexByte l c/\Lib.indexByte l c<=I l:=by
 induction l with
 |nil=>simp[Lib.indexByte]
 |cons b l a=>
  simp only[Lib.indexByte,dm];split
  .omega
  .split<;>omega
def vR(s:ar)(c:Int):Int:=Lib.indexByte s c.toNat.toUInt8
def Nm:bb [aC,.int .u8] [aq]:=λx=>J (vR x.1 x.2)
theorem apH:aN 244 [aC,.int .u8] [aq] Nm:=by
 refine⟨aw.ga Tryz.func244 rfl b0,λx r i w M vs k d j=>?_⟩;obtain⟨s,c⟩:=x;simp only[Nm,c4]at i;subst i;simp only[en,eT,aX,aB]at j;obtain⟨u,us,rfl,⟨h1,_⟩,m,l,rfl,⟨rfl,_⟩,rfl⟩:=j;have h1:eI (v0 gP M w).S w (.sl .byte s .no) u:=h1;have walk:Calls Tryz.prog 244 #[u,.int .u8 c] w λe w'=>e = .returned (.int .i64 (vR s c))/\w' = w:=by
  have b:=aru (P:=Tryz.prog) h1 c;obtain⟨a,cap,rfl,_⟩:=h1.here.slice;have f:=follows;clear h1 k d
  set_option maxRecDepth 100000 in go_enter Tryz.func244,Tryz.ntmps244
  set_option maxRecDepth 100000 in go_wp2
  rw[run_callFunc_extern Tryz.func274 b0 b0 b0 (e:=Extern.BytealgIndexByte.indexByte) b0,b];simp only[Result.andThen];rw[bw.upon_value]
  set_option maxRecDepth 100000 in go_wp2
  go_ret
  exact⟨rfl,rfl⟩
 refine Calls.mono walk ?_;rintro dv w' ⟨rfl,rfl⟩;refine⟨_,⟨λ_=>0,λ_=>Option.none⟩,rfl,bF.refl _ _,λp g o h=>(by simp[c8]at h),λp q g o dq h=>(by simp[c8]at h),?_⟩;simp only[hl,en,eT,aB];have n:=h1.here.len;refine⟨trivial,zF ?_⟩;have aj:=aur s c.toNat.toUInt8;have hm:c5=9223372036854775807:=rfl;simp only[b'.min,b'.max,b'.signed,b'.bits,vR];simp only[if_true];omega
def atz(R:Type):aM R:=bp [(244,bg Nm)] [] [] []
def ana(x:au [aC,aC]):af (au [aq]):=match x with|(s,sep)=>cond (aa ((I sep:Int)=0)) (J 0) (cond (aa ((I sep:Int)=1)) (ax (aU 0 (I sep)) (J (vR s ((at' .byte sep 0).toNat:Int)))) (cond (aa ((I sep:Int)=(I s:Int))) (ah) (cond (aa ((I s:Int)<(I sep:Int))) (J (-1)) (ah))))
theorem ao9:aN 208 [aC,aC] [aq] (ana):=bX (px:=atz _) (n:=2) Tryz.func208 rfl (λ_ H=>⟨br H (c1 H apH bm) bo bq,(cm (cm aP (Y1 (λ_ _=>by kernel_rfl))) (Y1 (λ_ _=>by kernel_rfl)))⟩) λ(_,_)=>by kernel_rfl
def FQ(s a:ar):af Int:=match a with|[c]=>J (Lib.indexByte s c)|_=>ah
def aaG:bb [aC,aC] [aq]:=λx=>FQ x.1 x.2
theorem aju:aN 208 [aC,aC] [aq] aaG:=.de ao9 λ(s,a) r _ b=>by
 obtain⟨c,rfl⟩:∃c,a=[c]:=by
  cases a with
  |nil=>cases b
  |cons c d=>cases d with|nil=>exact⟨c,rfl⟩|cons _ _=>cases b
 rw[<-b];show(J (vR s ((at' .byte [c] 0).toNat:Int)):af Int)=J (Lib.indexByte s c);simp[vR,at']
def cT(s:ar):ar:=s.flatMap λb=>if b=0 then [0,255]else [b]
theorem Ev:cT []=[]:=rfl
theorem G6(a b:ar):cT (a++b)=cT a++cT b:=by simp[cT]
theorem qw(l:ar):cT (0::l)=0::255::cT l:=by simp[cT]
theorem nu{b:UInt8}(h:b≠0)(l:ar):cT (b::l)=b::cT l:=by simp[cT,h]
theorem C1:∀{a:ar},(0:UInt8)∉a->cT a=a
 |[],_=>rfl
 |b::a,h=>by simp only[ek,not_or]at h;rw[nu (Ne.symm h.1),C1 h.2]
theorem yI(s:ar):I (cT s)=I s+s.count 0:=by
 induction s with
 |nil=>rfl
 |cons b s a=>
  by_cases h:b=0
  .subst h;rw[qw];simp only[dm,a,List.count_cons_self];omega
  .rw[nu h,List.count_cons_of_ne h];simp only[dm,a];omega
theorem Vm:∀{l:ar},0<l.count 0->∃a b,l=a++0::b/\(0:UInt8)∉a/\Lib.indexByte l 0=(I a:Int)/\l.count 0=b.count 0+1
 |[],h=>by simp at h
 |x::l,h=>by
  by_cases c:x=0
  .subst c;exact⟨[],l,rfl,by simp,by simp[Lib.indexByte],by simp⟩
  .rw[List.count_cons_of_ne c]at h;obtain⟨a,b,e,h1,h2,h3⟩:=Vm h;refine⟨x::a,b,by rw[e];rfl,by simp[h1,Ne.symm c],?_,by rw[List.count_cons_of_ne c];exact h3⟩;have h4:¬(I a:Int) = -1:=ag
   simp[Lib.indexByte,c,h2,h4]
theorem Qr{α:Type}(xs:U α)(o:Nat)(l:U α)(h:o+I l<=I xs):(hR xs o l).take (o+I l)=xs.take o++l:=by
 have h1:I (xs.take o)=o:=dh
 simp only[hR];rw[<-fI,List.take_append_of_le_length dh];rw[List.take_of_length_le dh]
def Va:bt:=⟨132,[(0,.sl .byte ai),(2,.sl .byte ai),(11,.int .i64),(12,.int .i64),(88,.int .i64),(89,.int .i64)],[],[(0,.one (.e3 .byte))],1,0,0,[],[(10,0,.byte)]⟩
abbrev Mm:=U UInt8×U UInt8×Int×Int×Int×Int×U UInt8×Int×Int
def JD{R:Type}(_:Mm->af R)(kx:bf->Mm->af R)(v:Mm):af R:=match v with|(a,e,f,b,c,d,w3,c9,c7)=>cond (aa (d<c)) (ax (upto b (I a) (I a)) (ah)) (kx (.exit 2) (a,e,f,b,c,d,w3,c9,c7))
def VV:bt:=⟨132,[(0,.sl .byte ai),(1,.sl .byte ai),(2,.sl .byte ai),(11,.int .i64),(12,.int .i64),(48,.int .i64),(49,.int .i64)],[],[(0,.one (.e3 .byte))],1,0,0,[],[(10,0,.byte)]⟩
abbrev xw:=U UInt8×U UInt8×U UInt8×Int×Int×Int×Int×U UInt8×Int×Int
def uG{R:Type}(c:xw->af R)(kx:bf->xw->af R)(v:xw):af R:=match v with|(v,v1,v2,aD,a,a',v6,w,w1,w2)=>cond (aa (v6<a')) (ax (upto a (I v) (I v)) ((FQ (v.drop (a:Int).toNat) v1).bind λb=>ax (jQ aD w2 w2) (ax (upto a (wr .i64 (a+b)) (I v)) (ax (aa ((0:Int)<=(w1+aD))&&aa ((0:Int)<=(w2-aD))&&aa ((w1+aD)+(w2-aD)<=(I w:Int))) (ax (jQ (wr .i64 (aD+((min ((w2-aD):Int).toNat (I (cut v a (wr .i64 (a+b)))):Nat):Int))) w2 w2) (ax (aa ((0:Int)<=(w1+(wr .i64 (aD+((min ((w2-aD):Int).toNat (I (cut v a (wr .i64 (a+b)))):Nat):Int)))))&&aa ((0:Int)<=(w2-(wr .i64 (aD+((min ((w2-aD):Int).toNat (I (cut v a (wr .i64 (a+b)))):Nat):Int)))))&&aa ((w1+(wr .i64 (aD+((min ((w2-aD):Int).toNat (I (cut v a (wr .i64 (a+b)))):Nat):Int))))+(w2-(wr .i64 (aD+((min ((w2-aD):Int).toNat (I (cut v a (wr .i64 (a+b)))):Nat):Int))))<=(I (hR w ((w1+aD):Int).toNat ((cut v a (wr .i64 (a+b))).take ((w2-aD):Int).toNat)):Int))) (c (v,v1,v2,(wr .i64 ((wr .i64 (aD+((min ((w2-aD):Int).toNat (I (cut v a (wr .i64 (a+b)))):Nat):Int)))+((min ((w2-(wr .i64 (aD+((min ((w2-aD):Int).toNat (I (cut v a (wr .i64 (a+b)))):Nat):Int)))):Int).toNat (I v2):Nat):Int))),(wr .i64 ((wr .i64 (a+b))+(I v1:Int))),a',(wr .i64 (v6+1)),(hR (hR w ((w1+aD):Int).toNat ((cut v a (wr .i64 (a+b))).take ((w2-aD):Int).toNat)) ((w1+(wr .i64 (aD+((min ((w2-aD):Int).toNat (I (cut v a (wr .i64 (a+b)))):Nat):Int)))):Int).toNat (v2.take ((w2-(wr .i64 (aD+((min ((w2-aD):Int).toNat (I (cut v a (wr .i64 (a+b)))):Nat):Int)))):Int).toNat)),w1,w2)))))))) (kx (.exit 0) (v,v1,v2,aD,a,a',v6,w,w1,w2))
def RW(R:Type)(k:Nat):aM R:=bp [(207,bg MR),(208,bg aaG)] [] [(13,cq k VV (uG)),(21,cq k Va (JD))] []
def KO(k:Nat)(x:au [aC,aC,aC,aq]):af (au [.sl .byte ae]):=match x with
 |(s,gp,new,n)=>
 let lg:=λ(p:Int)=>
  cond (aa (p=0)) (
  ax (aa (0+I s<=bJ)) (
   J ([]++s))) (
  let y:=λ(p3:Int)=>
   ax (jQ 0 (wr .i64 ((I s:Int)+(wr .i64 (p3*(wr .i64 ((I new:Int)-(I gp:Int))))))) (wr .i64 ((I s:Int)+(wr .i64 (p3*(wr .i64 ((I new:Int)-(I gp:Int)))))))&&aa ((wr .i64 ((I s:Int)+(wr .i64 (p3*(wr .i64 ((I new:Int)-(I gp:Int)))))))<=(bJ:Int))) (
   let j:=λ(hs:U UInt8) (w:Int) (t:Int) (r:Int) (u:Int) (q:U UInt8)=>
    ax (jQ r t t) (
    ax (upto u (I hs) (I hs)) (
     ax (aa ((0:Int)<=(w+r))&&aa ((0:Int)<=(t-r))&&aa ((w+r)+(t-r)<=(I q:Int))) (
     ax (jQ 0 (wr .i64 (r+((min ((t-r):Int).toNat (I (hs.drop (u:Int).toNat)):Nat):Int))) t) (
      ax (aa (((w+0):Int)=0)&&aa ((0:Int)<((wr .i64 (r+((min ((t-r):Int).toNat (I (hs.drop (u:Int).toNat)):Nat):Int)))-0))&&aa (((wr .i64 (r+((min ((t-r):Int).toNat (I (hs.drop (u:Int).toNat)):Nat):Int)))-0)<=(I (hR q ((w+r):Int).toNat ((hs.drop (u:Int).toNat).take ((t-r):Int).toNat)):Int))) (
      J ((hR q ((w+r):Int).toNat ((hs.drop (u:Int).toNat).take ((t-r):Int).toNat)).take (((wr .i64 (r+((min ((t-r):Int).toNat (I (hs.drop (u:Int).toNat)):Nat):Int)))-0):Int).toNat))))))
   cond (aa (0<(I gp:Int))) (
    aT (λv=>uG v (λe z=>match z with|(bA,_,_,a,b,_,_,c,d,f)=>match e with
    |.exit 0=>j bA d f a b c
    |_=>ah)) k (s,gp,new,0,0,p3,0,(eK ((wr .i64 ((I s:Int)+(wr .i64 (p3*(wr .i64 ((I new:Int)-(I gp:Int))))))):Int).toNat (e6 .byte)),0,(wr .i64 ((I s:Int)+(wr .i64 (p3*(wr .i64 ((I new:Int)-(I gp:Int))))))))) (
    ax (jQ 0 (wr .i64 ((I s:Int)+(wr .i64 (p3*(wr .i64 ((I new:Int)-(I gp:Int))))))) (wr .i64 ((I s:Int)+(wr .i64 (p3*(wr .i64 ((I new:Int)-(I gp:Int)))))))) (
    ax (aa ((0:Int)<=0)&&aa ((0:Int)<=((wr .i64 ((I s:Int)+(wr .i64 (p3*(wr .i64 ((I new:Int)-(I gp:Int)))))))-0))&&aa (0+((wr .i64 ((I s:Int)+(wr .i64 (p3*(wr .i64 ((I new:Int)-(I gp:Int)))))))-0)<=(I (eK ((wr .i64 ((I s:Int)+(wr .i64 (p3*(wr .i64 ((I new:Int)-(I gp:Int))))))):Int).toNat (e6 .byte)):Int))) (
     aT (λv=>JD v (λe z=>match z with|(g,_,h,i,_,_,l,m,o)=>match e with
     |.exit 2=>j g m o h i l
     |_=>ah)) k (s,new,(wr .i64 (0+((min (((wr .i64 ((I s:Int)+(wr .i64 (p3*(wr .i64 ((I new:Int)-(I gp:Int)))))))-0):Int).toNat (I new):Nat):Int))),0,(wr .i64 (p3-1)),0,(hR (eK ((wr .i64 ((I s:Int)+(wr .i64 (p3*(wr .i64 ((I new:Int)-(I gp:Int))))))):Int).toNat (e6 .byte)) (0:Int).toNat (new.take (((wr .i64 ((I s:Int)+(wr .i64 (p3*(wr .i64 ((I new:Int)-(I gp:Int)))))))-0):Int).toNat)),0,(wr .i64 ((I s:Int)+(wr .i64 (p3*(wr .i64 ((I new:Int)-(I gp:Int))))))))))))
  cond (aa (n<0)) (
   y p) (
   cond (aa (p<n)) (
   y p) (
   y n)))
 cond (!decide (n=0)) (
  (CX s gp).bind λx=>
  lg x) (
  lg 0)
theorem apX(k:Nat):aN 169 [aC,aC,aC,aq] [.sl .byte ae] (KO k):=bX (px:=RW _ k) (n:=2) Tryz.func169 rfl (λab H=>by have h0:bT ab (RW (au [.sl .byte ae]) k):=br H (c1 H apU (c1 H aju bm)) bo bq;have a:=cC H h0 (b:=b_ Tryz.f169 0) (k:=k) (n:=0) (s:=VV) (step:=uG) (λ_ _ _ (_,_,_,_,_,_,_,_,_,_)=>by kernel_rfl) aP;have c:=cC H h0 (b:=b_ Tryz.f169 1) (k:=k) (n:=0) (s:=Va) (step:=JD) (λ_ _ _ (_,_,_,_,_,_,_,_,_)=>by kernel_rfl) aP;exact⟨h0,(cm (cm aP a) c)⟩) λ(_,_,_,_)=>by kernel_rfl
def vv(s gp new:ar)(n:Int):af ar:=cond (aa (gp=[0])&&aa (new=[0,255])&&aa (n = -1)&&aa (I s<=68719476736)) (J (cT s)) ah
def Jb:bb [aC,aC,aC,aq] [.sl .byte ae]:=λx=>vv x.1 x.2.1 x.2.2.1 x.2.2.2
variable{R:Type}{i:Nat}{m:Nat}{s:ar}{w:ar}
theorem anm{a:xw->af R}{kx:bf->xw->af R}{A B:ar}{p L N:Nat}(cG:I s<=68719476736)(kO:N<=137438953472)(hi:i<m)(hm:b5 m)(b:s.drop p=A++0::B)(t:Lib.indexByte (A++0::B) 0=(I A:Int))(iV:L+I A+2<=N)(r:I w=N):uG a kx (s,[0],[0,255],(L:Int),(p:Int),(m:Int),(i:Int),w,0,(N:Int))=a (s,[0],[0,255],((L+I A+2:Nat):Int),((p+I A+1:Nat):Int),(m:Int),((i+1:Nat):Int),hR (hR w L A) (L+I A) [0,255],0,(N:Int)):=by
 have u:p+(I A+1+I B)=I s:=by have:=congrArg List.length b;simp only[iu,dc,dm]at this;omega
 have v:upto (p:Int) (I s:Int) (I s)=true:=Gq
 have aS:FQ (s.drop p) [0]=J (I A:Int):=by simp only[FQ,b,t]
 have x:wr .i64 ((p:Int)+(I A:Int))=((p+I A:Nat):Int):=w8
 have y:cut s (p:Int) ((p+I A:Nat):Int)=A:=by simp only[cut,Int.toNat_natCast,b];rw[show p+I A-p=I A by omega];simp
 have z:upto (p:Int) ((p+I A:Nat):Int) (I s)=true:=Gq
 have u3:min ((N:Int)-(L:Int)).toNat (I A)=I A:=ag
 have y3:wr .i64 ((L:Int)+(I A:Int))=((L+I A:Nat):Int):=w8
 have sm:jQ (L:Int) (N:Int) (N:Int)=true:=AR
 have u4:jQ ((L+I A:Nat):Int) (N:Int) (N:Int)=true:=AR
 have jJ:A.take ((N:Int)-(L:Int)).toNat=A:=List.take_of_length_le ag;have c:([0,255]:ar).take ((N:Int)-((L+I A:Nat):Int)).toNat=[0,255]:=List.take_of_length_le dh;have d:min ((N:Int)-((L+I A:Nat):Int)).toNat 2=2:=ag
 have e:wr .i64 (((L+I A:Nat):Int)+2)=((L+I A+2:Nat):Int):=w8
 have f:wr .i64 (((p+I A:Nat):Int)+1)=((p+I A+1:Nat):Int):=w8
 have g:wr .i64 ((i:Int)+1)=((i+1:Nat):Int):=cV hi hm;have h:aa ((i:Int)<(m:Int))=true:=aY ag;have j:(0:Int)+(L:Int)=(L:Int):=Int.zero_add _;have IH:(0:Int)+((L+I A:Nat):Int)=((L+I A:Nat):Int):=Int.zero_add _;have k:I (hR w L A)=N:=by rw[rF _ _ _ ag];exact r
 have l:(aa ((0:Int)<=(L:Int))&&aa ((0:Int)<=((N:Int)-(L:Int)))&&aa ((L:Int)+((N:Int)-(L:Int))<=(N:Int)))=true:=PJ
 have n:(aa ((0:Int)<=((L+I A:Nat):Int))&&aa ((0:Int)<=((N:Int)-((L+I A:Nat):Int)))&&aa (((L+I A:Nat):Int)+((N:Int)-((L+I A:Nat):Int))<=(N:Int)))=true:=PJ
 have o:((2:Nat):Int)=2:=rfl;have q:((1:Nat):Int)=1:=rfl;have y8:I ([0,255]:ar)=2:=rfl;have eO:I ([0]:ar)=1:=rfl;simp only[uG,h,a8,v,ax,Int.toNat_natCast,aS,bZ,sm,x,z,y,u3,y3,j,r,l,u4,jJ,IH,k,n,eO,y8,c,d,o,q,e,f,g]
theorem VO{R:Type}{kx:bf->xw->af R}{s:ar}{c:af R}{N m:Nat}(q:I s<=68719476736)(d:N=I (cT s))(hm:m<=I s)(h0:∀(L p:Nat) (w:ar),p<=I s->L=I (cT (s.take p))->I w=N->w.take L=cT (s.take p)->(s.drop p).count 0=0->kx (.exit 0) (s,[0],[0,255],(L:Int),(p:Int),(m:Int),(m:Int),w,0,(N:Int))=c) :
  ∀(k i L p:Nat) (w:ar),(s.drop p).count 0=m-i->i<=m->m-i<k->p<=I s->L=I (cT (s.take p))->I w=N->w.take L=cT (s.take p)->aT (λe=>uG e kx) k (s,[0],[0,255],(L:Int),(p:Int),(m:Int),(i:Int),w,0,(N:Int))=c
 |0,i,L,p,w,_,_,h,_,_,_,_=>by omega
 |k+1,i,L,p,w,an,b,aV,bn,iV,hw,cg=>by
  have t:s.count 0<=I s:=List.count_le_length;have f:N<=137438953472:=by rw[d,yI];omega
  rw[cQ];by_cases hi:i<m
  .obtain⟨A,B,ao,u,g,v⟩:=Vm (l:=s.drop p) ag;have x:s.take (p+I A+1)=s.take p++(A++[0]):=by rw[Nat.add_assoc,List.take_add,ao];congr 1;rw[show A++0::B=(A++[0])++B by simp];exact List.take_left' (by simp)
   have aS:s.drop (p+I A+1)=B:=by rw[Nat.add_assoc,<-List.drop_drop,ao,show A++0::B=(A++[0])++B by simp];exact List.drop_left' (by simp)
   have r:cT (s.take (p+I A+1))=cT (s.take p)++(A++[0,255]):=by rw[x,G6,G6,C1 u];rfl
   have j:p+I A+1<=I s:=by have:=congrArg List.length ao;simp only[iu,dc,dm]at this;omega
   have n:L+I A+2=I (cT (s.take (p+I A+1))):=by rw[r,dc,<-iV];simp;omega
   have o:L+I A+2<=N:=by
    have:cT s=cT (s.take (p+I A+1))++cT (s.drop (p+I A+1)):=by rw[<-G6,List.take_append_drop]
    rw[d,this,dc];omega
   have a:I (hR w L A)=N:=by rw[rF _ _ _ ag];exact hw
   rw[anm q f hi lr ao (ao▸g) o hw];refine VO q d hm h0 k (i+1) (L+I A+2) (p+I A+1) _ ?_ ag ag j n ?_ ?_
   .rw[aS];omega
   .rw[rF _ _ _ (by rw[a];simp;omega)];exact a
   .rw[show L+I A+2=(L+I A)+I ([0,255]:ar) by rfl,Qr _ _ _ (by rw[a];simp;omega),Qr _ _ _ ag,cg,r];simp
  .have b:i=m:=ag
   subst b;simp only[uG,bl (show ¬((i:Nat):Int)<(i:Int) by omega),a_];exact h0 L p w bn iV hw cg ag
theorem aiW:aN 169 [aC,aC,aC,aq] [.sl .byte ae] Jb:=.fin 0 apX λ(s,gp,new,n) r aj b=>⟨s.count 0+1,by
 simp only[Jb,vv]at b;cases an:aa (gp=[0])&&aa (new=[0,255])&&aa (n = -1)&&aa (I s<=68719476736)with
 |false=>rw[an]at b;cases b
 |true=>
  rw[an]at b;simp only[bx,dM]at an;obtain⟨⟨⟨rfl,rfl⟩,rfl⟩,l⟩:=an;have b:J (cT s)=J r:=b;rw[<-b];have f:s.count 0<=I s:=List.count_le_length;have d:=yI s;have a:CX s [0]=J ((s.count 0:Nat):Int):=rfl;have o:I ([0,255]:ar)=2:=rfl;have eO:I ([0]:ar)=1:=rfl;by_cases h0:s.count 0=0
  .have g:(0:UInt8)∉s:=List.count_eq_zero.1 h0;have c1:aa (0+I s<=bJ)=true:=aY gW;have c2:aa (((s.count 0:Nat):Int)=0)=true:=aY ag;simp only[KO,a,bZ,c2,a8,c1,ax,C1 g];rfl
  .have c2:aa (((s.count 0:Nat):Int)=0)=false:=bl ag;have iI:wr .i64 (((2:Nat):Int)-((1:Nat):Int))=1:=dU
   have j5:wr .i64 (((s.count 0:Nat):Int)*1)=((s.count 0:Nat):Int):=by rw[Int.mul_one,ht w7]
   have q:wr .i64 ((I s:Int)+((s.count 0:Nat):Int))=((I (cT s):Nat):Int):=by rw[ht w7,d];rfl
   have t:(jQ 0 ((I (cT s):Nat):Int) ((I (cT s):Nat):Int)&&aa (((I (cT s):Nat):Int)<=(bJ:Int)))=true:=by
    have h1:((I (cT s):Nat):Int)<=274877906944:=by rw[d];omega
    simp only[jQ,bx,dM];exact⟨⟨⟨Int.le_refl _,Int.natCast_nonneg _⟩,Int.le_refl _⟩,h1⟩
   have u:aa ((0:Int)<((1:Nat):Int))=true:=rfl;have v:aa ((-1:Int)<0)=true:=rfl;have x:(!decide ((-1:Int)=0))=true:=rfl;simp only[KO,x,a,bZ,c2,a8,a_,v,eO,o,iI,j5,q,t,ax,u];refine VO (c:=J (cT s)) (N:=I (cT s)) (m:=s.count 0) l rfl f (λL p w bn y k z dB=>?_) (s.count 0+1) 0 0 0 _ (by simp) (cp _) ag (cp _) (by simp[cT]) (by simp) (by simp[cT]);have h:(0:UInt8)∉s.drop p:=List.count_eq_zero.1 dB;have e:cT s=cT (s.take p)++s.drop p:=by rw[<-C1 h,<-G6,List.take_append_drop]
   have i:I (cT s)=L+I (s.drop p):=by rw[e,dc,<-y]
   have aJ:I (s.drop p)=I s-p:=iu;have cF:jQ (L:Int) ((I (cT s):Nat):Int) ((I (cT s):Nat):Int)=true:=AR
   have aS:upto (p:Int) (I s:Int) (I s)=true:=Gq
   have e_:(aa ((0:Int)<=(L:Int))&&aa ((0:Int)<=(((I (cT s):Nat):Int)-(L:Int)))&&aa ((L:Int)+(((I (cT s):Nat):Int)-(L:Int))<=((I (cT s):Nat):Int)))=true:=PJ
   have kM:min (((I (cT s):Nat):Int)-(L:Int)).toNat (I (s.drop p))=I (s.drop p):=ag
   have ju:wr .i64 ((L:Int)+((I (s.drop p):Nat):Int))=((I (cT s):Nat):Int):=gg
   have u3:jQ 0 ((I (cT s):Nat):Int) ((I (cT s):Nat):Int)=true:=AR
   have y3:(s.drop p).take (((I (cT s):Nat):Int)-(L:Int)).toNat=s.drop p:=List.take_of_length_le ag;have j:I (hR w L (s.drop p))=I (cT s):=by rw[rF _ _ _ ag];exact k
   have sm:aa ((0:Int)<((I (cT s):Nat):Int))=true:=aY ag;have jJ:aa (((I (cT s):Nat):Int)<=((I (cT s):Nat):Int))=true:=aY (Int.le_refl _);have u4:(hR w L (s.drop p)).take (I (cT s))=cT s:=by have:=Qr w L (s.drop p) ag;rw[<-i,z]at this;rw[this,e]
   simp only[Int.zero_add,Int.add_zero,Int.sub_zero,Int.toNat_natCast,k,cF,aS,e_,kM,ju,u3,y3,j,sm,u4,jJ,decide_true,Bool.true_and,a8]⟩
def aqz(R:Type):aM R:=bp [(169,bg Jb)] [] [] []
def Ue(x:au [aC,aC,aC]):af (au [.sl .byte ae]):=match x with|(s,gp,new)=>(vv s gp new (-1)).bind λx=>J x
theorem anp:aN 124 [aC,aC,aC] [.sl .byte ae] (Ue):=bX (px:=aqz _) (n:=0) Tryz.func124 rfl (λ_ H=>⟨br H (c1 H aiW bm) bo bq,aP⟩) λ(_,_,_)=>by kernel_rfl
def Am(s gp new:ar):af ar:=vv s gp new (-1)
def Ej:bb [aC,aC,aC] [.sl .byte ae]:=λx=>Am x.1 x.2.1 x.2.2
theorem Zi:aN 124 [aC,aC,aC] [.sl .byte ae] Ej:=.de anp λ(s,gp,new) r _ a=>by rw[<-a];simp only[Ue,Ej,Am];cases vv s gp new (-1)<;>rfl
def hO(s:ar):af ar:=cond (aa (I s<=2000000)) (J s) ah
def mL:bb [aC] [.sl .byte ae]:=λx=>hO x
theorem ns:aN 69 [aC] [.sl .byte ae] mL:=ahc
def qD(s:ar):af ar:=cond (aa (I s<=2000000)) (J s) ah
def qx:bb [aC] [.sl .byte ae]:=λx=>qD x
theorem rO:aN 151 [aC] [.sl .byte ae] qx:=ahb
variable{c:UInt8}
theorem avC(n:UInt8):aa ((c.toNat:Int)=(n.toNat:Int))=aa (c=n):=adW
def fW:ar->ar|[]=>[]|c::l=>if fW l=[]then(if c=255 then []else [c+1])else c::fW l
theorem JF:∀n:Nat,fW (eK n 255)=[]
 |0=>rfl
 |n+1=>by simp[List.replicate_succ,fW,JF n]
theorem SW{c:UInt8}(h:c≠255)(n:Nat):∀l:ar,fW (l++c::eK n 255)=l++[c+1]
 |[]=>by simp[fW,JF,h]
 |d::l=>by simp[fW,SW h n l]
def Kz:bt:=⟨35,[],[],[(0,.one (.e3 .byte))],1,0,0,[],[(3,0,.byte)]⟩
abbrev tT:=U UInt8×Int×Int
def uI{R:Type}(a:tT->af R)(kx:bf->tT->af R)(v:tT):af R:=match v with|(w,w1,w2)=>cond (aa (0<w2)) (ax (iJ (wr .i64 (w2-1)) w2) (ax (aU (w1+(wr .i64 (w2-1))) (I w)) (cond (aa (((at' .byte w (w1+(wr .i64 (w2-1)))).toNat:Int)=255)) (ax (jQ 0 (wr .i64 (w2-1)) w2) (a (w,w1,(wr .i64 (w2-1))))) (kx (.exit 0) (w,w1,w2))))) (kx (.exit 0) (w,w1,w2))
noncomputable def Y9(R:Type)(kK:Nat):aM R:=bp [(69,xS [aC] .byte mL)] [] [] []
noncomputable def Dr(R:Type)(k:Nat):aM R:=bp [(69,xS [aC] .byte mL)] [] [(2,CV (Y9 R k) (b_ Tryz.f38 0) k Kz (uI))] []
theorem amN(R:Type)(k:Nat):∀(bI:U Fr) (a:tT->af R) (kx:bf->tT->af R) (v:tT),round (Dr R k) Kz (b_ Tryz.f38 0) bI a kx v=uI a kx v
 |bI,a,kx,(w,w1,w2)=>by kernel_rfl
def Wd(k:Nat)(x:au [aC]):af (au [aC]):=match x with
 |b=>
 (hO b).bind λx=>
  cond (List.isEmpty x) (
  J []) (
  aT (λa=>uI a (λe c=>match c with|(v,v1,v2)=>match e with
   |.exit 0=>
   cond (aa (0<v2)) (
    ax (iJ (wr .i64 (v2-1)) v2) (
    ax (aU (v1+(wr .i64 (v2-1))) (I v)) (
     ax (iJ (wr .i64 (v2-1)) v2) (
     ax (aU (v1+(wr .i64 (v2-1))) (I v)) (
      ax (aa ((0:Int)<=v1)&&aa ((0:Int)<=v2)&&aa ((v1+v2)<=(I (v.set ((v1+(wr .i64 (v2-1))):Int).toNat (bj ((wr .u8 (((at' .byte v (v1+(wr .i64 (v2-1)))).toNat:Int)+1)):Int).toNat)):Int))) (
      J (cut (v.set ((v1+(wr .i64 (v2-1))):Int).toNat (bj ((wr .u8 (((at' .byte v (v1+(wr .i64 (v2-1)))).toNat:Int)+1)):Int).toNat)) v1 (v1+v2)))))))) (
    ax (aa ((0:Int)<=v1)&&aa ((0:Int)<=v2)&&aa ((v1+v2)<=(I v:Int))) (
    J (cut v v1 (v1+v2))))
   |_=>ah)) k (x,0,(I x:Int)))
theorem aoK(k:Nat):aN 38 [aC] [aC] (Wd k):=bX (px:=Dr _ k) (n:=1) Tryz.func38 rfl (λab H=>by have h0:bT ab (Dr (au [aC]) k):=br H (dY (afb H ns) bm) bo bq;have b:bT ab (Y9 (au [aC]) k):=br H (dY (afb H ns) bm) bo bq;have a:fR ab (Dr (au [aC]) k) (b_ Tryz.f38 0):=Wg h0.p h0.c h0.q tz b.p b.c b.q (λ_ _ _=>rfl) (k:=k) (s:=Kz) (step:=uI) (λ_ _=>by kernel_rfl) b0 (amN _ k) (BH (n:=0) b0 aP);exact⟨h0,(cm aP a)⟩) λ_=>by kernel_rfl
def rr(b:ar):af ar:=cond (aa (I b<=2000000)) (J (fW b)) ah
def zR:bb [aC] [aC]:=λx=>rr x
theorem ank{n:Nat}(a:n<I w)(h:w.drop (n+1)=eK (I w-(n+1)) 255)(h2:w[n]=255):w.drop n=eK (I w-n) 255:=by rw[dn a,h2,h,show I w-n=(I w-(n+1))+1 by omega,List.replicate_succ]
theorem V5{R:Type}{kx:bf->tT->af R}{w:ar}{c:af R}(f:I w<=2000000)(h:∀m:Nat,m<=I w->w.drop m=eK (I w-m) 255->(∀(h:m-1<I w),0<m->w[m-1]≠255)->kx (.exit 0) (w,0,(m:Int))=c) :
  ∀(k n:Nat),n<=I w->n<k->w.drop n=eK (I w-n) 255->aT (λa=>uI a kx) k (w,0,(n:Int))=c
 |0,n,_,h,_=>by omega
 |k+1,n,cJ,aV,ao=>by
  rw[cQ];by_cases h0 : 0<n
  .have b:n-1<I w:=ag
   have g:wr .i64 ((n:Int)-1)=((n-1:Nat):Int):=gg
   have d:aa ((0:Int)<(n:Int))=true:=aY ag;have aS:iJ ((n-1:Nat):Int) (n:Int)=true:=PH
   have i:jQ 0 ((n-1:Nat):Int) (n:Int)=true:=AR
   simp only[uI,d,a8,g,aS,ax,Int.zero_add,bY b,cb (c:=.byte) b,i];have q:aa (((w[n-1]).toNat:Int)=255)=aa (w[n-1]=255):=avC 255;rw[q];by_cases an:w[n-1]=255
   .rw[aY an,a8];refine V5 f h k (n-1) ag ag (ank b ?_ an);rw[show n-1+1=n by omega];exact ao
   .rw[bl an,a_];exact h n cJ ao λ_ _=>an
  .have e:n=0:=ag
   subst e;have d:aa ((0:Int)<((0:Nat):Int))=false:=rfl;simp only[uI,d,a_];exact h 0 cJ ao λ_ h=>absurd h ag
theorem auR(hm:m<=I w)(ao:w.drop m=eK (I w-m) 255)(h0 : 0<m)(an:w[m-1]≠255):fW w=w.take (m-1)++[w[m-1]+1]:=by
 have e:w=w.take (m-1)++w[m-1]::eK (I w-m) 255:=by
  rw[<-ao]
  conv=>lhs;rw[<-List.take_append_drop (m-1) w]
  rw[dn (show m-1<I w by omega),show m-1+1=m by omega]
 rw[<-SW an (I w-m) (w.take (m-1)),<-e]
theorem arP(ao:w.drop 0=eK (I w-0) 255):fW w=[]:=by rw[gH]at ao;rw[ao];exact JF _
theorem aqs(b:UInt8):bj (wr .u8 ((b.toNat:Int)+1)).toNat=b+1:=by
 have:wr .u8 ((b.toNat:Int)+1)=(((b.toNat+1) % 256:Nat):Int):=tx
 rw[this,Int.toNat_natCast];apply UInt8.toNat_inj.1;simp
theorem ajx(h0 : 0<m)(hm:m<=I w):cut (w.set (m-1) c) 0 (m:Int)=w.take (m-1)++[c]:=by
 simp only[cut,Int.toNat_zero,gH,Int.toNat_natCast,Nat.sub_zero];rw[List.take_set];have:w.take m=w.take (m-1)++[w[m-1]]:=by
  conv=>lhs;rw[show m=(m-1)+1 by omega]
  exact(List.take_append_getElem _).symm
 have a:I (w.take (m-1))=m-1:=w9
 rw[this,List.set_append_right (h:=by omega),a,Nat.sub_self];rfl
theorem M5:aN 38 [aC] [aC] zR:=.fin 0 aoK λb r aj a=>⟨I b+1,by
 simp only[zR,rr]at a;cases an:aa (I b<=2000000)with
 |false=>rw[an]at a;cases a
 |true=>
  rw[an]at a;have i:=of_decide_eq_true an;have a:J (fW b)=J r:=a;rw[<-a];have j:hO b=J b:=by simp only[hO];rw[aY i];rfl
  simp only[Wd,j,bZ];by_cases e:b=[]
  .subst e;rfl
  .have aS:List.isEmpty b=false:=by cases b with|nil=>exact absurd rfl e|cons _ _=>rfl
   rw[aS,a_];refine V5 (c:=J (fW b)) i (λm hm ao f=>?_) (I b+1) (I b) (b2 _) ag (by simp);by_cases h0 : 0<m
   .have d:m-1<I b:=ag
    have k:wr .i64 ((m:Int)-1)=((m-1:Nat):Int):=gg
    have f1:aa ((0:Int)<(m:Int))=true:=aY ag;have l:iJ ((m-1:Nat):Int) (m:Int)=true:=PH
    have g:∀x:UInt8,(aa ((0:Int)<=0)&&aa ((0:Int)<=(m:Int))&&aa ((m:Int)<=((I (b.set (m-1) x):Nat):Int)))=true:=λx=>by simp only[List.length_set,bx,dM];omega
    simp only[f1,a8,k,l,ax,Int.zero_add,bY d,cb (c:=.byte) d,Int.toNat_natCast,g,aqs];rw[ajx h0 hm,auR hm ao h0 (f d h0)]
   .have h:m=0:=ag
    subst h;have f1:aa ((0:Int)<((0:Nat):Int))=false:=rfl;have g:(aa ((0:Int)<=0)&&aa ((0:Int)<=((0:Nat):Int))&&aa ((0:Int)+((0:Nat):Int)<=((I b:Nat):Int)))=true:=by simp
    simp only[f1,a_,g,ax,a8];rw[arP ao];simp[cut]⟩
def ajY(R:Type):aM R:=bp [(124,bg Ej)] [] [] []
def X2(x:au [.str]):af (au [.sl .byte ae]):=match x with|s=>ax (aa (I s<=bJ)) ((Am s [(bj (0:Int).toNat)] [(bj (0:Int).toNat),(bj (255:Int).toNat)]).bind λx=>ax (aa (I x+2<=bJ)) (J (x++[(bj (0:Int).toNat),(bj (1:Int).toNat)])))
theorem aup:aN 81 [.str] [.sl .byte ae] (X2):=bX (px:=ajY _) (n:=0) Tryz.func81 rfl (λ_ H=>⟨br H (c1 H Zi bm) bo bq,aP⟩) λ_=>by kernel_rfl
def wL(s:ar):af ar:=cond (aa (I s<=68719476736)) (J (cT s++[0,1])) ah
def OW:bb [.str] [.sl .byte ae]:=λx=>wL x
theorem ajR:aN 81 [.str] [.sl .byte ae] OW:=.de aup λs r _ a=>by
 simp only[OW,wL]at a;cases an:aa (I s<=68719476736)with
 |false=>rw[an]at a;cases a
 |true=>
  rw[an]at a;have d:=of_decide_eq_true an;have b:s.count 0<=I s:=List.count_le_length;have c:=yI s;rw[<-a];have c1:aa (I s<=bJ)=true:=aY gW;have c2:Am s [0] [0,255]=J (cT s):=by simp[Am,vv,an]
  have iI:aa (I (cT s)+2<=bJ)=true:=aY gW;simp[X2,c1,c2,iI,ax]
def fB(x s:Nat):UInt8:=bj (x / 2 ^ s % 256)
def td(x:Nat):ar:=[fB x 56,fB x 48,fB x 40,fB x 32,fB x 24,fB x 16,fB x 8,fB x 0]
def jc(n:Int):ar:=td (n+9223372036854775808).toNat
def n_(v:aH):ar:=cond (aa (v.kind=2)) [bj v.n.toNat] (cond (aa (v.kind=3)) (jc v.n) (cond (aa (v.kind=4)||decide (v.kind=5)) (cT v.s++[0,1]) []))
def fq(v:aH):ar:=bj v.kind.toNat::n_ v
def dK(l:U aH):ar:=l.flatMap fq
def j9:U aH->Nat|[]=>0|v::l=>I v.s+1+j9 l
theorem U5:∀a b,j9 (a++b)=j9 a+j9 b
 |[],b=>by simp[j9]
 |v::a,b=>by simp only[gY,j9,U5 a b];omega
theorem akQ{l:U aH}(h:i<I l):j9 (l.take i)+(I l[i].s+1)<=j9 l:=by have h1:=U5 (l.take i) (l.drop i);rw[List.take_append_drop,dn h]at h1;simp only[j9]at h1;omega
theorem asN(v:aH):I (fq v)<=9*(I v.s+1):=by have h:=yI v.s;have an:v.s.count 0<=I v.s:=List.count_le_length;simp only[fq,n_,dm];cases aa (v.kind=2)<;>cases aa (v.kind=3)<;>cases (aa (v.kind=4)||decide (v.kind=5))<;>simp[jc,td]<;>omega
theorem aao(l:U aH):I (dK l)<=9*j9 l:=by induction l with|nil=>simp[dK]|cons v l a=>have:=asN v;simp only[dK,List.flatMap_cons,dc,j9]at a ⊢;omega
theorem A1(a b:U aH):dK (a++b)=dK a++dK b:=by simp[dK]
theorem arw{l:U aH}(h:i<I l):dK (l.take (i+1))=dK (l.take i)++fq l[i]:=by rw[<-List.take_append_getElem h,A1];simp[dK]
variable{x:Nat}
theorem FW(h:x<2 ^ 63):x ^^^ 2 ^ 63=x+2 ^ 63:=by
 rw[Nat.add_comm,Nat.xor_comm];apply Nat.eq_of_testBit_eq;intro i;rw[Nat.testBit_xor,Nat.testBit_two_pow];rcases Nat.lt_trichotomy i 63 with hi|rfl|hi
 .rw[Nat.testBit_two_pow_add_gt hi];simp[Nat.ne_of_gt hi]
 .rw[Nat.testBit_two_pow_add_eq,Nat.testBit_lt_two_pow h];simp
 .rw[Nat.testBit_lt_two_pow (gy h (Nat.pow_le_pow_right ag ag))];rw[Nat.testBit_lt_two_pow (show 2 ^ 63+x<2 ^ i from gy (show 2 ^ 63+x<2 ^ 64 by omega) (Nat.pow_le_pow_right ag ag))];simp[Nat.ne_of_lt hi]
theorem uk(h:m<18446744073709551616):b'.wrap .u64 (m:Int)=(m:Int):=by simp[b'.wrap,b'.bits,b'.signed];omega
theorem akz{n:Int}(h:da n):∃a:Nat,wr .u64 n=(a:Int)/\a<18446744073709551616/\((0<=n/\(a:Int)=n)\/(n<0/\(a:Int)=n+18446744073709551616)):=by
 simp only[da]at h;have e:wr .u64 n=n % 18446744073709551616:=tx
 refine⟨(n % 18446744073709551616).toNat,?_,?_,?_⟩<;>omega
theorem auX{n:Int}(h:da n):gx .u64 (wr .u64 n) 9223372036854775808=n+9223372036854775808:=by
 obtain⟨a,c,d,an⟩:=akz h;have e:(fO 64 (a:Int)).toNat=a:=dh
 have aS:(fO 64 (9223372036854775808:Int)).toNat=2 ^ 63:=dU
 have f:gx .u64 (a:Int) 9223372036854775808=b'.wrap .u64 ((a ^^^ 2 ^ 63:Nat):Int):=by show b'.wrap .u64 (((fO 64 (a:Int) ^^^ fO 64 (9223372036854775808:Int)).toNat:Nat):Int)=_;rw[BitVec.toNat_xor,e,aS]
 rw[c,f];simp only[da]at h;rcases an with ⟨h0,h1⟩|⟨h0,h1⟩
 .rw[FW ag,uk ag];omega
 .obtain⟨b,rfl⟩:∃b,a=b+2 ^ 63:=⟨a-2 ^ 63,by omega⟩;rw[<-FW (x:=b) ag,Nat.xor_assoc,Nat.xor_self,Nat.xor_zero,uk ag];omega
theorem apJ(x s:Nat)(c:s<=63):bj (wr .u8 (cK .u64 (x:Int) (s:Int))).toNat=bj (x / 2 ^ s % 256):=by
 have e:min (s:Int).toNat (b'.bits .u64)=s:=by simp[b'.bits];omega
 have aS:cK .u64 (x:Int) (s:Int)=((x / 2 ^ s:Nat):Int):=by
  simp only[cK,e];have a:((2:Int) ^ s)=((2 ^ s:Nat):Int):=by simp
  rw[a,Int.fdiv_eq_ediv_of_nonneg _ (Int.natCast_nonneg _)];rfl
 have b:wr .u8 ((x / 2 ^ s:Nat):Int)=((x / 2 ^ s % 256:Nat):Int):=tx
 rw[aS,b,Int.toNat_natCast]
def RE:bt:=⟨64,[(2,.sl .byte ae),(3,.int .i64),(4,.sl .byte ae),(8,.int .u64),(9,.int .i64),(10,.sl .val ai),(11,.int .i64),(12,.int .i64)],[],[],0,0,0,[],[]⟩
abbrev Bp:=U UInt8×Int×U UInt8×Int×Int×U aH×Int×Int
def qG{R:Type}(e:Bp->af R)(kx:bf->Bp->af R)(v:Bp):af R:=match v with|(v6,bA,b6,cw,a,b,c,d)=>cond (aa (0<=a)) (ax (aa (0<=a)) (ax (aa (I b6+1<=bJ)) (e (v6,bA,(b6++[(bj ((wr .u8 (cK .u64 cw a)):Int).toNat)]),cw,(wr .i64 (a-8)),b,c,d)))) (kx (.exit 3) (v6,bA,b6,cw,a,b,c,d))
def YG:bt:=⟨64,[(2,.sl .byte ae),(3,.int .i64),(4,.sl .byte ae),(10,.sl .val ai),(11,.int .i64),(12,.int .i64)],[],[],0,0,0,[],[]⟩
abbrev xX:=U UInt8×Int×U UInt8×U aH×Int×Int
def s0{R:Type}(k:Nat)(h:xX->af R)(kx:bf->xX->af R)(v:xX):af R:=match v with
 |(v,v1,v2,aD,v4,a')=>
 cond (aa (a'<v4)) (
  ax (aU a' (I aD)) (
  cond (!decide ((hP (at' .val aD a'))=0)) (
   kx .ret ([],(hP (at' .val aD a')),v2,aD,v4,a')) (
   ax (aa (I v2+1<=bJ)) (
   cond (aa ((at' .val aD a').kind=2)) (
    ax (aa (I (v2++[(bj ((wr .u8 ((at' .val aD a').kind)):Int).toNat)])+1<=bJ)) (
    h (v,v1,((v2++[(bj ((wr .u8 ((at' .val aD a').kind)):Int).toNat)])++[(bj ((wr .u8 ((at' .val aD a').n)):Int).toNat)]),aD,v4,(wr .i64 (a'+1))))) (
    cond (aa ((at' .val aD a').kind=3)) (
    aT (λrc=>qG rc (λe i=>match i with|(a,b,c,_,_,d,f,g)=>match e with
     |.exit 3=>
     h (a,b,c,d,f,(wr .i64 (g+1)))
     |_=>ah)) k (v,v1,(v2++[(bj ((wr .u8 ((at' .val aD a').kind)):Int).toNat)]),(gx .u64 (wr .u64 ((at' .val aD a').n)) 9223372036854775808),56,aD,v4,a')) (
    let j:=λ(p:Bool)=>
     cond (p) (
     (wL ((at' .val aD a').s)).bind λx=>
      ax (aa (I (v2++[(bj ((wr .u8 ((at' .val aD a').kind)):Int).toNat)])+I x<=bJ)) (
      h (v,v1,((v2++[(bj ((wr .u8 ((at' .val aD a').kind)):Int).toNat)])++x),aD,v4,(wr .i64 (a'+1))))) (
     h (v,v1,(v2++[(bj ((wr .u8 ((at' .val aD a').kind)):Int).toNat)]),aD,v4,(wr .i64 (a'+1))))
    cond (aa ((at' .val aD a').kind=4)) (
     j (aa ((at' .val aD a').kind=4))) (
     j (aa ((at' .val aD a').kind=5))))))))) (
  kx (.exit 0) (v,v1,v2,aD,v4,a'))
def aaN(R:Type)(k:Nat):aM R:=bp [(80,bg Pi),(81,bg OW)] [] [(15,cq k RE (qG)),(3,cq k YG (s0 k))] []
def Xa(k:Nat)(x:au [dA]):af (au [.sl .byte ae,aq]):=match x with
 |l=>
 aT (λd=>s0 k d (λe f=>match f with|(a,b,c,_,_,_)=>match e with
  |.ret=>
  J (a,b)
  |.exit 0=>
  J (c,0)
  |_=>ah)) k ([],0,[],l,(I l:Int),0)
theorem atQ(k:Nat):aN 45 [dA] [.sl .byte ae,aq] (Xa k):=bX (px:=aaN _ k) (n:=2) Tryz.func45 rfl (λab H=>by have h0:bT ab (aaN (au [.sl .byte ae,aq]) k):=br H (c1 H BC (c1 H ajR bm)) bo bq;have a:=cC H h0 (b:=ss (b_ Tryz.f45 0) 0) (k:=k) (n:=0) (s:=RE) (step:=qG) (λ_ _ _ (_,_,_,_,_,_,_,_)=>by kernel_rfl) aP;have c:=cC H h0 (b:=b_ Tryz.f45 0) (k:=k) (n:=1) (s:=YG) (step:=s0 k) (λ_ _ _ (_,_,_,_,_,_)=>by kernel_rfl) (cm aP a);exact⟨h0,(cm (cm aP c) a)⟩) λ_=>by kernel_rfl
def q_(l:U aH):af (ar×Int):=cond (aa (j9 l<=1000000)) (J (cond (l.all cS) (dK l,0) ([],2))) ah
def C4:bb [dA] [.sl .byte ae,aq]:=λx=>q_ x
variable{acc:ar}{kx:bf->Bp->af R}{q:ar}
theorem aqI{a:Bp->af R}{e:Int}{s:Nat}{l:U aH}{n i:Int}(b:s<=63)(c:I acc<=20000000):qG a kx (q,e,acc,(x:Int),(s:Int),l,n,i)=a (q,e,acc++[fB x s],(x:Int),wr .i64 ((s:Int)-8),l,n,i):=by have c1:aa ((0:Int)<=(s:Int))=true:=aY ag;have c2:aa (I acc+1<=bJ)=true:=aY gW;simp only[qG,c1,c2,ax,a8,apJ x s b,fB]
variable{k:Nat}
theorem anf{e:Int}{l:U aH}{n i:Int}(m:I acc<=10000000):aT (λa=>qG a kx) (k+9) (q,e,acc,(x:Int),56,l,n,i)=kx (.exit 3) (q,e,acc++td x,(x:Int), -8,l,n,i):=by
 have st:∀(k s:Nat) (acc:ar) (t:Int),s<=63->I acc<=20000000->wr .i64 ((s:Int)-8)=t->aT (λa=>qG a kx) (k+1) (q,e,acc,(x:Int),(s:Int),l,n,i)=aT (λa=>qG a kx) k (q,e,acc++[fB x s],(x:Int),t,l,n,i):=λk s acc t h1 h2 h3=>by rw[cQ,aqI h1 h2,h3]
 have b:=st (k+8) 56 acc 48 ag ag dU;have aS:=st (k+7) 48 (acc++[fB x 56]) 40 ag dh dU;have c:=st (k+6) 40 (acc++[fB x 56]++[fB x 48]) 32 ag dh dU;have d:=st (k+5) 32 (acc++[fB x 56]++[fB x 48]++[fB x 40]) 24 ag dh dU;have f:=st (k+4) 24 (acc++[fB x 56]++[fB x 48]++[fB x 40]++[fB x 32]) 16 ag dh dU;have g:=st (k+3) 16 (acc++[fB x 56]++[fB x 48]++[fB x 40]++[fB x 32]++[fB x 24]) 8 ag dh dU;have h:=st (k+2) 8 (acc++[fB x 56]++[fB x 48]++[fB x 40]++[fB x 32]++[fB x 24]++[fB x 16]) 0 ag dh dU;have j:=st (k+1) 0 (acc++[fB x 56]++[fB x 48]++[fB x 40]++[fB x 32]++[fB x 24]++[fB x 16]++[fB x 8]) (-8) ag dh dU;refine b.trans (aS.trans (c.trans (d.trans (f.trans (g.trans (h.trans (j.trans ?_)))))));rw[cQ];have c1:aa ((0:Int) <= -8)=false:=rfl;simp only[qG,c1,a_,td,fI,gY,ib]
theorem nm{v:aH}:cS v=ae↔(v.kind=1/\v.n=0/\v.s=[])\/(v.kind=2/\(v.n=0\/v.n=1)/\v.s=[])\/(v.kind=3/\v.s=[])\/(v.kind=4/\v.n=0/\I v.s<=1000/\n7 v.s=ae)\/(v.kind=5/\v.n=0/\I v.s<=1000):=by
 have a:(I v.s:Int)<=1000↔I v.s<=1000:=ag
 by_cases h1:v.kind=1
 .by_cases h0:v.n=0<;>simp[cS,h1,h0]
 by_cases h2:v.kind=2
 .by_cases h0:v.n=0
  .simp[cS,h2,h0]
  .by_cases h3:v.n=1<;>simp[cS,h2,h0,h3]
 by_cases h3:v.kind=3
 .simp[cS,h3]
 by_cases h4:v.kind=4
 .by_cases h0:v.n=0
  .by_cases h5:I v.s<=1000<;>simp[cS,h4,h0,h5,a]
  .simp[cS,h4,h0]
 by_cases h5:v.kind=5
 .by_cases h0:v.n=0<;>simp[cS,h5,h0,a]
 simp[cS,h1,h2,h3,h4,h5]
theorem am2{o:xX->af R}{kx:bf->xX->af R}{l:U aH}{e:Int}(bB:b5 (I l))(hi:i<I l)(aj:rA l[i])(cI:I acc<=9000000)(cG:I l[i].s<=1000000):s0 (k+9) o kx (q,e,acc,l,(I l:Int),(i:Int))=cond (cS l[i]) (o (q,e,acc++fq l[i],l,(I l:Int),((i+1:Nat):Int))) (kx .ret ([],2,acc,l,(I l:Int),(i:Int))):=by
 have c1:aa ((i:Int)<(I l:Int))=true:=aY ag;have c2:wr .i64 ((i:Int)+1)=((i+1:Nat):Int):=cV hi bB;have iI:aa (I acc+1<=bJ)=true:=aY gW;simp only[s0,c1,a8,bY hi,ax,cb (c:=.val) hi,c2,iI];generalize l[i]=v at *;cases t:cS v with
 |false=>
  have an:hP v=2:=by simp[hP,t]
  simp only[an];rfl
 |true=>
  have an:hP v=0:=A9.2 t;have j5:(!decide (hP v=0))=false:=by rw[an];rfl
  have m0:∀b:UInt8,aa (I (acc++[b])+1<=bJ)=true:=λb=>aY PC;simp only[j5,a_,m0,a8];have w1:wr .u8 1=1:=dU
  have w2:wr .u8 2=2:=dU
  have w3:wr .u8 3=3:=dU
  have c9:wr .u8 4=4:=dU
  have c7:wr .u8 5=5:=dU
  have jy:wr .u8 0=0:=dU
  rcases nm.1 t with ⟨h,_⟩|⟨h,r,_⟩|⟨h,_⟩|⟨h,_,u,_⟩|⟨h,_,u⟩
  .simp[h,fq,n_,w1]
  .rcases r with r|r<;>simp[h,r,fq,n_,jy,w1,w2]
  .obtain⟨x,axX,aW⟩:∃x:Nat,(v.n+9223372036854775808).toNat=x/\gx .u64 (wr .u64 v.n) 9223372036854775808=(x:Int):=by have:=aj.2.1;refine⟨_,rfl,?_⟩;rw[auX this];simp only[da]at this;omega
   have lL:=anf (R:=R) (kx:=λe v=>match v with|(a,d,f,_,_,g,j,m)=>match e with
     |.exit 3=>o (a,d,f,g,j,(wr .i64 (m+1)))
     |_=>ah) (q:=q) (acc:=acc++[3]) (e:=e) (x:=x) (l:=l) (n:=(I l:Int)) (i:=(i:Int)) (k:=k) dh
   have p1:fq v=3::td x:=by simp[fq,n_,h,jc,axX]
   have d2:aa (v.kind=2)=false:=by rw[h];rfl
   have d3:aa (v.kind=3)=true:=by rw[h];rfl
   have d0:bj (wr .u8 v.kind).toNat=3:=by rw[h,w3];rfl
   simp only[d2,d3,d0,a_,a8,aW,p1,lL,c2,fI,gY,ib]
  .have w:wL v.s=J (cT v.s++[0,1]):=aev
   have y:v.s.count 0<=I v.s:=List.count_le_length;have z:=yI v.s;have p:I acc+1+(I (cT v.s)+2)<=bJ:=gW
   simp[h,fq,n_,c9,w,p]
  .have w:wL v.s=J (cT v.s++[0,1]):=aev
   have y:v.s.count 0<=I v.s:=List.count_le_length;have z:=yI v.s;have p:I acc+1+(I (cT v.s)+2)<=bJ:=gW
   simp[h,fq,n_,c7,w,p]
theorem Ym{R:Type}{kx:bf->xX->af R}{l:U aH}{c1 c2:af R}{k0:Nat}(c:b5 (I l))(aj:∀v,v∈l->rA v)(d:j9 l<=1000000)(h1:∀q i,kx .ret ([],2,q,l,(I l:Int),i)=c1)(h2:∀q e,kx (.exit 0) (q,e,dK l,l,(I l:Int),(I l:Int))=c2) :
  ∀(k i:Nat) (q:ar) (e:Int),i<=I l->I l-i<k->aT (λb=>s0 (k0+9) b kx) k (q,e,dK (l.take i),l,(I l:Int),(i:Int))=cond ((l.drop i).all cS) c2 c1
 |0,i,q,e,_,h=>by omega
 |k+1,i,q,e,hi,h=>by
  rw[cQ];by_cases a:i<I l
  .have g:=akQ a;have f:=aao (l.take i);rw[am2 c a (aj _ (fo a)) ag ag,<-arw a,Ym c aj d h1 h2 k (i+1) q e ag ag,h1,dn a];simp only[et];cases cS l[i]<;>rfl
  .have hi:i=I l:=ag
   subst hi;simp only[s0,bl (show ¬((I l:Nat):Int)<(I l:Int) by omega),a_,List.take_length,h2,nD];rfl
theorem aaY:aN 45 [dA] [.sl .byte ae,aq] C4:=.fin 0 atQ λl r aj a=>⟨I l+10,by
 simp only[C4,q_]at a;cases an:aa (j9 l<=1000000)with
 |false=>rw[an]at a;cases a
 |true=>rw[an]at a;have a:J (cond (l.all cS) (dK l,0) ([],2))=J r:=a;rw[<-a];simp only[Xa];refine(Ym (c1:=J ([],2)) (c2:=J (dK l,0)) (k0:=I l+1) aj.1 aj.2 (of_decide_eq_true an) (λ_ _=>rfl) (λ_ _=>rfl) (I l+10) 0 [] 0 (cp _) ag).trans ?_;rw[gH];cases l.all cS<;>rfl⟩
theorem K7:∀{al:U cW}{row:U aH},ml al row=ae->∀(i:Nat) (h1:i<I al) (h2:i<I row),qa row[i] al[i].kind=ae
 |[],_,_,i,h1,_=>by simp at h1
 |_::_,[],_,i,_,h2=>by simp at h2
 |c::cs,v::vs,h,i,h1,h2=>by simp only[ml,bx]at h;cases i with|zero=>exact h.1|succ i=>exact K7 h.2 i nk Gw
theorem Xk{v:aH}{k:Int}:qa v k=ae↔cS v=ae/\(v.kind=1\/v.kind=k):=by simp only[qa];cases cS v<;>simp
theorem Uz(b:Bool):cS (jo b)=ae/\(jo b).kind=2:=by cases b<;>decide
theorem amG:cS ⟨1,0,[]⟩=true:=dU
theorem aoD(n:Int):cS ⟨3,n,[]⟩=true:=by simp[cS]
theorem alV(a b:Int):(ni a b).2=0\/(ni a b).2=20:=by simp only[ni];cases aa (aa (a<wr .i64 (a+b))=aa (0<b))<;>simp
theorem ZR(a b:Int):(kG a b).2=0\/(kG a b).2=20:=by simp only[kG];cases aa (aa (wr .i64 (a-b)<a)=aa (0<b))<;>simp
theorem au1(a b:Int):(nd a b).2=0\/(nd a b).2=20:=by simp only[nd];generalize aa (0<(lx (hB a) (hB b)).1)=p;generalize aa ((lx (hB a) (hB b)).2=9223372036854775808)=q;generalize aa (9223372036854775808<(lx (hB a) (hB b)).2)=r;generalize (!decide ((aa (a<0))=(aa (b<0))))=t;cases p<;>cases q<;>cases r<;>cases t<;>simp
theorem als(k a b:Int):(∃n,lE k a b=(⟨3,n,[]⟩,0))\/lE k a b=(⟨0,0,[]⟩,20):=by
 have h1:=alV a b;have h2:=ZR a b;have h3:=au1 a b;have h4:=ZR 0 a;simp only[lE,Bool.cond_decide];split
 .rcases h1 with h|h<;>simp[h]
 .split
  .rcases h2 with h|h<;>simp[h]
  .split
   .rcases h3 with h|h<;>simp[h]
   .rcases h4 with h|h<;>simp[h]
theorem aix(k:Int)(l:U aH):(∃b,rz k l=jo b)\/rz k l=⟨1,0,[]⟩:=by
 simp only[rz];cases l.any λv=>aa (v=jo (aa (k=5)))
 .cases l.any nx
  .exact .inl ⟨_,rfl⟩
  .exact .inr rfl
 .exact .inl ⟨_,rfl⟩
def wW(v:aH)(f k:Int):Prop:=(f=0/\cS v=ae/\(v.kind=1\/v.kind=k))\/(f=20/\v=⟨0,0,[]⟩)
theorem Ha(b:Bool):wW (jo b) 0 2:=.inl ⟨rfl,(Uz b).1,.inr (Uz b).2⟩
theorem Hx(k:Int):wW ⟨1,0,[]⟩ 0 k:=.inl ⟨rfl,amG,.inl rfl⟩
theorem To(k a b:Int):wW (lE k a b).1 (lE k a b).2 3:=by
 rcases als k a b with ⟨n,h⟩|h
 .rw[h];exact .inl ⟨rfl,aoD n,.inr rfl⟩
 .rw[h];exact .inr ⟨rfl,rfl⟩
theorem WE(k:Int)(l:U aH):wW (rz k l) 0 2:=by
 rcases aix k l with ⟨b,h⟩|h
 .rw[h];exact Ha b
 .rw[h];exact Hx 2
variable{a:Int}{al:U cW}
theorem Z0{e:bh}{b:Int}(h:(iE e al a b).2=0)(h3:e.kind=3\/e.kind=4\/e.kind=5):iE e al a b=(2,0):=by
 simp only[iE]at h ⊢;rw[if_neg ag,if_neg ag,if_neg ag,if_pos h3]at h ⊢;split at h
 .rename_i an;rw[if_pos an]
 .simp at h
theorem Z3{e:bh}{b:Int}(h:(iE e al a b).2=0)(h3:e.kind=12\/e.kind=13\/e.kind=14\/e.kind=15):iE e al a b=(3,0):=by
 simp only[iE]at h ⊢;rw[if_neg ag,if_neg ag,if_neg ag,if_neg ag,if_pos h3]at h ⊢;split at h
 .rename_i an;rw[if_pos an]
 .simp at h
theorem awg{e:bh}{b:Int}(h:(iE e al a b).2=0)(h3 : 6<=e.kind/\e.kind<=11):iE e al a b=(2,0):=by
 simp only[iE]at h ⊢;rw[if_neg ag,if_neg ag,if_neg ag,if_neg ag,if_neg ag]at h ⊢;split at h
 .rename_i an;rw[if_pos an]
 .simp at h
theorem avv{e:bh}{b:Int}(h3:e.kind=16):iE e al a b=(2,0):=by simp only[iE];rw[if_neg ag,if_neg ag,if_pos h3]
theorem Hh{al:U cW}{row:U aH}(r:ml al row=ae):∀(n:Nat) (e:bh) (m:Int),di e<=n->fh e m=ae->(eC e al).2=0->∃v f,oi e al row=J (v,f)/\wW v f (eC e al).1
 |0,e,_,h,_,_=>by have:=mJ e;omega
 |n+1,e,m,h,ay,aV=>by
  obtain⟨bn,j,k⟩:=P1 ay;rw[nn]at h;rw[ua]at aV ⊢;rw[R2];have i1:∀v:aH,aU 0 (I [v])=true:=λv=>rfl;have i2:∀v u:aH,aU 0 (I [v,u])=true:=λv u=>rfl;have i3:∀v u:aH,aU 1 (I [v,u])=true:=λv u=>rfl;rcases KQ e.kind with ⟨h0,bW⟩|⟨h0,b9⟩|⟨h0,cE⟩|h0
  ·
   have o:e.l=[]:=List.eq_nil_of_length_eq_zero ag;rw[o]at aV ⊢;simp only[lh,l8,qP]at aV ⊢;have an:ax (aa (I ([]:U bh)<=bJ))=λx:af (aH×Int)=>x:=rfl;rw[an];simp only[if_true];rcases bW with h1|h2
   .refine⟨e.v,0,by simp[tp,h1],.inl ⟨rfl,?_,.inr ?_⟩⟩
    .simp only[pE,h1]at j;simp only[decide_true,a8,bx,dM]at j;exact A9.1 j.1.1
    .simp[iE,h1]
   .simp only[iE,h2]at aV ⊢;simp only[show ¬((2:Int)=1) by decide,if_false,if_true]at aV ⊢;by_cases s:dR al e.name<0
    .simp[s]at aV
    .rw[if_neg s];have cy:=Bd r;have am:=K4 al e.name;obtain⟨i,hi⟩:∃i:Nat,dR al e.name=(i:Int):=⟨(dR al e.name).toNat,by omega⟩;have h1:i<I al:=ag
     have p:i<I row:=ag
     have a:=K7 r i h1 p;rw[Xk]at a;refine⟨row[i],0,?_,.inl ⟨rfl,a.1,?_⟩⟩
     .simp only[tp,h2];rw[hi,bY p,cb (c:=.val) p];rfl
     .rw[hi,cb (c:=.cO) h1];exact a.2
  ·
   obtain⟨x,o⟩:∃x,e.l=[x]:=List.length_eq_one_iff.1 ag;rw[o]at aV k ⊢;simp only[lh,l8,kN,Bool.and_true]at aV k ⊢;have b:(eC x al).2=0:=by
    by_cases q:(eC x al).2=0
    .exact q
    .rw[if_neg q]at aV;exact absurd aV q
   rw[if_pos b]at aV ⊢;obtain⟨v,f,aE,t⟩:=Hh r n x _ GE k b;simp only[qP,aE];rcases t with ⟨rfl,t⟩|⟨rfl,rfl⟩
   .simp only[if_true];have an:ax (aa (I ([x]:U bh)<=bJ))=λy:af (aH×Int)=>y:=rfl;rw[an];simp only[tp];have d:at' .val [v] 0=v:=rfl;rcases b9 with h3|w|aJ
    .rw[Z0 aV (.inl h3)];simp only[h3,show aa ((3:Int)=1)=ai from rfl,show aa ((3:Int)=2)=ai from rfl,show aa ((3:Int)=16)=ai from rfl,show aa ((3:Int)=4)=ai from rfl,show aa ((3:Int)=5)=ai from rfl,a_,decide_true,a8,i1,ax,d];cases [v].any nx
     .exact⟨_,_,rfl,Ha _⟩
     .exact⟨_,_,rfl,Hx _⟩
    .rw[Z3 aV (.inr (.inr (.inr w)))];simp only[w,show aa ((15:Int)=1)=ai from rfl,show aa ((15:Int)=2)=ai from rfl,show aa ((15:Int)=16)=ai from rfl,show aa ((15:Int)=3)=ai from rfl,show aa ((15:Int)=4)=ai from rfl,show aa ((15:Int)=5)=ai from rfl,a_,decide_true,a8,i1,ax,d];cases [v].any nx
     .exact⟨_,_,rfl,To _ _ _⟩
     .exact⟨_,_,rfl,Hx _⟩
    .rw[avv aJ];simp only[aJ,show aa ((16:Int)=1)=ai from rfl,show aa ((16:Int)=2)=ai from rfl,decide_true,a_,a8];exact⟨_,_,rfl,Ha _⟩
   .exact Kt
  ·
   obtain⟨x,y,o⟩:∃x y,e.l=[x,y]:=by match cA:e.l,(show I e.l=2 by omega)with|[x,y],_=>exact⟨x,y,rfl⟩
   rw[o]at aV k ⊢;simp only[lh,l8,kN,Bool.and_true,bx]at aV k ⊢;have b:(eC x al).2=0:=by
    by_cases q:(eC x al).2=0
    .exact q
    .rw[if_neg q]at aV;exact absurd aV q
   rw[if_pos b]at aV ⊢;have aZ:(eC y al).2=0:=by
    by_cases bN:(eC y al).2=0
    .exact bN
    .rw[if_neg bN]at aV;exact absurd aV bN
   rw[if_pos aZ]at aV ⊢;have bk:di x<=n/\di y<=n:=GE
   obtain⟨v,f,aE,t⟩:=Hh r n x _ bk.1 k.1 b;obtain⟨u,g,hu,bz⟩:=Hh r n y _ bk.2 k.2 aZ;simp only[qP,aE,hu];rcases t with ⟨rfl,t⟩|⟨rfl,rfl⟩
   .simp only[if_true];rcases bz with ⟨rfl,bz⟩|⟨rfl,rfl⟩
    .simp only[if_true];have an:ax (aa (I ([x,y]:U bh)<=bJ))=λz:af (aH×Int)=>z:=rfl;rw[an];simp only[tp];have d:at' .val [v,u] 0=v:=rfl;have ch:at' .val [v,u] 1=u:=rfl;rw[bl (show ¬e.kind=1 by omega),bl (show ¬e.kind=2 by omega),bl (show ¬e.kind=16 by omega),bl (show ¬e.kind=3 by omega),bl (show ¬e.kind=15 by omega)];simp only[a_,i2,i3,ax,a8,d,ch];by_cases ac:e.kind=4\/e.kind=5
     .rw[Z0 aV (.inr ac)];rcases ac with h4|h5
      .simp only[h4,decide_true,a8];exact⟨_,_,rfl,WE _ _⟩
      .simp only[h5,show aa ((5:Int)=4)=ai from rfl,decide_true,a8,a_];exact⟨_,_,rfl,WE _ _⟩
     .rw[bl (show ¬e.kind=4 by omega),bl (show ¬e.kind=5 by omega)];simp only[a_];cases cJ:[v,u].any nx
      .simp only[a_];by_cases bL : 12<=e.kind
       .rw[Z3 aV ag,aY bL];exact⟨_,_,rfl,To _ _ _⟩
       .rw[awg aV ag,bl bL];exact⟨_,_,rfl,Ha _⟩
      .exact⟨_,_,rfl,Hx _⟩
    .exact Kt
   .exact Kt
  .omega
def mq(e:bh)(al:U cW)(row:U aH):aH×Int:=cond (!decide (iB e=0)) (⟨0,0,[]⟩,2) (cond (!mM al row) (⟨0,0,[]⟩,2) (cond (!decide ((eC e al).2=0)) (⟨0,0,[]⟩,(eC e al).2) ((oi e al row).getD (⟨0,0,[]⟩,0))))
theorem anc(e:bh)(al:U cW)(row:U aH):(iB e≠0\/mM al row=ai)/\mq e al row=(⟨0,0,[]⟩,2)\/(iB e=0/\mM al row=ae/\(eC e al).2≠0/\mq e al row=(⟨0,0,[]⟩,(eC e al).2))\/(iB e=0/\mM al row=ae/\(eC e al).2=0/\oi e al row=J (mq e al row)/\wW (mq e al row).1 (mq e al row).2 (eC e al).1):=by
 simp only[mq];by_cases h1:iB e=0
 .rw[aY h1];cases h2:mM al row with
  |false=>left;simp
  |true=>
   by_cases h3:(eC e al).2=0
   .right;right;obtain⟨v,f,h4,h5⟩:=Hh h2 (di e) e 30 (b2 _) (Iy.1 h1) h3;rw[h4];refine⟨h1,rfl,h3,?_,?_⟩
    .simp[h3]
    .simpa[h3]using h5
   .right;left;refine⟨h1,rfl,h3,?_⟩;simp[h3]
 .left;refine⟨.inl h1,?_⟩;simp[h1]
theorem auu(e:bh)(al:U cW)(row:U aH):FD e al row=J (mq e al row):=by
 simp only[FD,K2];rcases anc e al row with ⟨h,h2⟩|⟨h1,h2,h3,h4⟩|⟨h1,h2,h3,h4,_⟩
 .rw[h2];by_cases h1:iB e=0
  .rw[h.resolve_left nk];simp[h1]
  .simp[h1]
 .rw[h4,h2];simp[h1,h3]
 .rw[h2,h4];simp[h1,h3]
def AD(key:U ar):U cW->U aH->Bool|c::cs,v::vs=>(aa (v.kind=1)&&(c.IW||key.contains c.name))||AD key cs vs|_,_=>ai
def wJ(al:U cW)(row:U aH):U bh->Int|[]=>0|e::l=>cond (aa ((mq e al row).2=0)) (cond (aa ((mq e al row).1=⟨2,0,[]⟩)) 162 (wJ al row l)) (mq e al row).2
def hS(t:bU)(row:U aH):Int:=cond (hT t) (cond (mM t.al row) (cond (AD t.key t.al row) 161 (wJ t.al row t.e9)) 151) 2
theorem agr{kx:bf->IA->af R}{l:U ar}{c':ar}{w:bU}{a b:af R}(h:I l<=4000)(h4 : 4000<k)(h1:∀i:Nat,kx .ret (l,c',(i:Int),(I l:Int),(i:Int),w)=a)(h2:kx (.exit 0) (l,c',0,(I l:Int),(I l:Int),w)=b) :
  aT (λd=>yJ d kx) k (l,c',0,(I l:Int),0,w)=cond (l.contains c') a b:=by
 have f:b5 (I l):=lr
 refine(gS (I l) (λi=>(l,c',0,(I l:Int),(i:Int),w)) (λi=>cond ((l.drop i).contains c') a b) (λi hi d g=>?_) (λd=>?_) k 0 (cp _) ag).trans iy
 .have e:aa (c'=l[i])=(c' == l[i]):=by rw[Bool.eq_iff_iff];simp
  simp only[yJ,ez hi,a8,bY hi,ax,cb (c:=.str) hi,cV hi f,g,h1,dn hi,List.contains_cons,e];cases c' == l[i]<;>rfl
 .simp only[yJ,eG,a_,h2];exact jz
variable{row:U aH}
theorem agv{kx:bf->H5->af R}{t:bU}{a b:af R}(g:I t.key<=4000)(l:I t.al<=4000)(h4 : 4000<k)(m:I t.al=I row)(h1:∀i,kx .ret (row,161,t.al,(I t.al:Int),i,t)=a)(h2:kx (.exit 0) (row,0,t.al,(I t.al:Int),(I t.al:Int),t)=b) :
  aT (λd=>yE k d kx) k (row,0,t.al,(I t.al:Int),0,t)=cond (AD t.key t.al row) a b:=by
 have h:b5 (I t.al):=lr
 refine(gS (I t.al) (λi=>(row,0,t.al,(I t.al:Int),(i:Int),t)) (λi=>cond (AD t.key (t.al.drop i) (row.drop i)) a b) (λi hi d f=>?_) (λd=>?_) k 0 (cp _) ag).trans np
 .have e:i<I row:=ag
  simp only[yE,ez hi,a8,bY hi,bY e,ax,cb (c:=.cO) hi,cb (c:=.val) e,cV hi h,dn hi,dn e,AD,h1];cases aa (row[i].kind=1)with
  |false=>exact f
  |true=>
   cases t.al[i].IW with
   |true=>rfl
   |false=>
    simp only[a8,a_,Bool.true_and,Bool.false_or];refine(agr (a:=a) (b:=d (row,0,t.al,(I t.al:Int),((i+1:Nat):Int),t)) g h4 (λj=>?_) rfl).trans ?_
    .simp only[aY (show(0:Int)<=(j:Int) by omega),a8];exact h1 _
    .rw[f];cases t.key.contains t.al[i].name<;>rfl
 .simp only[yE,eG,a_,h2];exact jz
theorem agT{kx:bf->Io->af R}{t:bU}{c:Int->af R}(f:I t.e9<=4000)(h4 : 4000<k)(h1:∀r i,kx .ret (row,r,t.e9,(I t.e9:Int),i,t)=c r)(h2:kx (.exit 2) (row,0,t.e9,(I t.e9:Int),(I t.e9:Int),t)=c 0) :
  aT (λa=>yV a kx) k (row,0,t.e9,(I t.e9:Int),0,t)=c (wJ t.al row t.e9):=by
 have b:b5 (I t.e9):=lr
 refine(gS (I t.e9) (λi=>(row,0,t.e9,(I t.e9:Int),(i:Int),t)) (λi=>c (wJ t.al row (t.e9.drop i))) (λi hi a d=>?_) (λa=>?_) k 0 (cp _) ag).trans iy
 .have e:aa (g_ (mq t.e9[i] t.al row).1 ⟨2,0,[]⟩=0)=aa ((mq t.e9[i] t.al row).1=⟨2,0,[]⟩):=hH.2 (CK.eq _ _);simp only[yV,ez hi,a8,bY hi,ax,cb (c:=.expr) hi,auu,bZ,cV hi b,d,h1,dn hi,wJ,e];cases aa ((mq t.e9[i] t.al row).2=0)with|false=>rfl|true=>cases aa ((mq t.e9[i] t.al row).1=⟨2,0,[]⟩)<;>rfl
 .simp only[yV,eG,a_,h2];exact jz
theorem akA{t:bU}(d:I t.key<=4000)(e:I t.al<=4000)(f:I t.e9<=4000)(g:jY t=ae)(h4 : 4000<k):xu k (t,row)=J (hS t row):=by
 simp only[xu,kX,g,a8,bZ,hS];cases hT t with
 |false=>rfl
 |true=>simp only[a8,decide_true,dj,a_];cases h:mM t.al row with|false=>rfl|true=>simp only[a8,dj,a_];refine(agv (a:=J 161) (b:=J (wJ t.al row t.e9)) d e h4 (Bd h) (λ_=>rfl) ?_).trans (fA);exact agT (c:=J) f h4 (λ_ _=>rfl) rfl
def F8(s:b4):Nat:=I s.al+I s.l+I s.order+I s.rows+I s.b8+(s.rows.map List.length).sum+1
def T3:bt:=⟨58,[(0,.int .u8),(2,.int .i64),(3,.str),(4,.int .i64)],[],[],0,0,0,[],[]⟩
abbrev Lh:=Int×Int×ar×Int
def M7{R:Type}(a:Lh->af R)(kx:bf->Lh->af R)(v:Lh):af R:=match v with|(v,v1,v2,aD)=>cond (aa (aD<(I v2:Int))) (ax (aU aD (I v2)) (cond (aa ((lI v2 aD)=v)) (kx .ret (v,7,v2,aD)) (a (v,v1,v2,(wr .i64 (aD+1)))))) (kx (.exit 1) (v,v1,v2,aD))
def XG(R:Type)(k:Nat):aM R:=bp [] [] [(15,cq k T3 (M7))] []
def Ud(k:Nat)(x:au [.int .u8]):af (au [aq]):=match x with
 |c=>
 let b:Bool->af (au [aq]):=λ(p1:Bool)=>
  cond (p1) (
  J 1) (
  let d:Bool->af (au [aq]):=λ(p3:Bool)=>
   cond (p3) (
   J 2) (
   let f:Bool->af (au [aq]):=λ(g:Bool)=>
    cond (g) (
    J 3) (
    cond (aa (c=95)) (
     J 4) (
     cond (aa (c=39)) (
     J 5) (
     let j:Bool->af (au [aq]):=λ(h:Bool)=>
      cond (h) (
      J 6) (
      cond (aa (c=10)) (
       J 6) (
       cond (aa (c=13)) (
       J 6) (
       aT (λa=>M7 a (λe i=>match i with|(_,a',_,_)=>match e with
        |.ret=>
        J a'
        |.exit 1=>
        J 0
        |_=>ah)) k (c,0,[40,41,44,42,61,60,62,43,45,59],0))))
     cond (aa (c=32)) (
      j ae) (
      j (aa (c=9))))))
   cond (aa (48<=c)) (
    f (aa (c<=57))) (
    f ai))
  cond (aa (97<=c)) (
   d (aa (c<=122))) (
   d ai))
 cond (aa (65<=c)) (
  b (aa (c<=90))) (
  b ai)
theorem anv(k:Nat):aN 163 [.int .u8] [aq] (Ud k):=bX (px:=XG _ k) (n:=1) Tryz.func163 rfl (λab H=>by have h0:bT ab (XG (au [aq]) k):=br H bm bo bq;have a:=cC H h0 (b:=b_ Tryz.f163 0) (k:=k) (n:=0) (s:=T3) (step:=M7) (λ_ _ _ (_,_,_,_)=>by kernel_rfl) aP;exact⟨h0,(cm aP a)⟩) λ_=>by kernel_rfl
def Ag(c:Int):Int:=fk.m2 c
def Ni:bb [.int .u8] [aq]:=λx=>J (Ag x)
theorem am6:((dy 256).all λn=>aa (Ud 11 (n:Int)=J (fk.m2 (n:Int))))=true:=b0
theorem aqW:aN 163 [.int .u8] [aq] Ni:=.fin 0 anv λ(c:Int) r aj a=>⟨11,by
 simp only[Ni,c4]at a;have h : 0<=c/\c<=255:=by have h0:sq .u8 c:=aj;simp only[sq,b'.min,b'.max]at h0;exact⟨h0.1,h0.2⟩
 obtain⟨n,rfl⟩:∃n:Nat,c=(n:Int):=⟨c.toNat,by omega⟩;have h2:=cX.1 am6 n (List.mem_range.2 ag);exact(of_decide_eq_true h2).trans (congrArg J a)⟩
def U9:bt:=⟨37,[(0,.str),(2,.bool),(3,.int .i64)],[],[],0,0,0,[],[]⟩
abbrev Il:=ar×Bool×Int
def yn{R:Type}(a:Il->af R)(kx:bf->Il->af R)(v:Il):af R:=match v with|(v,v1,v2)=>cond (aa (v2<(I v:Int))) (ax (aU v2 (I v)) (cond (!decide ((Ag (lI v v2))=2)) (cond (aa (v2=0)) (kx .ret (v,ai,v2)) (cond (!decide ((Ag (lI v v2))=3)) (cond (!decide ((Ag (lI v v2))=4)) (kx .ret (v,ai,v2)) (a (v,v1,(wr .i64 (v2+1))))) (a (v,v1,(wr .i64 (v2+1)))))) (a (v,v1,(wr .i64 (v2+1)))))) (kx (.exit 0) (v,v1,v2))
def S3(R:Type)(k:Nat):aM R:=bp [(163,bg Ni)] [] [(2,cq k U9 (yn))] []
def VK(k:Nat)(x:au [.str]):af (au [.bool]):=match x with
 |s=>
 aT (λa=>yn a (λe b=>match b with|(aD,v4,_)=>match e with
  |.ret=>
  J v4
  |.exit 0=>
  cond (aa (1<=(I aD:Int))) (
   J (aa ((I aD:Int)<=30))) (
   J ai)
  |_=>ah)) k (s,ai,0)
theorem apG(k:Nat):aN 118 [.str] [.bool] (VK k):=bX (px:=S3 _ k) (n:=1) Tryz.func118 rfl (λab H=>by have h0:bT ab (S3 (au [.bool]) k):=br H (c1 H aqW bm) bo bq;have a:=cC H h0 (b:=b_ Tryz.f118 0) (k:=k) (n:=0) (s:=U9) (step:=yn) (λ_ _ _ (_,_,_)=>by kernel_rfl) aP;exact⟨h0,(cm aP a)⟩) λ_=>by kernel_rfl
def p'(s:ar):Bool:=fk.I1 s
def z9:bb [.str] [.bool]:=λx=>J (p' x)
theorem V7{R:Type}{kx:bf->Il->af R}{s:ar}{c:Bool->af R}(d:b5 (I s))(h1:∀j,kx .ret (s,ai,j)=c ai)(h2:∀q j,kx (.exit 0) (s,q,j)=c ae):∀(k i:Nat) q,i<=I s->I s-i<k->aT (λb=>yn b kx) k (s,q,(i:Int))=c (fk.pJ (s.drop i) i)
 |0,i,q,_,h=>absurd h (pv _)
 |k+1,i,q,hi,h=>by
  rw[cQ];by_cases a:i<I s
  .have dv:((i+1:Nat):Int)=(i:Int)+1:=ag
   simp only[yn,cV a d,(V7 d h1 h2 k (i+1) q ag ag),h1,dn a,zL a,bY a,ax,Ag,fk.pJ,fk.IU]
   grind
  .simp[yn,h2];rw[bl ag,g0 ag];rfl
theorem M3:aN 118 [.str] [.bool] z9:=.fin 0 apG λs r aj a=>⟨I s+1,by simp only[z9,c4]at a;subst a;simp only[VK];refine(V7 (s:=s) (c:=λb=>cond b (cond (aa (1<=(I s:Int))) (J (aa ((I s:Int)<=30))) (J ai)) (J ai)) aj (λ_=>rfl) (λ_ _=>rfl) (I s+1) 0 ai (cp _) ag).trans ?_;rw[gH,p',fk.I1];show cond (fk.pJ s 0) _ _=_;cases fk.pJ s 0<;>cases aa (1<=(I s:Int))<;>rfl⟩
theorem GY(s:ar):p' s=fC s:=(fk.ax8 s).symm
def atb(R:Type):aM R:=bp [] [] [] []
def UY(x:au [aq]):af (au [.str]):=match x with|kind=>cond (aa (kind<0)) (J []) (cond (aa (15<=kind)) (J []) (ax (aU kind 15) (J (at' .str [[],[],[],[],[65,78,68],[79,82],[61],[60,62],[60],[60,61],[62],[62,61],[43],[45],[42]] kind))))
theorem arv:aN 164 [aq] [.str] (UY):=bX (px:=atb _) (n:=0) Tryz.func164 rfl (λ_ H=>⟨br H bm bo bq,aP⟩) λ_=>by kernel_rfl
def au5:U ar:=[[],[],[],[],[65,78,68],[79,82],[61],[60,62],[60],[60,61],[62],[62,61],[43],[45],[42]]
def rm(k:Int):ar:=if k<0\/15<=k then []else at' .str au5 k
def JI:bb [aq] [.str]:=λx=>J (rm x)
theorem atE:aN 164 [aq] [.str] JI:=.de arv λ(k:Int) r _ a=>by
 simp only[JI,c4]at a;subst a;simp only[UY,rm];by_cases h1:k<0
 .rw[aY h1,if_pos (.inl h1)];rfl
 .by_cases h2 : 15<=k
  .rw[bl h1,aY h2,if_pos (.inr h2)];rfl
  .rw[bl h1,bl h2,if_neg ag];obtain⟨j,rfl⟩:∃j:Nat,k=(j:Int):=⟨k.toNat,by omega⟩;rw[bY (i:=j) (n:=15) ag];rfl
def aua(R:Type)(rf:bb [bR] [aq]):aM R:=bp [(101,bg MS),(118,bg z9),(164,bg JI),(121,bg rf)] [] [] []
def A4(rf:bb [bR] [aq])(x:au [bR]):af (au [aq]):=match x with
 |e=>
 let d:=λ(a:Int)=>
  cond (!decide ((I e.l:Int)=a)) (
  J 31) (
  cond (!decide (e.v=(aH.mk 0 0 []))) (
   J 31) (
   cond (!decide (e.name=[])) (
   J 31) (
   ax (aU 0 (I e.l)) (
    (rf (at' .expr e.l 0)).bind λx=>
    cond (aa (a=2)) (
     ax (aU 1 (I e.l)) (
     (rf (at' .expr e.l 1)).bind λf=>J (wr .i64 (1+(max2 x f))))) (
     J (wr .i64 (1+x)))))))
 cond (aa (e.kind=1)) (
  let j:=λ(p1:Bool)=>
  cond (p1) (
   J 31) (
   cond (!decide (e.name=[])) (
   J 31) (
   cond (aa (0<(I e.l:Int))) (
    J 31) (
    J 1)))
  cond (!decide ((OB e.v)=0)) (
  j ae) (
  cond (aa (e.v.kind=3)) (
   j (aa (e.v.n<0))) (
   j ai))) (
  cond (aa (e.kind=2)) (
  cond (!(p' e.name)) (
   J 31) (
   cond (!decide (e.v=(aH.mk 0 0 []))) (
   J 31) (
   cond (aa (0<(I e.l:Int))) (
    J 31) (
    J 1)))) (
  let c:=λ(b:Bool)=>
   cond (b) (
   d 1) (
   cond (aa ((rm e.kind)=[])) (
    J 31) (
    d 2))
  cond (aa (e.kind=3)) (
   c (aa (e.kind=3))) (
   cond (aa (e.kind=15)) (
   c (aa (e.kind=15))) (
   c (aa (e.kind=16))))))
theorem apB(rf:bb [bR] [aq])(a:aN 121 [bR] [aq] rf):aN 121 [bR] [aq] (A4 rf):=bX (px:=aua _ rf) (n:=0) Tryz.func121 rfl (λ_ H=>⟨br H (c1 H ard (c1 H M3 (c1 H atE (c1 H a bm)))) bo bq,aP⟩) λ_=>by kernel_rfl
def ao(q:U Int)(i:Nat):Int:=q.getD i 0
def pY(e:bh)(q:U Int):Int:=if e.kind=1 then(if hP e.v=0/\¬(e.v.kind=3/\e.v.n<0)/\e.name=[]/\¬ 0<(I e.l:Int)then 1 else 31)else if e.kind=2 then(if fC e.name=ae/\e.v=⟨0,0,[]⟩/\¬ 0<(I e.l:Int)then 1 else 31)else if e.kind=3\/e.kind=15\/e.kind=16 then(if(I e.l:Int)=1/\e.v=⟨0,0,[]⟩/\e.name=[]then wr .i64 (1+ao q 0)else 31)else if rm e.kind=[]then 31 else if(I e.l:Int)=2/\e.v=⟨0,0,[]⟩/\e.name=[]then wr .i64 (1+max2 (ao q 0) (ao q 1))else 31
mutual
def eB:bh->Int|.mk k v c' l=>pY (.mk k v c' l) (kT l)
def kT:U bh->U Int|[]=>[]|x::l=>eB x::kT l
end
theorem MU(e:bh):eB e=pY e (kT e.l):=by cases e;simp[eB,bh.l]
def E4:bb [bR] [aq]:=λx=>J (eB x)
theorem My{e:bh}{rf:bb [bR] [aq]}(a:∀x,x∈e.l->rf x=J (eB x))(p:Int->af Int):(cond (!decide ((I e.l:Int)=1)) (J 31) (cond (!decide (e.v=aH.mk 0 0 [])) (J 31) (cond (!decide (e.name=[])) (J 31) (ax (aU 0 (I e.l)) ((rf (at' .expr e.l 0)).bind λx=>cond (aa ((1:Int)=2)) (p x) (J (wr .i64 (1+x))))))))=J (if(I e.l:Int)=1/\e.v=⟨0,0,[]⟩/\e.name=[]then wr .i64 (1+ao (kT e.l) 0)else 31):=by
 by_cases f:(I e.l:Int)=1
 .obtain⟨x,bB⟩:∃x,e.l=[x]:=List.length_eq_one_iff.1 ag;have b:=a x (by rw[bB];simp);rw[bB];have a0:at' .expr [x] 0=x:=rfl;have i0:aU 0 (I [x])=true:=rfl;by_cases c:e.v=⟨0,0,[]⟩
  .by_cases d:e.name=[]
   .rw[aY c,aY d,if_pos ⟨rfl,c,d⟩,a0,i0,b];rfl
   .grind
  .grind
 .grind
theorem EW{l:U bh}(h:I l=2):∃x y,l=[x,y]:=by match l,h with|[x,y],_=>exact⟨x,y,rfl⟩
theorem aul{e:bh}{rf:bb [bR] [aq]}(a:∀x,x∈e.l->rf x=J (eB x))(p:Int->af Int):(cond (!decide ((I e.l:Int)=2)) (J 31) (cond (!decide (e.v=aH.mk 0 0 [])) (J 31) (cond (!decide (e.name=[])) (J 31) (ax (aU 0 (I e.l)) ((rf (at' .expr e.l 0)).bind λx=>cond (aa ((2:Int)=2)) (ax (aU 1 (I e.l)) ((rf (at' .expr e.l 1)).bind λg=>J (wr .i64 (1+(max2 x g))))) (p x))))))=J (if(I e.l:Int)=2/\e.v=⟨0,0,[]⟩/\e.name=[]then wr .i64 (1+max2 (ao (kT e.l) 0) (ao (kT e.l) 1))else 31):=by
 by_cases h:(I e.l:Int)=2
 .obtain⟨x,y,bB⟩:∃x y,e.l=[x,y]:=EW ag;have b:=a x (by rw[bB];simp);have c:=a y (by rw[bB];simp);rw[bB];have a0:at' .expr [x,y] 0=x:=rfl;have a1:at' .expr [x,y] 1=y:=rfl;have i0:aU 0 (I [x,y])=true:=rfl;have i1:aU 1 (I [x,y])=true:=rfl;by_cases d:e.v=⟨0,0,[]⟩
  .by_cases f:e.name=[]
   .rw[aY d,aY f,if_pos ⟨rfl,d,f⟩,a0,i0,a1,i1,b,c];rfl
   .grind
  .grind
 .grind
theorem amO{e:bh}{rf:bb [bR] [aq]}(a:∀x,x∈e.l->rf x=J (eB x)):A4 rf e=J (eB e):=by
 have ro:∀v:aH,OB v=hP v:=λ_=>rfl;have i:∀s:ar,p' s=fC s:=GY;have a6 : 0<I e.l↔¬e.l=[]:=List.length_pos_iff;rw[MU];simp only[A4,pY];by_cases f:e.kind=1
 .grind
 .by_cases g:e.kind=2
  .grind
  .rw[if_neg f,if_neg g,bl f,bl g];by_cases d:e.kind=3
   .rw[if_pos (.inl d),aY d];exact My a _
   .by_cases b:e.kind=15
    .rw[if_pos (.inr (.inl b)),bl d,aY b];exact My a _
    .by_cases c:e.kind=16
     .rw[if_pos (.inr (.inr c)),bl d,bl b,aY c];exact My a _
     .rw[if_neg ag,bl d,bl b,bl c];by_cases h:rm e.kind=[]
      .grind
      .rw[if_neg h,bl h];exact aul a _
theorem Yv:∀(n:Nat) (e:bh),di e<=n->aT A4 n e=J (eB e)
 |0,e,h=>by have:=mJ e;omega
 |n+1,e,h=>by rw[cQ];refine amO λx a=>Yv n x ?_;have:=ka a;rw[nn]at h;omega
theorem No:aN 121 [bR] [aq] E4:=by refine .fin (ι:=Nat) 0 (F:=λn=>aT A4 n) (λn=>eH.jf (aw.ga Tryz.func121 rfl rfl) (λrf a=>apB rf a) n) λe r aj b=>⟨di e,?_⟩;exact(Yv (di e) e (b2 _)).trans b
def as9(R:Type):aM R:=bp [(121,bg E4)] [] [] []
def K_(x:au [bR]):af (au [aq]):=match x with|e=>cond (aa (30<(eB e))) (J 2) (J 0)
theorem arE:aN 98 [bR] [aq] (K_):=bX (px:=as9 _) (n:=0) Tryz.func98 rfl (λ_ H=>⟨br H (c1 H No bm) bo bq,aP⟩) λ_=>by kernel_rfl
def pt(e:bh):Int:=cond (aa (30<(eB e))) (2) (0)
theorem arL(x:au [bR]):K_ x=J (pt x):=by
 first
  |exact rfl
  |simp only[K_,pt,fA]
def abd:bb [bR] [aq]:=λx=>J (pt x)
theorem asl:aN 98 [bR] [aq] abd:=.de arE λx _ _ a=>(arL x).trans a
theorem uM:∀(n:Nat) (e:bh),di e<=n->n<1000000->1<=eB e/\eB e<=31+(n:Int)
 |0,e,h,_=>by have:=mJ e;omega
 |n+1,e,h,cJ=>by
  have one:(I e.l:Int)=1->1<=wr .i64 (1+ao (kT e.l) 0)/\wr .i64 (1+ao (kT e.l) 0)<=31+((n+1:Nat):Int):=λa=>by
   obtain⟨x,aW⟩:∃x,e.l=[x]:=List.length_eq_one_iff.1 ag;have aj:=uM n x PE ag;have h0:ao (kT e.l) 0=eB x:=by rw[aW];rfl
   rw[h0,ht lW];omega
  have two:(I e.l:Int)=2->1<=wr .i64 (1+max2 (ao (kT e.l) 0) (ao (kT e.l) 1))/\wr .i64 (1+max2 (ao (kT e.l) 0) (ao (kT e.l) 1))<=31+((n+1:Nat):Int):=λa=>by
   obtain⟨x,y,aW⟩:∃x y,e.l=[x,y]:=EW ag;have aj:=uM n x PE ag;have an:=uM n y PE ag;have h0:ao (kT e.l) 0=eB x:=by rw[aW];rfl
   have h1:ao (kT e.l) 1=eB y:=by rw[aW];rfl
   have hm:max2 (eB x) (eB y)=eB x\/max2 (eB x) (eB y)=eB y:=by simp only[max2];split<;>simp
   rw[h0,h1];rcases hm with hm|hm<;>rw[hm,ht lW]<;>omega
  rw[MU];simp[pY];split
  .split<;>omega
  .grind
theorem aoL{k:Int}(h : 4<=k/\k<=14):¬rm k=[]:=by rcases(by omega:k=4\/k=5\/k=6\/k=7\/k=8\/k=9\/k=10\/k=11\/k=12\/k=13\/k=14)with rfl|rfl|rfl|rfl|rfl|rfl|rfl|rfl|rfl|rfl|rfl<;>decide
theorem auv{k:Int}(h1:¬(4<=k/\k<=14)):rm k=[]:=by
 by_cases h2:k<0\/15<=k
 .rw[rm,if_pos h2]
 .rcases(by omega:k=0\/k=1\/k=2\/k=3)with rfl|rfl|rfl|rfl<;>decide
theorem arX{k:Int}(h:parts k = -1):¬(1<=k/\k<=16):=λa=>by rcases(by omega:k=1\/k=2\/k=3\/k=4\/k=5\/k=6\/k=7\/k=8\/k=9\/k=10\/k=11\/k=12\/k=13\/k=14\/k=15\/k=16)with rfl|rfl|rfl|rfl|rfl|rfl|rfl|rfl|rfl|rfl|rfl|rfl|rfl|rfl|rfl|rfl<;>exact absurd h dU
theorem tM:∀(n:Nat) (e:bh) (m:Nat),di e<=n->n<1000000->m<=30->(fh e (m:Int)=ae↔eB e<=(m:Int))
 |0,e,_,h,_,_=>by have:=mJ e;omega
 |n+1,e,m,h,cJ,hm=>by
  have aj:=uM (n+1) e h cJ;rw[L_];by_cases h0:m=0
  .subst h0;constructor
   .intro b;rw[aY (show((0:Nat):Int)=0 from rfl)]at b;cases b
   .intro b;omega
  .have z:wr .i64 ((m:Int)-1)=((m-1:Nat):Int):=PG
   have u:(1:Int)<=(m:Int):=ag
   have a:¬(31:Int)<=(m:Int):=ag
   rw[z,bl (show ¬(m:Int)=0 by omega),MU];rcases KQ e.kind with ⟨p,i⟩|⟨p,i⟩|⟨p,i⟩|p
   .rw[p];have dB:aa ((I e.l:Int)=0)=aa (e.l=[]):=hH.2 ⟨λh=>List.eq_nil_of_length_eq_zero ag,λh=>by rw[h];rfl⟩;have bN : 0<I e.l↔¬e.l=[]:=List.length_pos_iff;rw[dB];rcases i with d|f
    .simp only[pY,pE,d];by_cases c:e.l=[]<;>by_cases a1:hP e.v=0<;>by_cases a2:e.v.kind=3<;>by_cases a3:e.v.n<0<;>by_cases a4:e.name=[]<;>simp[c,a1,a2,a3,a4,u,a,kN]
    .simp[pY,pE,f];by_cases c:e.l=[]<;>by_cases a1:fC e.name=ae<;>by_cases a2:e.v=⟨0,0,[]⟩<;>simp[c,a1,a2,u,a,kN]
   .have d:¬e.kind=1:=ag
    have f:¬e.kind=2:=ag
    rw[p];simp only[pY,pE,if_neg d,if_neg f,if_pos i,bl d,bl f];by_cases c:(I e.l:Int)=1
    .obtain⟨x,b⟩:∃x,e.l=[x]:=List.length_eq_one_iff.1 ag;have j:di x<=n:=PF
     have k:=uM n x j ag;have o:fh x ((m-1:Nat):Int)=ae↔1+eB x<=(m:Int):=(tM n x (m-1) j ag ag).trans ag;have q:kN e.l ((m-1:Nat):Int)=fh x ((m-1:Nat):Int):=by rw[b];simp[kN]
     have h0:ao (kT e.l) 0=eB x:=tJ
     have g:wr .i64 (1+eB x)=1+eB x:=ht lW;rw[q,h0,g,aY c];by_cases r:e.v=⟨0,0,[]⟩<;>by_cases s:e.name=[]<;>simp[c,r,s,o,a]
    .rw[bl c];simp[c,a]
   .have d:¬e.kind=1:=ag
    have f:¬e.kind=2:=ag
    have gl:¬(e.kind=3\/e.kind=15\/e.kind=16):=ag
    rw[p];simp only[pY,pE,if_neg d,if_neg f,if_neg gl,if_neg (aoL i),bl d,bl f];by_cases c:(I e.l:Int)=2
    .obtain⟨x,y,b⟩:∃x y,e.l=[x,y]:=EW ag;have j:di x<=n:=PF
     have w:di y<=n:=PF
     have k:=uM n x j ag;have aJ:=uM n y w ag;have o:fh x ((m-1:Nat):Int)=ae↔1+eB x<=(m:Int):=(tM n x (m-1) j ag ag).trans ag;have ax0:fh y ((m-1:Nat):Int)=ae↔1+eB y<=(m:Int):=(tM n y (m-1) w ag ag).trans ag;have q:kN e.l ((m-1:Nat):Int)=(fh x ((m-1:Nat):Int)&&fh y ((m-1:Nat):Int)):=by rw[b];simp[kN]
     have h0:ao (kT e.l) 0=eB x:=tJ
     have h1:ao (kT e.l) 1=eB y:=tJ
     have g:wr .i64 (1+max2 (eB x) (eB y))=1+max2 (eB x) (eB y):=ht (by simp[da,max2];split<;>omega)
     have t : 1+max2 (eB x) (eB y)<=(m:Int)↔(1+eB x<=(m:Int)/\1+eB y<=(m:Int)):=by simp[max2];split<;>omega
     rw[q,h0,h1,g,aY c];by_cases r:e.v=⟨0,0,[]⟩<;>by_cases s:e.name=[]<;>simp[c,r,s,o,ax0,t,a]
    .rw[bl c];simp[c,a]
   .have i:=arX p;rw[p,bl (show ¬(I e.l:Int) = -1 by omega)];simp only[pY,if_neg (show ¬e.kind=1 by omega),if_neg (show ¬e.kind=2 by omega),if_neg (show ¬(e.kind=3\/e.kind=15\/e.kind=16) by omega),if_pos (auv (show ¬(4<=e.kind/\e.kind<=14) by omega))];simp[a]
def asC(R:Type):aM R:=bp [] [] [] []
def KR(x:au [aq]):af (au [aq,aq]):=match x with
 |kind=>
 let a:=λ(p1:Bool)=>
  cond (p1) (
  J (2,2)) (
  let j:=λ(p3:Bool)=>
   cond (p3) (
   J (0,2)) (
   cond (aa (12<=kind)) (
    cond (aa (kind<=15)) (
    J (3,3)) (
    J (0,2))) (
    J (0,2)))
  cond (aa (6<=kind)) (
   j (aa (kind<=11))) (
   j ai))
 cond (aa (3<=kind)) (
  a (aa (kind<=5))) (
  a ai)
theorem aoy:aN 141 [aq] [aq,aq] (KR):=bX (px:=asC _) (n:=0) Tryz.func141 rfl (λ_ H=>⟨br H bm bo bq,aP⟩) λ_=>by kernel_rfl
def fw(kind:Int):Int×Int:=
 let a:=λ(p1:Bool)=>
  cond (p1) (
  (2,2)) (
  let j:=λ(p3:Bool)=>
   cond (p3) (
   (0,2)) (
   cond (aa (12<=kind)) (
    cond (aa (kind<=15)) (
    (3,3)) (
    (0,2))) (
    (0,2)))
  cond (aa (6<=kind)) (
   j (aa (kind<=11))) (
   j ai))
 cond (aa (3<=kind)) (
  a (aa (kind<=5))) (
  a ai)
theorem apQ(x:au [aq]):KR x=J (fw x):=by
 first
  |exact rfl
  |simp only[KR,fw,fA]
def ab2:bb [aq] [aq,aq]:=λx=>J (fw x)
theorem ais:aN 141 [aq] [aq,aq] ab2:=.de aoy λx _ _ a=>(apQ x).trans a
def Wu:bt:=⟨117,[(1,.sl .cO ai),(4,.int .i64),(5,.int .i64),(6,.int .i64)],[(2,.ptr 0 0)],[(0,.one (.aI .expr))],1,0,0,[],[]⟩
abbrev Bz:=U cW×Int×Int×Int×bh
def r4{R:Type}(a:Bz->af R)(kx:bf->Bz->af R)(v:Bz):af R:=match v with|(v,v1,v2,aD,w)=>cond (aa (aD<(I v:Int))) (cond (aa (w.kind=2)) (ax (aU aD (I v)) (cond (aa (((at' .cO v aD).name)=w.name)) (ax (aU aD (I v)) (kx .ret (v,(at' .cO v aD).kind,0,aD,w))) (a (v,v1,v2,(wr .i64 (aD+1)),w)))) (kx (.exit 0) (v,v1,v2,aD,w))) (kx (.exit 0) (v,v1,v2,aD,w))
def aae(R:Type)(k:Nat)(rf:bb [bR,dJ] [aq,aq]):aM R:=bp [(99,bg rf),(141,bg ab2)] [] [(4,cq k Wu (r4))] []
def A6(k:Nat)(rf:bb [bR,dJ] [aq,aq])(x:au [bR,dJ]):af (au [aq,aq]):=match x with
 |(e,al)=>
 cond (aa (e.kind=1)) (
  J (e.v.kind,0)) (
  aT (λa=>r4 a (λe g=>match g with|(v4,a',v6,_,b6)=>match e with
  |.ret=>J (a',v6)
  |.exit 0=>
   cond (aa (b6.kind=2)) (
   J (0,150)) (
   ax (aU 0 (I b6.l)) (
    (rf ((at' .expr b6.l 0),v4)).bind λ(x,b)=>
    cond (!decide (b=0)) (
     J (0,b)) (
     let c:Int->af (au [aq,aq]):=λ(p2:Int)=>
     let d:Unit->af (au [aq,aq]):=λ(_:Unit)=>
      let j:Bool->af (au [aq,aq]):=λ(h:Bool)=>
      cond (h) (
       cond (aa (p2=(fw b6.kind).1)) (
       J ((fw b6.kind).2,0)) (
       cond (aa (p2=1)) (
        J ((fw b6.kind).2,0)) (
        J (0,151)))) (
       J (0,151))
      cond (aa (0<(fw b6.kind).1)) (
      cond (aa (x=(fw b6.kind).1)) (
       j ae) (
       j (aa (x=1)))) (
      j ai)
     cond (aa ((fw b6.kind).1=0)) (
      cond (aa (x=p2)) (
      J ((fw b6.kind).2,0)) (
      cond (aa (x=1)) (
       J ((fw b6.kind).2,0)) (
       cond (aa (p2=1)) (
       J ((fw b6.kind).2,0)) (
       d ())))) (
      d ())
     cond (aa ((I b6.l:Int)=2)) (
     ax (aU 1 (I b6.l)) (
      (rf ((at' .expr b6.l 1),v4)).bind λ(i,f)=>
      cond (!decide (f=0)) (
       J (0,f)) (
       c i))) (
     c x))))
  |_=>ah)) k (al,0,0,0,e))
theorem aqY(k:Nat)(rf:bb [bR,dJ] [aq,aq])(c:aN 99 [bR,dJ] [aq,aq] rf):aN 99 [bR,dJ] [aq,aq] (A6 k rf):=bX (px:=aae _ k rf) (n:=1) Tryz.func99 rfl (λab H=>by have h0:bT ab (aae (au [aq,aq]) k rf):=br H (c1 H c (c1 H ais bm)) bo bq;have a:=cC H h0 (b:=b_ Tryz.f99 0) (k:=k) (n:=0) (s:=Wu) (step:=r4) (λ_ _ _ (_,_,_,_,_)=>by kernel_rfl) aP;exact⟨h0,(cm aP a)⟩) λ(_,_)=>by kernel_rfl
mutual
def q3:bh->Bool|.mk k _ _ l=>aa ((I l:Int)=parts k)&&vm l
def vm:U bh->Bool|[]=>ae|x::l=>q3 x&&vm l
end
theorem Oo(e:bh):q3 e=(aa ((I e.l:Int)=parts e.kind)&&vm e.l):=by cases e;simp[ bh.l];rfl
theorem abk:∀{l:U bh}{x:bh},vm l=ae->x∈l->q3 x=ae
 |y::l,x,h,a=>by
  simp[vm]at h;rcases ek.1 a with rfl|a
  .exact h.1
  .exact abk h.2 a
def zv(e:bh)(al:U cW):af (Int×Int):=cond (q3 e) (J (eC e al)) ah
def Ji:bb [bR,dJ] [aq,aq]:=λx=>zv x.1 x.2
theorem aj1{k:Int}(h : 3<=k/\k<=5):fw k=(2,2):=by rcases(by omega:k=3\/k=4\/k=5)with rfl|rfl|rfl<;>rfl
theorem alE{k:Int}(h : 6<=k/\k<=11):fw k=(0,2):=by rcases(by omega:k=6\/k=7\/k=8\/k=9\/k=10\/k=11)with rfl|rfl|rfl|rfl|rfl|rfl<;>rfl
theorem alG{k:Int}(h : 12<=k/\k<=15):fw k=(3,3):=by rcases(by omega:k=12\/k=13\/k=14\/k=15)with rfl|rfl|rfl|rfl<;>rfl
theorem abN{e:bh}{b:Int}(h : 3<=e.kind/\e.kind<=16)(f:e.kind=16->a=b):(cond (aa ((fw e.kind).1=0)) (cond (aa (a=b)) (J ((fw e.kind).2,0)) (cond (aa (a=1)) (J ((fw e.kind).2,0)) (cond (aa (b=1)) (J ((fw e.kind).2,0)) (cond (aa (0<(fw e.kind).1)) (cond (aa (a=(fw e.kind).1)) (cond ae (cond (aa (b=(fw e.kind).1)) (J ((fw e.kind).2,0)) (cond (aa (b=1)) (J ((fw e.kind).2,0)) (J (0,151)))) (J (0,151))) (cond (aa (a=1)) (cond (aa (b=(fw e.kind).1)) (J ((fw e.kind).2,0)) (cond (aa (b=1)) (J ((fw e.kind).2,0)) (J (0,151)))) (J (0,151)))) (cond ai (cond (aa (b=(fw e.kind).1)) (J ((fw e.kind).2,0)) (cond (aa (b=1)) (J ((fw e.kind).2,0)) (J (0,151)))) (J (0,151))))))) (cond (aa (0<(fw e.kind).1)) (cond (aa (a=(fw e.kind).1)) (cond ae (cond (aa (b=(fw e.kind).1)) (J ((fw e.kind).2,0)) (cond (aa (b=1)) (J ((fw e.kind).2,0)) (J (0,151)))) (J (0,151))) (cond (aa (a=1)) (cond (aa (b=(fw e.kind).1)) (J ((fw e.kind).2,0)) (cond (aa (b=1)) (J ((fw e.kind).2,0)) (J (0,151)))) (J (0,151)))) (cond ai (cond (aa (b=(fw e.kind).1)) (J ((fw e.kind).2,0)) (cond (aa (b=1)) (J ((fw e.kind).2,0)) (J (0,151)))) (J (0,151)))):af (Int×Int))=J (iE e al a b):=by
 have i:¬e.kind=1:=ag
 have j:¬e.kind=2:=ag
 simp[iE,if_neg i,if_neg j];by_cases c1:e.kind<=5
 .rw[aj1 ⟨h.1,c1⟩,if_neg ag,if_pos ag];by_cases a2:a=2<;>by_cases a1:a=1<;>by_cases g:b=2<;>by_cases d:b=1<;>simp[k3,a1,a2,d,g]
 .by_cases c2:e.kind<=11
  .rw[alE ⟨by omega,c2⟩,if_neg ag,if_neg ag,if_neg ag];by_cases a2:a=b<;>by_cases a1:a=1<;>by_cases d:b=1<;>simp[a1,a2,d]
  .by_cases iI:e.kind<=15
   .rw[alG ⟨by omega,iI⟩,if_neg ag,if_neg ag,if_pos ag];by_cases a2:a=3<;>by_cases a1:a=1<;>by_cases g:b=3<;>by_cases d:b=1<;>simp[k3,a1,a2,d,g]
   .have c:e.kind=16:=ag
    rw[if_pos c,c,f c];have k:fw 16=(0,2):=rfl;rw[k,aY (rfl:b=b)];rfl
theorem V8{R:Type}{kx:bf->Bz->af R}{al:U cW}{e:bh}{a:Int->af R}{b:af R}(m:b5 (I al))(n:e.kind=2)(h1:∀q j,kx .ret (al,q,0,j,e)=a q)(h2:∀q r j,kx (.exit 0) (al,q,r,j,e)=b):∀(k i:Nat) q r,i<=I al->I al-i<k->aT (λg=>r4 g kx) k (al,q,r,(i:Int),e)=if jh (al.drop i) e.name i<0 then b else a (at' .cO al (jh (al.drop i) e.name i)).kind
 |0,i,q,r,_,h=>by omega
 |k+1,i,q,r,hi,h=>by
  rw[cQ];by_cases d:i<I al
  .simp only[r4,bY d,cb (c:=.cO) d,cV d m,h1,(V8 m n h1 h2 k (i+1) q r ag ag),dn d];rw[aY (show(i:Int)<(I al:Int) by omega),aY n];by_cases an:al[i].name=e.name
   .have f:∀l,jh (al[i]::l) e.name i=(i:Int):=λl=>by simp only[jh];rw[if_pos an]
    rw[f,aY an,if_neg (show ¬(i:Int)<0 by omega),cb (c:=.cO) d];rfl
   .have f:∀l,jh (al[i]::l) e.name i=jh l e.name (i+1):=λl=>by simp only[jh];rw[if_neg an]
    rw[f,bl an];rfl
  .have f:jh [] e.name i = -1:=rfl;simp only[r4,h2];rw[bl ag,g0 ag,f,if_pos ag];rfl
theorem atm{kx:bf->Bz->af R}{e:bh}{b:af R}(h:¬e.kind=2)(h2:kx (.exit 0) (al,0,0,0,e)=b)(k:Nat):aT (λa=>r4 a kx) (k+1) (al,0,0,0,e)=b:=by rw[cQ];simp only[r4,h2,bl h];cases aa ((0:Int)<(I al:Int))<;>rfl
theorem am9(k:Nat){e:bh}{rf:bb [bR,dJ] [aq,aq]}(w:b5 (I al))(z:I al<k)(t:q3 e=ae)(i:∀x,x∈e.l->rf (x,al)=J (eC x al)):A6 k rf (e,al)=J (eC e al):=by
 rw[Oo,bx,dM]at t;have u:=t.1;obtain⟨k,rfl⟩:∃j,k=j+1:=⟨k-1,by omega⟩;simp only[A6];by_cases o:e.kind=1
 .have d:e.l=[]:=List.eq_nil_of_length_eq_zero (by rw[o]at u;have:parts 1=0:=rfl;omega);rw[aY o,ua,d];simp[lh,l8,iE,if_pos o]
 .rw[bl o,a_];by_cases n:e.kind=2
  .have d:e.l=[]:=List.eq_nil_of_length_eq_zero (by rw[n]at u;have:parts 2=0:=rfl;omega);refine(V8 (a:=λq=>J (q,0)) (b:=J (0,150)) w n (λ_ _=>rfl) (λq r j=>?_) (k+1) 0 0 0 (cp _) ag).trans ?_
   .show cond (aa (e.kind=2)) _ _=_;rw[aY n];rfl
   .rw[ua,d];simp[lh,l8,iE,if_neg o,if_pos n];show(if dR al e.name<0 then J (0,150)else J ((at' .cO al (dR al e.name)).kind,0))=_;by_cases c:dR al e.name<0
    .rw[if_pos c,if_pos c]
    .rw[if_neg c,if_neg c]
  .refine atm n ?_ k;show cond (aa (e.kind=2)) _ _=_;rw[bl n];rcases KQ e.kind with ⟨h0,h⟩|⟨h0,h⟩|⟨h0,h⟩|h0
   .omega
   .obtain⟨x,d⟩:∃x,e.l=[x]:=List.length_eq_one_iff.1 ag;have m:=i x (by rw[d];simp);have a0:at' .expr [x] 0=x:=rfl;have i0:aU 0 (I [x])=true:=rfl;rw[ua,d,a0,i0,m];simp only[lh,l8];cases eC x al with
    |mk a f=>
     show cond (!decide (f=0)) _ _=_;by_cases c:f=0
     .rw[aY c,if_pos c];show cond (aa ((I ([x]:U bh):Int)=2)) _ _=_;rw[show aa ((I ([x]:U bh):Int)=2)=ai from rfl];have v:=abN (e:=e) (al:=al) (a:=a) (b:=a) ag (λ_=>rfl);rw[aY (rfl:a=a)]at v;rw[@aY True _ trivial];exact v
     .rw[bl c,if_neg c];rfl
   .obtain⟨x,y,d⟩:∃x y,e.l=[x,y]:=EW ag;have m:=i x (by rw[d];simp);have s:=i y (by rw[d];simp);have a0:at' .expr [x,y] 0=x:=rfl;have i0:aU 0 (I [x,y])=true:=rfl;have a1:at' .expr [x,y] 1=y:=rfl;have i1:aU 1 (I [x,y])=true:=rfl;rw[ua,d,a0,i0,m,a1,i1,s];simp only[lh,l8];cases eC x al with
    |mk a f=>
     show cond (!decide (f=0)) _ _=_;by_cases c:f=0
     .rw[aY c,if_pos c];cases eC y al with
      |mk b g=>
       show cond (!decide (g=0)) _ _=_;by_cases p:g=0
       .rw[aY p,if_pos p];exact abN (e:=e) ag (λ_=>by omega)
       .rw[bl p,if_neg p];rfl
     .rw[bl c,if_neg c];rfl
   .omega
theorem YW(k:Nat):∀(n:Nat) (e:bh) (al:U cW),b5 (I al)->I al<k->q3 e=ae->di e<=n->aT (A6 k) n (e,al)=J (eC e al)
 |0,e,_,_,_,_,h=>by have:=mJ e;omega
 |n+1,e,al,cJ,aV,hw,h=>by
  rw[cQ];refine am9 k cJ aV hw λx a=>YW k n x al cJ aV ?_ ?_
  .rw[Oo,bx]at hw;exact abk hw.2 a
  .have:=ka a;rw[nn]at h;omega
theorem asK:aN 99 [bR,dJ] [aq,aq] Ji:=by refine .fin (ι:=Nat×Nat) (0,0) (F:=λn=>aT (A6 n.1) n.2) (λn=>eH.jf (aw.ga Tryz.func99 rfl rfl) (λrf b=>aqY n.1 rf b) n.2) λ(e,al) r aj a=>⟨(I al+1,di e),?_⟩;simp only[Ji,zv]at a;cases c:q3 e with|false=>rw[c]at a;cases a|true=>rw[c]at a;exact(YW (I al+1) (di e) e al aj.2.1 ag c (b2 _)).trans a
theorem anB{v:aH}(h:cS v=ae) : 1<=v.kind:=by
 by_cases h1:v.kind=1
 .omega
 by_cases h2:v.kind=2
 .omega
 by_cases h3:v.kind=3
 .omega
 by_cases h4:v.kind=4
 .omega
 by_cases h5:v.kind=5
 .omega
 simp[cS,h1,h2,h3,h4,h5]at h
theorem M4{l:U cW}(h:¬dR l s<0):∃i:Nat,∃hi:i<I l,dR l s=(i:Int)/\at' .cO l (dR l s)=l[i]:=by
 rcases K4 l s with h1|⟨h1,h2⟩
 .omega
 .obtain⟨i,hi⟩:∃i:Nat,dR l s=(i:Int):=⟨(dR l s).toNat,by omega⟩;refine⟨i,by omega,hi,?_⟩;rw[hi];exact cb (c:=.cO) ag
theorem M'{e:bh}{b:Int}(aE:e.kind=1->1<=e.v.kind)(an:al.all kz=ae)(h:(iE e al a b).2=0) : 1<=(iE e al a b).1:=by
 simp[iE]at h ⊢;split
 .rename_i h1;exact aE h1
 split
 .split
  .grind
  .rename_i h3;obtain⟨i,hi,_,h5⟩:=M4 h3;have h6:=cX.1 an _ (fo hi);simp[kz,bx]at h6;simp[h5];omega
 grind
theorem apb{e:bh}(i:iB e=0)(an:al.all kz=ae)(h:(eC e al).2=0) : 1<=(eC e al).1:=by
 obtain⟨_,h2,_⟩:=P1 (Iy.1 i);have aE:e.kind=1->1<=e.v.kind:=λh1=>by simp[pE,h1,bx]at h2;exact anB (A9.1 h2.1.1)
 rw[ua]at h ⊢;match c:lh e.l al with
 |[]=>rw[c]at h;exact M' aE an h
 |[(a,f)]=>
  rw[c]at h;simp[l8]at h ⊢;by_cases d:f=0
  .rw[if_pos d]at h ⊢;exact M' aE an h
  .grind
 |(a,f)::(b,g)::t=>
  rw[c]at h;simp[l8]at h ⊢;by_cases d:f=0
  .rw[if_pos d]at h ⊢;by_cases j:g=0
   .rw[if_pos j]at h ⊢;exact M' aE an h
   .grind
  .grind
theorem aqB{e:bh}(an:al.all kz=ae)(h:(h9 e al).2=0) : 1<=(h9 e al).1:=by
 simp[h9]at h ⊢;by_cases h0:iB e=0
 .simp[h0,a_]at h ⊢;exact apb h0 an h
 .simp[h0]at h
theorem ai1{e:bh}(an:al.all kz=ae):AI al e=cond (aa ((h9 e al).2=0)) (cond (aa (2<(h9 e al).1)) 151 0) (h9 e al).2:=by
 simp[AI];by_cases h:(h9 e al).2=0
 .have:=aqB an h
  grind
 .simp[h]
def oR(t:bU):af ar->U c3->Bool|_,[]=>ae|none,x::l=>k5 t x&&oR t (J x.name) l|some p,x::l=>k5 t x&&(gm p x.name&&oR t (J x.name) l)
theorem XO{t:bU}:∀(l:U c3) (p:ar),oR t (J p) l=(l.all (k5 t)&&(l.all (λy=>gm p y.name)&&fN l))
 |[],_=>rfl
 |x::l,p=>by
  rw[Bool.eq_iff_iff];simp[oR,XO l,fN,cX];constructor
  .rintro⟨h1,h2,h3,h4,h5⟩;exact⟨⟨h1,h3⟩,⟨h2,λy a=>OJ h2 (h4 y a)⟩,h4,h5⟩
  .grind
theorem arM{t:bU}(l:U c3):oR t ah l=(fN l&&l.all (k5 t)):=by
 cases l with
 |nil=>rfl
 |cons x l=>
  rw[Bool.eq_iff_iff];simp[oR,XO l,fN,cX];constructor
  .grind
  .grind
theorem aal:∀a b:ar,Op.bytesLess a b=aa (eM a b = -1)
 |[],[]=>rfl
 |[],_::_=>rfl
 |_::_,[]=>rfl
 |a::x,b::y=>by
  have c:=aal x y;simp only[Op.bytesLess,eM,Lib.compareBytes]at c ⊢
  grind
theorem alg(a b:ar):Op.bytesLess a b=gm a b:=by rw[aal];exact hH.2 (by rcases mB.vj a b with h|h|h<;>omega)
def eF(al:U cW)(row:U aH):U ar->U aH->U aH×Int|[],acc=>(acc,0)|s::l,acc=>cond (aa (dR al s<0)) ([],150) (eF al row l (acc++[at' .val row (dR al s)]))
def aj3(R:Type):aM R:=bp [] [] [] []
def LN(x:au [dt,dt]):af (au [aq]):=match x with
 |(a,b)=>
 let j:=λ(p1:Bool)=>
  cond (p1) (
  J (-1)) (
  cond (aa (a.kind=b.kind)) (
   cond (aa (a.n=b.n)) (
   cond (Op.bytesLess a.s b.s) (
    J (-1)) (
    cond (aa (a=b)) (
    J 0) (
    J 1))) (
   cond (aa (a=b)) (
    J 0) (
    J 1))) (
   cond (aa (a=b)) (
   J 0) (
   J 1)))
 cond (aa (a.kind<b.kind)) (
  j ae) (
  cond (aa (a.kind=b.kind)) (
  j (aa (a.n<b.n))) (
  j ai))
theorem ai9:aN 41 [dt,dt] [aq] (LN):=bX (px:=aj3 _) (n:=0) Tryz.func41 rfl (λ_ H=>⟨br H bm bo bq,aP⟩) λ(_,_)=>by kernel_rfl
def tm(a:aH)(b:aH):Int:=
 let j:=λ(p1:Bool)=>
  cond (p1) (
  (-1)) (
  cond (aa (a.kind=b.kind)) (
   cond (aa (a.n=b.n)) (
   cond (Op.bytesLess a.s b.s) (
    (-1)) (
    cond (aa (a=b)) (
    0) (
    1))) (
   cond (aa (a=b)) (
    0) (
    1))) (
   cond (aa (a=b)) (
   0) (
   1)))
 cond (aa (a.kind<b.kind)) (
  j ae) (
  cond (aa (a.kind=b.kind)) (
  j (aa (a.n<b.n))) (
  j ai))
theorem aiY(x:au [dt,dt]):LN x=J (tm x.1 x.2):=by
 first
  |exact rfl
  |simp only[LN,tm,fA]
def adF:bb [dt,dt] [aq]:=λx=>J (tm x.1 x.2)
theorem akn:aN 41 [dt,dt] [aq] adF:=.de ai9 λx _ _ a=>(aiY x).trans a
theorem Rw:∀a b:ar,Op.bytesLess a b=aa (eM a b = -1)
 |[],[]=>rfl
 |[],_::_=>rfl
 |_::_,[]=>rfl
 |a::x,b::y=>by
  have c:=Rw x y;simp only[Op.bytesLess,eM,Lib.compareBytes]at c ⊢;by_cases h1:a<b
  .simp[h1]
  .by_cases h2:b<a
   .have h3:¬a=b:=λh=>by subst h;exact h1 h2
    simp[h1,h2,h3]
   .have h3:a=b:=UInt8.le_antisymm (UInt8.not_lt.1 h2) (UInt8.not_lt.1 h1);simp[h3,c];exact hH.2 Iff.rfl
theorem L3:∀a b:ar,eM a b=0↔a=b
 |[],[]=>by simp[eM,Lib.compareBytes]
 |[],_::_=>by simp[eM,Lib.compareBytes]
 |_::_,[]=>by simp[eM,Lib.compareBytes]
 |a::x,b::y=>by
  have c:=L3 x y;simp only[eM,Lib.compareBytes]at c ⊢;by_cases h1:a<b
  .have h3:¬a=b:=λh=>by subst h;exact UInt8.lt_irrefl _ h1
   simp[h1,h3]
  .by_cases h2:b<a
   .have h3:¬a=b:=λh=>by subst h;exact h1 h2
    simp[h1,h2,h3]
   .have h3:a=b:=UInt8.le_antisymm (UInt8.not_lt.1 h2) (UInt8.not_lt.1 h1);simp[h3,c]
theorem aoJ:∀a b:aH,tm a b=g_ a b
 |⟨k,n,s⟩,⟨eh,hr,s'⟩=>by
  simp only[tm,g_,gV,o2,Rw];by_cases h1:k<eh
  .simp[h1]
  .by_cases h2:eh<k
   .have h3:¬k=eh:=ag
    simp[h1,h2,h3]
   .obtain rfl:k=eh:=ag
    by_cases h4:n<hr
    .simp[h4]
    .by_cases h5:hr<n
     .have h6:¬n=hr:=ag
      simp[h4,h5,h6]
     .obtain rfl:n=hr:=ag
      have h7:=L3 s s';rcases KV s s' with h|h|h
      .simp[h]
      .have c:s=s':=h7.1 h;subst c;simp[h]
      .have c:¬s=s':=λe=>by rw[h7.2 e]at h;cases h
       simp[h,c]
theorem T8:∀(l:U bh) (m:Int),(∀x,x∈l->∀m,fh x m=ae->q3 x=ae)->kN l m=ae->vm l=ae
 |[],_,_,_=>rfl
 |x::l,m,aW,h=>by simp only[kN,bx]at h;simp only[vm,aW x (.head _) m h.1,T8 l m (λy a=>aW y (.tail _ a)) h.2,Bool.and_self]
theorem R9:∀(n:Nat) (e:bh) (m:Int),di e<=n->fh e m=ae->q3 e=ae
 |0,e,_,h,_=>by have:=mJ e;omega
 |n+1,e,m,h,ay=>by obtain⟨a,_,b⟩:=P1 ay;rw[Oo,aY a,Bool.true_and];refine T8 e.l _ (λx c m h2=>R9 n x m ?_ h2) b;have:=ka c;rw[nn]at h;omega
def aum(R:Type):aM R:=bp [(98,bg abd),(99,bg Ji)] [] [] []
def WK(x:au [bR,dJ]):af (au [aq,aq]):=match x with|(e,al)=>cond (!decide ((pt e)=0)) (J (0,(pt e))) ((zv e al).bind λ(x,a)=>J (x,a))
theorem aoC:aN 79 [bR,dJ] [aq,aq] (WK):=bX (px:=aum _) (n:=0) Tryz.func79 rfl (λ_ H=>⟨br H (c1 H asl (c1 H asK bm)) bo bq,aP⟩) λ(_,_)=>by kernel_rfl
def zD(e:bh)(al:U cW):af (Int×Int):=cond (aa (pt e=iB e)) (J (h9 e al)) ah
def JY:bb [bR,dJ] [aq,aq]:=λx=>zD x.1 x.2
theorem asF(e:bh):iB e=0\/iB e=2:=aeH
theorem asL{e:bh}(h:iB e=0):zv e al=J (eC e al):=by simp only[zv];rw[R9 (di e) e 30 (b2 _) (Iy.1 h)];rfl
theorem atL:aN 79 [bR,dJ] [aq,aq] JY:=.de aoC λ(e,al) r _ a=>by
 simp only[JY,zD]at a;by_cases h:pt e=iB e
 .rw[aY h]at a;have a:J (h9 e al)=J r:=a;rw[<-a];simp only[WK,h,h9];by_cases h0:iB e=0
  .simp[h0,asL h0]
  .simp[h0]
 .rw[bl h]at a;cases a
theorem ajl{e:bh}(h:di e<=900000):pt e=iB e:=by
 have ao:=tM (di e) e 30 (b2 _) ag (b2 _);have a:=Iy (e:=e);rcases asF e with h0|h2
 .have:=ao.1 (a.1 h0);rw[h0];simp only[pt];rw[bl ag];rfl
 .have:¬eB e<=30:=λh=>by have:=a.2 (ao.2 h);omega
  rw[h2];simp only[pt];rw[aY ag];rfl
theorem acI{al:U cW}{row:U aH}{P:aH->Prop}:∀{l:U ar}{acc:U aH},(∀s,s∈l->¬dR al s<0/\P (at' .val row (dR al s)))->(∀v,v∈acc->P v)->(eF al row l acc).2=0/\∀v,v∈(eF al row l acc).1->P v
 |[],acc,_,cI=>⟨rfl,cI⟩
 |s::l,acc,h,cI=>by
  have h1:=h s (by simp);simp only[eF,bl h1.1,a_];refine acI (λq a=>h q rH) λv aE=>?_;rcases fM.1 aE with aE|aE
  .exact cI v aE
  .rw[List.mem_singleton.1 aE];exact h1.2
theorem Sj{al:U cW}{row:U aH}:∀{l:U ar}{acc:U aH},I (eF al row l acc).1<=I acc+I l
 |[],acc=>by simp[eF]
 |s::l,acc=>by simp only[eF];cases aa (dR al s<0)with|true=>simp|false=>have:=Sj (al:=al) (row:=row) (l:=l) (acc:=acc++[at' .val row (dR al s)]);simp only[a_,dm];simp only[dc,dm,hn]at this;omega
def Pu{R:Type}(c:U (Nat×iD R))(q:U (Nat×kf R))(l:U (Nat×zE R))(w:U (Nat×mg R)):aM R:=I8 (bp c q l w) (bp [] [] [] [])
theorem aej{ab:cB}{l:U (Nat×iD R)}{a:U (Nat×kf R)}{b_:U (Nat×zE R)}{b:U (Nat×mg R)}(H:nw ab)(h:∀g f,(g,f)∈l->hk ab g f)(c:∀g f,(g,f)∈a->mV ab g f)(d:∀g f,(g,f)∈b->kZ ab g f):bT ab (Pu l a b_ b):=(br (px:=bp l a b_ b) H h c d).I8 (br (px:=bp [] [] [] []) H bm bo bq) tz
theorem axE{f:FuncId}{fn:Func}{c:Code}{sa bH:U ck}{px:aM (au bH)}{F:bb sa bH}(e:Tryz.prog.funcs[f]? = J fn)(aj:fn.body=J c)(h:∀ab,nw ab->bT ab px)(g:∀x,F7 px fn sa bH x J=F x)(i:∀b st K,px.loop b st K=none:=by exactλ_ _ _=>rfl)(a:(fn.name == "runtime.NumGoroutine")=false:=by kernel_rfl)(d:(fe fn.ntmps c&&dz (I sa) fn.ntmps&&im (c8 0 sa) [])=true:=by kernel_rfl):aN f sa bH F:=axD (ta sU) follows e aj a d i h g
def ave(R:Type):aM R:=bp [] [] [] []
def MZ(x:au [aC,aC]):af (au [.bool]):=match x with|(a,b)=>J (aa (a=b))
theorem ako:aN 152 [aC,aC] [.bool] (MZ):=bX (px:=ave _) (n:=0) Tryz.func152 rfl (λ_ H=>⟨br H bm bo bq,aP⟩) λ(_,_)=>by kernel_rfl
def beq(a:U UInt8)(b:U UInt8):Bool:=(aa (a=b))
theorem akb(x:au [aC,aC]):MZ x=J (beq x.1 x.2):=by
 first
  |exact rfl
  |simp only[MZ,beq,fA]
def FT:bb [aC,aC] [.bool]:=λx=>J (beq x.1 x.2)
theorem OY:aN 152 [aC,aC] [.bool] FT:=.de ako λx _ _ a=>(akb x).trans a
def akL(R:Type):aM R:=bp [(152,bg FT)] [] [] []
def Lv(x:au [aC,aC]):af (au [.bool]):=match x with|(b,a)=>cond (aa ((I a:Int)<=(I b:Int))) (ax (upto 0 (I a:Int) (I b)) (J (beq (b.take ((I a:Int):Int).toNat) a))) (J ai)
theorem aii:aN 153 [aC,aC] [.bool] (Lv):=bX (px:=akL _) (n:=0) Tryz.func153 rfl (λ_ H=>⟨br H (c1 H OY bm) bo bq,aP⟩) λ(_,_)=>by kernel_rfl
def wS(b a:ar):af Bool:=Lv (b,a)
def Dk:bb [aC,aC] [.bool]:=λx=>wS x.1 x.2
theorem JH:aN 153 [aC,aC] [.bool] Dk:=.de aii λ_ _ _ a=>a
def _Y:bt:=⟨21,[(3,.sl .byte ae),(6,.sl .byte ai),(7,.int .i64),(8,.int .i64)],[],[],0,0,0,[],[]⟩
abbrev EF:=U UInt8×U UInt8×Int×Int
def wq{R:Type}(a:EF->af R)(kx:bf->EF->af R)(v:EF):af R:=match v with|(v,v1,v2,aD)=>cond (aa (aD<v2)) (ax (aU aD (I v1)) (ax (aa (I v+2<=bJ)) (a ((v++[(bj ((cK .u8 ((at' .byte v1 aD).toNat:Int) 4):Int).toNat),(bj ((fp .u8 ((at' .byte v1 aD).toNat:Int) 15):Int).toNat)]),v1,v2,(wr .i64 (aD+1)))))) (kx (.exit 0) (v,v1,v2,aD))
def adu(R:Type)(k:Nat):aM R:=bp [] [] [(3,cq k _Y (wq))] []
def DP(k:Nat)(x:au [aC]):af (au [.sl .byte ae]):=match x with
 |b=>
 aT (λa=>wq a (λe c=>match c with|(v4,_,_,_)=>match e with
  |.exit 0=>
  J v4
  |_=>ah)) k ([],b,(I b:Int),0)
theorem ajv(k:Nat):aN 111 [aC] [.sl .byte ae] (DP k):=bX (px:=adu _ k) (n:=1) Tryz.func111 rfl (λab H=>by have h0:bT ab (adu (au [.sl .byte ae]) k):=br H bm bo bq;have a:=cC H h0 (b:=b_ Tryz.f111 0) (k:=k) (n:=0) (s:=_Y) (step:=wq) (λ_ _ _ (_,_,_,_)=>by kernel_rfl) aP;exact⟨h0,(cm aP a)⟩) λ_=>by kernel_rfl
def vc(b:ar):af ar:=DP 2000 b
def zr:bb [aC] [.sl .byte ae]:=λx=>vc x
theorem C_:aN 111 [aC] [.sl .byte ae] zr:=.fin 0 ajv λ_ _ _ a=>⟨2000,a⟩
def X9:bt:=⟨14,[(2,.bool),(5,.sl .byte ai),(6,.int .i64),(7,.int .i64)],[],[],0,0,0,[],[]⟩
abbrev Eo:=Bool×U UInt8×Int×Int
def vO{R:Type}(a:Eo->af R)(kx:bf->Eo->af R)(v:Eo):af R:=match v with|(v,v1,v2,aD)=>cond (aa (aD<v2)) (ax (aU aD (I v1)) (cond (aa (15<((at' .byte v1 aD).toNat:Int))) (kx .ret (ai,v1,v2,aD)) (a (v,v1,v2,(wr .i64 (aD+1)))))) (kx (.exit 0) (v,v1,v2,aD))
def abo(R:Type)(k:Nat):aM R:=bp [] [] [(2,cq k X9 (vO))] []
def Ix(k:Nat)(x:au [aC]):af (au [.bool]):=match x with
 |n=>
 aT (λa=>vO a (λe b=>match b with|(v4,_,_,_)=>match e with
  |.ret=>
  J v4
  |.exit 0=>
  J ae
  |_=>ah)) k (ai,n,(I n:Int),0)
theorem arp(k:Nat):aN 211 [aC] [.bool] (Ix k):=bX (px:=abo _ k) (n:=1) Tryz.func211 rfl (λab H=>by have h0:bT ab (abo (au [.bool]) k):=br H bm bo bq;have a:=cC H h0 (b:=b_ Tryz.f211 0) (k:=k) (n:=0) (s:=X9) (step:=vO) (λ_ _ _ (_,_,_,_)=>by kernel_rfl) aP;exact⟨h0,(cm aP a)⟩) λ_=>by kernel_rfl
def Fg(n:ar):af Bool:=Ix 2000 n
def Ob:bb [aC] [.bool]:=λx=>Fg x
theorem acK:aN 211 [aC] [.bool] Ob:=.fin 0 arp λ_ _ _ a=>⟨2000,a⟩
def Wf:bt:=⟨26,[(0,.sl .byte ai),(3,.sl .byte ae),(4,.int .i64)],[],[],0,0,0,[],[]⟩
abbrev Bu:=U UInt8×U UInt8×Int
def qC{R:Type}(a:Bu->af R)(kx:bf->Bu->af R)(v:Bu):af R:=match v with|(v,v1,v2)=>cond (aa (v2<(I v:Int))) (ax (aU (wr .i64 (v2-1)) (I v)) (ax (aU v2 (I v)) (ax (aa (I v1+1<=bJ)) (a (v,(v1++[(bj ((iW .u8 (js .u8 ((at' .byte v (wr .i64 (v2-1))).toNat:Int) 4) ((at' .byte v v2).toNat:Int)):Int).toNat)]),(wr .i64 (v2+2))))))) (kx (.exit 0) (v,v1,v2))
def aat(R:Type)(k:Nat):aM R:=bp [] [] [(3,cq k Wf (qC))] []
def He(k:Nat)(x:au [aC]):af (au [.sl .byte ae]):=match x with
 |n=>
 aT (λa=>qC a (λe b=>match b with|(_,v4,_)=>match e with
  |.exit 0=>
  J v4
  |_=>ah)) k (n,[],1)
theorem apo(k:Nat):aN 212 [aC] [.sl .byte ae] (He k):=bX (px:=aat _ k) (n:=1) Tryz.func212 rfl (λab H=>by have h0:bT ab (aat (au [.sl .byte ae]) k):=br H bm bo bq;have a:=cC H h0 (b:=b_ Tryz.f212 0) (k:=k) (n:=0) (s:=Wf) (step:=qC) (λ_ _ _ (_,_,_)=>by kernel_rfl) aP;exact⟨h0,(cm aP a)⟩) λ_=>by kernel_rfl
def p_(n:ar):af ar:=He 2000 n
def J6:bb [aC] [.sl .byte ae]:=λx=>p_ x
theorem aac:aN 212 [aC] [.sl .byte ae] J6:=.fin 0 apo λ_ _ _ a=>⟨2000,a⟩
def aoZ(R:Type):aM R:=bp [(211,bg Ob),(212,bg J6)] [] [] []
def Qu(x:au [aC]):af (au [.sl .byte ae,aq]):=match x with|n=>(Fg n).bind λx=>cond (!x) (J ([],2)) (cond (aa ((Int.tmod (I n:Int) 2)=1)) (J ([],11)) ((p_ n).bind λa=>J (a,0)))
theorem an3:aN 241 [aC] [.sl .byte ae,aq] (Qu):=bX (px:=aoZ _) (n:=0) Tryz.func241 rfl (λ_ H=>⟨br H (c1 H acK (c1 H aac bm)) bo bq,aP⟩) λ_=>by kernel_rfl
def v3(n:ar):af (ar×Int):=Qu n
def Sy:bb [aC] [.sl .byte ae,aq]:=λx=>v3 x
theorem apT:aN 241 [aC] [.sl .byte ae,aq] Sy:=.de an3 λ_ _ _ a=>a
def Za:bt:=⟨30,[(0,.sl .byte ai),(1,.sl .byte ai),(4,.int .i64),(10,.int .i64),(11,.int .i64)],[],[],0,0,0,[],[]⟩
abbrev DJ:=U UInt8×U UInt8×Int×Int×Int
def Acc{R:Type}(a:DJ->af R)(kx:bf->DJ->af R)(v:DJ):af R:=match v with|(v,v1,v2,aD,v4)=>cond (aa (v4<aD)) (ax (aU v4 (I v)) (ax (aU v4 (I v1)) (cond (!decide (((at' .byte v v4).toNat:Int)=((at' .byte v1 v4).toNat:Int))) (kx .ret (v,v1,v4,aD,v4)) (a (v,v1,v2,aD,(wr .i64 (v4+1))))))) (kx (.exit 0) (v,v1,v2,aD,v4))
def acf(R:Type)(k:Nat):aM R:=bp [] [] [(2,cq k Za (Acc))] []
def It(k:Nat)(x:au [aC,aC]):af (au [aq]):=match x with
 |(a,b)=>
 aT (λc=>Acc c (λe d=>match d with|(a',v6,bA,_,_)=>match e with
  |.ret=>
  J bA
  |.exit 0=>
  J (min2 (I a':Int) (I v6:Int))
  |_=>ah)) k (a,b,0,(min2 (I a:Int) (I b:Int)),0)
theorem auw(k:Nat):aN 200 [aC,aC] [aq] (It k):=bX (px:=acf _ k) (n:=1) Tryz.func200 rfl (λab H=>by have h0:bT ab (acf (au [aq]) k):=br H bm bo bq;have a:=cC H h0 (b:=b_ Tryz.f200 0) (k:=k) (n:=0) (s:=Za) (step:=Acc) (λ_ _ _ (_,_,_,_,_)=>by kernel_rfl) aP;exact⟨h0,(cm aP a)⟩) λ(_,_)=>by kernel_rfl
def Ft(a b:ar):af Int:=It 2000 (a,b)
def On:bb [aC,aC] [aq]:=λx=>Ft x.1 x.2
theorem aco:aN 200 [aC,aC] [aq] On:=.fin 0 auw λ_ _ _ a=>⟨2000,a⟩
def akc(R:Type):aM R:=bp [(200,bg On)] [] [] []
def Ly(x:au [aC,aC]):af (au [aq]):=match x with
 |(a,b)=>
 (Ft a b).bind λx=>
  let j:=λ(p1:Bool)=>
  cond (p1) (
   J 0) (
   cond (aa (x=(I a:Int))) (
   J (-1)) (
   cond (aa (x<(I b:Int))) (
    ax (aU x (I a)) (
    ax (aU x (I b)) (
     cond (aa (((at' .byte a x).toNat:Int)<((at' .byte b x).toNat:Int))) (
     J (-1)) (
     J 1)))) (
    J 1)))
  cond (aa (x=(I a:Int))) (
  j (aa (x=(I b:Int)))) (
  j ai)
theorem aiS:aN 272 [aC,aC] [aq] (Ly):=bX (px:=akc _) (n:=0) Tryz.func272 rfl (λ_ H=>⟨br H (c1 H aco bm) bo bq,aP⟩) λ(_,_)=>by kernel_rfl
def tn(a b:ar):af Int:=Ly (a,b)
def N7:bb [aC,aC] [aq]:=λx=>tn x.1 x.2
theorem ac1:aN 272 [aC,aC] [aq] N7:=.de aiS λ_ _ _ a=>a
def akg(R:Type):aM R:=bp [(111,bg zr)] [] [] []
def Mr(x:au [aC,aC]):af (au [.aI .span]):=match x with|(a,b)=>(vc a).bind λx=>(vc b).bind λc=>J (iP.mk x c (aa ((I b:Int)=0)))
theorem aif:aN 115 [aC,aC] [.aI .span] (Mr):=bX (px:=akg _) (n:=0) Tryz.func115 rfl (λ_ H=>⟨br H (c1 H C_ bm) bo bq,aP⟩) λ(_,_)=>by kernel_rfl
def NV(a b:ar):af iP:=Mr (a,b)
def ZP:bb [aC,aC] [.aI .span]:=λx=>NV x.1 x.2
theorem ak0:aN 115 [aC,aC] [.aI .span] ZP:=.de aif λ_ _ _ a=>a
def as2(R:Type):aM R:=bp [(272,bg N7)] [] [] []
def KJ(x:au [.aI .span,aC]):af (au [.bool]):=match x with|(s,w)=>(tn w s.low).bind λx=>cond (aa (0<=x)) (cond (s.op) (J ae) ((tn w s.high).bind λa=>J (aa (a<0)))) (J ai)
theorem aq4:aN 240 [.aI .span,aC] [.bool] (KJ):=bX (px:=as2 _) (n:=0) Tryz.func240 rfl (λ_ H=>⟨br H (c1 H ac1 bm) bo bq,aP⟩) λ(_,_)=>by kernel_rfl
def zy(s:iP)(w:ar):af Bool:=KJ (s,w)
def aaO:bb [.aI .span,aC] [.bool]:=λx=>zy x.1 x.2
theorem auK:aN 240 [.aI .span,aC] [.bool] aaO:=.de aq4 λ_ _ _ a=>a
def amU(R:Type):aM R:=bp [(272,bg N7),(153,bg Dk),(151,bg qx)] [] [] []
def PY(x:au [.aI .span,aC]):af (au [.bool]):=match x with
 |(s,w)=>
 let a:=λ(p1:Bool)=>
  let j:=λ(p2:U UInt8)=>
  cond (p1) (
   cond (s.op) (
   J ae) (
   (tn p2 s.high).bind λc=>J (aa (c<0)))) (
   J ai)
  cond (aa ((Int.tmod (I w:Int) 2)=1)) (
  (qD w).bind λb=>
   ax (aa (I b+1<=bJ)) (
   j (b++[(bj (0:Int).toNat)]))) (
  j w)
 (tn w s.low).bind λx=>
  cond (aa (0<=x)) (
  a ae) (
  (wS s.low w).bind λd=>a d)
theorem ag9:aN 238 [.aI .span,aC] [.bool] (PY):=bX (px:=amU _) (n:=0) Tryz.func238 rfl (λ_ H=>⟨br H (c1 H ac1 (c1 H JH (c1 H rO bm))) bo bq,aP⟩) λ(_,_)=>by kernel_rfl
def ED(s:iP)(w:ar):af Bool:=PY (s,w)
def Zd:bb [.aI .span,aC] [.bool]:=λx=>ED x.1 x.2
theorem anX:aN 238 [.aI .span,aC] [.bool] Zd:=.de ag9 λ_ _ _ a=>a
def Vv:bt:=⟨19,[(0,.sl .byte ai),(4,.int .i64),(7,.int .i64),(8,.int .i64)],[(1,.fn 150 [])],[],80,80,400,[],[]⟩
abbrev ID:=U UInt8×Int×Int×Int
def yK{R:Type}(a:ID->af R)(kx:bf->ID->af R)(v:ID):af R:=match v with|(v,v1,v2,aD)=>cond (aa (aD<v2)) (ax (aU aD (I v)) (cond (aa (15<((at' .byte v aD).toNat:Int))) (kx .ret (v,aD,v2,aD)) (a (v,v1,v2,(wr .i64 (aD+1)))))) (kx (.exit 0) (v,v1,v2,aD))
def aeU(R:Type)(kK:Nat):aM R:=bp [] [] [] []
noncomputable def TN(R:Type)(k:Nat):aM R:=bp [(150,eY 120 600 (aeU R k) Tryz.f150)] [] [(2,cq k Vv (yK))] []
noncomputable def V9(R:Type)(k:Nat):aM R:=bp [(198,eY 80 400 (TN R k) Tryz.f198)] [] [] []
noncomputable def _Z(R:Type)(k:Nat):aM R:=bp [(149,eY 40 200 (V9 R k) Tryz.f149)] [] [] []
def Qx(k:Nat)(x:au [aC]):af (au [.bool]):=match x with
 |p=>
 aT (λa=>yK a (λe b=>match b with|(_,a',_,_)=>match e with
  |.ret=>
  J (!(aa (0<=a')))
  |.exit 0=>
  J ae
  |_=>ah)) k (p,0,(I p:Int),0)
theorem aoB(k:Nat):aN 105 [aC] [.bool] (Qx k):=bX (px:=_Z _ k) (n:=0) Tryz.func105 rfl (λab H=>by have h3:bT ab (aeU (au [.bool]) k):=br H bm bo bq;have h2:bT ab (TN (au [.bool]) k):=br H (dY (e8 H h3 Tryz.func150 rfl (n:=0) (aP)) bm) bo bq;have a:=cC H h2 (b:=b_ Tryz.f198 0) (k:=k) (n:=0) (s:=Vv) (step:=yK) (λ_ _ _ (_,_,_,_)=>by kernel_rfl) aP;have h1:bT ab (V9 (au [.bool]) k):=br H (dY (e8 H h2 Tryz.func198 rfl (n:=1) (cm aP a)) bm) bo bq;have h0:bT ab (_Z (au [.bool]) k):=br H (dY (e8 H h1 Tryz.func149 rfl (n:=0) (aP)) bm) bo bq;exact⟨h0,aP⟩) λ_=>by kernel_rfl
def FJ(p:ar):af Bool:=Qx 2000 p
def abp:bb [aC] [.bool]:=λx=>FJ x
theorem ai0:aN 105 [aC] [.bool] abp:=.fin 0 aoB λ_ _ _ a=>⟨2000,a⟩
def aqj(R:Type):aM R:=bp [] [] [] []
def P8(x:au [.aI .node,.bool,.bool,.bool,.bool]):af (au [.bool]):=match x with
 |(n,a,b,c,d)=>
 let g:=λ(p:Bool)=>
  let e:=λ(p2:Bool)=>
  let f:=λ(hs:Bool)=>
   let j:=λ(h:Bool)=>
   cond (h) (
    cond (!n.has) (
    J ae) (
    J (aa (n.kind=3)))) (
    J ai)
   cond (hs) (
   cond (d) (
    j ae) (
    j (aa ((I n.hash:Int)=0)))) (
   j ai)
  cond (p2) (
   cond (c) (
   f ae) (
   f (aa ((I n.kids:Int)=0)))) (
   f ai)
  cond (p) (
  cond (b) (
   e ae) (
   e (aa ((I n.val:Int)=0)))) (
  e ai)
 cond (a) (
  g ae) (
  g (aa ((I n.path:Int)=0)))
theorem anO:aN 106 [.aI .node,.bool,.bool,.bool,.bool] [.bool] (P8):=bX (px:=aqj _) (n:=0) Tryz.func106 rfl (λ_ H=>⟨br H bm bo bq,aP⟩) λ(_,_,_,_,_)=>by kernel_rfl
def pc(n:bs)(a b c d:Bool):af Bool:=P8 (n,a,b,c,d)
def RG:bb [.aI .node,.bool,.bool,.bool,.bool] [.bool]:=λx=>pc x.1 x.2.1 x.2.2.1 x.2.2.2.1 x.2.2.2.2
theorem aqy:aN 106 [.aI .node,.bool,.bool,.bool,.bool] [.bool] RG:=.de anO λ_ _ _ a=>a
def aqt(R:Type):aM R:=bp [] [] [] []
def Qn(x:au [aq,.bool]):af (au [.bool]):=match x with|(d,e)=>cond (aa (d<=400)) (cond (!e) (J ae) (J (aa ((Int.tmod d 2)=0)))) (J ai)
theorem amP:aN 107 [aq,.bool] [.bool] (Qn):=bX (px:=aqt _) (n:=0) Tryz.func107 rfl (λ_ H=>⟨br H bm bo bq,aP⟩) λ(_,_)=>by kernel_rfl
def sK(d:Int)(e:Bool):Bool:=cond (aa (d<=400)) (cond (!e) (ae) (aa ((Int.tmod d 2)=0))) (ai)
theorem amQ(x:au [aq,.bool]):Qn x=J (sK x.1 x.2):=by
 first
  |exact rfl
  |simp only[Qn,sK,fA]
def _9:bb [aq,.bool] [.bool]:=λx=>J (sK x.1 x.2)
theorem apD:aN 107 [aq,.bool] [.bool] _9:=.de amP λx _ _ a=>(amQ x).trans a
def TJ:bt:=⟨44,[(1,.int .i64),(2,.bool),(7,.int .i64),(8,.bool),(20,.sl .node ai),(21,.int .i64),(22,.int .i64)],[],[],40,40,200,[],[]⟩
abbrev GW:=Int×Bool×Int×Bool×U bs×Int×Int
def xC{R:Type}(rf:bb [.aI .node,aq,.bool] [.bool])(a:GW->af R)(kx:bf->GW->af R)(v:GW):af R:=match v with|(v,v1,v2,aD,v4,a',v6)=>cond (aa (v6<a')) (ax (aU v6 (I v4)) ((rf ((at' .node v4 v6),(wr .i64 (v+1)),v1)).bind λb=>cond (!b) (kx (.exit 0) (v,v1,v2,b,v4,a',v6)) (cond (!decide ((at' .node v4 v6).kind=0)) (a (v,v1,(wr .i64 (v2+1)),b,v4,a',(wr .i64 (v6+1)))) (a (v,v1,v2,b,v4,a',(wr .i64 (v6+1))))))) (kx (.exit 0) (v,v1,v2,aD,v4,a',v6))
def Ts(R:Type)(k:Nat)(rf:bb [.aI .node,aq,.bool] [.bool]):aM R:=bp [(68,bg rf)] [] [(7,cq k TJ (xC rf))] []
noncomputable def VY(R:Type)(k:Nat)(rf:bb [.aI .node,aq,.bool] [.bool]):aM R:=bp [(105,bg abp),(106,bg RG),(107,bg _9),(68,bg rf),(108,eY 40 200 (Ts R k rf) Tryz.f108)] [] [] []
def tD(k:Nat)(rf:bb [.aI .node,aq,.bool] [.bool])(x:au [.aI .node,aq,.bool]):af (au [.bool]):=match x with
 |(n,d,e)=>
 let j:=λ(p:Bool)=>
  cond (p) (
  J ai) (
  (FJ n.path).bind λx=>
   cond (!x) (
   J ai) (
   cond (aa (n.kind=0)) (
    (pc n ai ai ai ai).bind λm=>
    J m) (
    cond (aa (n.kind=1)) (
    (pc n ae ae ai ai).bind λo=>
     cond (o) (
     J (sK (wr .i64 (d+(I n.path:Int))) e)) (
     J ai)) (
    cond (aa (n.kind=4)) (
     (pc n ai ai ai ae).bind λq=>
     cond (q) (
      J (aa ((I n.hash:Int)=32))) (
      J ai)) (
     cond (aa (n.kind=2)) (
     (pc n ae ai ae ai).bind λr=>
      cond (!r) (
      J ai) (
      cond (aa ((I n.path:Int)=0)) (
       J ai) (
       cond (!decide ((I n.kids:Int)=1)) (
       J ai) (
       ax (aU 0 (I n.kids)) (
        let i:=λ(a:Bool)=>
        cond (a) (
         (rf ((at' .node n.kids 0),(wr .i64 (d+(I n.path:Int))),e)).bind λs=>
         J s) (
         J ai)
        cond (aa ((at' .node n.kids 0).kind=3)) (
        i ae) (
        i (aa ((at' .node n.kids 0).kind=4)))))))) (
     cond (aa (n.kind=3)) (
      (pc n ai n.has ae ai).bind λt=>
      let g:=λ(b:Bool)=>
       cond (b) (
       cond (!decide ((I n.kids:Int)=16)) (
        J ai) (
        let l:=λ(c:Int)=>
        aT (λh=>xC rf h (λe u=>match u with|(_,_,cw,f,_,_,_)=>match e with
         |.exit 0=>
         cond (f) (
          J (aa (2<=cw))) (
          J ai)
         |_=>ah)) k (d,e,c,ae,n.kids,(I n.kids:Int),0)
        cond (n.has) (
        l 1) (
        l 0))) (
       J ai)
      cond (t) (
       cond (!n.has) (
       g ae) (
       g (sK d e))) (
       g ai)) (
      J ai)))))))
 cond (aa (400<d)) (
  j ae) (
  j (aa (4000<(I n.val:Int))))
theorem ahf(k:Nat)(rf:bb [.aI .node,aq,.bool] [.bool])(c:aN 68 [.aI .node,aq,.bool] [.bool] rf):aN 68 [.aI .node,aq,.bool] [.bool] (tD k rf):=bX (px:=VY _ k rf) (n:=0) Tryz.func68 rfl (λab H=>by have h1:bT ab (Ts (au [.bool]) k rf):=br H (c1 H c bm) bo bq;have a:=cC H h1 (b:=b_ Tryz.f108 0) (k:=k) (n:=0) (s:=TJ) (step:=xC rf) (λ_ _ _ (_,_,_,_,_,_,_)=>by kernel_rfl) aP;have h0:bT ab (VY (au [.bool]) k rf):=br H (c1 H ai0 (c1 H aqy (c1 H apD (c1 H c (dY (e8 H h1 Tryz.func108 rfl (n:=1) (cm aP a)) bm))))) bo bq;exact⟨h0,aP⟩) λ(_,_,_)=>by kernel_rfl
def z4(n:bs)(d:Int)(e:Bool):af Bool:=aT (tD 100) 500 (n,d,e)
def Lx:bb [.aI .node,aq,.bool] [.bool]:=λx=>z4 x.1 x.2.1 x.2.2
theorem Vp:aN 68 [.aI .node,aq,.bool] [.bool] Lx:=.de (eH.jf (aw.ga Tryz.func68 rfl rfl) (λrf a=>ahf 100 rf a) 500) λ_ _ _ b=>b
def an5(R:Type):aM R:=bp [(68,bg Lx)] [] [] []
def PW(x:au [.aI .node]):af (au [aq]):=match x with|n=>(z4 n 0 ae).bind λx=>cond (!x) (J 2) (J 0)
theorem ahv:aN 29 [.aI .node] [aq] (PW):=bX (px:=an5 _) (n:=0) Tryz.func29 rfl (λ_ H=>⟨br H (c1 H Vp bm) bo bq,aP⟩) λ_=>by kernel_rfl
def uB(n:bs):af Int:=PW n
def HB:bb [.aI .node] [aq]:=λx=>uB x
theorem QB:aN 29 [.aI .node] [aq] HB:=.de ahv λ_ _ _ a=>a
noncomputable section
noncomputable def yT:bt:=⟨5,[(0,.aI .span),(1,.aI .node),(2,.sl .byte ai),(3,.bool)],[(4,.ks 8)],[(2,.cells [aq]),(3,.cells [.sl .kv ai]),(4,.cells [aC]),(5,.cells [aq]),(6,.cells [.sl .kv ae]),(8,.rc 42 (rd Tryz.f114 0).1 (rd Tryz.f114 0).2.1 (rd Tryz.f114 0).2.2 [(6,.ptr 2 0),(8,.ptr 3 0),(9,.ptr 4 0),(10,.ptr 5 0),(11,.ptr 6 0)] 0)],9,9,0,[],[]⟩
noncomputable def yx:bt:=⟨1,[(0,.bool)],[],[(2,.cells [aq]),(3,.cells [.sl .kv ai]),(4,.cells [aC]),(5,.cells [aq]),(6,.cells [.sl .kv ae]),(8,.rc 42 (rd Tryz.f114 0).1 (rd Tryz.f114 0).2.1 (rd Tryz.f114 0).2.2 [(6,.ptr 2 0),(8,.ptr 3 0),(9,.ptr 4 0),(10,.ptr 5 0),(11,.ptr 6 0)] 0)],9,9,0,[],[]⟩
abbrev qF:=iP×bs×U UInt8×Bool×Int×U b7×U UInt8×Int×U b7×Int
abbrev mh:=Bool×Int×U b7×U UInt8×Int×U b7×Int
noncomputable def Rp:bt:=⟨85,[(3,.bool),(10,.bool),(46,.int .i64),(47,.int .i64)],[(5,.ptr 9 0),(6,.ptr 10 0),(7,.ptr 11 0),(9,.ptr 12 0),(11,.fn 239 [.ptr 10 0,.ptr 9 0,.ptr 11 0,.ptr 12 0])],[(2,.cells [aq]),(3,.cells [.sl .kv ai]),(4,.cells [aC]),(5,.cells [aq]),(6,.cells [.sl .kv ae]),(8,.rc 42 (rd Tryz.f114 0).1 (rd Tryz.f114 0).2.1 (rd Tryz.f114 0).2.2 [(6,.ptr 2 0),(8,.ptr 3 0),(9,.ptr 4 0),(10,.ptr 5 0),(11,.ptr 6 0)] 0),(9,.one (.aI .span)),(10,.one (.aI .node)),(11,.cells [aC]),(12,.iT [.ks 8])],13,9,0,[],[]⟩
abbrev BQ:=Bool×Bool×Int×Int×Int×U b7×U UInt8×Int×U b7×Int×iP×bs×U UInt8
def qH{R:Type}(rf:qF->af mh)(f:BQ->af R)(kx:bf->BQ->af R)(v:BQ):af R:=match v with
 |(v,v1,v2,aD,w,w1,w2,w3,c9,c7,dC,dO,dX)=>
 cond (aa (aD<v2)) (
  let g:=λ(a:Int)=>
  let h:=λ(e:U UInt8)=>
   ax (aU a (I dO.kids)) (
   (rf (dC,(at' .node dO.kids a),e,v,w,w1,w2,w3,c9,c7)).bind λ(m,i,j,k,b,c,d)=>
    cond (!m) (
    kx .ret (v,ai,v2,aD,i,j,k,b,c,d,dC,dO,dX)) (
    f (v,v1,v2,(wr .i64 (aD+1)),i,j,k,b,c,d,dC,dO,dX)))
  cond (aa (dO.kind=3)) (
   (qD dX).bind λl=>
   ax (aa (I l+1<=bJ)) (
    h (l++[(bj ((wr .u8 a):Int).toNat)]))) (
   h dX)
  cond (v) (
  g (wr .i64 ((wr .i64 ((I dO.kids:Int)-1))-aD))) (
  g aD)) (
  kx (.exit 0) (v,v1,v2,aD,w,w1,w2,w3,c9,c7,dC,dO,dX))
def XW(R:Type)(kK:Nat)(ay5:qF->af mh):aM R:=Pu [(240,bg aaO),(241,bg Sy)] [(69,fa mL)] [] []
noncomputable def acn(R:Type)(k:Nat)(rf:qF->af mh):aM R:=Pu [(238,bg Zd),(151,bg qx),(204,fS yT yx rf),(239,eY 80 400 (XW R k rf) Tryz.f239)] [] [(10,cq k Rp (qH rf))] []
def BA(k:Nat)(rf:qF->af mh)(x:qF):af (mh):=match x with
 |(sp,n,dr,back,m,j8,ll,jJ,pI,u')=>
 let u:=λ(q:U UInt8)=>
  cond (aa (n.kind=0)) (
  J (ae,m,j8,ll,jJ,pI,u')) (
  (ED sp q).bind λx=>
   cond (!x) (
   J (ae,m,j8,ll,jJ,pI,u')) (
   cond (aa (n.kind=4)) (
    ax (aa (u'=0)) (
    ax (!(List.isEmpty q)) (
     J (ai,m,[],q,80,pI,1)))) (
    let t:=λ(l:U b7) (o:Int)=>
    aT (λv=>qH rf v (λe fu=>match fu with|(v4,a',_,_,b6,cw,b,c,a,d,p,f,i)=>match e with
     |.ret=>
     J (a',b6,cw,b,c,a,d)
     |.exit 0=>
     cond (!v4) (
      J (ae,b6,cw,b,c,a,d)) (
      let z:=λ(r:Bool)=>
      cond (r) (
       J (ae,b6,cw,b,c,a,d)) (
       (zy p i).bind λs=>
       cond (!s) (
        J (ae,b6,cw,b,c,a,d)) (
        (v3 i).bind λ(g,_)=>
        (hO f.val).bind λh=>
         ax (aa (d=0)) (
         ax (aa (I a+1<=bJ)) (
          cond (aa ((I (a++[(b7.mk g h)]):Int)=b6)) (
          J (ai,b6,cw,b,c,(a++[(b7.mk g h)]),2)) (
          J (ae,b6,cw,b,c,(a++[(b7.mk g h)]),0))))))
      cond (!decide (f.kind=1)) (
      z (!f.has)) (
      z ai))
     |_=>ah)) k (back,ai,(I n.kids:Int),0,m,j8,ll,jJ,l,o,sp,n,q)
    cond (!back) (
    let j:=λ(p2:Bool)=>
     cond (p2) (
     t pI u') (
     (zy sp q).bind λln=>
      cond (!ln) (
      t pI u') (
      (v3 q).bind λ(w,_)=>
       (hO n.val).bind λy=>
       ax (aa (u'=0)) (
        ax (aa (I pI+1<=bJ)) (
        cond (aa ((I (pI++[(b7.mk w y)]):Int)=m)) (
         J (ai,m,j8,ll,jJ,(pI++[(b7.mk w y)]),2)) (
         t (pI++[(b7.mk w y)]) 0)))))
    cond (!decide (n.kind=1)) (
     j (!n.has)) (
     j ai)) (
    t pI u'))))
 cond (List.isEmpty dr) (
  cond (List.isEmpty n.path) (
  u []) (
  ax (aa (0+I n.path<=bJ)) (
   u ([]++n.path)))) (
  ax (aa (0+I dr<=bJ)) (
  ax (aa (I ([]++dr)+I n.path<=bJ)) (
   u (([]++dr)++n.path))))
theorem aic(k:Nat)(rf:qF->af mh)(c:fb 204 yT yx rf):fb 204 yT yx (BA k rf):=km (px:=acn _ k rf) (n:=1) Tryz.func204 rfl (λab H=>by have h1:bT ab (XW (mh) k rf):=aej H (c1 H auK (c1 H apT bm)) (bd H ns bo) bq;have h0:bT ab (acn (mh) k rf):=aej H (c1 H anX (c1 H rO (eO H c (dY (e8 H h1 Tryz.func239 rfl (n:=0) (aP)) bm)))) bo bq;have a:=cC H h0 (b:=b_ Tryz.f204 0) (k:=k) (n:=0) (s:=Rp) (step:=qH rf) (λ_ _ _ (_,_,_,_,_,_,_,_,_,_,_,_,_)=>by kernel_rfl) aP;exact⟨h0,(cm aP a)⟩) λ(_,_,_,_,_,_,_,_,_,_)=>by kernel_rfl
def walk(sp:iP)(n:bs)(dr:ar)(back:Bool)(m:Int)(j8:U b7)(ll:ar)(jJ:Int)(a:U b7)(b:Int):af mh:=aT (V:=qF) (R:=mh) (BA 100) 500 (sp,n,dr,back,m,j8,ll,jJ,a,b)
def Dj:qF->af mh:=λx=>walk x.1 x.2.1 x.2.2.1 x.2.2.2.1 x.2.2.2.2.1 x.2.2.2.2.2.1 x.2.2.2.2.2.2.1 x.2.2.2.2.2.2.2.1 x.2.2.2.2.2.2.2.2.1 x.2.2.2.2.2.2.2.2.2
theorem akl:fb 204 yT yx Dj:=.de (aQ:=yT) (bG:=yx) (gj.jf (aw.ga Tryz.func204 rfl rfl) (λrf a=>aic 100 rf a) 500) λ_ _ _ b=>b
def VD(R:Type):aM R:=bp [] [] [] []
def Wx(R:Type):aM R:=bp [(204,fS yT yx Dj)] [] [] []
noncomputable def aah(R:Type):aM R:=bp [(29,bg HB),(158,eY 40 200 (VD R) Tryz.f158),(203,eY 80 200 (Wx R) Tryz.f203)] [] [] []
def Ky(x:au [.aI .node,.aI .span,aq,.bool]):af (au [.sl .kv ai,aC,aq]):=match x with|(n,s,m,b)=>(uB n).bind λx=>cond (!decide (x=0)) (J ([],[],2)) (cond (aa (m<0)) (J ([],[],2)) (cond (aa (m=0)) (J ([],[],0)) ((Dj (s,n,[],b,m,[],[],0,[],0)).bind λ(_,_,d,e,f,a,c)=>cond (aa (c=0)) (J (a,[],0)) (cond (aa (c=1)) (J (d,e,f)) (J (a,[],0))))))
theorem aqR:aN 114 [.aI .node,.aI .span,aq,.bool] [.sl .kv ai,aC,aq] (Ky):=axE (px:=aah _) Tryz.func114 rfl (λab H=>by have h1:bT ab (VD (au [.sl .kv ai,aC,aq])):=br H bm bo bq;have h2:bT ab (Wx (au [.sl .kv ai,aC,aq])):=br H (eO H akl bm) bo bq;have h0:bT ab (aah (au [.sl .kv ai,aC,aq])):=br H (c1 H QB (dY (e8 H h1 Tryz.func158 rfl (n:=0) (aP)) (dY (e8 H h2 Tryz.func203 rfl (n:=0) (aP)) bm))) bo bq;exact h0) λ(_,_,_,_)=>by kernel_rfl
def O_(n:bs)(s:iP)(m:Int)(b:Bool):af (U b7×ar×Int):=Ky (n,s,m,b)
def aaS:bb [.aI .node,.aI .span,aq,.bool] [.sl .kv ai,aC,aq]:=λx=>O_ x.1 x.2.1 x.2.2.1 x.2.2.2
theorem auz:aN 114 [.aI .node,.aI .span,aq,.bool] [.sl .kv ai,aC,aq] aaS:=.de aqR λ_ _ _ a=>a
def aqn(R:Type):aM R:=bp [] [(115,fa ZP),(114,fa aaS)] [] []
def Qm(x:au [.aI .node,aC,aC,aq]):af (au [.sl .kv ai,aC,aq]):=match x with|(n,lo,hi,m)=>(NV lo hi).bind λx=>(O_ n x m ai).bind λ(a,b,c)=>J (a,b,c)
theorem aoc:aN 76 [.aI .node,aC,aC,aq] [.sl .kv ai,aC,aq] (Qm):=bX (px:=aqn _) (n:=0) Tryz.func76 rfl (λ_ H=>⟨br H bm (bd H ak0 (bd H auz bo)) bq,aP⟩) λ(_,_,_,_)=>by kernel_rfl
def CQ(n:bs)(lo hi:ar)(m:Int):af (U b7×ar×Int):=Qm (n,lo,hi,m)
def SL:bb [.aI .node,aC,aC,aq] [.sl .kv ai,aC,aq]:=λx=>CQ x.1 x.2.1 x.2.2.1 x.2.2.2
theorem aok:aN 76 [.aI .node,aC,aC,aq] [.sl .kv ai,aC,aq] SL:=.de aoc λ_ _ _ a=>a
end
def Xd:bt:=⟨36,[(6,.sl .byte ae),(25,.sl .bytes ai),(26,.int .i64),(27,.int .i64)],[],[],0,0,0,[],[]⟩
abbrev Eh:=U UInt8×U (U UInt8)×Int×Int
def sQ{R:Type}(e:Eh->af R)(kx:bf->Eh->af R)(v:Eh):af R:=match v with|(c,b,d,a)=>cond (aa (a<d)) (ax (aU a (I b)) (ax (aa (I c+I (at' .bytes b a)<=bJ)) (e ((c++(at' .bytes b a)),b,d,(wr .i64 (a+1)))))) (kx (.exit 2) (c,b,d,a))
def XU:bt:=⟨36,[(0,.sl .bytes ai),(3,.int .i64),(9,.sl .bytes ai),(10,.int .i64),(11,.int .i64)],[],[],0,0,0,[],[]⟩
abbrev Ec:=U (U UInt8)×Int×U (U UInt8)×Int×Int
def sO{R:Type}(a:Ec->af R)(kx:bf->Ec->af R)(v:Ec):af R:=match v with|(v,v1,v2,aD,v4)=>cond (aa (v4<aD)) (ax (aU v4 (I v2)) (cond (aa ((wr .i64 (v1+(I (at' .bytes v2 v4):Int)))<0)) (ah) (a (v,(wr .i64 (v1+(I (at' .bytes v2 v4):Int))),v2,aD,(wr .i64 (v4+1)))))) (kx (.exit 0) (v,v1,v2,aD,v4))
def abM(R:Type)(k:Nat):aM R:=bp [(199,p0 .byte)] [] [(3,cq k XU (sO)),(11,cq k Xd (sQ))] []
def L8(k:Nat)(x:au [.sl .bytes ai]):af (au [.sl .byte ae]):=match x with
 |l=>
 aT (λb=>sO b (λe c=>match c with|(a',v6,_,_,_)=>match e with
  |.exit 0=>
  ax (aa ((0:Int)<=v6)&&aa (v6<=(2000000:Int))) (
   aT (λb=>sQ b (λe c=>match c with|(a,_,_,_)=>match e with
   |.exit 2=>J a
   |_=>ah)) k ([],a',(I a':Int),0))
  |_=>ah)) k (l,0,l,(I l:Int),0)
theorem ar2(k:Nat):aN 154 [.sl .bytes ai] [.sl .byte ae] (L8 k):=bX (px:=abM _ k) (n:=2) Tryz.func154 rfl (λab H=>by have h0:bT ab (abM (au [.sl .byte ae]) k):=br H (dY (vA H Vz) bm) bo bq;have a:=cC H h0 (b:=b_ Tryz.f154 0) (k:=k) (n:=0) (s:=XU) (step:=sO) (λ_ _ _ (_,_,_,_,_)=>by kernel_rfl) aP;have c:=cC H h0 (b:=b_ Tryz.f154 1) (k:=k) (n:=0) (s:=Xd) (step:=sQ) (λ_ _ _ (_,_,_,_)=>by kernel_rfl) aP;exact⟨h0,(cm (cm aP a) c)⟩) λ_=>by kernel_rfl
def lF(l:U ar):af ar:=L8 100 l
def v8:bb [.sl .bytes ai] [.sl .byte ae]:=λx=>lF x
theorem z8:aN 154 [.sl .bytes ai] [.sl .byte ae] v8:=.fin 0 ar2 λ_ _ _ a=>⟨100,a⟩
def UI:bt:=⟨36,[(21,.sl .node ai),(22,.int .i64),(23,.int .i64)],[(2,.ptr 1 0),(3,.ptr 2 0)],[(1,.cells [aq,.sl .byte ae,.bool,.sl .byte ae,.sl .node ae,.sl .byte ae]),(2,.cells [aq,aC,.bool,aC,.sl .node ae,aC])],3,0,0,[],[]⟩
abbrev G9:=U bs×Int×Int×Int×U UInt8×Bool×U UInt8×U bs×U UInt8×Int×U UInt8×Bool×U UInt8×U bs×U UInt8
def xW{R:Type}(rf:bb [.aI .node] [.aI .node])(b:G9->af R)(kx:bf->G9->af R)(v:G9):af R:=match v with|(v,v1,v2,w,w1,w2,w3,c9,c7,dC,dO,dX,fy,a,ie)=>cond (aa (v2<v1)) (ax (aU v2 (I v)) ((rf (at' .node v v2)).bind λc=>ax (aa (I a+1<=bJ)) (b (v,v1,(wr .i64 (v2+1)),w,w1,w2,w3,c9,c7,dC,dO,dX,fy,(a++[c]),ie)))) (kx (.exit 0) (v,v1,v2,w,w1,w2,w3,c9,c7,dC,dO,dX,fy,a,ie))
def WZ(R:Type)(k:Nat)(rf:bb [.aI .node] [.aI .node]):aM R:=bp [] [(69,fa mL),(30,fa rf)] [(3,cq k UI (xW rf))] []
def xj(k:Nat)(rf:bb [.aI .node] [.aI .node])(x:au [.aI .node]):af (au [.aI .node]):=match x with
 |n=>
 (hO n.path).bind λx=>
  (hO n.val).bind λi=>
  (hO n.hash).bind λj=>
   aT (λh=>xW rf h (λe l=>match l with|(_,_,_,_,_,_,_,_,_,a,b,c,d,f,g)=>match e with
   |.exit 0=>J (bs.mk a b c d f g)
   |_=>ah)) k (n.kids,(I n.kids:Int),0,0,[],ai,[],[],[],n.kind,x,n.has,i,[],j)
theorem anS(k:Nat)(rf:bb [.aI .node] [.aI .node])(c:aN 30 [.aI .node] [.aI .node] rf):aN 30 [.aI .node] [.aI .node] (xj k rf):=bX (px:=WZ _ k rf) (n:=1) Tryz.func30 rfl (λab H=>by have h0:bT ab (WZ (au [.aI .node]) k rf):=br H bm (bd H ns (bd H c bo)) bq;have a:=cC H h0 (b:=b_ Tryz.f30 0) (k:=k) (n:=0) (s:=UI) (step:=xW rf) (λ_ _ _ (_,_,_,_,_,_,_,_,_,_,_,_,_,_,_)=>by kernel_rfl) aP;exact⟨h0,(cm aP a)⟩) λ_=>by kernel_rfl
def sR(n:bs):af bs:=aT (xj 100) 500 n
def Eg:bb [.aI .node] [.aI .node]:=λx=>sR x
theorem LO:aN 30 [.aI .node] [.aI .node] Eg:=.de (eH.jf (aw.ga Tryz.func30 rfl rfl) (λrf a=>anS 100 rf a) 500) λ_ _ _ b=>b
def ajO(R:Type)(rf:bb [.aI .node,aC,aC] [aC,.bool,.nl .byte]):aM R:=bp [(151,bg qx),(152,bg FT),(153,bg Dk)] [(69,fa mL),(154,fa v8),(110,fa rf)] [] []
def oX(rf:bb [.aI .node,aC,aC] [aC,.bool,.nl .byte])(x:au [.aI .node,aC,aC]):af (au [aC,.bool,.nl .byte]):=match x with|(n,p,w)=>cond (aa (n.kind=4)) ((qD w).bind λ_=>ah) (cond (aa (n.kind=1)) ((hO n.val).bind λb=>J (b,(beq n.path p),())) (cond (aa (n.kind=2)) ((wS p n.path).bind λc=>cond (!c) (J ([],ai,())) (ax (aU 0 (I n.kids)) (ax (upto (I n.path:Int) (I p) (I p)) ((lF [w,n.path]).bind λd=>(rf ((at' .node n.kids 0),(p.drop ((I n.path:Int):Int).toNat),d)).bind λ(e,f,_)=>J (e,f,()))))) (cond (aa (n.kind=3)) (cond (aa ((I p:Int)=0)) ((hO n.val).bind λg=>J (g,n.has,())) (ax (aU 0 (I p)) (ax (aU ((at' .byte p 0).toNat:Int) (I n.kids)) (ax (upto 1 (I p) (I p)) (ax (upto 0 1 (I p)) ((lF [w,(p.take (1:Int).toNat)]).bind λh=>(rf ((at' .node n.kids ((at' .byte p 0).toNat:Int)),(p.drop (1:Int).toNat),h)).bind λ(i,a,_)=>J (i,a,()))))))) (J ([],ai,())))))
theorem ar9(rf:bb [.aI .node,aC,aC] [aC,.bool,.nl .byte])(a:aN 110 [.aI .node,aC,aC] [aC,.bool,.nl .byte] rf):aN 110 [.aI .node,aC,aC] [aC,.bool,.nl .byte] (oX rf):=bX (px:=ajO _ rf) (n:=0) Tryz.func110 rfl (λ_ H=>⟨br H (c1 H rO (c1 H OY (c1 H JH bm))) (bd H ns (bd H z8 (bd H a bo))) bq,aP⟩) λ(_,_,_)=>by kernel_rfl
def Pz(n:bs)(p w:ar):af (ar×Bool×Unit):=aT oX 500 (n,p,w)
def ZS:bb [.aI .node,aC,aC] [aC,.bool,.nl .byte]:=λx=>Pz x.1 x.2.1 x.2.2
theorem ajN:aN 110 [.aI .node,aC,aC] [aC,.bool,.nl .byte] ZS:=.de (eH.jf (aw.ga Tryz.func110 rfl rfl) (λrf a=>ar9 rf a) 500) λ_ _ _ b=>b
def aoT(R:Type):aM R:=bp [(29,bg HB)] [] [] []
def Qq(x:au [.aI .node,aC,aC]):af (au [.bool]):=match x with|(n,k,v)=>(uB n).bind λx=>cond (aa (x=0)) (cond (aa ((I k:Int)<=200)) (J (aa ((I v:Int)<=4000))) (J ai)) (J ai)
theorem anw:aN 109 [.aI .node,aC,aC] [.bool] (Qq):=bX (px:=aoT _) (n:=0) Tryz.func109 rfl (λ_ H=>⟨br H (c1 H QB bm) bo bq,aP⟩) λ(_,_,_)=>by kernel_rfl
def Af(n:bs)(k v:ar):af Bool:=Qq (n,k,v)
def Nt:bb [.aI .node,aC,aC] [.bool]:=λx=>Af x.1 x.2.1 x.2.2
theorem W9:aN 109 [.aI .node,aC,aC] [.bool] Nt:=.de anw λ_ _ _ a=>a
def ald(R:Type):aM R:=bp [(109,bg Nt)] [(111,fa zr),(110,fa ZS)] [] []
def Ma(x:au [.aI .node,aC]):af (au [aC,.bool,.nl .byte,aq]):=match x with|(n,k)=>(Af n k []).bind λx=>cond (!x) (J ([],ai,(),2)) ((vc k).bind λa=>(Pz n a []).bind λ(b,c,_)=>cond (!c) (J ([],ai,(),0)) (J (b,ae,(),0)))
theorem atW:aN 71 [.aI .node,aC] [aC,.bool,.nl .byte,aq] (Ma):=bX (px:=ald _) (n:=0) Tryz.func71 rfl (λ_ H=>⟨br H (c1 H W9 bm) (bd H C_ (bd H ajN bo)) bq,aP⟩) λ(_,_)=>by kernel_rfl
def AB(n:bs)(k:ar):af (ar×Bool×Unit×Int):=Ma (n,k)
def Of:bb [.aI .node,aC] [aC,.bool,.nl .byte,aq]:=λx=>AB x.1 x.2
theorem abm:aN 71 [.aI .node,aC] [aC,.bool,.nl .byte,aq] Of:=.de atW λ_ _ _ a=>a
def ats(R:Type):aM R:=bp [(151,bg qx),(69,bg mL)] [] [] []
def Ln(x:au [aC,aC]):af (au [.aI .node]):=match x with|(p,v)=>(qD p).bind λx=>(hO v).bind λa=>J (bs.mk 1 x ai a [] [])
theorem ary:aN 155 [aC,aC] [.aI .node] (Ln):=bX (px:=ats _) (n:=0) Tryz.func155 rfl (λ_ H=>⟨br H (c1 H rO (c1 H ns bm)) bo bq,aP⟩) λ(_,_)=>by kernel_rfl
def pq(p v:ar):af bs:=Ln (p,v)
def z7:bb [aC,aC] [.aI .node]:=λx=>pq x.1 x.2
theorem Dw:aN 155 [aC,aC] [.aI .node] z7:=.de ary λ_ _ _ a=>a
def aop(R:Type):aM R:=bp [] [(151,fa qx)] [] []
def Qt(x:au [aC,.aI .node]):af (au [.aI .node]):=match x with|(p,n)=>cond (aa ((I p:Int)=0)) (J n) ((qD p).bind λx=>J (bs.mk 2 x ai [] [n] []))
theorem am1:aN 202 [aC,.aI .node] [.aI .node] (Qt):=bX (px:=aop _) (n:=0) Tryz.func202 rfl (λ_ H=>⟨br H bm (bd H rO bo) bq,aP⟩) λ(_,_)=>by kernel_rfl
def oe(p:ar)(n:bs):af bs:=Qt (p,n)
def D2:bb [aC,.aI .node] [.aI .node]:=λx=>oe x.1 x.2
theorem Mn:aN 202 [aC,.aI .node] [.aI .node] D2:=.de am1 λ_ _ _ a=>a
def VB(R:Type):aM R:=bp [(69,bg mL)] [(155,fa z7)] [] []
def VZ(R:Type):aM R:=bp [(69,bg mL)] [(155,fa z7)] [] []
noncomputable def RN(R:Type):aM R:=bp [(200,bg On),(202,bg D2),(201,H3 40 200 (VB R) Tryz.f201 (eY 40 400 (VZ R) Tryz.f201))] [(202,fa D2)] [] []
def Hq(x:au [.aI .node,aC,aC]):af (au [.aI .node]):=match x with|(n,p,v)=>(Ft n.path p).bind λx=>cond (aa (n.kind=1)) (ax (upto x (I n.path) (I n.path)) (cond (aa ((I (n.path.drop (x:Int).toNat):Int)=0)) ((hO n.val).bind λk=>ax (upto x (I p) (I p)) (cond (aa ((I (p.drop (x:Int).toNat):Int)=0)) ((hO v).bind λl=>ax (upto 0 x (I p)) (ax (aa ((0:Int)<=0)&&aa ((0:Int)<=16)&&aa (16<=(I (eK (16:Int).toNat (e6 .node)):Int))) ((oe (p.take (x:Int).toNat) (bs.mk 3 [] ae l (cut (eK (16:Int).toNat (e6 .node)) 0 16) [])).bind λm=>J m))) (ax (aU 0 (I (p.drop (x:Int).toNat))) (ax (upto 1 (I (p.drop (x:Int).toNat)) (I (p.drop (x:Int).toNat))) ((pq ((p.drop (x:Int).toNat).drop (1:Int).toNat) v).bind λi=>ax (iJ ((at' .byte (p.drop (x:Int).toNat) 0).toNat:Int) 16) (ax (aU (0+((at' .byte (p.drop (x:Int).toNat) 0).toNat:Int)) (I (eK (16:Int).toNat (e6 .node)))) (ax (upto 0 x (I p)) (ax (aa ((0:Int)<=0)&&aa ((0:Int)<=16)&&aa (16<=(I ((eK (16:Int).toNat (e6 .node)).set ((0+((at' .byte (p.drop (x:Int).toNat) 0).toNat:Int)):Int).toNat i):Int))) ((oe (p.take (x:Int).toNat) (bs.mk 3 [] ae k (cut ((eK (16:Int).toNat (e6 .node)).set ((0+((at' .byte (p.drop (x:Int).toNat) 0).toNat:Int)):Int).toNat i) 0 16) [])).bind λo=>J o))))))))) (ax (aU 0 (I (n.path.drop (x:Int).toNat))) (ax (upto 1 (I (n.path.drop (x:Int).toNat)) (I (n.path.drop (x:Int).toNat))) ((pq ((n.path.drop (x:Int).toNat).drop (1:Int).toNat) n.val).bind λg=>ax (iJ ((at' .byte (n.path.drop (x:Int).toNat) 0).toNat:Int) 16) (ax (aU (0+((at' .byte (n.path.drop (x:Int).toNat) 0).toNat:Int)) (I (eK (16:Int).toNat (e6 .node)))) (ax (upto x (I p) (I p)) (cond (aa ((I (p.drop (x:Int).toNat):Int)=0)) ((hO v).bind λq=>ax (upto 0 x (I p)) (ax (aa ((0:Int)<=0)&&aa ((0:Int)<=16)&&aa (16<=(I ((eK (16:Int).toNat (e6 .node)).set ((0+((at' .byte (n.path.drop (x:Int).toNat) 0).toNat:Int)):Int).toNat g):Int))) ((oe (p.take (x:Int).toNat) (bs.mk 3 [] ae q (cut ((eK (16:Int).toNat (e6 .node)).set ((0+((at' .byte (n.path.drop (x:Int).toNat) 0).toNat:Int)):Int).toNat g) 0 16) [])).bind λb=>J b))) (ax (aU 0 (I (p.drop (x:Int).toNat))) (ax (upto 1 (I (p.drop (x:Int).toNat)) (I (p.drop (x:Int).toNat))) ((pq ((p.drop (x:Int).toNat).drop (1:Int).toNat) v).bind λj=>ax (iJ ((at' .byte (p.drop (x:Int).toNat) 0).toNat:Int) 16) (ax (aU (0+((at' .byte (p.drop (x:Int).toNat) 0).toNat:Int)) (I ((eK (16:Int).toNat (e6 .node)).set ((0+((at' .byte (n.path.drop (x:Int).toNat) 0).toNat:Int)):Int).toNat g))) (ax (upto 0 x (I p)) (ax (aa ((0:Int)<=0)&&aa ((0:Int)<=16)&&aa (16<=(I (((eK (16:Int).toNat (e6 .node)).set ((0+((at' .byte (n.path.drop (x:Int).toNat) 0).toNat:Int)):Int).toNat g).set ((0+((at' .byte (p.drop (x:Int).toNat) 0).toNat:Int)):Int).toNat j):Int))) ((oe (p.take (x:Int).toNat) (bs.mk 3 [] ai [] (cut (((eK (16:Int).toNat (e6 .node)).set ((0+((at' .byte (n.path.drop (x:Int).toNat) 0).toNat:Int)):Int).toNat g).set ((0+((at' .byte (p.drop (x:Int).toNat) 0).toNat:Int)):Int).toNat j) 0 16) [])).bind λc=>J c))))))))))))))) (ax (aU x (I n.path)) (ax (upto (wr .i64 (x+1)) (I n.path) (I n.path)) (ax (aU 0 (I n.kids)) ((oe (n.path.drop ((wr .i64 (x+1)):Int).toNat) (at' .node n.kids 0)).bind λh=>ax (iJ ((at' .byte n.path x).toNat:Int) 16) (ax (aU (0+((at' .byte n.path x).toNat:Int)) (I (eK (16:Int).toNat (e6 .node)))) (ax (upto x (I p) (I p)) (cond (aa ((I (p.drop (x:Int).toNat):Int)=0)) ((hO v).bind λd=>ax (upto 0 x (I p)) (ax (aa ((0:Int)<=0)&&aa ((0:Int)<=16)&&aa (16<=(I ((eK (16:Int).toNat (e6 .node)).set ((0+((at' .byte n.path x).toNat:Int)):Int).toNat h):Int))) ((oe (p.take (x:Int).toNat) (bs.mk 3 [] ae d (cut ((eK (16:Int).toNat (e6 .node)).set ((0+((at' .byte n.path x).toNat:Int)):Int).toNat h) 0 16) [])).bind λe=>J e))) (ax (aU 0 (I (p.drop (x:Int).toNat))) (ax (upto 1 (I (p.drop (x:Int).toNat)) (I (p.drop (x:Int).toNat))) ((pq ((p.drop (x:Int).toNat).drop (1:Int).toNat) v).bind λa=>ax (iJ ((at' .byte (p.drop (x:Int).toNat) 0).toNat:Int) 16) (ax (aU (0+((at' .byte (p.drop (x:Int).toNat) 0).toNat:Int)) (I ((eK (16:Int).toNat (e6 .node)).set ((0+((at' .byte n.path x).toNat:Int)):Int).toNat h))) (ax (upto 0 x (I p)) (ax (aa ((0:Int)<=0)&&aa ((0:Int)<=16)&&aa (16<=(I (((eK (16:Int).toNat (e6 .node)).set ((0+((at' .byte n.path x).toNat:Int)):Int).toNat h).set ((0+((at' .byte (p.drop (x:Int).toNat) 0).toNat:Int)):Int).toNat a):Int))) ((oe (p.take (x:Int).toNat) (bs.mk 3 [] ai [] (cut (((eK (16:Int).toNat (e6 .node)).set ((0+((at' .byte n.path x).toNat:Int)):Int).toNat h).set ((0+((at' .byte (p.drop (x:Int).toNat) 0).toNat:Int)):Int).toNat a) 0 16) [])).bind λf=>J f))))))))))))))
theorem aou:aN 156 [.aI .node,aC,aC] [.aI .node] (Hq):=bX (px:=RN _) (n:=0) Tryz.func156 rfl (λab H=>by have h1:bT ab (VB (au [.aI .node])):=br H (c1 H ns bm) (bd H Dw bo) bq;have h2:bT ab (VZ (au [.aI .node])):=br H (c1 H ns bm) (bd H Dw bo) bq;have h0:bT ab (RN (au [.aI .node])):=br H (c1 H aco (c1 H Mn (dY (_R (e8 H h1 Tryz.func201 rfl (n:=0) (aP)) (e8 H h2 Tryz.func201 rfl (n:=0) (aP))) bm))) (bd H Mn bo) bq;exact⟨h0,aP⟩) λ(_,_,_)=>by kernel_rfl
def ti(n:bs)(p v:ar):af bs:=Hq (n,p,v)
def abQ:bb [.aI .node,aC,aC] [.aI .node]:=λx=>ti x.1 x.2.1 x.2.2
theorem auA:aN 156 [.aI .node,aC,aC] [.aI .node] abQ:=.de aou λ_ _ _ a=>a
def aj0(R:Type)(rf:bb [.aI .node,aC,aC,aC] [.aI .node,.nl .byte]):aM R:=bp [(155,bg z7),(152,bg FT),(156,bg abQ),(153,bg Dk),(157,sc .node),(69,bg mL)] [(151,fa qx),(154,fa v8),(112,fa rf)] [] []
def tW(rf:bb [.aI .node,aC,aC,aC] [.aI .node,.nl .byte])(x:au [.aI .node,aC,aC,aC]):af (au [.aI .node,.nl .byte]):=match x with|(n,p,v,w)=>cond (aa (n.kind=4)) ((qD w).bind λ_=>ah) (cond (aa (n.kind=0)) ((pq p v).bind λe=>J (e,())) (cond (aa (n.kind=1)) (cond (beq n.path p) ((pq p v).bind λf=>J (f,())) ((ti n p v).bind λg=>J (g,()))) (cond (aa (n.kind=2)) ((wS p n.path).bind λh=>cond (!h) ((ti n p v).bind λi=>J (i,())) (ax (aU 0 (I n.kids)) (ax (upto (I n.path:Int) (I p) (I p)) ((lF [w,n.path]).bind λj=>(rf ((at' .node n.kids 0),(p.drop ((I n.path:Int):Int).toNat),v,j)).bind λ(k,_)=>J ((bs.mk n.kind n.path n.has n.val [k] n.hash),()))))) (ax (aa (I n.kids<=2000000)) (cond (List.isEmpty n.kids) (cond (aa ((I p:Int)=0)) ((hO v).bind λl=>J ((bs.mk n.kind n.path ae l [] n.hash),())) (ax (aU 0 (I p)) (ax (aU ((at' .byte p 0).toNat:Int) 0) (ax (upto 1 (I p) (I p)) (ax (upto 0 1 (I p)) ((lF [w,(p.take (1:Int).toNat)]).bind λb=>(rf ((at' .node [] ((at' .byte p 0).toNat:Int)),(p.drop (1:Int).toNat),v,b)).bind λ(_,_)=>ax (aU 0 (I p)) (ax (aU ((at' .byte p 0).toNat:Int) 0) (ah)))))))) (cond (aa ((I p:Int)=0)) ((hO v).bind λc=>ax (aa ((0:Int)<=0)&&aa ((0:Int)<=(I n.kids:Int))&&aa ((0+(I n.kids:Int))<=(I n.kids:Int))) (J ((bs.mk n.kind n.path ae c (cut n.kids 0 (0+(I n.kids:Int))) n.hash),()))) (ax (aU 0 (I p)) (ax (iJ ((at' .byte p 0).toNat:Int) (I n.kids:Int)) (ax (aU (0+((at' .byte p 0).toNat:Int)) (I n.kids)) (ax (upto 1 (I p) (I p)) (ax (upto 0 1 (I p)) ((lF [w,(p.take (1:Int).toNat)]).bind λd=>(rf ((at' .node n.kids (0+((at' .byte p 0).toNat:Int))),(p.drop (1:Int).toNat),v,d)).bind λ(a,_)=>ax (aU 0 (I p)) (ax (iJ ((at' .byte p 0).toNat:Int) (I n.kids:Int)) (ax (aU (0+((at' .byte p 0).toNat:Int)) (I n.kids)) (ax (aa ((0:Int)<=0)&&aa ((0:Int)<=(I n.kids:Int))&&aa ((0+(I n.kids:Int))<=(I (n.kids.set ((0+((at' .byte p 0).toNat:Int)):Int).toNat a):Int))) (J ((bs.mk n.kind n.path n.has n.val (cut (n.kids.set ((0+((at' .byte p 0).toNat:Int)):Int).toNat a) 0 (0+(I n.kids:Int))) n.hash),())))))))))))))))))
theorem aiu(rf:bb [.aI .node,aC,aC,aC] [.aI .node,.nl .byte])(a:aN 112 [.aI .node,aC,aC,aC] [.aI .node,.nl .byte] rf):aN 112 [.aI .node,aC,aC,aC] [.aI .node,.nl .byte] (tW rf):=bX (px:=aj0 _ rf) (n:=0) Tryz.func112 rfl (λ_ H=>⟨br H (c1 H Dw (c1 H OY (c1 H auA (c1 H JH (dY (B_ H Qf PU) (c1 H ns bm)))))) (bd H rO (bd H z8 (bd H a bo))) bq,aP⟩) λ(_,_,_,_)=>by kernel_rfl
def Ps(n:bs)(p v w:ar):af (bs×Unit):=aT tW 500 (n,p,v,w)
def adI:bb [.aI .node,aC,aC,aC] [.aI .node,.nl .byte]:=λx=>Ps x.1 x.2.1 x.2.2.1 x.2.2.2
theorem ajL:aN 112 [.aI .node,aC,aC,aC] [.aI .node,.nl .byte] adI:=.de (eH.jf (aw.ga Tryz.func112 rfl rfl) (λrf a=>aiu rf a) 500) λ_ _ _ b=>b
def aj8(R:Type):aM R:=bp [(109,bg Nt),(30,bg Eg),(111,bg zr),(112,bg adI)] [] [] []
def LW(x:au [.aI .node,aC,aC]):af (au [.aI .node,.nl .byte,aq]):=match x with|(n,k,v)=>(Af n k v).bind λx=>cond (!x) (J ((bs.mk 0 [] ai [] [] []),(),2)) ((sR n).bind λa=>(vc k).bind λb=>(Ps a b v []).bind λ(c,_)=>J (c,(),0))
theorem atV:aN 73 [.aI .node,aC,aC] [.aI .node,.nl .byte,aq] (LW):=bX (px:=aj8 _) (n:=0) Tryz.func73 rfl (λ_ H=>⟨br H (c1 H W9 (c1 H LO (c1 H C_ (c1 H ajL bm)))) bo bq,aP⟩) λ(_,_,_)=>by kernel_rfl
def Fk(n:bs)(k v:ar):af (bs×Unit×Int):=LW (n,k,v)
def adi:bb [.aI .node,aC,aC] [.aI .node,.nl .byte,aq]:=λx=>Fk x.1 x.2.1 x.2.2
theorem ak3:aN 73 [.aI .node,aC,aC] [.aI .node,.nl .byte,aq] adi:=.de atV λ_ _ _ a=>a
def alx(R:Type):aM R:=bp [(154,bg v8),(202,bg D2)] [] [] []
def Bm(x:au [aC,.aI .node]):af (au [.aI .node]):=match x with
 |(p,n)=>
 let j:=λ(p1:Bool)=>
  cond (p1) (
  (lF [p,n.path]).bind λx=>J (bs.mk n.kind x n.has n.val n.kids n.hash)) (
  cond (aa (n.kind=0)) (
   J n) (
   (oe p n).bind λa=>
   J a))
 cond (aa (n.kind=1)) (
  j (aa (n.kind=1))) (
  j (aa (n.kind=2)))
theorem aiJ:aN 174 [aC,.aI .node] [.aI .node] (Bm):=bX (px:=alx _) (n:=0) Tryz.func174 rfl (λ_ H=>⟨br H (c1 H z8 (c1 H Mn bm)) bo bq,aP⟩) λ(_,_)=>by kernel_rfl
def tw(p:ar)(n:bs):af bs:=Bm (p,n)
def OP:bb [aC,.aI .node] [.aI .node]:=λx=>tw x.1 x.2
theorem abU:aN 174 [aC,.aI .node] [.aI .node] OP:=.de aiJ λ_ _ _ a=>a
def Rr:bt:=⟨63,[(1,.sl .byte ai),(5,.nl .byte),(6,.int .i64),(10,.sl .node ai),(11,.int .i64),(12,.int .i64)],[(2,.ptr 0 0),(4,.ptr 1 0)],[(0,.one (.aI .node)),(1,.one (.aI .node))],2,0,0,[],[]⟩
abbrev xV:=U UInt8×Unit×Int×U bs×Int×Int×bs×bs
def ob{R:Type}(a:xV->af R)(kx:bf->xV->af R)(v:xV):af R:=match v with|(v,_,v2,aD,v4,a',w1,w2)=>cond (aa (a'<v4)) (ax (aU a' (I aD)) (cond (aa ((at' .node aD a').kind=0)) (a (v,(),v2,aD,v4,(wr .i64 (a'+1)),w1,w2)) (cond (aa (0<=v2)) (kx .ret (v,(),v2,aD,v4,a',w1,w1)) (cond (w1.has) (kx .ret (v,(),v2,aD,v4,a',w1,w1)) (a (v,(),a',aD,v4,(wr .i64 (a'+1)),w1,w2)))))) (kx (.exit 0) (v,(),v2,aD,v4,a',w1,w2))
def acJ(R:Type)(k:Nat):aM R:=bp [(155,bg z7),(174,bg OP)] [(154,fa v8)] [(3,cq k Rr (ob))] []
def H0(k:Nat)(x:au [.aI .node,aC]):af (au [.aI .node,.nl .byte]):=match x with
 |(n,w)=>
 aT (λc=>ob c (λe d=>match d with|(v6,_,b6,_,_,_,a,b)=>match e with
  |.ret=>
  J (b,())
  |.exit 0=>
  cond (aa (b6<0)) (
   (pq [] a.val).bind λx=>
   J (x,())) (
   ax (aU b6 (I a.kids)) (
   cond (aa ((at' .node a.kids b6).kind=4)) (
    (lF [[],v6]).bind λ_=>
    ah) (
    ax (aU b6 (I a.kids)) (
    (tw [(bj ((wr .u8 b6):Int).toNat)] (at' .node a.kids b6)).bind λf=>J (f,())))))
  |_=>ah)) k (w,(),(-1),n.kids,(I n.kids:Int),0,n,(bs.mk 0 [] ai [] [] []))
theorem asi(k:Nat):aN 175 [.aI .node,aC] [.aI .node,.nl .byte] (H0 k):=bX (px:=acJ _ k) (n:=1) Tryz.func175 rfl (λab H=>by have h0:bT ab (acJ (au [.aI .node,.nl .byte]) k):=br H (c1 H Dw (c1 H abU bm)) (bd H z8 bo) bq;have a:=cC H h0 (b:=b_ Tryz.f175 0) (k:=k) (n:=0) (s:=Rr) (step:=ob) (λ_ _ _ (_,_,_,_,_,_,_,_)=>by kernel_rfl) aP;exact⟨h0,(cm aP a)⟩) λ(_,_)=>by kernel_rfl
def AL(n:bs)(w:ar):af (bs×Unit):=H0 100 (n,w)
def ZA:bb [.aI .node,aC] [.aI .node,.nl .byte]:=λx=>AL x.1 x.2
theorem ajE:aN 175 [.aI .node,aC] [.aI .node,.nl .byte] ZA:=.fin 0 asi λ_ _ _ a=>⟨100,a⟩
def arn(R:Type)(rf:bb [.aI .node,aC,aC] [.aI .node,.nl .byte]):aM R:=bp [(174,bg OP),(157,sc .node),(175,bg ZA)] [(154,fa v8),(128,fa rf)] [] []
def xq(rf:bb [.aI .node,aC,aC] [.aI .node,.nl .byte])(x:au [.aI .node,aC,aC]):af (au [.aI .node,.nl .byte]):=match x with|(n,p,w)=>cond (aa (n.kind=1)) (J ((bs.mk 0 [] ai [] [] []),())) (cond (aa (n.kind=2)) (ax (aU 0 (I n.kids)) (ax (upto (I n.path:Int) (I p) (I p)) ((lF [w,n.path]).bind λx=>(rf ((at' .node n.kids 0),(p.drop ((I n.path:Int):Int).toNat),x)).bind λ(d,_)=>(tw n.path d).bind λe=>J (e,())))) (ax (aa (I n.kids<=2000000)) (cond (List.isEmpty n.kids) (cond (aa ((I p:Int)=0)) ((AL (bs.mk n.kind n.path ai [] [] n.hash) w).bind λ(f,_)=>J (f,())) (ax (aU 0 (I p)) (ax (aU ((at' .byte p 0).toNat:Int) 0) (ax (upto 1 (I p) (I p)) (ax (upto 0 1 (I p)) ((lF [w,(p.take (1:Int).toNat)]).bind λg=>(rf ((at' .node [] ((at' .byte p 0).toNat:Int)),(p.drop (1:Int).toNat),g)).bind λ(_,_)=>ax (aU 0 (I p)) (ax (aU ((at' .byte p 0).toNat:Int) 0) (ah)))))))) (cond (aa ((I p:Int)=0)) (ax (aa ((0:Int)<=0)&&aa ((0:Int)<=(I n.kids:Int))&&aa ((0+(I n.kids:Int))<=(I n.kids:Int))) ((AL (bs.mk n.kind n.path ai [] (cut n.kids 0 (0+(I n.kids:Int))) n.hash) w).bind λ(h,_)=>J (h,()))) (ax (aU 0 (I p)) (ax (iJ ((at' .byte p 0).toNat:Int) (I n.kids:Int)) (ax (aU (0+((at' .byte p 0).toNat:Int)) (I n.kids)) (ax (upto 1 (I p) (I p)) (ax (upto 0 1 (I p)) ((lF [w,(p.take (1:Int).toNat)]).bind λb=>(rf ((at' .node n.kids (0+((at' .byte p 0).toNat:Int))),(p.drop (1:Int).toNat),b)).bind λ(a,_)=>ax (aU 0 (I p)) (ax (iJ ((at' .byte p 0).toNat:Int) (I n.kids:Int)) (ax (aU (0+((at' .byte p 0).toNat:Int)) (I n.kids)) (ax (aa ((0:Int)<=0)&&aa ((0:Int)<=(I n.kids:Int))&&aa ((0+(I n.kids:Int))<=(I (n.kids.set ((0+((at' .byte p 0).toNat:Int)):Int).toNat a):Int))) ((AL (bs.mk n.kind n.path n.has n.val (cut (n.kids.set ((0+((at' .byte p 0).toNat:Int)):Int).toNat a) 0 (0+(I n.kids:Int))) n.hash) w).bind λ(c,_)=>J (c,())))))))))))))))
theorem ap6(rf:bb [.aI .node,aC,aC] [.aI .node,.nl .byte])(a:aN 128 [.aI .node,aC,aC] [.aI .node,.nl .byte] rf):aN 128 [.aI .node,aC,aC] [.aI .node,.nl .byte] (xq rf):=bX (px:=arn _ rf) (n:=0) Tryz.func128 rfl (λ_ H=>⟨br H (c1 H abU (dY (B_ H Qf PU) (c1 H ajE bm))) (bd H z8 (bd H a bo)) bq,aP⟩) λ(_,_,_)=>by kernel_rfl
def NP(n:bs)(p w:ar):af (bs×Unit):=aT xq 500 (n,p,w)
def ab8:bb [.aI .node,aC,aC] [.aI .node,.nl .byte]:=λx=>NP x.1 x.2.1 x.2.2
theorem ai8:aN 128 [.aI .node,aC,aC] [.aI .node,.nl .byte] ab8:=.de (eH.jf (aw.ga Tryz.func128 rfl rfl) (λrf a=>ap6 rf a) 500) λ_ _ _ b=>b
def asU(R:Type):aM R:=bp [(71,bg Of),(30,bg Eg),(111,bg zr),(128,bg ab8)] [] [] []
def Lf(x:au [.aI .node,aC]):af (au [.aI .node,.bool,.nl .byte,aq]):=match x with|(n,k)=>(AB n k).bind λ(_,b,_,a)=>cond (!decide (a=0)) (J ((bs.mk 0 [] ai [] [] []),ai,(),a)) (cond (!b) ((sR n).bind λc=>J (c,ai,(),0)) ((sR n).bind λd=>(vc k).bind λe=>(NP d e []).bind λ(f,_)=>J (f,ae,(),0)))
theorem aqg:aN 84 [.aI .node,aC] [.aI .node,.bool,.nl .byte,aq] (Lf):=bX (px:=asU _) (n:=0) Tryz.func84 rfl (λ_ H=>⟨br H (c1 H abm (c1 H LO (c1 H C_ (c1 H ai8 bm)))) bo bq,aP⟩) λ(_,_)=>by kernel_rfl
def FL(n:bs)(k:ar):af (bs×Bool×Unit×Int):=Lf (n,k)
def abJ:bb [.aI .node,aC] [.aI .node,.bool,.nl .byte,aq]:=λx=>FL x.1 x.2
theorem auO:aN 84 [.aI .node,aC] [.aI .node,.bool,.nl .byte,aq] abJ:=.de aqg λ_ _ _ a=>a
noncomputable section
def zN:bt:=⟨2,[(1,.sl .byte ai)],[(0,.ptr 0 0)],[(0,.cells [aq,aC,.bool,aC,.sl .node ai,aC,.sl .stt ai,aC])],1,1,0,[],[]⟩
def zS:bt:=⟨3,[(0,.sl .byte ai),(1,.bool),(2,.int .i64)],[],[(0,.cells [aq,aC,.bool,aC,.sl .node ai,aC,.sl .stt ai,aC])],1,1,0,[],[]⟩
abbrev adA:=U UInt8×Int×U UInt8×Bool×U UInt8×U bs×U UInt8×U bs×U UInt8
abbrev C5:=U UInt8×Bool×Int×Int×U UInt8×Bool×U UInt8×U bs×U UInt8×U bs×U UInt8
def Xp(R:Type):aM R:=bp [] [] [] []
noncomputable def aa8(R:Type):aM R:=bp [(71,bg Of),(72,eY 80 400 (Xp R) Tryz.f72)] [] [] []
def HV(x:adA):af (C5):=match x with|(k,a,b,c,d,e,f,g,h)=>(AB (bs.mk a b c d e f) k).bind λ(x,j,_,i)=>cond (aa (i=80)) (J (x,j,i,a,b,c,d,e,f,g,[])) (J (x,j,i,a,b,c,d,e,f,g,h))
theorem auH:fb 32 zN zS (HV):=km (px:=aa8 _) (n:=0) Tryz.func32 rfl (λab H=>by have h1:bT ab (Xp (C5)):=br H bm bo bq;have h0:bT ab (aa8 (C5)):=br H (c1 H abm (dY (e8 H h1 Tryz.func72 rfl (n:=0) (aP)) bm)) bo bq;exact⟨h0,aP⟩) λ(_,_,_,_,_,_,_,_,_)=>by kernel_rfl
def oa:adA->af C5:=λx=>HV x
theorem Ke:fb 32 zN zS (oa):=auH
def J9:bt:=⟨3,[(1,.sl .byte ai),(2,.sl .byte ai)],[(0,.ptr 0 0)],[(0,.cells [aq,aC,.bool,aC,.sl .node ai,aC,.sl .stt ai,aC])],1,1,0,[],[]⟩
def JR:bt:=⟨1,[(0,.int .i64)],[],[(0,.cells [aq,aC,.bool,aC,.sl .node ai,aC,.sl .stt ai,aC])],1,1,0,[],[]⟩
abbrev ZG:=U UInt8×U UInt8×Int×U UInt8×Bool×U UInt8×U bs×U UInt8×U bs×U UInt8
abbrev Dg:=Int×Int×U UInt8×Bool×U UInt8×U bs×U UInt8×U bs×U UInt8
def YD(R:Type):aM R:=bp [] [] [] []
noncomputable def aaP(R:Type):aM R:=bp [(73,bg adi),(72,eY 80 400 (YD R) Tryz.f72)] [] [] []
def Hw(x:ZG):af (Dg):=match x with|(k,v,a,b,c,d,e,f,g,h)=>(Fk (bs.mk a b c d e f) k v).bind λ(x,_,i)=>cond (aa (i=0)) (cond (aa (i=80)) (J (i,x.kind,x.path,x.has,x.val,x.kids,x.hash,g,[])) (J (i,x.kind,x.path,x.has,x.val,x.kids,x.hash,g,h))) (cond (aa (i=80)) (J (i,a,b,c,d,e,f,g,[])) (J (i,a,b,c,d,e,f,g,h)))
theorem at7:fb 33 J9 JR (Hw):=km (px:=aaP _) (n:=0) Tryz.func33 rfl (λab H=>by have h1:bT ab (YD (Dg)):=br H bm bo bq;have h0:bT ab (aaP (Dg)):=br H (c1 H ak3 (dY (e8 H h1 Tryz.func72 rfl (n:=0) (aP)) bm)) bo bq;exact⟨h0,aP⟩) λ(_,_,_,_,_,_,_,_,_,_)=>by kernel_rfl
def C9:ZG->af Dg:=λx=>Hw x
theorem akB:fb 33 J9 JR (C9):=at7
def H7:bt:=⟨4,[(1,.sl .byte ai),(2,.sl .byte ai),(3,.int .i64)],[(0,.ptr 0 0)],[(0,.cells [aq,aC,.bool,aC,.sl .node ai,aC,.sl .stt ai,aC])],1,1,0,[],[]⟩
def Ii:bt:=⟨2,[(0,.sl .kv ai),(1,.int .i64)],[],[(0,.cells [aq,aC,.bool,aC,.sl .node ai,aC,.sl .stt ai,aC])],1,1,0,[],[]⟩
abbrev aaw:=U UInt8×U UInt8×Int×Int×U UInt8×Bool×U UInt8×U bs×U UInt8×U bs×U UInt8
abbrev DY:=U b7×Int×Int×U UInt8×Bool×U UInt8×U bs×U UInt8×U bs×U UInt8
def Up(R:Type):aM R:=bp [] [] [] []
noncomputable def W7(R:Type):aM R:=bp [(76,bg SL),(72,eY 80 400 (Up R) Tryz.f72)] [] [] []
def GS(x:aaw):af (DY):=match x with|(lo,hi,m,a,b,c,d,e,f,g,h)=>(CQ (bs.mk a b c d e f) lo hi m).bind λ(x,j,i)=>cond (aa (i=80)) (ax (aa (0+I j<=bJ)) (J (x,i,a,b,c,d,e,f,g,([]++j)))) (J (x,i,a,b,c,d,e,f,g,h))
theorem ant:fb 37 H7 Ii (GS):=km (px:=W7 _) (n:=0) Tryz.func37 rfl (λab H=>by have h1:bT ab (Up (DY)):=br H bm bo bq;have h0:bT ab (W7 (DY)):=br H (c1 H aok (dY (e8 H h1 Tryz.func72 rfl (n:=0) (aP)) bm)) bo bq;exact⟨h0,aP⟩) λ(_,_,_,_,_,_,_,_,_,_,_)=>by kernel_rfl
def ud:aaw->af DY:=λx=>GS x
theorem Ye:fb 37 H7 Ii (ud):=ant
end
def nX(x:UInt8):ar:=[bj (x.toNat / 16),bj (x.toNat % 16)]
def c6(b:ar):ar:=b.flatMap nX
theorem ES:c6 []=[]:=rfl
theorem rU(x:UInt8)(b:ar):c6 (x::b)=nX x++c6 b:=rfl
theorem nv:∀b:ar,I (c6 b)=2*I b
 |[]=>rfl
 |x::b=>by rw[rU,dc,nv b];simp[nX];omega
theorem JP{p:UInt8->Prop}(h:∀n:Fin 256,p (bj n.val))(x:UInt8):p x:=by have:=h ⟨x.toNat,x.toNat_lt⟩;exact oK
theorem axQ:∀n:Fin 256,bj ((cK .u8 ((bj n.val).toNat:Int) 4):Int).toNat=bj ((bj n.val).toNat / 16):=hA
theorem ax4:∀n:Fin 256,bj ((fp .u8 ((bj n.val).toNat:Int) 15):Int).toNat=bj ((bj n.val).toNat % 16):=hA
theorem ax1:∀n:Fin 256,bj ((iW .u8 (js .u8 ((bj ((bj n.val).toNat / 16)).toNat:Int) 4) ((bj ((bj n.val).toNat % 16)).toNat:Int)):Int).toNat=bj n.val:=hA
theorem alv(x:UInt8):[bj ((cK .u8 (x.toNat:Int) 4):Int).toNat,bj ((fp .u8 (x.toNat:Int) 15):Int).toNat]=nX x:=by rw[JP (p:=λx=>bj ((cK .u8 (x.toNat:Int) 4):Int).toNat=bj (x.toNat / 16)) axQ x,JP (p:=λx=>bj ((fp .u8 (x.toNat:Int) 15):Int).toNat=bj (x.toNat % 16)) ax4 x];rfl
theorem pe:∀b:ar,aE (c6 b)
 |[]=>ny
 |x::b=>by rw[rU,hx];refine⟨?_,pe b⟩;have:=x.toNat_lt;simp only[nX,hN,UInt8.toNat_ofNat'];exact⟨by omega,by omega,ny⟩
theorem aar{R:Type}{kx:bf->EF->af R}{b:ar}(aj:I b<=100000):∀(k i:Nat) (acc:ar),i<=I b->I b-i<k->I acc<=2*i ->
  aT (λa=>wq a kx) k (acc,b,(I b:Int),(i:Int))=kx (.exit 0) (acc++c6 (b.drop i),b,(I b:Int),(I b:Int))
 |0,_,_,_,h,_=>by omega
 |k+1,i,acc,hi,aV,cI=>by
  rw[cQ];by_cases h:i<I b
  .have c1:aa ((i:Int)<(I b:Int))=true:=aY ag;have c2:aa (I acc+2<=bJ)=true:=aY gW;have d:=aar (kx:=kx) aj k (i+1) (acc++nX b[i]) ag ag (by simp[nX];omega);simp only[wq,c1,a8,bY h,ax,cb (c:=.byte) h,c2,cV h (show b5 (I b) by simp[b5];omega)];rw[alv,d,List.drop_eq_getElem_cons h,rU,fI]
  .have e:i=I b:=ag
   subst e;have c1:aa ((I b:Int)<(I b:Int))=false:=bl ag;simp only[wq,c1,a_,nD,ES,List.append_nil]
theorem avR{b:ar}(aj:I b<=100000)(c:I b<k):DP k b=J (c6 b):=by
 have:=aar (kx:=λe a=>match a with|(v4,_,_,_)=>match e with
  |.exit 0=>J v4
  |_=>ah) aj k 0 [] ag ag (by simp)
 simp only[DP];exact this
theorem Av{b:ar}(aj:I b<=1900):vc b=J (c6 b):=avR ag ag
theorem YI{R:Type}{kx:bf->Eo->af R}{b:ar}(aj:I b<=100000)(h:aE b):∀(k i:Nat),i<=I b->I b-i<k ->
  aT (λd=>vO d kx) k (ai,b,(I b:Int),(i:Int))=kx (.exit 0) (ai,b,(I b:Int),(I b:Int))
 |0,_,_,h=>by omega
 |k+1,i,hi,aV=>by
  rw[cQ];by_cases a:i<I b
  .have c1:aa ((i:Int)<(I b:Int))=true:=aY ag;have:=h b[i] (fo a);have c2:aa (15<((b[i]).toNat:Int))=false:=bl ag;simp only[vO,c1,a8,bY a,ax,cb (c:=.byte) a,c2,a_,cV a (show b5 (I b) by simp[b5];omega)];exact YI aj h k (i+1) ag ag
  .have e:i=I b:=ag
   subst e;have c1:aa ((I b:Int)<(I b:Int))=false:=bl ag;simp only[vO,c1,a_]
theorem auV{b:ar}(aj:I b<=100000)(h:aE b)(c:I b<k):Ix k b=J true:=by
 have:=YI (kx:=λe a=>match a with|(v4,_,_,_)=>match e with
  |.ret=>J v4
  |.exit 0=>J ae
  |_=>ah) aj h k 0 ag ag
 simp only[Ix];exact this
theorem aa2{b:ar}(aj:I b<=1900)(h:aE b):Fg b=J true:=auV ag h ag
theorem abu:∀{b:ar}{i:Nat}(h:i<I b) (h1 : 2*i<I (c6 b)) (h2 : 2*i+1<I (c6 b)),(c6 b)[2*i]=bj (b[i].toNat / 16)/\(c6 b)[2*i+1]=bj (b[i].toNat % 16)
 |x::b,0,_,_,_=>⟨rfl,rfl⟩
 |x::b,i+1,h,h1,h2=>by have a:=abu (b:=b) (i:=i) n1 (by rw[nv]at *;simp at h;omega) (by rw[nv]at *;simp at h;omega);simpa[rU,nX,show 2*(i+1)=2*i+1+1 by omega]using a
theorem Wq{R:Type}{kx:bf->Bu->af R}{b:ar}(aj:I b<=100000):∀(k i:Nat) (acc:ar),i<=I b->I b-i<k->I acc<=i ->
  aT (λa=>qC a kx) k (c6 b,acc,((2*i+1:Nat):Int))=kx (.exit 0) (c6 b,acc++b.drop i,((2*I b+1:Nat):Int))
 |0,_,_,_,h,_=>by omega
 |k+1,i,acc,hi,aV,cI=>by
  rw[cQ];have j:=nv b;by_cases h:i<I b
  .have c1:aa (((2*i+1:Nat):Int)<(I (c6 b):Int))=true:=aY ag;have c2:aa (I acc+1<=bJ)=true:=aY gW;have iI:wr .i64 (((2*i+1:Nat):Int)-1)=((2*i:Nat):Int):=gg
   have j5:wr .i64 (((2*i+1:Nat):Int)+2)=((2*(i+1)+1:Nat):Int):=gg
   have g:=abu h ag ag;have d:=Wq (kx:=kx) aj k (i+1) (acc++[b[i]]) ag ag dh;simp only[qC,c1,a8,iI,bY (show 2*i<I (c6 b) by omega),bY (show 2*i+1<I (c6 b) by omega),ax,cb (c:=.byte) (show 2*i<I (c6 b) by omega),cb (c:=.byte) (show 2*i+1<I (c6 b) by omega),c2,j5,g.1,g.2];have f:=JP (p:=λx=>bj ((iW .u8 (js .u8 ((bj (x.toNat / 16)).toNat:Int) 4) ((bj (x.toNat % 16)).toNat:Int)):Int).toNat=x) ax1 b[i];rw[f,d,fI,List.drop_eq_getElem_cons h];rfl
  .have e:i=I b:=ag
   subst e;have c1:aa (((2*I b+1:Nat):Int)<(I (c6 b):Int))=false:=bl ag;simp only[qC,c1,a_,nD,List.append_nil]
theorem apt{b:ar}(aj:I b<=900):v3 (c6 b)=J (b,0):=by
 have a:=nv b;have h2:p_ (c6 b)=J b:=by
  have:=Wq (kx:=λe c=>match c with|(_,v4,_)=>match e with
   |.exit 0=>J v4
   |_=>ah) (b:=b) ag 2000 0 [] ag ag (by simp)
  simp only[p_,He];exact this
 have c1:aa (Int.tmod (I (c6 b):Int) 2=1)=false:=bl (by rw[a,Int.tmod_eq_emod_of_nonneg ag];omega);simp only[v3,Qu,aa2 (show I (c6 b)<=1900 by omega) (pe b),h2,bZ,dj,a_,c1]
def kl(a b:ar):Nat:=I (hQ a b).1
theorem asH(x y:UInt8)(a b:ar):kl (x::a) (y::b)=if x=y then kl a b+1 else 0:=by simp only[kl,hQ];split<;>simp
theorem avf(a b:ar):kl a b<=I a/\kl a b<=I b:=by have h:=qq a b;have h1:=congrArg List.length h.1;have h2:=congrArg List.length h.2;simp only[dc]at h1 h2;unfold kl;omega
theorem Xu{R:Type}{kx:bf->DJ->af R}{a b:ar}(g:I a<=100000)(aj:I b<=100000){m:Nat}(hm:m=min (I a) (I b)):∀(k i:Nat) (z:Int),i<=m->m-i<k ->
  ((i+kl (a.drop i) (b.drop i)<m->aT (λd=>Acc d kx) k (a,b,z,(m:Int),(i:Int))=kx .ret (a,b,((i+kl (a.drop i) (b.drop i):Nat):Int),(m:Int),((i+kl (a.drop i) (b.drop i):Nat):Int))) /\
  (i+kl (a.drop i) (b.drop i)=m->aT (λd=>Acc d kx) k (a,b,z,(m:Int),(i:Int))=kx (.exit 0) (a,b,z,(m:Int),(m:Int))))
 |0,_,_,_,h=>by omega
 |k+1,i,z,hi,aV=>by
  rw[cQ];by_cases h:i<m
  .have h1:i<I a:=ag
   have h2:i<I b:=ag
   have c1:aa ((i:Int)<(m:Int))=true:=aY ag;have f:=Xu (kx:=kx) g aj hm k (i+1) z ag ag;have j:b5 m:=mK
   simp only[Acc,c1,a8,bY h1,bY h2,ax,cb (c:=.byte) h1,cb (c:=.byte) h2,cV h j,List.drop_eq_getElem_cons h1,List.drop_eq_getElem_cons h2,asH];by_cases e:a[i]=b[i]
   .simp only[e,if_true,decide_true,dj,a_];simp only[show i+1+kl (a.drop (i+1)) (b.drop (i+1))=i+(kl (a.drop (i+1)) (b.drop (i+1))+1) by omega]at f;exact f
   .have aS:¬(((a[i]).toNat:Int)=((b[i]).toNat:Int)):=λh=>e (UInt8.toNat_inj.1 ag);simp only[e,if_false,aS,decide_false,jd,a8,Nat.add_zero];exact⟨λ_=>by trivial,λh=>by omega⟩
  .have e:i=m:=ag
   subst e;have c1:aa ((i:Int)<(i:Int))=false:=bl ag;simp only[Acc,c1,a_];exact⟨λh=>by omega,λ_=>by trivial⟩
theorem Sh(a b:Nat):min2 (a:Int) (b:Int)=((min a b:Nat):Int):=by unfold min2;split<;>omega
theorem au2{a b:ar}(d:I a<=1900)(aj:I b<=1900)(f : 1900<k):It k (a,b)=J (kl a b:Int):=by
 have an:=avf a b;have:=Xu (kx:=λe c=>match c with|(a',v6,bA,_,_)=>match e with
  |.ret=>J bA
  |.exit 0=>J (min2 (I a':Int) (I v6:Int))
  |_=>ah) (a:=a) (b:=b) ag ag rfl k 0 0 ag ag
 rw[gH,gH,Nat.zero_add]at this;unfold It;simp only;rw[Sh (I a) (I b)];rcases Nat.lt_or_ge (kl a b) (min (I a) (I b))with h|h
 .exact this.1 h
 .have e:kl a b=min (I a) (I b):=ag
  refine(this.2 e).trans ?_;simp only[Sh,e]
theorem Kf{a b:ar}(c:I a<=1900)(aj:I b<=1900):Ft a b=J (kl a b:Int):=au2 c aj ag
def nU(a b:ar):Int:=if a<b then -1 else if a=b then 0 else 1
theorem Cbv(s:ar){a b:ar}:s++a<s++b↔a<b:=by induction s with|nil=>rfl|cons x s c=>simp[List.cons_lt_cons_iff,c]
theorem z'{a b:ar}(l:I a<=1900)(aj:I b<=1900):tn a b=J (nU a b):=by
 have i:=qq a b;have j:=@rL a b;have an:kl a b=I (hQ a b).1:=rfl;simp only[tn,Ly,Kf l aj,bZ,an];generalize hQ a b=z at i j;obtain⟨s,bC,bQ⟩:=z;simp only at i j;obtain⟨rfl,rfl⟩:=i;simp only[dc,nU,Cbv,zI];cases bC with
 |nil=>cases bQ with|nil=>simp|cons y bQ=>have c1:aa ((I s:Int)=((I s+I ([]:ar):Nat):Int))=true:=aY (by simp);have c2:aa ((I s:Int)=((I s+I (y::bQ):Nat):Int))=false:=bl xb;simp only[c1,c2,a_,a8];simp
 |cons x bC=>
  have c1:aa ((I s:Int)=((I s+I (x::bC):Nat):Int))=false:=bl dh;cases bQ with
  |nil=>have c2:aa ((I s:Int)<((I s+I ([]:ar):Nat):Int))=false:=bl (by simp);simp only[c1,c2,a_];simp
  |cons y bQ=>
   have f:=j (x:=x) (y:=y) rfl rfl;have c2:aa ((I s:Int)<((I s+I (y::bQ):Nat):Int))=true:=aY dh;have i1:I s<I (s++x::bC):=by simp
   have k:I s<I (s++y::bQ):=by simp
   have g:(I s+I (x::bC))=I (s++x::bC):=by simp
   have d:(I s+I (y::bQ))=I (s++y::bQ):=by simp
   simp only[c1,c2,a_,a8];rw[g,d];simp only[bY i1,bY k,ax,a8,cb (c:=.byte) i1,cb (c:=.byte) k];rw[List.getElem_append_right ag,List.getElem_append_right ag];simp only[Nat.sub_self,List.getElem_cons_zero,List.cons_lt_cons_iff];have m:x::bC≠y::bQ:=λe=>f (List.cons.inj e).1;by_cases e:x<y
   .have:=UInt8.lt_iff_toNat_lt.1 e;simp[e,show((x.toNat:Int)<(y.toNat:Int)) by omega]
   .have h1:¬x.toNat<y.toNat:=λh=>e (UInt8.lt_iff_toNat_lt.2 h);simp[e,f,show ¬((x.toNat:Int)<(y.toNat:Int)) by omega]
theorem Kc(b a:ar):wS b a=J (dw a b).isSome:=by
 simp only[wS,Lv];cases h:dw a b with
 |some r=>
  have:=iL.1 h;subst this;have c1:aa ((I a:Int)<=(I (a++r):Int))=true:=aY tA;have c2:upto 0 (I a:Int) (I (a++r))=true:=Ge
  simp only[c1,c2,a8,ax,beq];simp
 |none=>
  cases c:aa ((I a:Int)<=(I b:Int))with
  |false=>rfl
  |true=>
   have dd:=of_decide_eq_true c;have c2:upto 0 (I a:Int) (I b)=true:=Gs
   simp only[c2,a8,ax,beq];have:¬b.take ((I a:Int):Int).toNat=a:=λe=>by
    have:b=a++b.drop (I a):=by have h3:=List.take_append_drop (I a) b;simp at e;rw[e]at h3;exact h3.symm
    rw[iL.2 this]at h;cases h
   simp only[this,decide_false];rfl
theorem iq(a:Int)(b:ar)(c:Bool)(d:ar)(e:U bs)(g:ar):(bs.mk a b c d e g).kind=a:=rfl
theorem ki(a:Int)(b:ar)(c:Bool)(d:ar)(e:U bs)(g:ar):(bs.mk a b c d e g).path=b:=rfl
theorem nf(a:Int)(b:ar)(c:Bool)(d:ar)(e:U bs)(g:ar):(bs.mk a b c d e g).has=c:=rfl
theorem mD(a:Int)(b:ar)(c:Bool)(d:ar)(e:U bs)(g:ar):(bs.mk a b c d e g).val=d:=rfl
theorem g9(a:Int)(b:ar)(c:Bool)(d:ar)(e:U bs)(g:ar):(bs.mk a b c d e g).kids=e:=rfl
theorem wN(a:Int)(b:ar)(c:Bool)(d:ar)(e:U bs)(g:ar):(bs.mk a b c d e g).hash=g:=rfl
def T.node:T->bs|.no=>bs.mk 0 [] ai [] [] []|.cv p v=>bs.mk 1 p ai v [] []|.dr p k=>bs.mk 2 p ai [] [k.node] []|.cY o k=>bs.mk 3 [] o.isSome (o.getD []) ((dy 16).map λi=>(k i).node) []
def db(k:Nat->T):U bs:=(dy 16).map λi=>(k i).node
theorem hf(k:Nat->T):I (db k)=16:=by simp[db]
theorem o4{k:Nat->T}(h:i<I (db k)):(db k)[i]=(k i).node:=by simp[db]
theorem n6(o:af ar)(k:Nat->T):(T.cY o k).node=bs.mk 3 [] o.isSome (o.getD []) (db k) []:=rfl
variable{t:T}
theorem t_{k:Nat->T}:(db k).set i t.node=db (jg k i t):=by
 refine List.ext_getElem (by simp[db]) λj h1 h2=>?_;rw[o4,List.getElem_set];split
 .rename_i e;subst e;rw[mj]
 .rename_i e;rw[mR (Ne.symm e),o4]
theorem BJ:eK (16:Int).toNat (e6 .node)=db m7:=rfl
theorem Jo(t:T):aa (t.node.kind=0)=t.e1:=by cases t<;>rfl
theorem EJ{d:Nat}(h:t.cz d):aE t.node.path/\I t.node.path<=400:=by cases t with|no=>exact⟨ny,by simp[T.node,bs.path]⟩|cv p v=>exact⟨h.1,by have:=h.2.1;simp only[T.node,bs.path];omega⟩|dr p k=>exact⟨h.1,by have:=cz.le h.2.2.2;simp only[T.node,bs.path];omega⟩|cY o k=>exact⟨ny,by simp[T.node,bs.path]⟩
theorem C3{d:Nat}(h:t.cz d):I t.node.val<=4000:=by
 cases t with
 |no=>simp[T.node,bs.val]
 |cv p v=>exact h.2.2.2
 |dr p k=>simp[T.node,bs.val]
 |cY o k=>cases o with|none=>simp[T.node,bs.val]|some v=>exact(h.2.1 v rfl).2
theorem Ww{R:Type}{kx:bf->ID->af R}{b:ar}(aj:I b<=100000)(h:aE b):∀(k i:Nat) (z:Int),i<=I b->I b-i<k ->
  aT (λd=>yK d kx) k (b,z,(I b:Int),(i:Int))=kx (.exit 0) (b,z,(I b:Int),(I b:Int))
 |0,_,_,_,h=>by omega
 |k+1,i,z,hi,aV=>by
  rw[cQ];by_cases a:i<I b
  .have c1:aa ((i:Int)<(I b:Int))=true:=aY ag;have:=h b[i] (fo a);have c2:aa (15<((b[i]).toNat:Int))=false:=bl ag;simp only[yK,c1,a8,bY a,ax,cb (c:=.byte) a,c2,a_,cV a (show b5 (I b) by simp[b5];omega)];exact Ww aj h k (i+1) z ag ag
  .have e:i=I b:=ag
   subst e;have c1:aa ((I b:Int)<(I b:Int))=false:=bl ag;simp only[yK,c1,a_]
theorem atJ{b:ar}(aj:I b<=1900)(h:aE b):FJ b=J true:=by
 have:=Ww (kx:=λe a=>match a with|(_,a',_,_)=>match e with
  |.ret=>J (!(aa (0<=a')))
  |.exit 0=>J ae
  |_=>ah) ag h 2000 0 0 ag ag
 simp only[FJ,Qx];exact this
theorem Y8{d:Nat}{aF:Bool}(h:d<=400)(h2:d % 2=0):sK (d:Int) aF=true:=by have c1:aa ((d:Int)<=400)=true:=aY ag;have c2:aa (Int.tmod (d:Int) 2=0)=true:=aY (by rw[Int.tmod_eq_emod_of_nonneg ag];omega);simp only[sK,c1,c2,a8];cases aF<;>rfl
def qO(k:Nat->T)(i:Nat):Nat:=((dy 16).drop i).countP λi=> !(k i).e1
theorem Z6{k:Nat->T}(h:i<16):qO k i=(if(k i).e1 then 0 else 1)+qO k (i+1):=by unfold qO;rw[List.drop_eq_getElem_cons (show i<I (dy 16) by simpa using h),List.countP_cons];simp only[List.getElem_range];cases (k i).e1<;>simp<;>omega
theorem alK(k:Nat->T):qO k 16=0:=by unfold qO;rw[show(dy 16).drop 16=[] from rfl];rfl
theorem PX{R:Type}{aF:Bool}{rf:bb [.aI .node,aq,.bool] [.bool]}{kx:bf->GW->af R}{k:Nat->T}{d:Nat}(ao:d<=1000)(a:∀i,i<16->rf ((k i).node,((d+1:Nat):Int),aF)=J ae):∀(m i c:Nat),i<=16->16-i<m->c<=1000+i ->
  aT (λb=>xC rf b kx) m ((d:Int),aF,(c:Int),ae,db k,(I (db k):Int),(i:Int))=kx (.exit 0) ((d:Int),aF,((c+qO k i:Nat):Int),ae,db k,(I (db k):Int),(I (db k):Int))
 |0,_,_,_,h,_=>by omega
 |m+1,i,c,hi,hm,an=>by
  rw[cQ];have f:=hf k;by_cases h:i<16
  .have c1:aa ((i:Int)<(I (db k):Int))=true:=aY ag;have g:i<I (db k):=ag
   have w1:wr .i64 ((d:Int)+1)=((d+1:Nat):Int):=gg
   have w2:wr .i64 ((c:Int)+1)=((c+1:Nat):Int):=gg
   have w3:wr .i64 ((i:Int)+1)=((i+1:Nat):Int):=gg
   simp only[xC,c1,a8,bY g,ax,cb (c:=.node) g,o4,w1,w2,w3,a i h,bZ,dj,a_,Jo];cases j:(k i).e1 with|true=>simp only[dj,a_];rw[PX ao a m (i+1) c ag ag ag,Z6 h,j];simp|false=>simp only[jd,a8];rw[PX ao a m (i+1) (c+1) ag ag ag,Z6 h,j];simp[Nat.add_assoc]
  .have e:i=16:=ag
   subst e;have c1:aa (((16:Nat):Int)<(I (db k):Int))=false:=bl ag;simp only[xC,c1,a_,alK,Nat.add_zero];rw[f]
theorem HU(aF:Bool):∀(f:Nat) (t:T) (d:Nat),t.cz d->401<=f+d->aT (tD 100) f (t.node,(d:Int),aF)=J ae
 |0,t,d,h,bO=>by have:=cz.le h;omega
 |f+1,t,d,h,bO=>by
  rw[cQ];have hle:=cz.le h;have m:=EJ h;have n:=C3 h;have c1:aa (400<(d:Int))=false:=bl ag;have c2:aa (4000<(I t.node.val:Int))=false:=bl ag;have iI:=atJ (b:=t.node.path) ag m.1;simp only[tD,c1,c2,iI,a_,bZ,dj];cases t with
  |no=>rfl
  |cv p v=>
   have w:wr .i64 ((d:Int)+(I p:Int))=((d+I p:Nat):Int):=by have:=h.2.1;rw[ht w7];omega
   simp only[T.node,iq,ki,w,Y8 h.2.1 h.2.2.1];rfl
  |dr p k=>
   have h4:=cz.le h.2.2.2;have w:wr .i64 ((d:Int)+(I p:Int))=((d+I p:Nat):Int):=gg
   have q : 0<I p:=List.length_pos_iff.2 h.2.1;have j5:¬((I p:Int)=0):=ag
   have r:=HU aF f k (d+I p) h.2.2.2 ag;have s:aa (k.node.kind=3)=true:=by cases k with|cY o k=>rfl|_=>cases h.2.2.1
   have j:at' .node [k.node] 0=k.node:=rfl;have u:aU 0 (I [k.node])=true:=rfl;have x:pc (bs.mk 2 p ai [] [k.node] []) ae ai ae ai=J true:=rfl;simp only[T.node,iq,ki,g9,w,j5,j,u,x,ax,s,r,bZ,show ¬((2:Int)=0) by omega,show ¬((2:Int)=1) by omega,show ¬((2:Int)=4) by omega,decide_false,decide_true,a_,a8,dj];rfl
  |cY o k=>
   have h1:=h.1;have g:=λc an=>PX (rf:=aT (tD 100) f) (kx:=λe y=>match y with|(_,_,cw,a,_,_,_)=>match e with
         |.exit 0=>
         cond (a) (
          J (aa (2<=cw))) (
          J ai)
         |_=>ah) (k:=k) (d:=d) ag (λi hi=>HU aF f (k i) (d+1) (h.2.2.2 i hi) ag) 100 0 c ag ag an
   have hm:=h.2.2.1;have j5:aa (((I (db k):Nat):Int)=16)=true:=aY (by rw[hf];rfl);have l:qO k 0=(dy 16).countP λi=> !(k i).e1:=rfl;cases o with
   |none=>have j:pc (bs.mk 3 [] ai [] (db k) []) ai ai ae ai=J true:=rfl;have g:=g 0 ag;simp only[n6,iq,nf,g9,Option.isSome_none,Option.getD_none,j,j5,bZ,dj,jd,a8,a_,decide_false,show ¬((3:Int)=0) by omega,show ¬((3:Int)=1) by omega,show ¬((3:Int)=4) by omega,show ¬((3:Int)=2) by omega,decide_true];refine g.trans ?_;have:aa ((2:Int)<=((0+qO k 0:Nat):Int))=true:=aY (by rw[l];unfold h' at hm;simp only[Option.isSome_none]at hm;simp at hm ⊢;omega);simp only[a8,this]
   |some v=>
    have j:pc (bs.mk 3 [] ae v (db k) []) ai ae ae ai=J true:=by have:aa ((3:Int)=3)=true:=rfl;simp[pc,P8,ki,g9,wN,nf,iq]
    have g:=g 1 ag;have z:=h.2.1 v rfl;simp only[n6,iq,nf,g9,Option.isSome_some,Option.getD_some,j,j5,bZ,dj,jd,a8,a_,decide_false,show ¬((3:Int)=0) by omega,show ¬((3:Int)=1) by omega,show ¬((3:Int)=4) by omega,show ¬((3:Int)=2) by omega,decide_true,Y8 hle z.1];refine g.trans ?_;have:aa ((2:Int)<=((1+qO k 0:Nat):Int))=true:=aY (by rw[l];unfold h' at hm;simp only[Option.isSome_some,if_true]at hm;omega);simp only[a8,this]
theorem apu(f:Nat)(t:T)(d:Nat)(h:t.cz d)(a : 401<=f+d):aT (tD 100) f (t.node,(d:Int),ae)=J true:=HU ae f t d h a
theorem K'(h:t.cz 0):uB t.node=J 0:=by have:=apu 500 t 0 h ag;simp only[uB,PW,z4,show aT (tD 100) 500 (t.node,0,ae)=J ae from this,bZ];rfl
theorem nq(h:I s<=2000000):hO s=J s:=by simp only[hO,aY h,a8]
theorem HQ(h:I s<=2000000):qD s=J s:=by simp only[qD,aY h,a8]
theorem T_{R:Type}{rf:bb [.aI .node] [.aI .node]}{kx:bf->G9->af R}{l:U bs}(d:I l<=50)(a:∀x,x∈l->rf x=J x){w:Int}{w1:ar}{w2:Bool}{w3:ar}{c9:U bs}{c7:ar}{dC:Int}{dO:ar}{dX:Bool}{fy ie:ar}:∀(m i:Nat) (acc:U bs),i<=I l->I l-i<m->I acc<=i ->
  aT (λb=>xW rf b kx) m (l,(I l:Int),(i:Int),w,w1,w2,w3,c9,c7,dC,dO,dX,fy,acc,ie)=kx (.exit 0) (l,(I l:Int),(I l:Int),w,w1,w2,w3,c9,c7,dC,dO,dX,fy,acc++l.drop i,ie)
 |0,_,_,_,h,_=>by omega
 |m+1,i,acc,hi,hm,cI=>by
  rw[cQ];by_cases h:i<I l
  .have c1:aa ((i:Int)<(I l:Int))=true:=aY ag;have c2:aa (I acc+1<=bJ)=true:=aY gW;simp only[xW,c1,a8,bY h,ax,cb (c:=.node) h,a _ (fo h),bZ,c2,cV h (show b5 (I l) by simp[b5];omega)];rw[T_ d a m (i+1) (acc++[l[i]]) ag ag dh,List.drop_eq_getElem_cons h,fI];rfl
  .have e:i=I l:=ag
   subst e;have c1:aa ((I l:Int)<(I l:Int))=false:=bl ag;simp only[xW,c1,a_,nD,List.append_nil]
theorem MK:∀(f:Nat) (t:T) (d:Nat),t.cz d->401<=f+d->aT (xj 100) f t.node=J t.node
 |0,t,d,h,bO=>by have:=cz.le h;omega
 |f+1,t,d,h,bO=>by
  rw[cQ];have bn:=EJ h;have y:=C3 h;have h3:t.node.hash=[]:=by cases t<;>rfl
  have u:I t.node.kids<=50/\∀x,x∈t.node.kids->aT (xj 100) f x=J x:=by
   cases t with
   |no=>exact⟨by simp[T.node,g9],λx s=>by cases s⟩
   |cv p v=>exact⟨by simp[T.node,g9],λx s=>by cases s⟩
   |dr p k=>
    have z : 0<I p:=List.length_pos_iff.2 h.2.1;refine⟨by simp[T.node,g9],λx s=>?_⟩;have:x=k.node:=by simpa[T.node,bs.kids]using s
    rw[this];exact MK f k _ h.2.2.2 ag
   |cY o k=>refine⟨by simp[T.node,g9],λx s=>?_⟩;obtain⟨i,hi,rfl⟩:=List.mem_map.1 (show x∈(dy 16).map λi=>(k i).node from s);exact MK f (k i) _ (h.2.2.2 i (List.mem_range.1 hi)) ag
  have bB:=T_ (rf:=aT (xj 100) f) (kx:=λe fu=>match fu with|(_,_,_,_,_,_,_,_,_,j,l,m,n,q,r)=>match e with
   |.exit 0=>J (bs.mk j l m n q r)
   |_=>ah) u.1 u.2 (w:=0) (w1:=[]) (w2:=ai) (w3:=[]) (c9:=[]) (c7:=[]) (dC:=t.node.kind) (dO:=t.node.path) (dX:=t.node.has) (fy:=t.node.val) (ie:=[]) 100 0 [] ag ag (by simp)
  simp only[xj,nq (show I t.node.path<=2000000 by omega),nq (show I t.node.val<=2000000 by omega),h3,nq (show I ([]:ar)<=2000000 by simp),bZ];refine bB.trans ?_;simp only[gH,ib];cases h4:t.node with|mk a b c d e g=>rw[h4]at h3;simp only[wN]at h3;subst h3;rfl
theorem LA(h:t.cz 0):sR t.node=J t.node:=MK 500 t 0 h ag
theorem rR{a b:ar}(m:I a<=500000)(aj:I b<=500000):lF [a,b]=J (a++b):=by
 have f:aa ((0:Int)<((I [a,b]:Nat):Int))=true:=rfl;have d2:aa ((1:Int)<((I [a,b]:Nat):Int))=true:=rfl;have g:aa ((2:Int)<((I [a,b]:Nat):Int))=false:=rfl;have w1:wr .i64 (0+1)=1:=dU
 have w2:wr .i64 (1+1)=2:=dU
 have a0:at' .bytes [a,b] 0=a:=rfl;have a1:at' .bytes [a,b] 1=b:=rfl;have i0:aU 0 (I [a,b])=true:=rfl;have i1:aU 1 (I [a,b])=true:=rfl;have h:wr .i64 (0+(I a:Int))=(I a:Int):=gg
 have i:wr .i64 ((I a:Int)+(I b:Int))=((I a+I b:Nat):Int):=gg
 have p1:aa ((I a:Int)<0)=false:=bl ag;have p2:aa (((I a+I b:Nat):Int)<0)=false:=bl ag;have bd:aa ((0:Int)<=((I a+I b:Nat):Int))=true:=aY ag;have j:aa (((I a+I b:Nat):Int)<=2000000)=true:=aY ag;have k:aa (I ([]:ar)+I a<=bJ)=true:=aY (by simp only[bJ,hn];omega);have l:aa (I ([]++a:ar)+I b<=bJ)=true:=aY PK;have d:∀{R:Type}(kx:bf->Ec->af R),aT (λc=>sO c kx) 100 ([a,b],0,[a,b],((I [a,b]:Nat):Int),0)=kx (.exit 0) ([a,b],((I a+I b:Nat):Int),[a,b],((I [a,b]:Nat):Int),2):=λkx=>by rw[show(100:Nat)=97+1+1+1 from rfl,cQ];simp only[sO,f,a8,i0,ax,a0,h,p1,a_,w1];rw[cQ];simp only[sO,d2,a8,i1,ax,a1,i,p2,a_,w2];rw[cQ];simp only[sO,g,a_]
 have e:∀{R:Type}(kx:bf->Eh->af R),aT (λc=>sQ c kx) 100 ([],[a,b],((I [a,b]:Nat):Int),0)=kx (.exit 2) ([]++a++b,[a,b],((I [a,b]:Nat):Int),2):=λkx=>by rw[show(100:Nat)=97+1+1+1 from rfl,cQ];simp only[sQ,f,a8,i0,ax,a0,k,w1];rw[cQ];simp only[sQ,d2,a8,i1,ax,a1,l,w2];rw[cQ];simp only[sQ,g,a_]
 simp only[lF,L8];rw[d];simp only[bd,j,Bool.and_true,ax,a8];rw[e];simp
theorem O4:∀(f:Nat) (t:T) (d:Nat) (p w:ar),t.cz d->aE p->I w=d->d+I p<=400->401<=f+d->∃u,aT oX f (t.node,p,w)=J (u,(t.look p).isSome,())/\∀v,t.look p=J v->u=v
 |0,t,d,p,w,h,_,_,_,bO=>by have:=cz.le h;omega
 |f+1,t,d,p,w,h,bn,hw,ao,bO=>by
  rw[cQ];cases t with
  |no=>exact⟨[],rfl,λv e=>by cases e⟩
  |cv q v=>
   have aj:hO v=J v:=nq (by have:=h.2.2.2;omega);refine⟨v,?_,λu e=>?_⟩
   .simp only[oX,T.node,iq,ki,mD,aj,bZ,beq,T.look,show ¬((1:Int)=4) by omega,decide_false,decide_true,a_,a8];by_cases e:q=p<;>simp[e]
   .simp only[T.look]at e;split at e
    .cases e;rfl
    .cases e
  |dr q k=>
   have h4:=cz.le h.2.2.2;have i : 0<I q:=List.length_pos_iff.2 h.2.1;have j:oX (aT oX f) (T.node (.dr q k),p,w)=cond (!(dw p q).isSome&&ai || !(dw q p).isSome) (J ([],ai,())) (ax (upto (I q:Int) (I p) (I p)) ((lF [w,q]).bind λl=>(aT oX f (k.node,p.drop ((I q:Int):Int).toNat,l)).bind λz=>J (z.1,z.2.1,()))):=by simp only[oX,T.node,iq,ki,g9,Kc,bZ,show ¬((2:Int)=4) by omega,show ¬((2:Int)=1) by omega,decide_false,decide_true,a_,a8,Bool.and_false,Bool.false_or];rfl
   rw[j];simp only[T.look,Bool.and_false,Bool.false_or];cases m:dw q p with
   |none=>exact⟨[],rfl,λv e=>by cases e⟩
   |some r=>
    have e:=iL.1 m;subst e;have a:=hx.1 bn;simp only[dc]at ao;have c1:upto (I q:Int) (I (q++r):Int) (I (q++r))=true:=Ge
    obtain⟨u,h1,h2⟩:=O4 f k (d+I q) r (w++q) h.2.2.2 a.2 dh ag ag;refine⟨u,?_,h2⟩;have aS:(q++r).drop ((I q:Int):Int).toNat=r:=by simp
    simp only[Option.isSome_some,dj,a_,c1,ax,a8,rR (show I w<=500000 by omega) (show I q<=500000 by omega),bZ,aS,h1]
  |cY o k=>
   cases p with
   |nil=>have aj:hO (o.getD [])=J (o.getD []):=nq (by have:=C3 h;simp only[T.node,mD]at this;omega);refine⟨o.getD [],?_,λv e=>by simp only[T.look]at e;rw[e];rfl⟩;simp only[oX,n6,iq,mD,nf,aj,bZ,T.look];rfl
   |cons x p=>
    have b:=hN.1 bn;simp only[dm]at ao;obtain⟨u,h1,h2⟩:=O4 f (k x.toNat) (d+1) p (w++[x]) (h.2.2.2 _ b.1) b.2 dh ag ag;refine⟨u,?_,h2⟩;have dd:aa ((I (x::p):Int)=0)=false:=bl xb;have a0:at' .byte (x::p) 0=x:=rfl;have i0:aU 0 (I (x::p))=true:=by simp[aU]
    have g:x.toNat<I (db k):=by rw[hf];exact b.1
    have n:upto 1 (I (x::p):Int) (I (x::p))=true:=Gf
    have s:upto 0 1 (I (x::p))=true:=Gf
    have t1:(x::p).take (1:Int).toNat=[x]:=rfl;have t2:(x::p).drop (1:Int).toNat=p:=rfl;simp only[oX,n6,iq,g9,T.look,show ¬((3:Int)=4) by omega,show ¬((3:Int)=1) by omega,show ¬((3:Int)=2) by omega,decide_false,decide_true,a_,a8,dd,a0,i0,ax,bY g,n,s,t1,t2,rR (show I w<=500000 by omega) (show I [x]<=500000 by simp),bZ,cb (c:=.node) g,o4,h1]
theorem BD:(eK (α:=bs) (16:Int).toNat (e6 .node):U bs)=db m7:=rfl
theorem Bq: @eK (cL .node) (16:Int).toNat (e6 .node)=db m7:=rfl
theorem x2{p v:ar}(a:I p<=2000000)(aE:I v<=2000000):pq p v=J (T.cv p v).node:=by simp only[pq,Ln,HQ a,nq aE,bZ,T.node]
theorem tS{p:ar}(a:I p<=2000000):oe p t.node=J (mm p t).node:=by
 cases p with
 |nil=>rfl
 |cons x p=>
  have c:¬((I (x::p):Int)=0):=xb
  simp only[oe,Qt,c,decide_false,a_,HQ a,bZ,mm,T.node]
theorem sX(k:Nat->T):cut (db k) 0 16=db k:=by unfold cut;rw[show(0:Int).toNat=0 from rfl,gH,List.take_of_length_le (by rw[hf];decide)]
theorem At(k:Nat->T):((16:Int)<=(I (db k):Int))=True:=by rw[hf];exact eq_true dU
theorem qc:((0:Int)<=0)=True:=eq_true dU
theorem Ak:((0:Int)<=16)=True:=eq_true dU
section
variable {x:UInt8}{a:ar}{k:Nat->T}
theorem vw:at' .byte (x::a:ar) 0=x:=rfl
theorem Aw:at' .byte (x::a) 0=x:=rfl
theorem vt:aU 0 (I (x::a))=true:=by simp[aU]
theorem wz:upto 1 (I (x::a):Int) (I (x::a))=true:=Gf
theorem ZD:upto 0 1 (I (x::a))=true:=Gf
theorem vu:(x::a).drop (1:Int).toNat=a:=rfl
theorem ZV:(x::a).take (1:Int).toNat=[x]:=rfl
theorem pW(h:x.toNat<16):iJ (x.toNat:Int) 16=true:=PH
theorem pS(h:x.toNat<16):aU (0+(x.toNat:Int)) (I (db k))=true:=by rw[hf];simp only[aU,bx,dM];omega
theorem tu:(0+(x.toNat:Int)).toNat=x.toNat:=ag
theorem wX:¬((I (x::a):Int)=0):=xb
theorem wg:(I ([]:ar):Int)=0:=rfl
end
theorem uU(s a:ar):upto (I s:Int) (I (s++a):Int) (I (s++a))=true:=Ge
theorem z3(s a:ar):upto 0 (I s:Int) (I (s++a))=true:=Ge
theorem uq(s a:ar):(s++a).drop ((I s:Int):Int).toNat=a:=by simp
theorem BY(s a:ar):(s++a).take ((I s:Int):Int).toNat=s:=by simp
theorem E0(v:ar)(k:Nat->T):bs.mk 3 [] ae v (db k) []=(T.cY (J v) k).node:=rfl
theorem ab1(k:Nat->T):bs.mk 3 [] ai [] (db k) []=(T.cY ah k).node:=rfl
theorem aqp{u p v:ar}{d:Nat}(h:q≠p)(f:(T.cv q u).cz d)(j:aE p)(ao:d+I p<=400)(o:I v<=4000):ti (T.cv q u).node p v=J (p9 q u p v).node:=by
 have g:=qq q p;have i:=@rL q p;have an:kl q p=I (hQ q p).1:=rfl;have h2:=f.2.1;unfold ti Hq;dsimp only[cL];simp only[T.node,iq,ki,mD,Kf (show I q<=1900 by omega) (show I p<=1900 by omega),bZ,an,p9];have k:=f.1;have r:=f.2.2.2;generalize hQ q p=z at g i;obtain⟨s,a,b⟩:=z;simp only at g i;obtain⟨rfl,rfl⟩:=g;simp only[dc]at h2 ao;have l:=(hx.1 k).2;have aj:=(hx.1 j).2;have m:hO u=J u:=nq ag;have n:hO v=J v:=nq ag;cases a with
 |nil=>cases b with|nil=>exact absurd rfl h|cons y b=>simp only[dm]at ao;have c:=(hN.1 aj).1;simp only[uU,z3,uq,BY,ax,a8,a_,decide_true,decide_false,wg,wX,m,bZ,vt,wz,vu,vw,Aw,pW c,BJ,BD,Bq,pS c,tu,x2 (show I b<=2000000 by omega) (show I v<=2000000 by omega),t_,At,qc,Ak,decide_true,Bool.and_self,sX,E0,tS (show I s<=2000000 by omega),hold]
 |cons x a=>have e:=(hN.1 l).1;simp only[dm]at h2;have eO:=x2 (show I a<=2000000 by omega) (show I u<=2000000 by omega);cases b with|nil=>simp only[uU,z3,uq,BY,ax,a8,a_,decide_true,decide_false,wg,wX,n,bZ,vt,wz,vu,vw,Aw,pW e,BJ,BD,Bq,pS e,tu,eO,t_,At,qc,Ak,decide_true,Bool.and_self,sX,E0,tS (show I s<=2000000 by omega),hold]|cons y b=>have c:=(hN.1 aj).1;simp only[dm]at ao;simp only[uU,z3,uq,BY,ax,a8,a_,decide_true,decide_false,wg,wX,bZ,vt,wz,vu,vw,Aw,pW e,pW c,BJ,BD,Bq,pS e,pS c,tu,eO,x2 (show I b<=2000000 by omega) (show I v<=2000000 by omega),t_,At,qc,Ak,decide_true,Bool.and_self,sX,ab1,tS (show I s<=2000000 by omega),hold]
theorem aoR{k:T}{p v:ar}{d:Nat}(h:dw q p=ah)(g:(T.dr q k).cz d)(r:aE p)(ao:d+I p<=400)(bB:I v<=4000):ti (T.dr q k).node p v=J (p5 q k p v).node:=by
 have f:=qq q p;have i:=@rL q p;have an:kl q p=I (hQ q p).1:=rfl;have h2:=cz.le g.2.2.2;unfold ti Hq;dsimp only[cL];simp only[T.node,iq,ki,g9,Kf (show I q<=1900 by omega) (show I p<=1900 by omega),bZ,an,p5];have u:=g.1;generalize hQ q p=z at f i;obtain⟨s,a,b⟩:=z;simp only at f i;obtain⟨rfl,rfl⟩:=f;simp only[dc]at h2 ao;have w:=(hx.1 u).2;have aj:=(hx.1 r).2;have bv:hO v=J v:=nq ag;cases a with
 |nil=>simp[jB]at h
 |cons x a=>
  have e:=(hN.1 w).1;simp only[dm]at h2;have i1:I s<I (s++x::a):=by simp
  have j:(s++x::a)[I s]'i1=x:=by rw[List.getElem_append_right ag];simp
  have w1:wr .i64 ((I s:Int)+1)=((I s+1:Nat):Int):=gg
  have l:upto ((I s+1:Nat):Int) (I (s++x::a):Int) (I (s++x::a))=true:=by simp only[upto,dc,dm,bx,dM];omega
  have m:(s++x::a).drop (((I s+1:Nat):Int):Int).toNat=a:=by rw[Int.toNat_natCast,show s++x::a=(s++[x])++a by simp,List.drop_left' (by simp)]
  have k0:at' .node [k.node] 0=k.node:=rfl;have n:aU 0 (I [k.node])=true:=rfl;have t1:=tS (t:=k) (show I a<=2000000 by omega);have aS:¬((2:Int)=1):=ag
  cases b with|nil=>simp only[aS,decide_false,a_,bY i1,ax,a8,w1,l,n,m,k0,t1,bZ,cb (c:=.byte) i1,j,pW e,BJ,BD,Bq,pS e,uU,z3,uq,BY,wg,decide_true,bv,tu,t_,At,qc,Ak,decide_true,Bool.and_self,sX,E0,tS (show I s<=2000000 by omega),hold]|cons y b=>have o:=(hN.1 aj).1;simp only[dm]at ao;simp only[aS,decide_false,a_,bY i1,ax,a8,w1,l,n,m,k0,t1,bZ,cb (c:=.byte) i1,j,pW e,pW o,BJ,BD,Bq,pS e,pS o,uU,z3,uq,BY,wX,vt,wz,vu,vw,Aw,tu,x2 (show I b<=2000000 by omega) (show I v<=2000000 by omega),t_,At,qc,Ak,decide_true,Bool.and_self,sX,ab1,tS (show I s<=2000000 by omega),hold]
theorem O1:∀(f:Nat) (t:T) (d:Nat) (p v w:ar),t.cz d->aE p->I w=d->d+I p<=400->I v<=4000->401<=f+d->aT tW f (t.node,p,v,w)=J ((t.put p v).node,())
 |0,t,d,p,v,w,h,_,_,_,_,bO=>by have:=cz.le h;omega
 |f+1,t,d,p,v,w,h,bn,hw,ao,bB,bO=>by
  rw[cQ];have cv:=x2 (show I p<=2000000 by omega) (show I v<=2000000 by omega);cases t with
  |no=>simp only[tW,T.node,iq,show ¬((0:Int)=4) by omega,decide_false,decide_true,a_,a8,cv,bZ,T.put]
  |cv q u=>
   simp only[tW,show((T.cv q u).node).kind=1 from rfl,show((T.cv q u).node).path=q from rfl,show ¬((1:Int)=4) by omega,show ¬((1:Int)=0) by omega,decide_false,decide_true,a_,a8,T.put,beq,cv,bZ];by_cases e:q=p
   .simp only[e,decide_true,a8,if_true]
   .simp only[e,decide_false,a_,if_false,aqp e h bn ao bB,bZ]
  |dr q k=>have h4:=cz.le h.2.2.2;have aJ : 0<I q:=List.length_pos_iff.2 h.2.1;have k0:at' .node [k.node] 0=k.node:=rfl;have dN:aU 0 (I [k.node])=true:=rfl;simp only[tW,show((T.dr q k).node).kind=2 from rfl,show((T.dr q k).node).path=q from rfl,show((T.dr q k).node).kids=[k.node] from rfl,show((T.dr q k).node).has=ai from rfl,show((T.dr q k).node).val=[] from rfl,show((T.dr q k).node).hash=[] from rfl,show ¬((2:Int)=4) by omega,show ¬((2:Int)=0) by omega,show ¬((2:Int)=1) by omega,decide_false,decide_true,a_,a8,T.put,Kc,bZ,k0,dN,ax];cases cG:dw q p with|none=>simp only[Option.isSome_none,jd,a8,aoR cG h bn ao bB,bZ]|some r=>have e:=iL.1 cG;subst e;have l:=hx.1 bn;simp only[dc]at ao;have m:=O1 f k (d+I q) r v (w++q) h.2.2.2 l.2 dh ag bB ag;simp only[Option.isSome_some,dj,a_,uU,a8,rR (show I w<=500000 by omega) (show I q<=500000 by omega),bZ,uq,m,T.node]
  |cY o k=>
   have n:I (db k)<=2000000:=by rw[hf];omega
   have s:List.isEmpty (db k)=false:=rfl;have b:∀a:Nat->T,cut (db a) 0 (0+(I (db k):Int))=db a:=λa=>by rw[hf];exact sX a
   have g:(0:Int)<=(I (db k):Int):=by rw[hf];decide
   have i:∀a:Nat->T,(0+(I (db k):Int))<=(I (db a):Int):=λa=>by rw[hf,hf];decide
   simp only[tW,n6,iq,ki,nf,mD,g9,wN,show ¬((3:Int)=4) by omega,show ¬((3:Int)=0) by omega,show ¬((3:Int)=1) by omega,show ¬((3:Int)=2) by omega,decide_false,decide_true,a_,n,ax,a8,s];cases p with
   |nil=>simp only[wg,decide_true,a8,nq (show I v<=2000000 by omega),bZ,b,g,i,qc,decide_true,Bool.and_self,a8,T.put,E0]
   |cons x p=>
    have j:=hN.1 bn;simp only[dm]at ao;have m:=O1 f (k x.toNat) (d+1) p v (w++[x]) (h.2.2.2 _ j.1) j.2 dh ag bB ag;have bK:iJ (x.toNat:Int) (I (db k):Int)=true:=by rw[hf];exact pW j.1
    have y:at' .node (db k) (0+(x.toNat:Int))=(k x.toNat).node:=by
     have z:x.toNat<I (db k):=by rw[hf];exact j.1
     rw[Int.zero_add,cb (c:=.node) z,o4]
    simp only[wX,decide_false,a_,vt,a8,vw,Aw,bK,pS j.1,wz,ZD,ZV,vu,rR (show I w<=500000 by omega) (show I [x]<=500000 by simp),bZ,y,m,tu,t_,b,g,i,qc,decide_true,Bool.and_self,a8,T.put,n6]
theorem Rv{k v:ar}(h:t.cz 0)(a:I k<=200)(aE:I v<=4000):Af t.node k v=J true:=by have c1:aa ((I k:Int)<=200)=true:=aY ag;have c2:aa ((I v:Int)<=4000)=true:=aY ag;simp only[Af,Qq,K' h,bZ,decide_true,a8,c1,c2]
theorem aaJ{k:ar}(h:t.cz 0)(a:I k<=200):AB t.node k=J ((t.look (c6 k)).getD [],(t.look (c6 k)).isSome,(),0):=by have b:=nv k;obtain⟨u,h1,h2⟩:=O4 500 t 0 (c6 k) [] h (pe k) rfl ag ag;have h1:Pz t.node (c6 k) []=J (u,(t.look (c6 k)).isSome,()):=h1;simp only[AB,Ma,Rv h a (show I ([]:ar)<=4000 by simp),Av (show I k<=1900 by omega),bZ,dj,a_,h1];cases e:t.look (c6 k)with|none=>rfl|some v=>rw[h2 v e];rfl
theorem aky{k v:ar}(h:t.cz 0)(a:I k<=200)(aE:I v<=4000):Fk t.node k v=J ((t.put (c6 k) v).node,(),0):=by have b:=nv k;have h1:Ps t.node (c6 k) v []=J ((t.put (c6 k) v).node,()):=O1 500 t 0 (c6 k) v [] h (pe k) rfl ag aE ag;simp only[Fk,LW,Rv h a aE,LA h,Av (show I k<=1900 by omega),bZ,dj,a_,h1]
theorem Zt{k v:ar}(h:t.cz 0)(a:I k<=200)(aE:I v<=4000):(t.put (c6 k) v).cz 0:=(OO h (pe k) (by have:=nv k;omega) (by have:=nv k;omega) aE).1
end Go.Proofs.YtcoaaebppfbbnaaGreatDoor
