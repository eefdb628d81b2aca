/- Texts of the proof,one behind the other: Lx,Ly,Lz,Pg,Ph,Pj,Qf,Qg,Qh,Qi,Qj,Qk,Ql,Qm. -/
import Derived.Test.YthndhaolemgbdaaGreatDoorW5
set_option linter.all false
namespace Go.Proofs.YthndhaolemgbdaaGreatDoor
open Go.Ax
theorem Bdt{m n:Nat}(h:m<=n):Di 0 (m:Int) n=true:=by simp[Di];omega
def Bc5(R:Type):Px R:=pxO [] [] [] []
def Akt(x:HV [.str,.str]):Option (HV [.bool]):=match x with
 |(l,m) =>
 cond (decide ((m.length:Int)<=(l.length:Int))) (
  chk (Di 0 (m.length:Int) l.length) (
  some (decide ((l.take ((m.length:Int):Int).toNat)=m)))) (
  some false)
theorem Bai:FO 192 [.str,.str] [.bool] (Akt):=fR (px:=Bc5 _) (n:=0) Tryz.func192 rfl (λ_ H=>⟨lv H Af Ab Aa,Ak⟩) λ(_,_)=>by kernel_rfl
def A6d(l m:Str):Bool:=Lp.pre l m
def Arj:FT [.str,.str] [.bool]:=λx=>some (A6d x.1 x.2)
theorem Bg3:FO 192 [.str,.str] [.bool] Arj :=.fin0 Bai λ(l,m) r hb hx=>by
 simp only[Arj,Za1] at hx;subst hx;simp only[Akt,A6d,Lp.pre];have e:decide ((m.length:Int)<=(l.length:Int))=decide (m.length<=l.length):=Zy1.2 (by omega);rw[e];by_cases h:m.length<=l.length
 ·rw[Ze1 h,Ae,Bdt h,Int.toNat_natCast];rfl
 ·rw[Zd1 h];rfl
def Bln(R:Type):Px R:=pxO [(192,cA Arj)] [] [] []
def Ac9(x:HV [.str,.str]):Option (HV [.bool]):=match x with
 |(l,m) =>
 some (A6d l m)
theorem Bff:FO 175 [.str,.str] [.bool] (Ac9):=fR (px:=Bln _) (n:=0) Tryz.func175 rfl (λ_ H=>⟨lv H (c1 H Bg3 Af) Ab Aa,Ak⟩) λ(_,_)=>by kernel_rfl
def hpre(l:Str)(m:Str):Bool :=(A6d l m)
theorem Bck(x:HV [.str,.str]):Ac9 x=some (hpre x.1 x.2):=by
 first
  |exact rfl
  |simp only[Ac9,hpre,Bm]
def A0o:FT [.str,.str] [.bool]:=λx=>some (hpre x.1 x.2)
theorem A3e:FO 175 [.str,.str] [.bool] A0o :=.fin0 Bff λx _ _ hx=>(Bck x).trans hx
set_option maxRecDepth 20000 in
open Go.Sx in
theorem Sv(l:Str)(c:Int):Con Tryz.prog 174 [S l,.int .u8 c] [] (λ_=>True) (Is (.int .i64 (Lib.indexByte l c.toNat.toUInt8))):=by
 have run:∀w,(callFunc 191 #[S l,.int .u8 c]).run Tryz.prog w = .ok (.value (.int .i64 (Lib.indexByte l c.toNat.toUInt8))) w:=λw=>by rw[run_callFunc_extern Tryz.func191 (by kernel_rfl) rfl (by kernel_rfl) (e:=Extern.BytealgIndexByte.indexByte) (by kernel_rfl)];simp[Lib.run_indexByteString,go_sem]
 refine Amw Tryz.func174 Tryz.ntmps174 rfl (by kernel_rfl) rfl λw M =>?_
 repeat' (first|refine Bph ?_|refine Bg1 ?_|refine Bq5 ?_|refine Bpo ?_|refine Bp4 ?_|refine Bkl ?_|refine Bnw ?_|refine Bnq ?_|refine Bns ?_|refine Bpi ?_|refine Bmz ?_|refine Bqs rfl ?_|refine Bj9 ?_|refine Ble ?_|refine Bjf ?_|refine Bi2 ?_|(apply Bd7 rfl rfl;(first|exact p_move rfl|exact p_assign rfl|exact p_lens (by dsimp only;decide +kernel) rfl|exact p_lensl (by dsimp only;decide +kernel) rfl|exact p_extract rfl rfl|exact p_pick_t rfl rfl|exact p_pick_f rfl rfl|exact p_eql rfl rfl|exact p_neq rfl rfl|exact p_lss rfl rfl|exact p_leq rfl rfl|exact p_gtr rfl rfl|exact p_geq rfl rfl|exact p_not rfl|exact p_eqls rfl rfl|exact p_neqs rfl rfl|exact Bli rfl rfl (by omega)|exact Bid rfl rfl (by omega)|exact p_index (by dsimp only;decide +kernel) rfl rfl (by omega)|exact p_cut (by dsimp only;decide +kernel) rfl rfl rfl (by omega)|exact p_cutlo (by dsimp only;decide +kernel) rfl rfl (by omega)|exact p_cuthi (by dsimp only;decide +kernel) rfl rfl (by omega)|exact p_fa (fo:=0) (by dsimp only;decide +kernel) rfl|exact p_fa (fo:=1) (by dsimp only;decide +kernel) rfl|exact p_fa (fo:=2) (by dsimp only;decide +kernel) rfl|exact p_fa (fo:=3) (by dsimp only;decide +kernel) rfl|exact Bpt rfl))|refine Bql rfl rfl ?_|refine Ayu rfl ?_|(apply Bd7 rfl rfl (Bh7 rfl rfl run))|(refine Bpz rfl rfl ?_ ?_<;>intro hc)|(refine Bp9 rfl rfl ?_ ?_<;>intro hc)|(refine Brd rfl rfl ?_ ?_<;>intro hc)|(refine Bno rfl rfl ?_ ?_<;>intro hc)|(refine Bo9 rfl rfl ?_ ?_<;>intro hc)|(refine Brf rfl rfl ?_ ?_<;>intro hc)|refine Av8 rfl rfl ?_|refine Axr rfl rfl ?_|refine Av8 rfl (Ze1 (by omega)) ?_|refine Axr rfl (Zd1 (by omega)) ?_|(refine Blb rfl ?_ ?_<;>intro hc)|(refine Blx rfl ?_ ?_<;>intro hc)|(refine Bkd rfl ?_ ?_<;>intro hc)|(refine Bfs rfl ?_ ?_<;>intro hc)|(refine Bj6 rfl ?_ ?_<;>intro hc)|(refine Tu rfl ?_ ?_<;>intro hc)|refine Bnn rfl rfl ?_|refine Bo0 rfl rfl rfl ?_|refine Boy rfl rfl rfl rfl ?_)
 exact Bmg rfl
def sib(l:Str)(c:Int):Int:=Lib.indexByte l c.toNat.toUInt8
def Bhx:FT [.str,.int .u8] [.int .i64]:=λx=>some (sib x.1 x.2)
theorem Bld(l:Str)(c:Int) : -1<=sib l c/\sib l c<l.length+1:=by have:=Lp.indexByte_in l c.toNat.toUInt8;simp only[sib];omega
theorem Bnv:FO 174 [.str,.int .u8] [.int .i64] Bhx:=by
 refine FnOk.ofIs (Sv [] 0).enters rfl λx r hx =>?_;obtain⟨l,c⟩:=x;simp only[Bhx,Za1] at hx;subst hx;refine⟨[Sx.S l,.int .u8 c],_,λX vs h =>?_,Sv l c,λX hb =>?_⟩
 ·simp only[Cs,Dr,Reps,Rep] at h;obtain⟨u,us,rfl,⟨rfl,_⟩,u2,us2,rfl,⟨rfl,_⟩,rfl⟩:=h;rfl
 ·simp only[Me,Cs,Dr];have h:=Bld l c;have hl:ln l.length:=hb.1;refine E3 (A5n ?_);simp only[IntKind.min,IntKind.max,IntKind.signed,IntKind.bits,sib,ln] at *;simp only[if_true];omega
def Bd4(R:Type):Px R:=pxO [(174,cA Bhx)] [] [] []
def Yz(x:HV [.str,.int .u8]):Option (HV [.int .i64]):=match x with
 |(l,c) =>
 some (sib l c)
theorem A74:FO 156 [.str,.int .u8] [.int .i64] (Yz):=fR (px:=Bd4 _) (n:=0) Tryz.func156 rfl (λ_ H=>⟨lv H (c1 H Bnv Af) Ab Aa,Ak⟩) λ(_,_)=>by kernel_rfl
def Mt(l:Str)(c:Int):Int :=(sib l c)
theorem A8l(x:HV [.str,.int .u8]):Yz x=some (Mt x.1 x.2):=by
 first
  |exact rfl
  |simp only[Yz,Mt,Bm]
def Ag9:FT [.str,.int .u8] [.int .i64]:=λx=>some (Mt x.1 x.2)
theorem Ah9:FO 156 [.str,.int .u8] [.int .i64] Ag9 :=.fin0 A74 λx _ _ hx=>(A8l x).trans hx
def Bfy(R:Type):Px R:=pxO [] [] [] []
def Yp(x:HV [.int .u8]):Option (HV [.bool]):=match x with
 |c =>
 cond (decide (65<=c)) (
  some (decide (c<=90))) (
  some false)
theorem A9k:FO 177 [.int .u8] [.bool] (Yp):=fR (px:=Bfy _) (n:=0) Tryz.func177 rfl (λ_ H=>⟨lv H Af Ab Aa,Ak⟩) λ_=>by kernel_rfl
def Aec(c:Int):Bool :=
 cond (decide (65<=c)) (
  (decide (c<=90))) (
  false)
theorem A7y(x:HV [.int .u8]):Yp x=some (Aec x):=by
 first
  |exact rfl
  |simp only[Yp,Aec,Bm]
def Ag7:FT [.int .u8] [.bool]:=λx=>some (Aec x)
theorem Ako:FO 177 [.int .u8] [.bool] Ag7 :=.fin0 A9k λx _ _ hx=>(A7y x).trans hx
theorem Aje(c:Int):Aec c=Lp.isUp c:=by simp only[Aec,Lp.isUp];cases decide (65<=c)<;>rfl
def Bb5(R:Type):Px R:=pxO [(111,cA Ag2),(177,cA Ag7)] [] [] []
def Xw(x:HV [.str,.int .i64]):Option (HV [.bool]):=match x with
 |(s,i) =>
 cond (decide (i=(s.length:Int))) (
  some true) (
  chk (inb i s.length) (
  cond (!(Ad6 (bat s i))) (
   chk (inb i s.length) (
   some (!(Aec (bat s i))))) (
   some false)))
theorem A7x:FO 179 [.str,.int .i64] [.bool] (Xw):=fR (px:=Bb5 _) (n:=0) Tryz.func179 rfl (λ_ H=>⟨lv H (c1 H Akd (c1 H Ako Af)) Ab Aa,Ak⟩) λ(_,_)=>by kernel_rfl
def W9(s:Str)(i:Int):Option Bool:=if 0<=i/\i<=s.length then some (Lp.aloneF s i) else none
def As8:FT [.str,.int .i64] [.bool]:=λx=>W9 x.1 x.2
theorem Bky(a b:Int):(a == b)=decide (a=b):=rfl
theorem Bk6(s:Str)(i:Int)(h : 0<=i/\i<=s.length):Xw (s,i)=some (Lp.aloneF s i):=by
 simp only[Xw,Lp.aloneF,Ak2,Aje,Bky];by_cases he:i=s.length
 ·rw[Ze1 he];rfl
 ·rw[Zd1 he,Tr (by omega)];show cond (!Lp.isIn (bat s i)) (some (!Lp.isUp (bat s i))) (some false)=some (!Lp.isIn (bat s i) && !Lp.isUp (bat s i));cases Lp.isIn (bat s i)<;>rfl
theorem Bfv:FO 179 [.str,.int .i64] [.bool] As8 :=.fin0 A7x λ(s,i) r hb hx=>by
 simp only[As8,W9] at hx;split at hx
 ·rename_i h;exact(Bk6 s i h).trans hx
 ·cases hx
def Ael:Sig:=⟨46,[(0,.str),(2,.int .i64),(3,.bool),(4,.int .i64),(11,.int .i64),(12,.int .i64)],[],[],0,0,0,[],[]⟩
abbrev P1:=Str×Int×Bool×Int×Int×Int
def Pm{R:Type}(rec:P1->Option R)(kx:Ex->P1->Option R)(v:P1):Option R:=match v with
 |(v,v1,v2,v3,v4,v5) =>
 cond (decide (v5<v4)) (
  chk (inb v5 v.length) (
  cond (!decide ((Ax6 v3 10).2=0)) (
   kx .ret (v,0,false,v3,v4,v5)) (
   cond (!decide ((A1s ((Ax6 v3 10).1) (wr .i64 (wr .u8 ((bat v v5)-48)))).2=0)) (
   kx .ret (v,0,false,v3,v4,v5)) (
   rec (v,v1,v2,(A1s ((Ax6 v3 10).1) (wr .i64 (wr .u8 ((bat v v5)-48)))).1,v4,(wr .i64 (v5+1))))))) (
  kx (.exit 0) (v,v1,v2,v3,v4,v5))
def Aoh(R:Type)(k:Nat):Px R:=pxO [(194,cA Bc8),(195,cA Bfc)] [] [(3,Aq k Ael (Pm))] []
def Ae5(k:Nat)(x:HV [.str]):Option (HV [.int .i64,.bool]):=match x with
 |s =>
 Al (λrec=>Pm rec (λe vz=>match vz with|(v6,v7,v8,v9,_,_)=>match e with
  |.ret =>
  some (v7,v8)
  |.exit 0 =>
  cond (decide (v6=[48])) (
   some (v9,true)) (
   chk (inb 0 v6.length) (
   some (v9, !decide ((bat v6 0)=48))))
  |_=>none)) k (s,0,false,0,(s.length:Int),0)
theorem A2d(k:Nat):FO 180 [.str] [.int .i64,.bool] (Ae5 k):=fR (px:=Aoh _ k) (n:=1) Tryz.func180 rfl (λcx H=>by have h0:Lv cx (Aoh (HV [.int .i64,.bool]) k):=lv H (c1 H Bla (c1 H Bk1 Af)) Ab Aa;have hlnumber_0:=lO H h0 (b:=lp Tryz.f180 0) (k:=k) (n:=0) (s:=Ael) (step:=Pm) (λ_ _ _ (_,_,_,_,_,_)=>by kernel_rfl) Ak;exact⟨h0,(Bq Ak hlnumber_0)⟩) λ_=>by kernel_rfl
def Bb6(s:Str):Int×Bool:=match Lp.numGo s 0 with|some n=>(n,decide (s=[48]) || !decide (bat s 0=48))|none=>(0,false)
def Aq3(s:Str):Option (Int×Bool):=match s with|[]=>none|_=>some (Bb6 s)
def Ajc:FT [.str] [.int .i64,.bool]:=λx=>Aq3 x
theorem Aen{R:Type}{kx:Ex->P1->Option R}{s:Str}{c:Option Int->Option R}(hs:ln s.length)(h1:∀n j,kx .ret (s,0,false,n,(s.length:Int),j)=c none)(h2:∀q r n j,kx (.exit 0) (s,q,r,n,(s.length:Int),j)=c (some n)):∀(k i:Nat) (q:Int) (r:Bool) (n:Int),inI n->i<=s.length->s.length-i<k->Al (λrec=>Pm rec kx) k (s,q,r,n,(s.length:Int),(i:Int))=c (Lp.numGo (s.drop i) n)
 |0,i,q,r,n,_,_,h=>absurd h (Zm1 _)
 |k+1,i,q,r,n,hn,hi,h=>by
  rw[A3];by_cases hl:i<s.length
  ·have hd:=Lp.inI_dg (s[i].toNat:Int);have e10:inI (10:Int):=by simp only[inI];omega
   have em:=Bnx hn e10;simp only[Pm,A7 hl,Cg hl,em];rw[Ze1 (show(i:Int)<(s.length:Int) by omega),As hl];simp only[Ae,chk,Lp.numGo];by_cases hm:inI (n*10)
   ·have hm':=hm;simp only[inI] at hm';have ef:Yl (n*10)=(n*10,0):=by rw[Yl,if_pos hm']
    have ea:=Bmu hm (show inI (wr .i64 (wr .u8 ((s[i].toNat:Int)-48))) from hd);simp only[ef,ea];by_cases hf:inI (n*10+Lp.dg (s[i].toNat:Int))
    ·have hf':=hf;simp only[inI] at hf';have eg:Yl (n*10+wr .i64 (wr .u8 ((s[i].toNat:Int)-48)))=(n*10+Lp.dg (s[i].toNat:Int),0):=by have hf2 : -9223372036854775808<=n*10+wr .i64 (wr .u8 ((s[i].toNat:Int)-48))/\n*10+wr .i64 (wr .u8 ((s[i].toNat:Int)-48))<=9223372036854775807:=hf';rw[Yl,if_pos hf2];rfl
     rw[eg,if_pos (show Lp.inI _/\Lp.inI _ from⟨hm,hf⟩)];have ih:=Aen hs h1 h2 k (i+1) q r (n*10+Lp.dg (s[i].toNat:Int)) hf (by omega) (by omega);rw[A0 hl hs];exact ih
    ·have hf':=hf;simp only[inI] at hf';have eg:Yl (n*10+wr .i64 (wr .u8 ((s[i].toNat:Int)-48)))=(0,20):=by have hf2:¬(-9223372036854775808<=n*10+wr .i64 (wr .u8 ((s[i].toNat:Int)-48))/\n*10+wr .i64 (wr .u8 ((s[i].toNat:Int)-48))<=9223372036854775807):=hf';rw[Yl,if_neg hf2]
     rw[eg,if_neg (λh=>hf h.2)];exact h1 _ _
   ·have hm':=hm;simp only[inI] at hm';have ef:Yl (n*10)=(0,20):=by rw[Yl,if_neg hm']
    rw[if_neg (λh=>hm h.1)];simp only[ef];exact h1 _ _
  ·simp only[Pm,h2];rw[Zd1 (by omega),Zk1 (by omega)];rfl
theorem Bam:FO 180 [.str] [.int .i64,.bool] Ajc :=.fin 0 A2d λs r hb hx=>⟨s.length+1,by
 simp only[Ajc] at hx;cases s with
 |nil=>cases hx
 |cons b l =>
  have hx:some (Bb6 (b::l))=some r:=hx;rw[<-hx];simp only[Ae5];refine(Aen (s:=b::l) (c:=λo=>match o with|some n=>some (n,decide (b::l=[48]) || !decide (bat (b::l) 0=48))|none=>some (0,false)) hb (λ_ _=>rfl) (λ_ _ n _ =>?_) ((b::l).length+1) 0 0 false 0 (by simp[inI]) (Nat.zero_le _) (by omega)).trans ?_
  ·show cond (decide (b::l=[48])) (some (n,true)) (chk (inb 0 (b::l).length) (some (n, !decide (bat (b::l) 0=48))))=_;rw[Tr (by simp only[Zf1];omega)];cases decide (b::l=[48])<;>rfl
  ·simp only[Zq1,Bb6];cases Lp.numGo (b::l) 0<;>rfl⟩
def Afb:Sig:=⟨40,[(0,.str),(4,.str),(5,.int .i64),(6,.sl .byte true),(7,.int .i64)],[],[],0,0,0,[],[]⟩
abbrev Ra:=Str×Str×Int×List UInt8×Int
def O3{R:Type}(rec:Ra->Option R)(kx:Ex->Ra->Option R)(v:Ra):Option R:=match v with
 |(v,v1,v2,v3,v4) =>
 cond (decide (v4<(v.length:Int))) (
  chk (inb v4 v.length) (
  cond (decide ((bat v v4)=39)) (
   cond (decide ((wr .i64 (v4+1))=(v.length:Int))) (
   kx .ret (v,v3,(wr .i64 (v4+1)),v3,(wr .i64 (v4+1)))) (
   chk (inb (wr .i64 (v4+1)) v.length) (
    cond (!decide ((bat v (wr .i64 (v4+1)))=39)) (
    kx .ret (v,v3,(wr .i64 (v4+1)),v3,(wr .i64 (v4+1)))) (
    chk (inb (wr .i64 (v4+1)) v.length) (
     chk (decide (v3.length+1<=Am)) (
     rec (v,v1,v2,(v3++[(UInt8.ofNat ((bat v (wr .i64 (v4+1))):Int).toNat)]),(wr .i64 ((wr .i64 (v4+1))+1))))))))) (
   chk (inb v4 v.length) (
   chk (decide (v3.length+1<=Am)) (
    rec (v,v1,v2,(v3++[(UInt8.ofNat ((bat v v4):Int).toNat)]),(wr .i64 (v4+1)))))))) (
  kx (.exit 0) (v,v1,v2,v3,v4))
def Apw(R:Type)(k:Nat):Px R:=pxO [] [] [(3,Aq k Afb (O3))] []
def Aeh(k:Nat)(x:HV [.str,.int .i64]):Option (HV [.str,.int .i64]):=match x with
 |(s,i) =>
 Al (λrec=>O3 rec (λe vz=>match vz with|(_,v6,v7,_,_)=>match e with
  |.ret =>
  some (v6,v7)
  |.exit 0 =>
  some ([],(-1))
  |_=>none)) k (s,[],0,[],i)
theorem A1r(k:Nat):FO 181 [.str,.int .i64] [.str,.int .i64] (Aeh k):=fR (px:=Apw _ k) (n:=1) Tryz.func181 rfl (λcx H=>by have h0:Lv cx (Apw (HV [.str,.int .i64]) k):=lv H Af Ab Aa;have hlquoted_0:=lO H h0 (b:=lp Tryz.f181 0) (k:=k) (n:=0) (s:=Afb) (step:=O3) (λ_ _ _ (_,_,_,_,_)=>by kernel_rfl) Ak;exact⟨h0,(Bq Ak hlquoted_0)⟩) λ(_,_)=>by kernel_rfl
def Ar8(s:Str)(i:Int):Option (Str×Int):=if 0<=i/\i<=s.length/\s.length<=1000000 then some (Lp.qGo (s.drop i.toNat) [] i) else none
def Ahm:FT [.str,.int .i64] [.str,.int .i64]:=λx=>Ar8 x.1 x.2
theorem Akq(b:UInt8):UInt8.ofNat ((b.toNat:Int)).toNat=b:=by simp
theorem Tv{R:Type}{kx:Ex->Ra->Option R}{s:Str}{c:Str×Int->Option R}(hs:s.length<=1000000)(h1:∀a j,kx .ret (s,a,j,a,j)=c (a,j))(h2:∀q r a j,kx (.exit 0) (s,q,r,a,j)=c ([], -1)):∀(k i:Nat) (q:Str) (r:Int) (a:Str),a.length<=i->i<=s.length->s.length-i<k->Al (λrec=>O3 rec kx) k (s,q,r,a,(i:Int))=c (Lp.qGo (s.drop (i:Int).toNat) a i)
 |0,i,q,r,a,_,_,h=>absurd h (Zm1 _)
 |k+1,i,q,r,a,ha,hi,h=>by
  rw[A3];by_cases hl:i<s.length
  ·have hln:ln s.length:=by simp only[ln];omega
   have ea:decide (a.length+1<=Am)=true:=Ze1 (by simp only[Am];omega);have eb:Sx.byt s (i:Int)=(s[i].toNat:Int):=Cg hl;simp only[O3,A7 hl,A0 hl hln,Cg hl,ea,Akq];rw[Ze1 (show(i:Int)<(s.length:Int) by omega)];simp only[Ae,chk];by_cases h39:(s[i].toNat:Int)=39
   ·rw[Ze1 h39,Ae];by_cases he:i+1=s.length
    ·rw[Ze1 (show((i+1:Nat):Int)=(s.length:Int) by omega),Ae,h1,Lp.q_last (by omega) (by omega) (eb.trans h39)];rfl
    ·have hl2:i+1<s.length:=by omega
     have eb2:Sx.byt s ((i:Int)+1)=(s[i+1].toNat:Int):=Cg hl2;rw[Zd1 (show ¬((i+1:Nat):Int)=(s.length:Int) by omega),A7 hl2,Ah];simp only[Ae,Cg hl2,Akq];by_cases h3:(s[i+1].toNat:Int)=39
     ·have ih:=Tv hs h1 h2 k (i+1+1) q r (a++[s[i+1]]) (by simp only[Zh1,Zf1,Zi1];omega) (by omega) (by omega);have e39:s[i+1]=39:=by rw[<-UInt8.toNat_inj];exact Int.ofNat.inj h3
      rw[Ze1 h3,Lp.q_two (by omega) (by omega) (eb.trans h39) (eb2.trans h3),A0 hl2 hln];simp only[Zt1,Ah];rw[ih,e39];rfl
     ·rw[Zd1 h3,Lp.q_close (by omega) (by omega) (eb.trans h39) (λe=>h3 (eb2.symm.trans e))];simp only[Zs1,Ae,h1];rfl
   ·have ih:=Tv hs h1 h2 k (i+1) q r (a++[s[i]]) (by simp only[Zh1,Zf1,Zi1];omega) (by omega) (by omega);rw[Zd1 h39,Ah,ih,Lp.q_other (by omega) (by omega) (λe=>h39 (eb.symm.trans e))];have eg:s.getD (i:Int).toNat 0=s[i]:=by simp[List.getD_eq_getElem?_getD,hl]
    rw[eg];rfl
  ·simp only[O3,h2];rw[Zd1 (by omega),Lp.q_end (by omega)];rfl
theorem A61:FO 181 [.str,.int .i64] [.str,.int .i64] Ahm :=.fin 0 A1r λ(s,i) r hb hx=>⟨s.length+1,by
 simp only[Ahm,Ar8] at hx;split at hx
 ·rename_i h;rw[<-hx];obtain⟨n,rfl⟩:=Int.eq_ofNat_of_zero_le h.1;simp only[Aeh];exact Tv (c:=some) h.2.2 (λ_ _=>rfl) (λ_ _ _ _=>rfl) (s.length+1) n [] 0 [] (Nat.zero_le _) (by omega) (by omega)
 ·cases hx⟩
def Ald:Sig:=⟨19,[(0,.str),(2,.int .i64),(5,.sl .str true),(6,.int .i64),(7,.int .i64)],[],[],0,0,0,[],[]⟩
abbrev Acx:=Str×Int×List Str×Int×Int
def Asw{R:Type}(rec:Acx->Option R)(kx:Ex->Acx->Option R)(v:Acx):Option R:=match v with
 |(v,v1,v2,v3,v4) =>
 cond (decide (v4<v3)) (
  chk (inb v4 v2.length) (
  cond ((hpre v (at' .str v2 v4))) (
   kx .ret (v,2,v2,v3,v4)) (
   rec (v,v1,v2,v3,(wr .i64 (v4+1)))))) (
  kx (.exit 0) (v,v1,v2,v3,v4))
def Ax3(R:Type)(k:Nat):Px R:=pxO [(175,cA A0o),(156,cA Ag9)] [] [(2,Aq k Ald (Asw))] []
def Akr(k:Nat)(x:HV [.str]):Option (HV [.int .i64]):=match x with
 |s =>
 Al (λrec=>Asw rec (λe vz=>match vz with|(v5,v6,_,_,_)=>match e with
  |.ret =>
  some v6
  |.exit 0 =>
  chk (inb 0 v5.length) (
   cond (decide (0<=(Mt [40,41,44,42,61,60,62,43,45,59] (bat v5 0)))) (
   some 1) (
   some 0))
  |_=>none)) k (s,0,[[60,62],[60,61],[62,61]],3,0)
theorem A7f(k:Nat):FO 182 [.str] [.int .i64] (Akr k):=fR (px:=Ax3 _ k) (n:=1) Tryz.func182 rfl (λcx H=>by have h0:Lv cx (Ax3 (HV [.int .i64]) k):=lv H (c1 H A3e (c1 H Ah9 Af)) Ab Aa;have hllsign_0:=lO H h0 (b:=lp Tryz.f182 0) (k:=k) (n:=0) (s:=Ald) (step:=Asw) (λ_ _ _ (_,_,_,_,_)=>by kernel_rfl) Ak;exact⟨h0,(Bq Ak hllsign_0)⟩) λ_=>by kernel_rfl
def Bcz(s:Str):Option Int:=match s with|[]=>none|_=>some (Lp.signF s)
def Ar5:FT [.str] [.int .i64]:=λx=>Bcz x
theorem Bdx:FO 182 [.str] [.int .i64] Ar5 :=.fin 0 A7f λs r hb hx=>⟨4,by
 simp only[Ar5] at hx;cases s with
 |nil=>cases hx
 |cons b l =>
  have hx:some (Lp.signF (b::l))=some r:=hx;rw[<-hx];have e0:inb 0 (b::l).length=true:=Tr (by simp only[Zf1];omega);have e1:hpre (b::l) [60,62]=Lp.pre (b::l) [60,62]:=rfl;have e2:hpre (b::l) [60,61]=Lp.pre (b::l) [60,61]:=rfl;have e3:hpre (b::l) [62,61]=Lp.pre (b::l) [62,61]:=rfl;have ei:Mt [40,41,44,42,61,60,62,43,45,59] (bat (b::l) 0)=Lib.indexByte Lp.signs (Sx.byt (b::l) 0).toNat.toUInt8:=rfl;simp only[Akr,Lp.signF,<-ei,<-e1,<-e2,<-e3];show cond (hpre (b::l) [60,62]) (some 2) (cond (hpre (b::l) [60,61]) (some 2) (cond (hpre (b::l) [62,61]) (some 2) (chk (inb 0 (b::l).length) (cond (decide (0<=Mt [40,41,44,42,61,60,62,43,45,59] (bat (b::l) 0))) (some 1) (some 0)))))=_;generalize Mt [40,41,44,42,61,60,62,43,45,59] (bat (b::l) 0)=z;rw[e0];by_cases hz : 0<=z
  ·rw[Ze1 hz,if_pos hz];cases hpre (b::l) [60,62]<;>cases hpre (b::l) [60,61]<;>cases hpre (b::l) [62,61]<;>rfl
  ·rw[Zd1 hz,if_neg hz];cases hpre (b::l) [60,62]<;>cases hpre (b::l) [60,61]<;>cases hpre (b::l) [62,61]<;>rfl⟩
def A9l(R:Type):Px R:=pxO [] [] [] []
def Ui(x:HV [.int .u8]):Option (HV [.int .u8,.bool]):=match x with
 |c =>
 let j:=λ(p1:Bool) =>
  cond (p1) (
  some ((wr .u8 (c-48)),true)) (
  cond (decide (97<=c)) (
   cond (decide (c<=102)) (
   some ((wr .u8 ((wr .u8 (c-97))+10)),true)) (
   some (0,false))) (
   some (0,false)))
 cond (decide (48<=c)) (
  j (decide (c<=57))) (
  j false)
theorem Ay1:FO 193 [.int .u8] [.int .u8,.bool] (Ui):=fR (px:=A9l _) (n:=0) Tryz.func193 rfl (λ_ H=>⟨lv H Af Ab Aa,Ak⟩) λ_=>by kernel_rfl
def P8(c:Int):Int×Bool :=
 let j:=λ(p1:Bool) =>
  cond (p1) (
  ((wr .u8 (c-48)),true)) (
  cond (decide (97<=c)) (
   cond (decide (c<=102)) (
   ((wr .u8 ((wr .u8 (c-97))+10)),true)) (
   (0,false))) (
   (0,false)))
 cond (decide (48<=c)) (
  j (decide (c<=57))) (
  j false)
theorem A1k(x:HV [.int .u8]):Ui x=some (P8 x):=by
 first
  |exact rfl
  |simp only[Ui,P8,Bm]
def Axd:FT [.int .u8] [.int .u8,.bool]:=λx=>some (P8 x)
theorem A7h:FO 193 [.int .u8] [.int .u8,.bool] Axd :=.fin0 Ay1 λx _ _ hx=>(A1k x).trans hx
def Bob(c:Int):Int×Bool:=match Lp.hexD c with|some n=>(n,true)|none=>(0,false)
theorem A2i:((List.range 256).all λn=>decide (P8 (n:Int)=Bob (n:Int)))=true:=by kernel_rfl
theorem Bax(b:UInt8):P8 (b.toNat:Int)=Bob (b.toNat:Int):=by have h:=Zg2.1 A2i b.toNat (List.mem_range.2 b.toNat_lt);exact of_decide_eq_true h
def Ait:Sig:=⟨49,[(0,.str),(2,.sl .byte true),(3,.int .i64),(4,.sl .byte true),(5,.int .i64)],[],[],0,0,0,[],[]⟩
abbrev Ur:=Str×List UInt8×Int×List UInt8×Int
def U9{R:Type}(rec:Ur->Option R)(kx:Ex->Ur->Option R)(v:Ur):Option R:=match v with
 |(v,v1,v2,v3,v4) =>
 cond (decide (v4<(v.length:Int))) (
  chk (inb v4 v.length) (
  chk (inb (wr .i64 (v4+1)) v.length) (
   cond (!((P8 (bat v v4)).2)) (
   kx .ret (v,[],11,v3,v4)) (
   cond (!((P8 (bat v (wr .i64 (v4+1)))).2)) (
    kx .ret (v,[],11,v3,v4)) (
    chk (decide (v3.length+1<=Am)) (
    rec (v,v1,v2,(v3++[(UInt8.ofNat ((ior .u8 (Bok .u8 ((P8 (bat v v4)).1) 4) ((P8 (bat v (wr .i64 (v4+1)))).1)):Int).toNat)]),(wr .i64 (v4+2))))))))) (
  kx (.exit 0) (v,v1,v2,v3,v4))
def Aus(R:Type)(k:Nat):Px R:=pxO [(193,cA Axd)] [] [(5,Aq k Ait (U9))] []
def Ajx(k:Nat)(x:HV [.str]):Option (HV [.sl .byte true,.int .i64]):=match x with
 |s =>
 cond (!decide ((Int.tmod (s.length:Int) 2)=0)) (
  some ([],11)) (
  Al (λrec=>U9 rec (λe vz=>match vz with|(_,v6,v7,v8,_)=>match e with
  |.ret =>some (v6,v7)
  |.exit 0 =>some (v8,0)
  |_=>none)) k (s,[],0,[],0))
theorem A7n(k:Nat):FO 176 [.str] [.sl .byte true,.int .i64] (Ajx k):=fR (px:=Aus _ k) (n:=1) Tryz.func176 rfl (λcx H=>by have h0:Lv cx (Aus (HV [.sl .byte true,.int .i64]) k):=lv H (c1 H A7h Af) Ab Aa;have hlunhex_0:=lO H h0 (b:=lp Tryz.f176 0) (k:=k) (n:=0) (s:=Ait) (step:=U9) (λ_ _ _ (_,_,_,_,_)=>by kernel_rfl) Ak;exact⟨h0,(Bq Ak hlunhex_0)⟩) λ_=>by kernel_rfl
def unP(s:Str):Str×Int:=match(if s.length % 2=0 then Lp.unGo s [] else none) with|some b=>(b,0)|none=>([],11)
def A4k(s:Str):Option (Str×Int):=if s.length<=1000000 then some (unP s) else none
def Ata:FT [.str] [.sl .byte true,.int .i64]:=λx=>A4k x
theorem Aj9{R:Type}{kx:Ex->Ur->Option R}{s:Str}{c:Option Str->Option R}(hs:s.length<=1000000)(h1:∀a j,kx .ret (s,[],11,a,j)=c none)(h2:∀q r a j,kx (.exit 0) (s,q,r,a,j)=c (some a)):∀(k i:Nat) (q:Str) (r:Int) (a:Str),a.length<=i->i<=s.length->(s.length-i) % 2=0->s.length-i<k->Al (λrec=>U9 rec kx) k (s,q,r,a,(i:Int))=c (Lp.unGo (s.drop (i:Int).toNat) a)
 |0,i,q,r,a,_,_,_,h=>absurd h (Zm1 _)
 |k+1,i,q,r,a,ha,hi,hev,h=>by
  rw[A3];by_cases hl:i<s.length
  ·have hl2:i+1<s.length:=by omega
   have hln:ln s.length:=by simp only[ln];omega
   have ea:decide (a.length+1<=Am)=true:=Ze1 (by simp only[Am];omega);have eb:Sx.byt s (i:Int)=(s[i].toNat:Int):=Cg hl;have eb2:Sx.byt s ((i:Int)+1)=(s[i+1].toNat:Int):=Cg hl2;have ew:wr .i64 ((i:Int)+2)=((i+1+1:Nat):Int):=by rw[Bi (by simp only[inI];omega)];omega
   simp only[U9,A7 hl,A0 hl hln,Cg hl,Cg hl2,A7 hl2,ea,ew,Bax];rw[Ze1 (show(i:Int)<(s.length:Int) by omega),Lp.un_step (by omega) (by omega),eb,eb2];simp only[Ae,chk,Bob];cases hx:Lp.hexD (s[i].toNat:Int) with
   |none=>exact h1 _ _
   |some x =>cases hy:Lp.hexD (s[i+1].toNat:Int) with|none=>exact h1 _ _|some y =>have ih:=Aj9 hs h1 h2 k (i+1+1) q r (a++[UInt8.ofNat (x*16+y).toNat]) (by simp only[Zh1,Zf1,Zi1];omega) (by omega) (by omega) (by omega);have ej:ior .u8 (Bok .u8 x 4) y=_:=Lp.joinhex' (Lp.hexD_lt hx) (Lp.hexD_lt hy);simp only[Zt1,Ah,ej,Akq];exact ih
  ·simp only[U9,h2];rw[Zd1 (by omega),Zk1 (by omega)];rfl
theorem Bco:FO 176 [.str] [.sl .byte true,.int .i64] Ata :=.fin 0 A7n λs r hb hx=>⟨s.length+1,by
 simp only[Ata,A4k] at hx;split at hx
 ·rename_i h;rw[<-hx];have et:Int.tmod (s.length:Int) 2=((s.length % 2:Nat):Int):=rfl;simp only[Ajx,et,unP];by_cases h2:s.length % 2=0
  ·rw[Ze1 (show((s.length % 2:Nat):Int)=0 by omega),if_pos h2,Zt1,Ah];refine(Aj9 (c:=λo=>match o with|some b=>some (b,(0:Int))|none=>some ([],11)) h (λ_ _ =>?_) (λ_ _ _ _ =>?_) (s.length+1) 0 [] 0 [] (Nat.zero_le _) (Nat.zero_le _) h2 (by omega)).trans ?_
   ·rfl
   ·rfl
   simp only[Int.toNat_natCast,Zq1];cases Lp.unGo s []<;>rfl
  ·rw[Zd1 (show ¬((s.length % 2:Nat):Int)=0 by omega),if_neg h2];rfl
 ·cases hx⟩
def Bgg(R:Type):Px R:=pxO [(44,cA Ay5)] [] [] []
def Yh(x:HV [.str]):Option (HV [.bool]):=match x with
 |s =>
 some (Aud wordsL s)
theorem A8w:FO 178 [.str] [.bool] (Yh):=fR (px:=Bgg _) (n:=0) Tryz.func178 rfl (λ_ H=>⟨lv H (c1 H A4c Af) Ab Aa,Ak⟩) λ_=>by kernel_rfl
def Zh(s:Str):Bool :=(Aud wordsL s)
theorem Bas(x:HV [.str]):Yh x=some (Zh x):=by
 first
  |exact rfl
  |simp only[Yh,Zh,Bm]
def A26:FT [.str] [.bool]:=λx=>some (Zh x)
theorem Bf5:FO 178 [.str] [.bool] A26 :=.fin0 A8w λx _ _ hx=>(Bas x).trans hx
theorem Aj5(s:Str):Zh s=Lp.wordF s:=A5m wordsL s
def Sq:Sig:=⟨21,[(0,.str),(1,.int .i64)],[(2,.fn 154 [])],[(0,.one (.sv .tok)),(1,.one (.sv .tok))],40,40,200,[],[]⟩
abbrev Hp:=Str×Int×Tok×Tok
def Ll{R:Type}(rec:Hp->Option R)(kx:Ex->Hp->Option R)(v:Hp):Option R:=match v with
 |(a,b,w4,w5) =>
 cond (decide (b<(a.length:Int))) (
  chk (inb b a.length) (
  cond ((Aaz (bat a b))) (
   rec (a,(wr .i64 (b+1)),w4,w5)) (
   kx (.exit 0) (a,b,w4,w5)))) (
  kx (.exit 0) (a,b,w4,w5))
def T3:Sig:=⟨21,[(0,.str),(1,.int .i64)],[(2,.fn 111 [])],[(0,.one (.sv .tok)),(1,.one (.sv .tok))],40,40,200,[],[]⟩
abbrev Hj:=Str×Int×Tok×Tok
def Mc{R:Type}(rec:Hj->Option R)(kx:Ex->Hj->Option R)(v:Hj):Option R:=match v with
 |(v6,v7,w2,w3) =>
 cond (decide (v7<(v6.length:Int))) (
  chk (inb v7 v6.length) (
  cond ((Ad6 (bat v6 v7))) (
   rec (v6,(wr .i64 (v7+1)),w2,w3)) (
   kx (.exit 0) (v6,v7,w2,w3)))) (
  kx (.exit 0) (v6,v7,w2,w3))
def S5:Sig:=⟨21,[(0,.str),(1,.int .i64)],[(2,.fn 177 [])],[(0,.one (.sv .tok)),(1,.one (.sv .tok))],40,40,200,[],[]⟩
abbrev Hm:=Str×Int×Tok×Tok
def Lr{R:Type}(rec:Hm->Option R)(kx:Ex->Hm->Option R)(v:Hm):Option R:=match v with
 |(v,v1,w,w1) =>
 cond (decide (v1<(v.length:Int))) (
  chk (inb v1 v.length) (
  cond ((Aec (bat v v1))) (
   rec (v,(wr .i64 (v1+1)),w,w1)) (
   kx (.exit 0) (v,v1,w,w1)))) (
  kx (.exit 0) (v,v1,w,w1))
def Ia(R:Type)(k:Nat):Px R:=pxO [(177,cA Ag7),(111,cA Ag2),(154,cA Agv)] [] [(1,Aag k S5 (Lr) (Aag k T3 (Mc) (Aq k Sq (Ll))))] []
noncomputable def Apt(R:Type)(k:Nat):Px R:=pxO [(175,cA A0o),(156,cA Ag9),(176,cA Ata),(177,cA Ag7),(178,cA A26),(179,cA As8),(109,cA Ahc),(63,cA Ri),(154,cA Agv),(180,cA Ajc),(181,cA Ahm),(95,cA Ajv),(182,cA Ar5),(110,Az 40 200 (Ia R k) Tryz.f110)] [] [] []
theorem Aw7(R:Type)(k:Nat):∀(fr:List Fr) (rec:Hm->Option R) (kx:Ex->Hm->Option R) (v:Hm),Abd (Ia R k) S5 (lp Tryz.f110 0) fr rec kx v=Lr rec kx v
 |fr,rec,kx,(v,v1,w,w1)=>by kernel_rfl
theorem At0(R:Type)(k:Nat):∀(fr:List Fr) (rec:Hj->Option R) (kx:Ex->Hj->Option R) (v:Hj),Abd (Ia R k) T3 (lp Tryz.f110 0) fr rec kx v=Mc rec kx v
 |fr,rec,kx,(v6,v7,w2,w3)=>by kernel_rfl
theorem Avj(R:Type)(k:Nat):∀(fr:List Fr) (rec:Hp->Option R) (kx:Ex->Hp->Option R) (v:Hp),Abd (Ia R k) Sq (lp Tryz.f110 0) fr rec kx v=Ll rec kx v
 |fr,rec,kx,(a,b,w4,w5)=>by kernel_rfl
def Sy(k:Nat)(x:HV [.str,.int .i64]):Option (HV [.sv .tok,.int .i64]):=match x with
 |(s,i) =>
 chk (inb i s.length) (
  chk (Di i s.length s.length) (
  cond ((hpre (s.drop (i:Int).toNat) [120,39])) (
   chk (Di (wr .i64 (i+2)) s.length s.length) (
   cond (decide ((Mt (s.drop ((wr .i64 (i+2)):Int).toNat) 39)<0)) (
    some ((Tok.mk 0 i [] 0),(-1))) (
    chk (Di (wr .i64 (i+2)) (wr .i64 ((wr .i64 (i+2))+(Mt (s.drop ((wr .i64 (i+2)):Int).toNat) 39))) s.length) (
    (A4k (cut s (wr .i64 (i+2)) (wr .i64 ((wr .i64 (i+2))+(Mt (s.drop ((wr .i64 (i+2)):Int).toNat) 39))))).bind λ(x,x1) =>
     cond (!decide (x1=0)) (
     some ((Tok.mk 5 i x 0),(-1))) (
     cond (decide (1000<(x.length:Int))) (
      some ((Tok.mk 5 i x 0),(-1))) (
      some ((Tok.mk 5 i x 0),(wr .i64 ((wr .i64 (i+3))+(Mt (s.drop ((wr .i64 (i+2)):Int).toNat) 39)))))))))) (
   cond ((Aec (bat s i))) (
   Al (λrec=>Lr rec (λe vz=>match vz with|(_,v3,_,v5)=>match e with
    |.exit 0 =>
    chk (Di i v3 s.length) (
     cond (!(Zh (cut s i v3))) (
     some ((Tok.mk 1 v5.pos (cut s i v3) v5.n),(-1))) (
     (W9 s v3).bind λx2 =>
      cond (!x2) (
      some ((Tok.mk 1 v5.pos (cut s i v3) v5.n),(-1))) (
      some ((Tok.mk 1 v5.pos (cut s i v3) v5.n),v3))))
    |_=>none)) k (s,i,(Tok.mk 0 0 [] 0),(Tok.mk 0 i [] 0))) (
   cond ((Y9 (bat s i))) (
    Al (λrec=>Mc rec (λe vz=>match vz with|(_,v9,_,b)=>match e with
    |.exit 0 =>
     chk (Di i v9 s.length) (
     cond (!(Be (cut s i v9))) (
      some ((Tok.mk 2 b.pos (cut s i v9) b.n),(-1))) (
      (W9 s v9).bind λx3 =>
      cond (!x3) (
       some ((Tok.mk 2 b.pos (cut s i v9) b.n),(-1))) (
       some ((Tok.mk 2 b.pos (cut s i v9) b.n),v9))))
    |_=>none)) k (s,i,(Tok.mk 0 0 [] 0),(Tok.mk 0 i [] 0))) (
    cond ((Aaz (bat s i))) (
    Al (λrec=>Ll rec (λe vz=>match vz with|(_,a,_,c)=>match e with
     |.exit 0 =>
     chk (Di i a s.length) (
      (Aq3 (cut s i a)).bind λ(x4,x5) =>
      chk (Di i a s.length) (
       cond (!x5) (
       some ((Tok.mk 3 c.pos (cut s i a) x4),(-1))) (
       (W9 s a).bind λx6 =>
        cond (!x6) (
        some ((Tok.mk 3 c.pos (cut s i a) x4),(-1))) (
        some ((Tok.mk 3 c.pos (cut s i a) x4),a)))))
     |_=>none)) k (s,i,(Tok.mk 0 0 [] 0),(Tok.mk 0 i [] 0))) (
    cond (decide ((bat s i)=39)) (
     (Ar8 s (wr .i64 (i+1))).bind λ(x7,x8) =>
     cond (!decide ((Jf (Val.mk 4 0 x7))=0)) (
      some ((Tok.mk 4 i x7 0),(-1))) (
      some ((Tok.mk 4 i x7 0),x8))) (
     chk (Di i s.length s.length) (
     (Bcz (s.drop (i:Int).toNat)).bind λx9 =>
      chk (Di i (wr .i64 (i+x9)) s.length) (
      cond (decide (x9=0)) (
       some ((Tok.mk 6 i (cut s i (wr .i64 (i+x9))) 0),(-1))) (
       some ((Tok.mk 6 i (cut s i (wr .i64 (i+x9))) 0),(wr .i64 (i+x9)))))))))))))
theorem Azw(k:Nat):FO 157 [.str,.int .i64] [.sv .tok,.int .i64] (Sy k):=fR (px:=Apt _ k) (n:=0) Tryz.func157 rfl (λcx H=>by have h1:Lv cx (Ia (HV [.sv .tok,.int .i64]) k):=lv H (c1 H Ako (c1 H Akd (c1 H Akk Af))) Ab Aa;have hlltoken_0:Dh cx (Ia (HV [.sv .tok,.int .i64]) k) (lp Tryz.f110 0):=A2y (λ_ _=>by kernel_rfl) (Ack (Ue h1.p h1.c h1.q (by rw[H.p];exact follows) (k:=k) (s:=S5) (step:=Lr) (by kernel_rfl) (Aw7 _ k) (Ob (n:=0) (by kernel_rfl) Ak)) (Ack (Ue h1.p h1.c h1.q (by rw[H.p];exact follows) (k:=k) (s:=T3) (step:=Mc) (by kernel_rfl) (At0 _ k) (Ob (n:=0) (by kernel_rfl) Ak)) (Ue h1.p h1.c h1.q (by rw[H.p];exact follows) (k:=k) (s:=Sq) (step:=Ll) (by kernel_rfl) (Avj _ k) (Ob (n:=0) (by kernel_rfl) Ak))));have h0:Lv cx (Apt (HV [.sv .tok,.int .i64]) k):=lv H (c1 H A3e (c1 H Ah9 (c1 H Bco (c1 H Ako (c1 H Bf5 (c1 H Bfv (c1 H Aht (c1 H Sp (c1 H Akk (c1 H Bam (c1 H A61 (c1 H Apa (c1 H Bdx (Au (cR H h1 Tryz.func110 rfl (n:=1) ((Bq Ak hlltoken_0))) Af)))))))))))))) Ab Aa;exact⟨h0,Ak⟩) λ(_,_)=>by kernel_rfl
def Ac4(s:Str)(i:Int):Option (Tok×Int):=if s.length<=20000 then Sy 20001 (s,i) else none
def Alu:FT [.str,.int .i64] [.sv .tok,.int .i64]:=λx=>Ac4 x.1 x.2
theorem A6v:FO 157 [.str,.int .i64] [.sv .tok,.int .i64] Alu :=.fin 0 Azw λ(s,i) r hb hx=>⟨20001,by
 simp only[Alu,Ac4] at hx;split at hx
 ·exact hx
 ·cases hx⟩
theorem Xg{R:Type}{kx:Ex->Hm->Option R}{s:Str}(w w1:Tok){a:Int->Option R}(hs:ln s.length)(h1:∀j,kx (.exit 0) (s,j,w,w1)=a j):∀(k i:Nat),i<=s.length->s.length-i<k->Al (λrec=>Lr rec kx) k (s,(i:Int),w,w1)=a (Lp.runTo Lp.isUp s i)
 |0,i,_,h=>absurd h (Zm1 _)
 |k+1,i,hi,h=>by
  rw[A3];by_cases hl:i<s.length
  ·have ih:=Xg w w1 hs h1 k (i+1) (by omega) (by omega);have eb:Sx.byt s (i:Int)=(s[i].toNat:Int):=Cg hl;simp only[Lr,A0 hl hs,ih,h1,Cg hl,A7 hl,Aje];rw[Ze1 (show(i:Int)<(s.length:Int) by omega)];cases hp:Lp.isUp (s[i].toNat:Int) with|true =>have:=Lp.runTo_yes (p:=Lp.isUp) (l:=s) (j:=i) (by omega) (by rw[eb];exact hp);rw[<-this];rfl|false =>have:=Lp.runTo_no (p:=Lp.isUp) (l:=s) (j:=i) (by omega) (by rw[eb];exact hp);rw[this];rfl
  ·have:=Lp.runTo_end (p:=Lp.isUp) (l:=s) (j:=i) (by omega);simp only[Lr,h1];rw[Zd1 (by omega),this];rfl
theorem W8{R:Type}{kx:Ex->Hj->Option R}{s:Str}(w w1:Tok){a:Int->Option R}(hs:ln s.length)(h1:∀j,kx (.exit 0) (s,j,w,w1)=a j):∀(k i:Nat),i<=s.length->s.length-i<k->Al (λrec=>Mc rec kx) k (s,(i:Int),w,w1)=a (Lp.runTo Lp.isIn s i)
 |0,i,_,h=>absurd h (Zm1 _)
 |k+1,i,hi,h=>by
  rw[A3];by_cases hl:i<s.length
  ·have ih:=W8 w w1 hs h1 k (i+1) (by omega) (by omega);have eb:Sx.byt s (i:Int)=(s[i].toNat:Int):=Cg hl;simp only[Mc,A0 hl hs,ih,h1,Cg hl,A7 hl,Ak2];rw[Ze1 (show(i:Int)<(s.length:Int) by omega)];cases hp:Lp.isIn (s[i].toNat:Int) with|true =>have:=Lp.runTo_yes (p:=Lp.isIn) (l:=s) (j:=i) (by omega) (by rw[eb];exact hp);rw[<-this];rfl|false =>have:=Lp.runTo_no (p:=Lp.isIn) (l:=s) (j:=i) (by omega) (by rw[eb];exact hp);rw[this];rfl
  ·have:=Lp.runTo_end (p:=Lp.isIn) (l:=s) (j:=i) (by omega);simp only[Mc,h1];rw[Zd1 (by omega),this];rfl
theorem Xm{R:Type}{kx:Ex->Hp->Option R}{s:Str}(w w1:Tok){a:Int->Option R}(hs:ln s.length)(h1:∀j,kx (.exit 0) (s,j,w,w1)=a j):∀(k i:Nat),i<=s.length->s.length-i<k->Al (λrec=>Ll rec kx) k (s,(i:Int),w,w1)=a (Lp.runTo Lp.isDi s i)
 |0,i,_,h=>absurd h (Zm1 _)
 |k+1,i,hi,h=>by
  rw[A3];by_cases hl:i<s.length
  ·have ih:=Xm w w1 hs h1 k (i+1) (by omega) (by omega);have eb:Sx.byt s (i:Int)=(s[i].toNat:Int):=Cg hl;simp only[Ll,A0 hl hs,ih,h1,Cg hl,A7 hl,Aii];rw[Ze1 (show(i:Int)<(s.length:Int) by omega)];cases hp:Lp.isDi (s[i].toNat:Int) with|true =>have:=Lp.runTo_yes (p:=Lp.isDi) (l:=s) (j:=i) (by omega) (by rw[eb];exact hp);rw[<-this];rfl|false =>have:=Lp.runTo_no (p:=Lp.isDi) (l:=s) (j:=i) (by omega) (by rw[eb];exact hp);rw[this];rfl
  ·have:=Lp.runTo_end (p:=Lp.isDi) (l:=s) (j:=i) (by omega);simp only[Ll,h1];rw[Zd1 (by omega),this];rfl
theorem Ge{i j:Int}{n:Nat}(h : 0<=i/\i<=j/\j<=n):Di i j n=true:=by simp[Di,h]
theorem A1v{n:Int}(h : 0<=n/\n<=1000000):wr .i64 n=n:=Bi (by simp only[inI];omega)
theorem A8z{x:Str}(h:x≠[]):Aq3 x=some (Bb6 x):=by cases x with|nil=>exact absurd rfl h|cons b l=>rfl
theorem Bhh{x:Str}(h:x≠[]):Bcz x=some (Lp.signF x):=by cases x with|nil=>exact absurd rfl h|cons b l=>rfl
theorem Ahp{s:Str}{i:Int}(h : 0<=i/\i<=s.length):W9 s i=some (Lp.aloneF s i):=if_pos h
theorem A1i(x:Str):Gt x=Lp.visF x:=by
 have e:∀b:UInt8,vis b=Lp.vis (b.toNat:Int):=λb=>by simp only[vis,Lp.vis];rw[show decide (32<=b.toNat)=decide (32<=(b.toNat:Int)) from Zy1.2 (by omega),show decide (b.toNat<=126)=decide ((b.toNat:Int)<=126) from Zy1.2 (by omega)]
 simp only[Gt,Lp.visF];congr 1;funext b;exact e b
theorem Aul(x:Str):B7 (Val.mk 4 0 x)=Lp.rightF 4 0 x:=by show cond (decide ((x.length:Int)<=1000)) (Gt x) false=(decide ((x.length:Int)<=1000)&&Lp.visF x);rw[A1i];cases decide ((x.length:Int)<=1000)<;>rfl
theorem Auh(x:Str):decide (Jf (Val.mk 4 0 x)=0)=Lp.rightF 4 0 x:=by
 have key:∀b:Bool,decide (cond (!b) (2:Int) 0=0)=b:=by decide
 rw[<-Aul];exact key _
theorem A06{s:Str}{i:Int}(hl : 0<=i/\i<s.length)(hs:s.length<=20000):match Lp.tokF s i with
  |some (k,x,n,e)=>Ac4 s i=some (⟨k,i,x,n⟩,e)
  |none=>∃t,Ac4 s i=some (t, -1):=by
 have hln:ln s.length:=by simp only[ln];omega
 have hd:(s.drop i.toNat).length=s.length-i.toNat:=Za2;have hd2:(s.drop (i+2).toNat).length=s.length-(i+2).toNat:=Za2;have hne:s.drop i.toNat≠[]:=List.ne_nil_of_length_pos (by omega);obtain⟨m,rfl⟩:=Int.eq_ofNat_of_zero_le hl.1;have hm:m<s.length:=by omega
 have ep:∀p q,hpre p q=Lp.pre p q:=λ_ _=>rfl;have eb:bat s (m:Int)=Sx.byt s (m:Int):=rfl;have e39:Mt (s.drop ((m:Int)+2).toNat) 39=Lib.indexByte (s.drop ((m:Int)+2).toNat) 39:=rfl;simp only[Ac4,if_pos hs,Sy,A7 hm,Ge (show 0<=(m:Int)/\(m:Int)<=(s.length:Int)/\(s.length:Int)<=s.length by omega),ep,eb,Aje,Akx,Aii,chk,Ae,Lp.tokF,A1v (show 0<=(m:Int)+2/\(m:Int)+2<=1000000 by omega),A1v (show 0<=(m:Int)+3/\(m:Int)+3<=1000000 by omega),A1v (show 0<=(m:Int)+1/\(m:Int)+1<=1000000 by omega)];cases hx:Lp.pre (s.drop (m:Int).toNat) [120,39] with
 |true =>
  have h2 : 2<=(s.drop (m:Int).toNat).length:=by simp only[Lp.pre,Zb1,Zg1,Zf1,Zi1] at hx;omega
  have hib:=Lp.indexByte_in (s.drop ((m:Int)+2).toNat) 39;simp only[if_true,Ae];rw[Ge (show 0<=(m:Int)+2/\(m:Int)+2<=(s.length:Int)/\(s.length:Int)<=s.length by omega),e39,Ae];generalize Lib.indexByte (s.drop ((m:Int)+2).toNat) 39=z at hib ⊢;by_cases hz:z<0
  ·rw[if_pos hz,Ze1 hz];exact⟨_,rfl⟩
  ·rw[if_neg hz,Zd1 hz,A1v (show 0<=(m:Int)+2+z/\(m:Int)+2+z<=1000000 by omega),A1v (show 0<=(m:Int)+3+z/\(m:Int)+3+z<=1000000 by omega),Ge (show 0<=(m:Int)+2/\(m:Int)+2<=(m:Int)+2+z/\(m:Int)+2+z<=s.length by omega),Ah,Ae];have hcl:=Lp.cut_length s ((m:Int)+2) ((m:Int)+2+z) (by omega);have ec:cut s ((m:Int)+2) ((m:Int)+2+z)=Sx.cut s ((m:Int)+2) ((m:Int)+2+z):=rfl;rw[ec];generalize Sx.cut s ((m:Int)+2) ((m:Int)+2+z)=y at hcl ⊢;have eu:A4k y=some (unP y):=if_pos (by omega);rw[eu,unP];cases (if y.length % 2=0 then Lp.unGo y [] else none) with
   |none=>exact⟨_,rfl⟩
   |some b =>
    by_cases hb : 1000<(b.length:Int)
    ·simp only[Zc1];rw[if_pos hb,Ze1 hb];exact⟨_,rfl⟩
    ·simp only[Zc1];rw[if_neg hb,Zd1 hb];rfl
 |false =>
  simp only[Ah,Zj2,if_false];cases hu:Lp.isUp (Sx.byt s (m:Int)) with
  |true =>
   have hr:=Lp.runTo_range Lp.isUp s m (by omega);simp only[Ae,if_true];rw[Xg (s:=s) (w:=Tok.mk 0 0 [] 0) (w1:=Tok.mk 0 m [] 0) (a:=λv3=>cond (Di (m:Int) v3 s.length) (cond (!(Zh (cut s m v3))) (some ((Tok.mk 1 m (cut s m v3) 0),(-1))) ((W9 s v3).bind λx2=>cond (!x2) (some ((Tok.mk 1 m (cut s m v3) 0),(-1))) (some ((Tok.mk 1 m (cut s m v3) 0),v3)))) none) hln (λ_=>rfl) 20001 m (by omega) (by omega)];rw[Ge (by omega),Ahp (by omega),Aj5];have ec:cut s (m:Int) (Lp.runTo Lp.isUp s m)=Sx.cut s (m:Int) (Lp.runTo Lp.isUp s m):=rfl;rw[ec];cases Lp.wordF (Sx.cut s (m:Int) (Lp.runTo Lp.isUp s m)) with
   |false=>exact⟨_,rfl⟩
   |true =>cases Lp.aloneF s (Lp.runTo Lp.isUp s m) with|false=>exact⟨_,rfl⟩|true=>rfl
  |false =>
   simp only[Ah,Zj2,if_false];cases hu2:Lp.isLo (Sx.byt s (m:Int)) with
   |true =>
    have hr:=Lp.runTo_range Lp.isIn s m (by omega);simp only[Ae,if_true];rw[W8 (s:=s) (w:=Tok.mk 0 0 [] 0) (w1:=Tok.mk 0 m [] 0) (a:=λv3=>cond (Di (m:Int) v3 s.length) (cond (!(Be (cut s m v3))) (some ((Tok.mk 2 m (cut s m v3) 0),(-1))) ((W9 s v3).bind λx2=>cond (!x2) (some ((Tok.mk 2 m (cut s m v3) 0),(-1))) (some ((Tok.mk 2 m (cut s m v3) 0),v3)))) none) hln (λ_=>rfl) 20001 m (by omega) (by omega)];rw[Ge (by omega),Ahp (by omega)];have ec:cut s (m:Int) (Lp.runTo Lp.isIn s m)=Sx.cut s (m:Int) (Lp.runTo Lp.isIn s m):=rfl;rw[ec];simp only[Be];cases Lp.nameF (Sx.cut s (m:Int) (Lp.runTo Lp.isIn s m)) with
    |false=>exact⟨_,rfl⟩
    |true =>cases Lp.aloneF s (Lp.runTo Lp.isIn s m) with|false=>exact⟨_,rfl⟩|true=>rfl
   |false =>
    simp only[Ah,Zj2,if_false];cases hu3:Lp.isDi (Sx.byt s (m:Int)) with
    |true =>
     have hr:=Lp.runTo_range Lp.isDi s m (by omega);have hg:=Lp.runTo_gt (p:=Lp.isDi) (by omega) hu3;have hcl:=Lp.cut_length s (m:Int) (Lp.runTo Lp.isDi s m) (by omega);simp only[Ae,if_true];rw[Xm (s:=s) (w:=Tok.mk 0 0 [] 0) (w1:=Tok.mk 0 m [] 0) (a:=λv3=>cond (Di (m:Int) v3 s.length) ((Aq3 (cut s m v3)).bind λ(x4,x5)=>cond (Di (m:Int) v3 s.length) (cond (!x5) (some ((Tok.mk 3 m (cut s m v3) x4),(-1))) ((W9 s v3).bind λx6=>cond (!x6) (some ((Tok.mk 3 m (cut s m v3) x4),(-1))) (some ((Tok.mk 3 m (cut s m v3) x4),v3)))) none) none) hln (λ_=>rfl) 20001 m (by omega) (by omega)];have ec:cut s (m:Int) (Lp.runTo Lp.isDi s m)=Sx.cut s (m:Int) (Lp.runTo Lp.isDi s m):=rfl;rw[Ge (by omega),Ahp (by omega),ec];generalize Sx.cut s (m:Int) (Lp.runTo Lp.isDi s m)=y at hcl ⊢;rw[A8z (List.ne_nil_of_length_pos (by omega)),Bb6];cases Lp.numGo y 0 with
     |none=>exact⟨_,rfl⟩
     |some n =>
      simp only[Zc1,Ae];have e0:(decide (y=[48]) || !decide (bat y 0=48))=(decide (y=[48])||Sx.byt y 0 != 48):=rfl;rw[e0];cases (decide (y=[48])||Sx.byt y 0 != 48) with
      |false=>exact⟨_,rfl⟩
      |true =>cases Lp.aloneF s (Lp.runTo Lp.isDi s m) with|false=>exact⟨_,rfl⟩|true=>rfl
    |false =>
     simp only[Ah,Zj2,if_false];by_cases h39:Sx.byt s (m:Int)=39
     ·have hqi:=Lp.qGo_in _ (s.drop ((m:Int)+1).toNat) [] ((m:Int)+1) (Zn1 _) (by omega);have eq:Ar8 s ((m:Int)+1)=some (Lp.qGo (s.drop ((m:Int)+1).toNat) [] ((m:Int)+1)):=if_pos (by omega);rw[Ze1 h39,if_pos h39,eq];simp only[Ae,Zc1,Auh];generalize Lp.qGo (s.drop ((m:Int)+1).toNat) [] ((m:Int)+1)=q at hqi ⊢;obtain⟨y,z⟩:=q;cases Lp.rightF 4 0 y with
      |false=>exact⟨_,rfl⟩
      |true =>
       simp only[if_true,Zt1,Ah];by_cases hz:z<0
       ·rw[if_pos hz];obtain rfl:z = -1:=by simp only at hqi;omega
        exact⟨_,rfl⟩
       ·rw[if_neg hz]
     ·have hsi:=Lp.signF_in (s.drop (m:Int).toNat) (by omega);rw[Zd1 h39,if_neg h39,Bhh hne];simp only[Ah,Zc1];generalize Lp.signF (s.drop (m:Int).toNat)=z at hsi ⊢;rw[A1v (show 0<=(m:Int)+z/\(m:Int)+z<=1000000 by omega),Ge (by omega)];by_cases hz:z=0
      ·rw[Ze1 hz,if_pos hz];exact⟨_,rfl⟩
      ·rw[Zd1 hz,if_neg hz];rfl
def Apb:Sig:=⟨38,[(0,.str),(2,.sl .tok true),(3,.int .i64),(4,.int .i64),(5,.sl .tok true),(6,.int .i64)],[],[],0,0,0,[],[]⟩
abbrev Zv:=Str×List Tok×Int×Int×List Tok×Int
def Adp{R:Type}(rec:Zv->Option R)(kx:Ex->Zv->Option R)(v:Zv):Option R:=match v with
 |(v,v1,v2,v3,v4,v5) =>
 cond (decide (v5<(v.length:Int))) (
  chk (inb v5 v.length) (
  cond (decide (0<=(Mt [32,9,10,13] (bat v v5)))) (
   rec (v,v1,v2,v3,v4,(wr .i64 (v5+1)))) (
   (Ac4 v v5).bind λ(x,x1) =>
   cond (decide (x1<0)) (
    kx .ret (v,[],v5,11,v4,v5)) (
    chk (decide (v4.length+1<=Am)) (
    rec (v,v1,v2,v3,(v4++[x]),x1)))))) (
  kx (.exit 0) (v,v1,v2,v3,v4,v5))
def A2w(R:Type)(k:Nat):Px R:=pxO [(156,cA Ag9),(157,cA Alu)] [] [(5,Aq k Apb (Adp))] []
def Amt(k:Nat)(x:HV [.str]):Option (HV [.sl .tok true,.int .i64,.int .i64]):=match x with
 |s =>
 cond (decide (20000<(s.length:Int))) (
  some ([],0,3)) (
  Al (λrec=>Adp rec (λe vz=>match vz with|(_,v7,v8,v9,a,_)=>match e with
  |.ret =>some (v7,v8,v9)
  |.exit 0 =>some (a,0,0)
  |_=>none)) k (s,[],0,0,[],0))
theorem Bcr(k:Nat):FO 116 [.str] [.sl .tok true,.int .i64,.int .i64] (Amt k):=fR (px:=A2w _ k) (n:=1) Tryz.func116 rfl (λcx H=>by have h0:Lv cx (A2w (HV [.sl .tok true,.int .i64,.int .i64]) k):=lv H (c1 H Ah9 (c1 H A6v Af)) Ab Aa;have hllall_0:=lO H h0 (b:=lp Tryz.f116 0) (k:=k) (n:=0) (s:=Apb) (step:=Adp) (λ_ _ _ (_,_,_,_,_,_)=>by kernel_rfl) Ak;exact⟨h0,(Bq Ak hllall_0)⟩) λ_=>by kernel_rfl
def A11(s:Str):List Tok×Int×Int:=if 20000<(s.length:Int) then([],0,3) else match Lp.allF s with|.error i=>([],i,11)|.ok ts=>(ts,0,0)
abbrev Jt(s:Str):List Tok×Int×Int:=A11 s
def Aq8:FT [.str] [.sl .tok true,.int .i64,.int .i64]:=λx=>some (Jt x)
theorem Bhe(c:Int):decide (0<=Mt [32,9,10,13] c)=Lp.blankF c:=rfl
theorem Acw{R:Type}{kx:Ex->Zv->Option R}{s:Str}{c:Except Int (List Tok)->Option R}(hs:s.length<=20000)(h1:∀a i j,kx .ret (s,[],i,11,a,j)=c (.error i))(h2:∀q r t a j,kx (.exit 0) (s,q,r,t,a,j)=c (.ok a)):∀(k:Nat) (i:Int) (f:Nat) (q:List Tok) (r t:Int) (a:List Tok),(a.length:Int)<=i->0<=i->i<=s.length->(s.length:Int)-i<k->(s.length:Int)-i<f->Al (λrec=>Adp rec kx) k (s,q,r,t,a,i)=c (Lp.allGo f s i a)
 |0,i,f,q,r,t,a,_,_,_,h,_=>by omega
 |k+1,i,0,q,r,t,a,_,_,_,_,h=>by omega
 |k+1,i,f+1,q,r,t,a,ha,h0,hi,h,hf=>by
  rw[A3];by_cases hl:i<s.length
  ·have ea:decide (a.length+1<=Am)=true:=Ze1 (by simp only[Am];omega);have eb:bat s i=Sx.byt s i:=rfl;simp only[Adp,Tr (show 0<=i/\i<(s.length:Int) from⟨h0,hl⟩),Bhe,ea,eb,Lp.allGo];rw[Ze1 hl,if_neg (show ¬(s.length:Int)<=i by omega)];simp only[Ae,chk];cases hbl:Lp.blankF (Sx.byt s i) with
   |true =>rw[A1v (by omega)];simp only[Ae,if_true];exact Acw hs h1 h2 k (i+1) f q r t a (by omega) (by omega) (by omega) (by omega) (by omega)
   |false =>have ht:=A06 (s:=s) (i:=i) ⟨h0,hl⟩ hs;simp only[Ah,Zj2,if_false];cases hk:Lp.tokF s i with|none =>rw[hk] at ht;obtain⟨u,hu⟩:=ht;rw[hu];exact h1 _ _ _|some y =>obtain⟨y1,y2,y3,e⟩:=y;rw[hk] at ht;have hte:=Lp.tok_end ⟨h0,hl⟩ hk;simp only at ht;rw[ht];simp only[Zc1];rw[Zd1 (show ¬e<0 by omega),Ah];exact Acw hs h1 h2 k e f q r t (a++[⟨y1,i,y2,y3⟩]) (by simp only[Zh1,Zf1,Zi1];omega) (by omega) (by omega) (by omega) (by omega)
  ·simp only[Adp,h2,Lp.allGo];rw[Zd1 hl,if_pos (show(s.length:Int)<=i by omega)];rfl
theorem A3a:FO 116 [.str] [.sl .tok true,.int .i64,.int .i64] Aq8 :=.fin 0 Bcr λs r hb hx=>⟨20001,by
 simp only[Aq8,Za1] at hx;rw[<-hx];simp only[Amt,Jt,A11];by_cases hbig : 20000<(s.length:Int)
 ·rw[Ze1 hbig,if_pos hbig];rfl
 ·rw[Zd1 hbig,if_neg hbig,Ah];refine(Acw (s:=s) (c:=λo=>match o with|.error i=>some ([],i,(11:Int))|.ok ts=>some (ts,(0:Int),(0:Int))) (by omega) (λ_ _ _ =>?_) (λ_ _ _ _ _ =>?_) 20001 0 (s.length+1) [] 0 0 [] (by simp) (by omega) (by omega) (by omega) (by omega)).trans ?_
  ·rfl
  ·rfl
  ·show _=some (match Lp.allGo (s.length+1) s 0 [] with|.error i=>([],i,(11:Int))|.ok ts=>(ts,(0:Int),(0:Int)));cases Lp.allGo (s.length+1) s 0 []<;>rfl⟩
def Jv:Sig:=⟨1,[],[(0,.ptr 0 0)],[(0,.cells [.sl .tok false,.int .i64,.bool,.int .i64])],1,1,0,[],[]⟩
def J1:Sig:=⟨1,[(0,.sv .tok)],[],[(0,.cells [.sl .tok false,.int .i64,.bool,.int .i64])],1,1,0,[],[]⟩
abbrev A5a:=List Tok×Int×Bool×Int
abbrev A5q:=Tok×List Tok×Int×Bool×Int
def Bew(R:Type):Px R:=pxO [] [] [] []
def X5(x:A5a):Option (A5q):=match x with
 |(l,n,b,p) =>
 cond (decide ((l.length:Int)=0)) (
  some ((Tok.mk 0 n [] 0),l,n,b,p)) (
  chk (inb 0 l.length) (
  some ((at' .tok l 0),l,n,b,p)))
theorem A78:FM 158 Jv J1 (X5):=fRL (px:=Bew _) (n:=0) Tryz.func158 rfl (λ_ H=>⟨lv H Af Ab Aa,Ak⟩) λ(_,_,_,_)=>by kernel_rfl
def Ev:A5a->Option A5q:=λx=>X5 x
theorem Pq:FM 158 Jv J1 (Ev):=A78
def Lg:Sig:=⟨1,[],[(0,.ptr 0 0)],[(0,.cells [.sl .tok false,.int .i64,.bool,.int .i64])],1,1,0,[],[]⟩
def L6:Sig:=⟨1,[(0,.sv .tok)],[],[(0,.cells [.sl .tok false,.int .i64,.bool,.int .i64])],1,1,0,[],[]⟩
abbrev A36:=List Tok×Int×Bool×Int
abbrev A3j:=Tok×List Tok×Int×Bool×Int
def Bc3(R:Type):Px R:=pxO [(158,Aj Jv J1 Ev)] [] [] []
def Xu(x:A36):Option (A3j):=match x with
 |(l,n,b,p) =>
 (Ev (l,n,b,p)).bind λ(x,x1,x2,x3,x4) =>
  cond (decide (0<(x1.length:Int))) (
  chk (Di 1 x1.length x1.length) (
   some (x,(x1.drop (1:Int).toNat),x2,x3,x4))) (
  some (x,x1,x2,x3,x4))
theorem A8g:FM 159 Lg L6 (Xu):=fRL (px:=Bc3 _) (n:=0) Tryz.func159 rfl (λ_ H=>⟨lv H (l1 H Pq Af) Ab Aa,Ak⟩) λ(_,_,_,_)=>by kernel_rfl
def Ch:A36->Option A3j:=λx=>Xu x
theorem S9:FM 159 Lg L6 (Ch):=A8g
def Em:Sig:=⟨2,[(1,.str)],[(0,.ptr 0 0)],[(0,.cells [.sl .tok false,.int .i64,.bool,.int .i64])],1,1,0,[],[]⟩
def Ej:Sig:=⟨1,[(0,.bool)],[],[(0,.cells [.sl .tok false,.int .i64,.bool,.int .i64])],1,1,0,[],[]⟩
abbrev Bmd:=Str×List Tok×Int×Bool×Int
abbrev Bl8:=Bool×List Tok×Int×Bool×Int
def Bn9(R:Type):Px R:=pxO [(158,Aj Jv J1 Ev),(159,Aj Lg L6 Ch)] [] [] []
def Y5(x:Bmd):Option (Bl8):=match x with
 |(s,l,n,b,p) =>
 (Ev (l,n,b,p)).bind λ(x,x1,x2,x3,x4) =>
  cond (!decide (x.kind=1)) (
  cond (!decide (x.kind=6)) (
   some (false,x1,x2,x3,x4)) (
   cond (!decide (x.s=s)) (
   some (false,x1,x2,x3,x4)) (
   (Ch (x1,x2,x3,x4)).bind λ(_,a,c,d,e) =>some (true,a,c,d,e)))) (
  cond (!decide (x.s=s)) (
   some (false,x1,x2,x3,x4)) (
   (Ch (x1,x2,x3,x4)).bind λ(_,f,g,h,i) =>
   some (true,f,g,h,i)))
theorem Bk4:FM 117 Em Ej (Y5):=fRL (px:=Bn9 _) (n:=0) Tryz.func117 rfl (λ_ H=>⟨lv H (l1 H Pq (l1 H S9 Af)) Ab Aa,Ak⟩) λ(_,_,_,_,_)=>by kernel_rfl
def Ao:Bmd->Option Bl8:=λx=>Y5 x
theorem Fs:FM 117 Em Ej (Ao):=Bk4
def H1:Sig:=⟨1,[],[(0,.ptr 0 0)],[(0,.cells [.sl .tok false,.int .i64,.bool,.int .i64])],1,1,0,[],[]⟩
def H0:Sig:=⟨0,[],[],[(0,.cells [.sl .tok false,.int .i64,.bool,.int .i64])],1,1,0,[],[]⟩
abbrev Aue:=List Tok×Int×Bool×Int
abbrev At3:=List Tok×Int×Bool×Int
def A62(R:Type):Px R:=pxO [(158,Aj Jv J1 Ev)] [] [] []
def Uf(x:Aue):Option (At3):=match x with
 |(l,n,b,p) =>
 cond (!b) (
  (Ev (l,n,b,p)).bind λ(x,x1,x2,_,_) =>
  some (x1,x2,true,x.pos)) (
  some (l,n,b,p))
theorem Ayk:FM 127 H1 H0 (Uf):=fRL (px:=A62 _) (n:=0) Tryz.func127 rfl (λ_ H=>⟨lv H (l1 H Pq Af) Ab Aa,Ak⟩) λ(_,_,_,_)=>by kernel_rfl
def Cm:Aue->Option At3:=λx=>Uf x
theorem La:FM 127 H1 H0 (Cm):=Ayk
def Eu:Sig:=⟨2,[(1,.sl .str false)],[(0,.ptr 0 0)],[(0,.cells [.sl .tok false,.int .i64,.bool,.int .i64])],1,1,0,[],[]⟩
def E4:Sig:=⟨0,[],[],[(0,.cells [.sl .tok false,.int .i64,.bool,.int .i64])],1,1,0,[],[]⟩
abbrev A23:=List Str×List Tok×Int×Bool×Int
abbrev Asj:=List Tok×Int×Bool×Int
def Aiw:Sig:=⟨27,[(6,.sl .str false),(7,.int .i64),(8,.int .i64)],[(0,.ptr 0 0)],[(0,.cells [.sl .tok false,.int .i64,.bool,.int .i64])],1,1,0,[],[]⟩
abbrev Wd:=List Str×Int×Int×List Tok×Int×Bool×Int
def Rc{R:Type}(rec:Wd->Option R)(kx:Ex->Wd->Option R)(v:Wd):Option R:=match v with
 |(v,v1,v2,w,w1,w2,w3) =>
 cond (decide (v2<v1)) (
  chk (inb v2 v.length) (
  let j:=λ(p2:Bool) (q4:List Tok) (q5:Int) (q6:Bool) (q7:Int) =>
   cond (p2) (
   (Cm (q4,q5,q6,q7)).bind λ(x5,x6,x7,x8) =>kx .ret (v,v1,v2,x5,x6,x7,x8)) (
   rec (v,v1,(wr .i64 (v2+1)),q4,q5,q6,q7))
  cond (w2) (
   j true w w1 w2 w3) (
   (Ao ((at' .str v v2),w,w1,w2,w3)).bind λ(x,x1,x2,x3,x4) =>
   j (!x) x1 x2 x3 x4))) (
  kx (.exit 0) (v,v1,v2,w,w1,w2,w3))
def Awv(R:Type)(k:Nat):Px R:=pxO [(117,Aj Em Ej Ao),(127,Aj H1 H0 Cm)] [] [(1,Aq k Aiw (Rc))] []
def L4(k:Nat)(x:A23):Option (Asj):=match x with
 |(ss,l,n,b,p) =>
 Al (λrec=>Rc rec (λe vz=>match vz with|(_,_,_,v6,v7,v8,v9)=>match e with
  |.ret =>
  some (v6,v7,v8,v9)
  |.exit 0 =>
  some (v6,v7,v8,v9)
  |_=>none)) k (ss,(ss.length:Int),0,l,n,b,p)
theorem A7q(k:Nat):FM 119 Eu E4 (L4 k):=fRL (px:=Awv _ k) (n:=1) Tryz.func119 rfl (λcx H=>by have h0:Lv cx (Awv (Asj) k):=lv H (l1 H Fs (l1 H La Af)) Ab Aa;have hlpmust_0:=lO H h0 (b:=lp Tryz.f119 0) (k:=k) (n:=0) (s:=Aiw) (step:=Rc) (λ_ _ _ (_,_,_,_,_,_,_)=>by kernel_rfl) Ak;exact⟨h0,(Bq Ak hlpmust_0)⟩) λ(_,_,_,_,_)=>by kernel_rfl
def Ai:A23->Option Asj:=λx=>L4 ((x.1.length+1)) x
theorem Gp:FM 119 Eu E4 (Ai):=FnLn.fin (ι:=Nat) (sg:=Eu) (so:=E4) 0 (F:=λk=>L4 k) (λk=>A7q k) λx _ _ hx=>⟨(x.1.length+1),hx⟩
def Gi:Sig:=⟨1,[],[(0,.ptr 0 0)],[(0,.cells [.sl .tok false,.int .i64,.bool,.int .i64])],1,1,0,[],[]⟩
def Gg:Sig:=⟨1,[(0,.str)],[],[(0,.cells [.sl .tok false,.int .i64,.bool,.int .i64])],1,1,0,[],[]⟩
abbrev A4z:=List Tok×Int×Bool×Int
abbrev A4t:=Str×List Tok×Int×Bool×Int
def Bbp(R:Type):Px R:=pxO [(158,Aj Jv J1 Ev),(127,Aj H1 H0 Cm),(159,Aj Lg L6 Ch)] [] [] []
def Ma(x:A4z):Option (A4t):=match x with
 |(l,n,b,p) =>
 (Ev (l,n,b,p)).bind λ(x,x1,x2,x3,x4) =>
  let j:=λ(p2:Bool) =>
  cond (p2) (
   (Cm (x1,x2,x3,x4)).bind λ(x5,x6,x7,x8) =>
   some ([],x5,x6,x7,x8)) (
   (Ch (x1,x2,x3,x4)).bind λ(x9,a,c,d,e) =>
   some (x9.s,a,c,d,e))
  cond (x3) (
  j true) (
  j (!decide (x.kind=2)))
theorem A9m:FM 120 Gi Gg (Ma):=fRL (px:=Bbp _) (n:=0) Tryz.func120 rfl (λ_ H=>⟨lv H (l1 H Pq (l1 H La (l1 H S9 Af))) Ab Aa,Ak⟩) λ(_,_,_,_)=>by kernel_rfl
def Av:A4z->Option A4t:=λx=>Ma x
theorem I2:FM 120 Gi Gg (Av):=A9m
def C3:Sig:=⟨1,[],[(0,.ptr 0 0)],[(0,.cells [.sl .tok false,.int .i64,.bool,.int .i64])],1,1,0,[],[]⟩
def C4:Sig:=⟨1,[(0,.sv .expr)],[],[(0,.cells [.sl .tok false,.int .i64,.bool,.int .i64])],1,1,0,[],[]⟩
abbrev Ay:=List Tok×Int×Bool×Int
abbrev Aw:=Xpr×List Tok×Int×Bool×Int
def Ad3:Sig:=⟨1,[],[(0,.ptr 0 0)],[(0,.cells [.sl .tok false,.int .i64,.bool,.int .i64])],1,1,0,[],[]⟩
def Adl:Sig:=⟨1,[(0,.sv .expr)],[],[(0,.cells [.sl .tok false,.int .i64,.bool,.int .i64])],1,1,0,[],[]⟩
abbrev Axq:=List Tok×Int×Bool×Int
abbrev Aat:=Xpr×List Tok×Int×Bool×Int
def Aga(R:Type)(_rf:Ay->Option Aw):Px R:=pxO [(159,Aj Lg L6 Ch)] [] [] []
noncomputable def Am8(R:Type)(rf:Ay->Option Aw):Px R:=pxO [(158,Aj Jv J1 Ev),(159,Aj Lg L6 Ch),(119,Aj Eu E4 Ai),(90,Aj C3 C4 rf),(209,Az 80 400 (Aga R rf) Tryz.f209)] [] [] []
def M2(rf:Ay->Option Aw)(x:Axq):Option (Aat):=match x with
 |(l,n,b,p) =>
 (Ev (l,n,b,p)).bind λ(x,x1,x2,x3,x4) =>
  cond (x3) (
  some ((Xpr.mk 0 ⟨0,0,[]⟩ [] []),x1,x2,x3,x4)) (
  cond (decide (x.kind=2)) (
   (Ch (x1,x2,x3,x4)).bind λ(_,x6,x7,x8,x9) =>
   some ((Xpr.mk 2 ⟨0,0,[]⟩ x.s []),x6,x7,x8,x9)) (
   cond (decide (x.kind=3)) (
   (Ch (x1,x2,x3,x4)).bind λ(_,a,c,d,e) =>some ((Xpr.mk 1 ⟨3,x.n,[]⟩ [] []),a,c,d,e)) (
   cond (decide (x.kind=4)) (
    (Ch (x1,x2,x3,x4)).bind λ(_,f,g,h,i) =>
    some ((Xpr.mk 1 ⟨4,0,x.s⟩ [] []),f,g,h,i)) (
    cond (decide (x.kind=5)) (
    (Ch (x1,x2,x3,x4)).bind λ(_,k,m,o,q) =>some ((Xpr.mk 1 ⟨5,0,x.s⟩ [] []),k,m,o,q)) (
    let j2:=λ(p2:Bool) =>
     cond (p2) (
     (Ch (x1,x2,x3,x4)).bind λ(_,r,t,u,v) =>some ((Xpr.mk 1 ⟨2,1,[]⟩ [] []),r,t,u,v)) (
     let j1:=λ(p4:Bool) =>
      cond (p4) (
      (Ch (x1,x2,x3,x4)).bind λ(_,w,y,z,a0) =>some ((Xpr.mk 1 ⟨2,0,[]⟩ [] []),w,y,z,a0)) (
      let j:=λ(p6:Bool) =>
       cond (p6) (
       (Ch (x1,x2,x3,x4)).bind λ(_,a1,a2,a3,a4) =>some ((Xpr.mk 1 ⟨1,0,[]⟩ [] []),a1,a2,a3,a4)) (
       (Ai ([[40]],x1,x2,x3,x4)).bind λ(a5,a6,a7,a8) =>
        (rf (a5,a6,a7,a8)).bind λ(a9,aa,ab,ac,ad) =>
        (Ai ([[41]],aa,ab,ac,ad)).bind λ(ae,af,ag,ah) =>some (a9,ae,af,ag,ah))
      cond (decide (x.kind=1)) (
       j (decide (x.s=[78,85,76,76]))) (
       j false))
     cond (decide (x.kind=1)) (
      j1 (decide (x.s=[70,65,76,83,69]))) (
      j1 false))
    cond (decide (x.kind=1)) (
     j2 (decide (x.s=[84,82,85,69]))) (
     j2 false))))))
theorem Azm(rf:Ay->Option Aw)(hrf:FM 90 C3 C4 rf):FM 208 Ad3 Adl (M2 rf):=fRL (px:=Am8 _ rf) (n:=0) Tryz.func208 rfl (λcx H=>by have h1:Lv cx (Aga (Aat) rf):=lv H (l1 H S9 Af) Ab Aa;have h0:Lv cx (Am8 (Aat) rf):=lv H (l1 H Pq (l1 H S9 (l1 H Gp (l1 H hrf (Au (cR H h1 Tryz.func209 rfl (n:=0) (Ak)) Af))))) Ab Aa;exact⟨h0,Ak⟩) λ(_,_,_,_)=>by kernel_rfl
def Gn(rf:Ay->Option Aw):Axq->Option Aat:=λx=>M2 rf x
theorem Bau(rf:Ay->Option Aw)(hrf:FM 90 C3 C4 rf):FM 208 Ad3 Adl (Gn rf):=Azm rf hrf
def Aaj:Sig:=⟨1,[],[(0,.ptr 0 0)],[(0,.cells [.sl .tok false,.int .i64,.bool,.int .i64])],1,1,0,[],[]⟩
def Aai:Sig:=⟨1,[(0,.sv .expr)],[],[(0,.cells [.sl .tok false,.int .i64,.bool,.int .i64])],1,1,0,[],[]⟩
abbrev Bhd:=List Tok×Int×Bool×Int
abbrev Aq5:=Xpr×List Tok×Int×Bool×Int
def Amm:Sig:=⟨36,[(2,.int .i64),(27,.int .i64),(28,.int .i64)],[(8,.ptr 80 0),(10,.ptr 81 0)],[(0,.cells [.sl .tok false,.int .i64,.bool,.int .i64]),(1,.one (.sv .expr)),(80,.one (.sv .expr)),(81,.one (.sv .expr))],82,80,400,[],[]⟩
abbrev Zr:=Int×Int×Int×List Tok×Int×Bool×Int×Xpr×Xpr×Xpr
def Yi{R:Type}(rec:Zr->Option R)(kx:Ex->Zr->Option R)(v:Zr):Option R:=match v with
 |(a,b,c,w6,w7,w8,w9,d,e,f) =>
 cond (decide (c<b)) (
  rec (a,b,(wr .i64 (c+1)),w6,w7,w8,w9,d,e,(Xpr.mk a ⟨0,0,[]⟩ [] [f]))) (
  kx (.exit 2) (a,b,c,w6,w7,w8,w9,d,e,f))
def Amn:Sig:=⟨36,[(1,.str),(2,.int .i64),(9,.int .i64)],[(0,.ptr 0 0),(3,.bm 208 [.ptr 0 0]),(8,.ptr 80 0)],[(0,.cells [.sl .tok false,.int .i64,.bool,.int .i64]),(1,.one (.sv .expr)),(80,.one (.sv .expr))],81,80,400,[],[]⟩
abbrev Zx:=Str×Int×Int×List Tok×Int×Bool×Int×Xpr×Xpr
def Ac3{R:Type}(rec:Zx->Option R)(kx:Ex->Zx->Option R)(v:Zx):Option R:=match v with
 |(v,v1,v2,w,w1,w2,w3,w4,w5) =>
 cond (!w2) (
  (Ao (v,w,w1,w2,w3)).bind λ(x,x1,x2,x3,x4) =>
  cond (x) (
   rec (v,v1,(wr .i64 (v2+1)),x1,x2,x3,x4,w4,w5)) (
   kx (.exit 0) (v,v1,v2,x1,x2,x3,x4,w4,w5))) (
  kx (.exit 0) (v,v1,v2,w,w1,w2,w3,w4,w5))
def Amv(R:Type)(k:Nat)(rf:Ay->Option Aw):Px R:=pxO [(117,Aj Em Ej Ao),(208,Aj Ad3 Adl (Gn rf))] [] [(2,Aq k Amn (Ac3)),(6,Aq k Amm (Yi))] []
noncomputable def A3s(R:Type)(k:Nat)(rf:Ay->Option Aw):Px R:=pxO [(185,Az 80 400 (Amv R k rf) Tryz.f185)] [] [] []
def K5(k:Nat)(rf:Ay->Option Aw)(x:Bhd):Option (Aq5):=match x with
 |(l,n,b,p) =>
 Al (λrec=>Ac3 rec (λe vz=>match vz with|(_,v4,v5,v6,v7,v8,v9,a,c)=>match e with
  |.exit 0 =>
  (Gn rf (v6,v7,v8,v9)).bind λ(x5,x6,x7,x8,x9) =>
   Al (λrec=>Yi rec (λe vz=>match vz with|(_,_,_,d,f,g,h,_,_,i)=>match e with
   |.exit 2 =>some (i,d,f,g,h)
   |_=>none)) k (v4,v5,0,x6,x7,x8,x9,a,c,x5)
  |_=>none)) k ([45],15,0,l,n,b,p,(Xpr.mk 0 ⟨0,0,[]⟩ [] []),(Xpr.mk 0 ⟨0,0,[]⟩ [] []))
theorem Bcu(k:Nat)(rf:Ay->Option Aw)(hrf:FM 90 C3 C4 rf):FM 206 Aaj Aai (K5 k rf):=fRL (px:=A3s _ k rf) (n:=0) Tryz.func206 rfl (λcx H=>by have h1:Lv cx (Amv (Aq5) k rf):=lv H (l1 H Fs (l1 H (Bau rf hrf) Af)) Ab Aa;have hlpneg_0:=lO H h1 (b:=lp Tryz.f185 0) (k:=k) (n:=0) (s:=Amn) (step:=Ac3) (λ_ _ _ (_,_,_,_,_,_,_,_,_)=>by kernel_rfl) Ak;have hlpneg_1:=lO H h1 (b:=lp Tryz.f185 1) (k:=k) (n:=0) (s:=Amm) (step:=Yi) (λ_ _ _ (_,_,_,_,_,_,_,_,_,_)=>by kernel_rfl) Ak;have h0:Lv cx (A3s (Aq5) k rf):=lv H (Au (cR H h1 Tryz.func185 rfl (n:=2) ((Bq (Bq Ak hlpneg_0) hlpneg_1))) Af) Ab Aa;exact⟨h0,Ak⟩) λ(_,_,_,_)=>by kernel_rfl
def I0(rf:Ay->Option Aw):Bhd->Option Aq5:=λx=>K5 ((x.1.length+1)) rf x
theorem A5e(rf:Ay->Option Aw)(hrf:FM 90 C3 C4 rf):FM 206 Aaj Aai (I0 rf):=FnLn.fin (ι:=Nat) (sg:=Aaj) (so:=Aai) 0 (F:=λk=>K5 k rf) (λk=>Bcu k rf hrf) λx _ _ hx=>⟨(x.1.length+1),hx⟩
def J2:Sig:=⟨1,[],[(0,.ptr 0 0)],[(0,.cells [.sl .tok false,.int .i64,.bool,.int .i64])],1,1,0,[],[]⟩
def J8:Sig:=⟨1,[(0,.sv .expr)],[],[(0,.cells [.sl .tok false,.int .i64,.bool,.int .i64])],1,1,0,[],[]⟩
abbrev Ak1:=List Tok×Int×Bool×Int
abbrev Rl:=Xpr×List Tok×Int×Bool×Int
def Xa:Sig:=⟨38,[(2,.sl .pair true),(17,.sl .pair false),(18,.int .i64),(19,.int .i64)],[(0,.ptr 0 0),(1,.bm 206 [.ptr 0 0]),(6,.ptr 80 0),(7,.ptr 81 0)],[(0,.cells [.sl .tok false,.int .i64,.bool,.int .i64]),(1,.one (.sv .expr)),(80,.one (.sv .expr)),(81,.one (.sv .expr))],82,80,400,[],[]⟩
abbrev Ks:=List PairS×List PairS×Int×Int×List Tok×Int×Bool×Int×Xpr×Xpr×Xpr
def Jb{R:Type}(rf:Ay->Option Aw)(rec:Ks->Option R)(kx:Ex->Ks->Option R)(v:Ks):Option R:=match v with
 |(v1,v2,v3,v4,w7,w8,w9,d,a,b,c) =>
 cond (decide (v4<v3)) (
  chk (inb v4 v2.length) (
  (Ao ((at' .pair v2 v4).sign,w7,w8,w9,d)).bind λ(x5,x6,x7,x8,x9) =>
   cond (x5) (
   (I0 rf (x6,x7,x8,x9)).bind λ(e,f,g,h,i) =>kx (.exit 1) (v1,v2,v3,v4,f,g,h,i,a,b,(Xpr.mk ((at' .pair v2 v4).kind) ⟨0,0,[]⟩ [] [c,e]))) (
   rec (v1,v2,v3,(wr .i64 (v4+1)),x6,x7,x8,x9,a,b,c)))) (
  kx (.exit 2) (v1,v2,v3,v4,w7,w8,w9,d,a,b,c))
def Xj:Sig:=⟨38,[(2,.sl .pair true)],[(0,.ptr 0 0),(1,.bm 206 [.ptr 0 0]),(6,.ptr 80 0),(7,.ptr 81 0)],[(0,.cells [.sl .tok false,.int .i64,.bool,.int .i64]),(1,.one (.sv .expr)),(80,.one (.sv .expr)),(81,.one (.sv .expr))],82,80,400,[],[]⟩
abbrev Gy:=List PairS×List Tok×Int×Bool×Int×Xpr×Xpr×Xpr
def Jg{R:Type}(k:Nat)(rf:Ay->Option Aw)(rec:Gy->Option R)(kx:Ex->Gy->Option R)(v:Gy):Option R:=match v with
 |(v,w,w1,w2,w3,w4,w5,w6) =>
 cond (!w2) (
  Al (λrc=>Jb rf rc (λe vz=>match vz with|(v5,_,_,_,v9,a,b,c,d,f,g)=>match e with
  |.exit 1 =>rec (v5,v9,a,b,c,d,f,g)
  |.exit 2 =>kx (.exit 0) (v5,v9,a,b,c,d,f,g)
  |_=>none)) k (v,v,(v.length:Int),0,w,w1,w2,w3,w4,w5,w6)) (
  kx (.exit 0) (v,w,w1,w2,w3,w4,w5,w6))
def Xi(R:Type)(k:Nat)(rf:Ay->Option Aw):Px R:=pxO [(206,Aj Aaj Aai (I0 rf)),(117,Aj Em Ej Ao)] [] [(4,Aq k Xa (Jb rf)),(2,Aq k Xj (Jg k rf))] [(206,Ee Aaj Aai (I0 rf))]
noncomputable def Afp(R:Type)(k:Nat)(rf:Ay->Option Aw):Px R:=pxO [(137,Az 80 400 (Xi R k rf) Tryz.f137)] [] [] []
def E5(k:Nat)(rf:Ay->Option Aw)(x:Ak1):Option (Rl):=match x with
 |(l,n,b,p) =>
 (I0 rf (l,n,b,p)).bind λ(x,x1,x2,x3,x4) =>
  Al (λrec=>Jg k rf rec (λe vz=>match vz with|(_,a,c,d,f,_,_,g)=>match e with
  |.exit 0 =>some (g,a,c,d,f)
  |_=>none)) k ([(PairS.mk [42] 14)],x1,x2,x3,x4,(Xpr.mk 0 ⟨0,0,[]⟩ [] []),(Xpr.mk 0 ⟨0,0,[]⟩ [] []),x)
theorem Ari(k:Nat)(rf:Ay->Option Aw)(hrf:FM 90 C3 C4 rf):FM 202 J2 J8 (E5 k rf):=fRL (px:=Afp _ k rf) (n:=0) Tryz.func202 rfl (λcx H=>by have h1:Lv cx (Xi (Rl) k rf):=lv H (l1 H (A5e rf hrf) (l1 H Fs Af)) Ab (w1 H (A5e rf hrf) Aa);have hlpproduct_1:=lO H h1 (b:=lpC (lp Tryz.f137 0) 0) (k:=k) (n:=0) (s:=Xa) (step:=Jb rf) (λ_ _ _ (_,_,_,_,_,_,_,_,_,_,_)=>by kernel_rfl) Ak;have hlpproduct_0:=lO H h1 (b:=lp Tryz.f137 0) (k:=k) (n:=1) (s:=Xj) (step:=Jg k rf) (λ_ _ _ (_,_,_,_,_,_,_,_)=>by kernel_rfl) (Bq Ak hlpproduct_1);have h0:Lv cx (Afp (Rl) k rf):=lv H (Au (cR H h1 Tryz.func137 rfl (n:=2) ((Bq (Bq Ak hlpproduct_0) hlpproduct_1))) Af) Ab Aa;exact⟨h0,Ak⟩) λ(_,_,_,_)=>by kernel_rfl
def B8(rf:Ay->Option Aw):Ak1->Option Rl:=λx=>E5 ((x.1.length+3)) rf x
theorem Aem(rf:Ay->Option Aw)(hrf:FM 90 C3 C4 rf):FM 202 J2 J8 (B8 rf):=FnLn.fin (ι:=Nat) (sg:=J2) (so:=J8) 0 (F:=λk=>E5 k rf) (λk=>Ari k rf hrf) λx _ _ hx=>⟨(x.1.length+3),hx⟩
def Abs:Sig:=⟨1,[],[(0,.ptr 0 0)],[(0,.cells [.sl .tok false,.int .i64,.bool,.int .i64])],1,1,0,[],[]⟩
def Zz:Sig:=⟨1,[(0,.sv .expr)],[],[(0,.cells [.sl .tok false,.int .i64,.bool,.int .i64])],1,1,0,[],[]⟩
abbrev Beb:=List Tok×Int×Bool×Int
abbrev Asy:=Xpr×List Tok×Int×Bool×Int
def Aoy:Sig:=⟨38,[(2,.sl .pair true),(17,.sl .pair false),(18,.int .i64),(19,.int .i64)],[(0,.ptr 0 0),(1,.bm 202 [.ptr 0 0]),(6,.ptr 80 0),(7,.ptr 81 0)],[(0,.cells [.sl .tok false,.int .i64,.bool,.int .i64]),(1,.one (.sv .expr)),(80,.one (.sv .expr)),(81,.one (.sv .expr))],82,80,400,[],[]⟩
abbrev Abz:=List PairS×List PairS×Int×Int×List Tok×Int×Bool×Int×Xpr×Xpr×Xpr
def Adm{R:Type}(rf:Ay->Option Aw)(rec:Abz->Option R)(kx:Ex->Abz->Option R)(v:Abz):Option R:=match v with
 |(v1,v2,v3,v4,w7,w8,w9,d,a,b,c) =>
 cond (decide (v4<v3)) (
  chk (inb v4 v2.length) (
  (Ao ((at' .pair v2 v4).sign,w7,w8,w9,d)).bind λ(x5,x6,x7,x8,x9) =>
   cond (x5) (
   (B8 rf (x6,x7,x8,x9)).bind λ(e,f,g,h,i) =>kx (.exit 1) (v1,v2,v3,v4,f,g,h,i,a,b,(Xpr.mk ((at' .pair v2 v4).kind) ⟨0,0,[]⟩ [] [c,e]))) (
   rec (v1,v2,v3,(wr .i64 (v4+1)),x6,x7,x8,x9,a,b,c)))) (
  kx (.exit 2) (v1,v2,v3,v4,w7,w8,w9,d,a,b,c))
def Aom:Sig:=⟨38,[(2,.sl .pair true)],[(0,.ptr 0 0),(1,.bm 202 [.ptr 0 0]),(6,.ptr 80 0),(7,.ptr 81 0)],[(0,.cells [.sl .tok false,.int .i64,.bool,.int .i64]),(1,.one (.sv .expr)),(80,.one (.sv .expr)),(81,.one (.sv .expr))],82,80,400,[],[]⟩
abbrev Oz:=List PairS×List Tok×Int×Bool×Int×Xpr×Xpr×Xpr
def Ado{R:Type}(k:Nat)(rf:Ay->Option Aw)(rec:Oz->Option R)(kx:Ex->Oz->Option R)(v:Oz):Option R:=match v with
 |(v,w,w1,w2,w3,w4,w5,w6) =>
 cond (!w2) (
  Al (λrc=>Adm rf rc (λe vz=>match vz with|(v5,_,_,_,v9,a,b,c,d,f,g)=>match e with
  |.exit 1 =>rec (v5,v9,a,b,c,d,f,g)
  |.exit 2 =>kx (.exit 0) (v5,v9,a,b,c,d,f,g)
  |_=>none)) k (v,v,(v.length:Int),0,w,w1,w2,w3,w4,w5,w6)) (
  kx (.exit 0) (v,w,w1,w2,w3,w4,w5,w6))
def Ann(R:Type)(k:Nat)(rf:Ay->Option Aw):Px R:=pxO [(202,Aj J2 J8 (B8 rf)),(117,Aj Em Ej Ao)] [] [(4,Aq k Aoy (Adm rf)),(2,Aq k Aom (Ado k rf))] [(202,Ee J2 J8 (B8 rf))]
noncomputable def A51(R:Type)(k:Nat)(rf:Ay->Option Aw):Px R:=pxO [(137,Az 80 400 (Ann R k rf) Tryz.f137)] [] [] []
def Jd(k:Nat)(rf:Ay->Option Aw)(x:Beb):Option (Asy):=match x with
 |(l,n,b,p) =>
 (B8 rf (l,n,b,p)).bind λ(x,x1,x2,x3,x4) =>
  Al (λrec=>Ado k rf rec (λe vz=>match vz with|(_,a,c,d,f,_,_,g)=>match e with
  |.exit 0 =>some (g,a,c,d,f)
  |_=>none)) k ([(PairS.mk [43] 12),(PairS.mk [45] 13)],x1,x2,x3,x4,(Xpr.mk 0 ⟨0,0,[]⟩ [] []),(Xpr.mk 0 ⟨0,0,[]⟩ [] []),x)
theorem Bcg(k:Nat)(rf:Ay->Option Aw)(hrf:FM 90 C3 C4 rf):FM 196 Abs Zz (Jd k rf):=fRL (px:=A51 _ k rf) (n:=0) Tryz.func196 rfl (λcx H=>by have h1:Lv cx (Ann (Asy) k rf):=lv H (l1 H (Aem rf hrf) (l1 H Fs Af)) Ab (w1 H (Aem rf hrf) Aa);have hlpsum_1:=lO H h1 (b:=lpC (lp Tryz.f137 0) 0) (k:=k) (n:=0) (s:=Aoy) (step:=Adm rf) (λ_ _ _ (_,_,_,_,_,_,_,_,_,_,_)=>by kernel_rfl) Ak;have hlpsum_0:=lO H h1 (b:=lp Tryz.f137 0) (k:=k) (n:=1) (s:=Aom) (step:=Ado k rf) (λ_ _ _ (_,_,_,_,_,_,_,_)=>by kernel_rfl) (Bq Ak hlpsum_1);have h0:Lv cx (A51 (Asy) k rf):=lv H (Au (cR H h1 Tryz.func137 rfl (n:=2) ((Bq (Bq Ak hlpsum_0) hlpsum_1))) Af) Ab Aa;exact⟨h0,Ak⟩) λ(_,_,_,_)=>by kernel_rfl
def G2(rf:Ay->Option Aw):Beb->Option Asy:=λx=>Jd ((x.1.length+3)) rf x
theorem A5y(rf:Ay->Option Aw)(hrf:FM 90 C3 C4 rf):FM 196 Abs Zz (G2 rf):=FnLn.fin (ι:=Nat) (sg:=Abs) (so:=Zz) 0 (F:=λk=>Jd k rf) (λk=>Bcg k rf hrf) λx _ _ hx=>⟨(x.1.length+3),hx⟩
def Ahd:Sig:=⟨1,[],[(0,.ptr 0 0)],[(0,.cells [.sl .tok false,.int .i64,.bool,.int .i64])],1,1,0,[],[]⟩
def Ahh:Sig:=⟨1,[(0,.sv .expr)],[],[(0,.cells [.sl .tok false,.int .i64,.bool,.int .i64])],1,1,0,[],[]⟩
abbrev Be1:=List Tok×Int×Bool×Int
abbrev A0p:=Xpr×List Tok×Int×Bool×Int
def Ap9:Sig:=⟨61,[(20,.sl .pair true),(21,.int .i64),(22,.int .i64)],[(0,.ptr 0 0),(2,.ptr 1 0),(3,.ptr 2 0)],[(0,.cells [.sl .tok false,.int .i64,.bool,.int .i64]),(1,.one (.sv .expr)),(2,.one (.sv .expr))],3,1,0,[],[]⟩
abbrev Abb:=List PairS×Int×Int×List Tok×Int×Bool×Int×Xpr×Xpr
def Adz{R:Type}(rf:Ay->Option Aw)(rec:Abb->Option R)(kx:Ex->Abb->Option R)(v:Abb):Option R:=match v with
 |(v,v1,v2,w,w1,w2,w3,w4,w5) =>
 cond (decide (v2<v1)) (
  chk (inb v2 v.length) (
  (Ao ((at' .pair v v2).sign,w,w1,w2,w3)).bind λ(x5,x6,x7,x8,x9) =>
   cond (x5) (
   (G2 rf (x6,x7,x8,x9)).bind λ(a,b,c,d,e) =>kx .ret (v,v1,v2,b,c,d,e,(Xpr.mk ((at' .pair v v2).kind) ⟨0,0,[]⟩ [] [w5,a]),w5)) (
   rec (v,v1,(wr .i64 (v2+1)),x6,x7,x8,x9,w4,w5)))) (
  kx (.exit 0) (v,v1,v2,w,w1,w2,w3,w4,w5))
def A56(R:Type)(k:Nat)(rf:Ay->Option Aw):Px R:=pxO [(196,Aj Abs Zz (G2 rf)),(117,Aj Em Ej Ao),(119,Aj Eu E4 Ai)] [] [(5,Aq k Ap9 (Adz rf))] [(196,Ee Abs Zz (G2 rf))]
def Kt(k:Nat)(rf:Ay->Option Aw)(x:Be1):Option (A0p):=match x with
 |(l,n,b,p) =>
 (G2 rf (l,n,b,p)).bind λ(x,x1,x2,x3,x4) =>
  cond (x3) (
  some (x,x1,x2,x3,x4)) (
  Al (λrec=>Adz rf rec (λe vz=>match vz with|(_,_,_,v6,v7,v8,v9,o,a)=>match e with
   |.ret =>
   some (o,v6,v7,v8,v9)
   |.exit 0 =>
   (Ao ([73,83],v6,v7,v8,v9)).bind λ(q,c,d,f,g) =>
    cond (!q) (
    some (a,c,d,f,g)) (
    (Ao ([78,79,84],c,d,f,g)).bind λ(r,s,t,u,v) =>
     (Ai ([[78,85,76,76]],s,t,u,v)).bind λ(h,i,j,m) =>
     cond (r) (
      some ((Xpr.mk 3 ⟨0,0,[]⟩ [] [(Xpr.mk 16 ⟨0,0,[]⟩ [] [a])]),h,i,j,m)) (
      some ((Xpr.mk 16 ⟨0,0,[]⟩ [] [a]),h,i,j,m)))
   |_=>none)) k ([(PairS.mk [61] 6),(PairS.mk [60,62] 7),(PairS.mk [60] 8),(PairS.mk [60,61] 9),(PairS.mk [62] 10),(PairS.mk [62,61] 11)],6,0,x1,x2,x3,x4,(Xpr.mk 0 ⟨0,0,[]⟩ [] []),x))
theorem Bhu(k:Nat)(rf:Ay->Option Aw)(hrf:FM 90 C3 C4 rf):FM 186 Ahd Ahh (Kt k rf):=fRL (px:=A56 _ k rf) (n:=1) Tryz.func186 rfl (λcx H=>by have h0:Lv cx (A56 (A0p) k rf):=lv H (l1 H (A5y rf hrf) (l1 H Fs (l1 H Gp Af))) Ab (w1 H (A5y rf hrf) Aa);have hlpcmp_0:=lO H h0 (b:=lp Tryz.f186 0) (k:=k) (n:=0) (s:=Ap9) (step:=Adz rf) (λ_ _ _ (_,_,_,_,_,_,_,_,_)=>by kernel_rfl) Ak;exact⟨h0,(Bq Ak hlpcmp_0)⟩) λ(_,_,_,_)=>by kernel_rfl
def Md(rf:Ay->Option Aw):Be1->Option A0p:=λx=>Kt (10) rf x
theorem Bis(rf:Ay->Option Aw)(hrf:FM 90 C3 C4 rf):FM 186 Ahd Ahh (Md rf):=FnLn.fin (ι:=Nat) (sg:=Ahd) (so:=Ahh) 0 (F:=λk=>Kt k rf) (λk=>Bhu k rf hrf) λ_ _ _ hx=>⟨10,hx⟩
def Abf:Sig:=⟨1,[],[(0,.ptr 0 0)],[(0,.cells [.sl .tok false,.int .i64,.bool,.int .i64])],1,1,0,[],[]⟩
def Zq:Sig:=⟨1,[(0,.sv .expr)],[],[(0,.cells [.sl .tok false,.int .i64,.bool,.int .i64])],1,1,0,[],[]⟩
abbrev Bf6:=List Tok×Int×Bool×Int
abbrev Ash:=Xpr×List Tok×Int×Bool×Int
def Anx:Sig:=⟨36,[(2,.int .i64),(27,.int .i64),(28,.int .i64)],[(8,.ptr 80 0),(10,.ptr 81 0)],[(0,.cells [.sl .tok false,.int .i64,.bool,.int .i64]),(1,.one (.sv .expr)),(80,.one (.sv .expr)),(81,.one (.sv .expr))],82,80,400,[],[]⟩
abbrev Zp:=Int×Int×Int×List Tok×Int×Bool×Int×Xpr×Xpr×Xpr
def Yk{R:Type}(rec:Zp->Option R)(kx:Ex->Zp->Option R)(v:Zp):Option R:=match v with
 |(a,b,c,w6,w7,w8,w9,d,e,f) =>
 cond (decide (c<b)) (
  rec (a,b,(wr .i64 (c+1)),w6,w7,w8,w9,d,e,(Xpr.mk a ⟨0,0,[]⟩ [] [f]))) (
  kx (.exit 2) (a,b,c,w6,w7,w8,w9,d,e,f))
def Anf:Sig:=⟨36,[(1,.str),(2,.int .i64),(9,.int .i64)],[(0,.ptr 0 0),(3,.bm 186 [.ptr 0 0]),(8,.ptr 80 0)],[(0,.cells [.sl .tok false,.int .i64,.bool,.int .i64]),(1,.one (.sv .expr)),(80,.one (.sv .expr))],81,80,400,[],[]⟩
abbrev Aay:=Str×Int×Int×List Tok×Int×Bool×Int×Xpr×Xpr
def Adt{R:Type}(rec:Aay->Option R)(kx:Ex->Aay->Option R)(v:Aay):Option R:=match v with
 |(v,v1,v2,w,w1,w2,w3,w4,w5) =>
 cond (!w2) (
  (Ao (v,w,w1,w2,w3)).bind λ(x,x1,x2,x3,x4) =>
  cond (x) (
   rec (v,v1,(wr .i64 (v2+1)),x1,x2,x3,x4,w4,w5)) (
   kx (.exit 0) (v,v1,v2,x1,x2,x3,x4,w4,w5))) (
  kx (.exit 0) (v,v1,v2,w,w1,w2,w3,w4,w5))
def Ap3(R:Type)(k:Nat)(rf:Ay->Option Aw):Px R:=pxO [(117,Aj Em Ej Ao),(186,Aj Ahd Ahh (Md rf))] [] [(2,Aq k Anf (Adt)),(6,Aq k Anx (Yk))] []
noncomputable def A54(R:Type)(k:Nat)(rf:Ay->Option Aw):Px R:=pxO [(185,Az 80 400 (Ap3 R k rf) Tryz.f185)] [] [] []
def K4(k:Nat)(rf:Ay->Option Aw)(x:Bf6):Option (Ash):=match x with
 |(l,n,b,p) =>
 Al (λrec=>Adt rec (λe vz=>match vz with|(_,v4,v5,v6,v7,v8,v9,a,c)=>match e with
  |.exit 0 =>
  (Md rf (v6,v7,v8,v9)).bind λ(x5,x6,x7,x8,x9) =>
   Al (λrec=>Yk rec (λe vz=>match vz with|(_,_,_,d,f,g,h,_,_,i)=>match e with
   |.exit 2 =>some (i,d,f,g,h)
   |_=>none)) k (v4,v5,0,x6,x7,x8,x9,a,c,x5)
  |_=>none)) k ([78,79,84],3,0,l,n,b,p,(Xpr.mk 0 ⟨0,0,[]⟩ [] []),(Xpr.mk 0 ⟨0,0,[]⟩ [] []))
theorem Bh0(k:Nat)(rf:Ay->Option Aw)(hrf:FM 90 C3 C4 rf):FM 167 Abf Zq (K4 k rf):=fRL (px:=A54 _ k rf) (n:=0) Tryz.func167 rfl (λcx H=>by have h1:Lv cx (Ap3 (Ash) k rf):=lv H (l1 H Fs (l1 H (Bis rf hrf) Af)) Ab Aa;have hlpnot_0:=lO H h1 (b:=lp Tryz.f185 0) (k:=k) (n:=0) (s:=Anf) (step:=Adt) (λ_ _ _ (_,_,_,_,_,_,_,_,_)=>by kernel_rfl) Ak;have hlpnot_1:=lO H h1 (b:=lp Tryz.f185 1) (k:=k) (n:=0) (s:=Anx) (step:=Yk) (λ_ _ _ (_,_,_,_,_,_,_,_,_,_)=>by kernel_rfl) Ak;have h0:Lv cx (A54 (Ash) k rf):=lv H (Au (cR H h1 Tryz.func185 rfl (n:=2) ((Bq (Bq Ak hlpnot_0) hlpnot_1))) Af) Ab Aa;exact⟨h0,Ak⟩) λ(_,_,_,_)=>by kernel_rfl
def Im(rf:Ay->Option Aw):Bf6->Option Ash:=λx=>K4 ((x.1.length+1)) rf x
theorem A4i(rf:Ay->Option Aw)(hrf:FM 90 C3 C4 rf):FM 167 Abf Zq (Im rf):=FnLn.fin (ι:=Nat) (sg:=Abf) (so:=Zq) 0 (F:=λk=>K4 k rf) (λk=>Bh0 k rf hrf) λx _ _ hx=>⟨(x.1.length+1),hx⟩
def Ab1:Sig:=⟨1,[],[(0,.ptr 0 0)],[(0,.cells [.sl .tok false,.int .i64,.bool,.int .i64])],1,1,0,[],[]⟩
def Zi:Sig:=⟨1,[(0,.sv .expr)],[],[(0,.cells [.sl .tok false,.int .i64,.bool,.int .i64])],1,1,0,[],[]⟩
abbrev Bh3:=List Tok×Int×Bool×Int
abbrev Atk:=Xpr×List Tok×Int×Bool×Int
def Amz:Sig:=⟨38,[(2,.sl .pair true),(17,.sl .pair false),(18,.int .i64),(19,.int .i64)],[(0,.ptr 0 0),(1,.bm 167 [.ptr 0 0]),(6,.ptr 80 0),(7,.ptr 81 0)],[(0,.cells [.sl .tok false,.int .i64,.bool,.int .i64]),(1,.one (.sv .expr)),(80,.one (.sv .expr)),(81,.one (.sv .expr))],82,80,400,[],[]⟩
abbrev Zu:=List PairS×List PairS×Int×Int×List Tok×Int×Bool×Int×Xpr×Xpr×Xpr
def Acf{R:Type}(rf:Ay->Option Aw)(rec:Zu->Option R)(kx:Ex->Zu->Option R)(v:Zu):Option R:=match v with
 |(v1,v2,v3,v4,w7,w8,w9,d,a,b,c) =>
 cond (decide (v4<v3)) (
  chk (inb v4 v2.length) (
  (Ao ((at' .pair v2 v4).sign,w7,w8,w9,d)).bind λ(x5,x6,x7,x8,x9) =>
   cond (x5) (
   (Im rf (x6,x7,x8,x9)).bind λ(e,f,g,h,i) =>kx (.exit 1) (v1,v2,v3,v4,f,g,h,i,a,b,(Xpr.mk ((at' .pair v2 v4).kind) ⟨0,0,[]⟩ [] [c,e]))) (
   rec (v1,v2,v3,(wr .i64 (v4+1)),x6,x7,x8,x9,a,b,c)))) (
  kx (.exit 2) (v1,v2,v3,v4,w7,w8,w9,d,a,b,c))
def Aqb:Sig:=⟨38,[(2,.sl .pair true)],[(0,.ptr 0 0),(1,.bm 167 [.ptr 0 0]),(6,.ptr 80 0),(7,.ptr 81 0)],[(0,.cells [.sl .tok false,.int .i64,.bool,.int .i64]),(1,.one (.sv .expr)),(80,.one (.sv .expr)),(81,.one (.sv .expr))],82,80,400,[],[]⟩
abbrev Po:=List PairS×List Tok×Int×Bool×Int×Xpr×Xpr×Xpr
def Aci{R:Type}(k:Nat)(rf:Ay->Option Aw)(rec:Po->Option R)(kx:Ex->Po->Option R)(v:Po):Option R:=match v with
 |(v,w,w1,w2,w3,w4,w5,w6) =>
 cond (!w2) (
  Al (λrc=>Acf rf rc (λe vz=>match vz with|(v5,_,_,_,v9,a,b,c,d,f,g)=>match e with
  |.exit 1 =>rec (v5,v9,a,b,c,d,f,g)
  |.exit 2 =>kx (.exit 0) (v5,v9,a,b,c,d,f,g)
  |_=>none)) k (v,v,(v.length:Int),0,w,w1,w2,w3,w4,w5,w6)) (
  kx (.exit 0) (v,w,w1,w2,w3,w4,w5,w6))
def Apo(R:Type)(k:Nat)(rf:Ay->Option Aw):Px R:=pxO [(167,Aj Abf Zq (Im rf)),(117,Aj Em Ej Ao)] [] [(4,Aq k Amz (Acf rf)),(2,Aq k Aqb (Aci k rf))] [(167,Ee Abf Zq (Im rf))]
noncomputable def A45(R:Type)(k:Nat)(rf:Ay->Option Aw):Px R:=pxO [(137,Az 80 400 (Apo R k rf) Tryz.f137)] [] [] []
def I4(k:Nat)(rf:Ay->Option Aw)(x:Bh3):Option (Atk):=match x with
 |(l,n,b,p) =>
 (Im rf (l,n,b,p)).bind λ(x,x1,x2,x3,x4) =>
  Al (λrec=>Aci k rf rec (λe vz=>match vz with|(_,a,c,d,f,_,_,g)=>match e with
  |.exit 0 =>some (g,a,c,d,f)
  |_=>none)) k ([(PairS.mk [65,78,68] 4)],x1,x2,x3,x4,(Xpr.mk 0 ⟨0,0,[]⟩ [] []),(Xpr.mk 0 ⟨0,0,[]⟩ [] []),x)
theorem Bgm(k:Nat)(rf:Ay->Option Aw)(hrf:FM 90 C3 C4 rf):FM 138 Ab1 Zi (I4 k rf):=fRL (px:=A45 _ k rf) (n:=0) Tryz.func138 rfl (λcx H=>by have h1:Lv cx (Apo (Atk) k rf):=lv H (l1 H (A4i rf hrf) (l1 H Fs Af)) Ab (w1 H (A4i rf hrf) Aa);have hlpand_1:=lO H h1 (b:=lpC (lp Tryz.f137 0) 0) (k:=k) (n:=0) (s:=Amz) (step:=Acf rf) (λ_ _ _ (_,_,_,_,_,_,_,_,_,_,_)=>by kernel_rfl) Ak;have hlpand_0:=lO H h1 (b:=lp Tryz.f137 0) (k:=k) (n:=1) (s:=Aqb) (step:=Aci k rf) (λ_ _ _ (_,_,_,_,_,_,_,_)=>by kernel_rfl) (Bq Ak hlpand_1);have h0:Lv cx (A45 (Atk) k rf):=lv H (Au (cR H h1 Tryz.func137 rfl (n:=2) ((Bq (Bq Ak hlpand_0) hlpand_1))) Af) Ab Aa;exact⟨h0,Ak⟩) λ(_,_,_,_)=>by kernel_rfl
def Hr(rf:Ay->Option Aw):Bh3->Option Atk:=λx=>I4 ((x.1.length+3)) rf x
theorem A6l(rf:Ay->Option Aw)(hrf:FM 90 C3 C4 rf):FM 138 Ab1 Zi (Hr rf):=FnLn.fin (ι:=Nat) (sg:=Ab1) (so:=Zi) 0 (F:=λk=>I4 k rf) (λk=>Bgm k rf hrf) λx _ _ hx=>⟨(x.1.length+3),hx⟩
def Awy:Sig:=⟨38,[(2,.sl .pair true),(17,.sl .pair false),(18,.int .i64),(19,.int .i64)],[(0,.ptr 0 0),(1,.bm 138 [.ptr 0 0]),(6,.ptr 80 0),(7,.ptr 81 0)],[(0,.cells [.sl .tok false,.int .i64,.bool,.int .i64]),(1,.one (.sv .expr)),(80,.one (.sv .expr)),(81,.one (.sv .expr))],82,80,400,[],[]⟩
abbrev Ag3:=List PairS×List PairS×Int×Int×List Tok×Int×Bool×Int×Xpr×Xpr×Xpr
def Aon{R:Type}(rf:Ay->Option Aw)(rec:Ag3->Option R)(kx:Ex->Ag3->Option R)(v:Ag3):Option R:=match v with
 |(v1,v2,v3,v4,w7,w8,w9,d,a,b,c) =>
 cond (decide (v4<v3)) (
  chk (inb v4 v2.length) (
  (Ao ((at' .pair v2 v4).sign,w7,w8,w9,d)).bind λ(x5,x6,x7,x8,x9) =>
   cond (x5) (
   (Hr rf (x6,x7,x8,x9)).bind λ(e,f,g,h,i) =>kx (.exit 1) (v1,v2,v3,v4,f,g,h,i,a,b,(Xpr.mk ((at' .pair v2 v4).kind) ⟨0,0,[]⟩ [] [c,e]))) (
   rec (v1,v2,v3,(wr .i64 (v4+1)),x6,x7,x8,x9,a,b,c)))) (
  kx (.exit 2) (v1,v2,v3,v4,w7,w8,w9,d,a,b,c))
def Avq:Sig:=⟨38,[(2,.sl .pair true)],[(0,.ptr 0 0),(1,.bm 138 [.ptr 0 0]),(6,.ptr 80 0),(7,.ptr 81 0)],[(0,.cells [.sl .tok false,.int .i64,.bool,.int .i64]),(1,.one (.sv .expr)),(80,.one (.sv .expr)),(81,.one (.sv .expr))],82,80,400,[],[]⟩
abbrev Vi:=List PairS×List Tok×Int×Bool×Int×Xpr×Xpr×Xpr
def Anh{R:Type}(k:Nat)(rf:Ay->Option Aw)(rec:Vi->Option R)(kx:Ex->Vi->Option R)(v:Vi):Option R:=match v with
 |(v,w,w1,w2,w3,w4,w5,w6) =>
 cond (!w2) (
  Al (λrc=>Aon rf rc (λe vz=>match vz with|(v5,_,_,_,v9,a,b,c,d,f,g)=>match e with
  |.exit 1 =>rec (v5,v9,a,b,c,d,f,g)
  |.exit 2 =>kx (.exit 0) (v5,v9,a,b,c,d,f,g)
  |_=>none)) k (v,v,(v.length:Int),0,w,w1,w2,w3,w4,w5,w6)) (
  kx (.exit 0) (v,w,w1,w2,w3,w4,w5,w6))
def Awh(R:Type)(k:Nat)(rf:Ay->Option Aw):Px R:=pxO [(138,Aj Ab1 Zi (Hr rf)),(117,Aj Em Ej Ao)] [] [(4,Aq k Awy (Aon rf)),(2,Aq k Avq (Anh k rf))] [(138,Ee Ab1 Zi (Hr rf))]
noncomputable def Bgl(R:Type)(k:Nat)(rf:Ay->Option Aw):Px R:=pxO [(137,Az 80 400 (Awh R k rf) Tryz.f137)] [] [] []
def Ln(k:Nat)(rf:Ay->Option Aw)(x:Ay):Option (Aw):=match x with
 |(l,n,b,p) =>
 (Hr rf (l,n,b,p)).bind λ(x,x1,x2,x3,x4) =>
  Al (λrec=>Anh k rf rec (λe vz=>match vz with|(_,a,c,d,f,_,_,g)=>match e with
  |.exit 0 =>some (g,a,c,d,f)
  |_=>none)) k ([(PairS.mk [79,82] 5)],x1,x2,x3,x4,(Xpr.mk 0 ⟨0,0,[]⟩ [] []),(Xpr.mk 0 ⟨0,0,[]⟩ [] []),x)
theorem Bk7(k:Nat)(rf:Ay->Option Aw)(hrf:FM 90 C3 C4 rf):FM 90 C3 C4 (Ln k rf):=fRL (px:=Bgl _ k rf) (n:=0) Tryz.func90 rfl (λcx H=>by have h1:Lv cx (Awh (Aw) k rf):=lv H (l1 H (A6l rf hrf) (l1 H Fs Af)) Ab (w1 H (A6l rf hrf) Aa);have hlpor_1:=lO H h1 (b:=lpC (lp Tryz.f137 0) 0) (k:=k) (n:=0) (s:=Awy) (step:=Aon rf) (λ_ _ _ (_,_,_,_,_,_,_,_,_,_,_)=>by kernel_rfl) Ak;have hlpor_0:=lO H h1 (b:=lp Tryz.f137 0) (k:=k) (n:=1) (s:=Avq) (step:=Anh k rf) (λ_ _ _ (_,_,_,_,_,_,_,_)=>by kernel_rfl) (Bq Ak hlpor_1);have h0:Lv cx (Bgl (Aw) k rf):=lv H (Au (cR H h1 Tryz.func137 rfl (n:=2) ((Bq (Bq Ak hlpor_0) hlpor_1))) Af) Ab Aa;exact⟨h0,Ak⟩) λ(_,_,_,_)=>by kernel_rfl
def R5(rf:Ay->Option Aw):Ay->Option Aw:=λx=>Ln (x.1.length+3) rf x
theorem Bkf(rf:Ay->Option Aw)(hrf:FnLn Tryz.prog elT glT 90 C3 C4 rf):FnLn Tryz.prog elT glT 90 C3 C4 (R5 rf) :=.fin (ι:=Nat) (sg:=C3) (so:=C4) 0 (F:=λk=>Ln k rf) (λk=>Bk7 k rf hrf) λx _ _ hx=>⟨x.1.length+3,hx⟩
def Fz:Ay->Option Aw:=λx=>Al (V:=Ay) (R:=Aw) R5 (x.1.length+2) x
theorem Aiv:FnLn Tryz.prog elT glT 90 C3 C4 Fz :=.fin (ι:=Nat) (sg:=C3) (so:=C4) 0 (F:=λn=>Al (V:=Ay) (R:=Aw) R5 n) (λn=>FnLn.rec' (Sx.enters_of Tryz.func90 rfl rfl) (λrf hrf=>Bkf rf hrf) n) λx _ _ hx=>⟨x.1.length+2,hx⟩
def Nw:Sig:=⟨1,[],[(0,.ptr 0 0)],[(0,.cells [.sl .tok false,.int .i64,.bool,.int .i64])],1,1,0,[],[]⟩
def O8:Sig:=⟨1,[(0,.sl .str true)],[],[(0,.cells [.sl .tok false,.int .i64,.bool,.int .i64])],1,1,0,[],[]⟩
abbrev Axa:=List Tok×Int×Bool×Int
abbrev Tb:=List Str×List Tok×Int×Bool×Int
def Aeu:Sig:=⟨19,[],[(0,.ptr 0 0),(1,.fn 184 [.ptr 2 0,.ptr 1 0])],[(0,.cells [.sl .tok false,.int .i64,.bool,.int .i64]),(1,.fx [.ptr 0 0]),(2,.cells [.sl .str true])],80,80,400,[],[]⟩
abbrev Hi:=List Tok×Int×Bool×Int×List Str
def G9{R:Type}(rec:Hi->Option R)(kx:Ex->Hi->Option R)(v:Hi):Option R:=match v with
 |(w,w1,w2,w3,w4) =>
 cond (!w2) (
  (Ao ([44],w,w1,w2,w3)).bind λ(x9,a,b,c,d) =>
  cond (x9) (
   (Av (a,b,c,d)).bind λ(e,f,g,h,i) =>
   chk (decide (w4.length+1<=Am)) (
    rec (f,g,h,i,(w4++[e])))) (
   kx (.exit 0) (a,b,c,d,w4))) (
  kx (.exit 0) (w,w1,w2,w3,w4))
def W1(R:Type)(_k:Nat):Px R:=pxO [] [] [] [(120,Ee Gi Gg Av)]
noncomputable def Afw(R:Type)(k:Nat):Px R:=pxO [(117,Aj Em Ej Ao),(184,Az 120 600 (W1 R k) Tryz.f184)] [] [(1,Aq k Aeu (G9))] []
noncomputable def Amj(R:Type)(k:Nat):Px R:=pxO [(119,Aj Eu E4 Ai),(121,Az 80 400 (Afw R k) Tryz.f121)] [] [] []
def Js(k:Nat)(x:Axa):Option (Tb):=match x with
 |(l,n,b,p) =>
 (Ai ([[40]],l,n,b,p)).bind λ(x,x1,x2,x3) =>
  (Av (x,x1,x2,x3)).bind λ(x4,x5,x6,x7,x8) =>
  Al (λrec=>G9 rec (λe vz=>match vz with|(v,v1,v2,v3,v4)=>match e with
   |.exit 0 =>
   (Ai ([[41]],v,v1,v2,v3)).bind λ(a,c,d,f) =>some (v4,a,c,d,f)
   |_=>none)) k (x5,x6,x7,x8,[x4])
theorem Azs(k:Nat):FM 161 Nw O8 (Js k):=fRL (px:=Amj _ k) (n:=0) Tryz.func161 rfl (λcx H=>by have h2:Lv cx (W1 (Tb) k):=lv H Af Ab (w1 H I2 Aa);have h1:Lv cx (Afw (Tb) k):=lv H (l1 H Fs (Au (cR H h2 Tryz.func184 rfl (n:=0) (Ak)) Af)) Ab Aa;have hlpnames_0:=lO H h1 (b:=lp Tryz.f121 0) (k:=k) (n:=0) (s:=Aeu) (step:=G9) (λ_ _ _ (_,_,_,_,_)=>by kernel_rfl) Ak;have h0:Lv cx (Amj (Tb) k):=lv H (l1 H Gp (Au (cR H h1 Tryz.func121 rfl (n:=1) ((Bq Ak hlpnames_0))) Af)) Ab Aa;exact⟨h0,Ak⟩) λ(_,_,_,_)=>by kernel_rfl
def D8:Axa->Option Tb:=λx=>Js ((x.1.length+3)) x
theorem Aok:FM 161 Nw O8 (D8):=FnLn.fin (ι:=Nat) (sg:=Nw) (so:=O8) 0 (F:=λk=>Js k) (λk=>Azs k) λx _ _ hx=>⟨(x.1.length+3),hx⟩
def N2:Sig:=⟨1,[],[(0,.ptr 0 0)],[(0,.cells [.sl .tok false,.int .i64,.bool,.int .i64])],1,1,0,[],[]⟩
def Od:Sig:=⟨1,[(0,.sl .expr true)],[],[(0,.cells [.sl .tok false,.int .i64,.bool,.int .i64])],1,1,0,[],[]⟩
abbrev Ax8:=List Tok×Int×Bool×Int
abbrev Tt:=List Xpr×List Tok×Int×Bool×Int
def Afi:Sig:=⟨19,[],[(0,.ptr 0 0),(1,.fn 162 [.ptr 2 0,.ptr 1 0])],[(0,.cells [.sl .tok false,.int .i64,.bool,.int .i64]),(1,.fx [.ptr 0 0]),(2,.cells [.sl .expr true])],80,80,400,[],[]⟩
abbrev Hy:=List Tok×Int×Bool×Int×List Xpr
def Hg{R:Type}(rec:Hy->Option R)(kx:Ex->Hy->Option R)(v:Hy):Option R:=match v with
 |(w,w1,w2,w3,w4) =>
 cond (!w2) (
  (Ao ([44],w,w1,w2,w3)).bind λ(x5,x6,x7,x8,x9) =>
  cond (x5) (
   (Fz (x6,x7,x8,x9)).bind λ(a,b,c,d,e) =>
   chk (decide (w4.length+1<=Am)&&decide ((w4.length:Int)=(w4.length:Int))) (
    rec (b,c,d,e,(w4++[a])))) (
   kx (.exit 0) (x6,x7,x8,x9,w4))) (
  kx (.exit 0) (w,w1,w2,w3,w4))
def W5(R:Type)(_k:Nat):Px R:=pxO [] [] [] [(90,Ee C3 C4 Fz)]
noncomputable def Ae1(R:Type)(k:Nat):Px R:=pxO [(117,Aj Em Ej Ao),(162,Az 120 600 (W5 R k) Tryz.f162)] [] [(1,Aq k Afi (Hg))] []
noncomputable def Amp(R:Type)(k:Nat):Px R:=pxO [(121,Az 80 400 (Ae1 R k) Tryz.f121)] [] [] []
def Ju(k:Nat)(x:Ax8):Option (Tt):=match x with
 |(l,n,b,p) =>
 (Fz (l,n,b,p)).bind λ(x,x1,x2,x3,x4) =>
  chk (decide (0+1<=Am)&&decide (0=(0:Int))) (
  Al (λrec=>Hg rec (λe vz=>match vz with|(v,v1,v2,v3,v4)=>match e with
   |.exit 0 =>
   some (v4,v,v1,v2,v3)
   |_=>none)) k (x1,x2,x3,x4,[x]))
theorem A2r(k:Nat):FM 123 N2 Od (Ju k):=fRL (px:=Amp _ k) (n:=0) Tryz.func123 rfl (λcx H=>by have h2:Lv cx (W5 (Tt) k):=lv H Af Ab (w1 H Aiv Aa);have h1:Lv cx (Ae1 (Tt) k):=lv H (l1 H Fs (Au (cR H h2 Tryz.func162 rfl (n:=0) (Ak)) Af)) Ab Aa;have hlpexprs_0:=lO H h1 (b:=lp Tryz.f121 0) (k:=k) (n:=0) (s:=Afi) (step:=Hg) (λ_ _ _ (_,_,_,_,_)=>by kernel_rfl) Ak;have h0:Lv cx (Amp (Tt) k):=lv H (Au (cR H h1 Tryz.func121 rfl (n:=1) ((Bq Ak hlpexprs_0))) Af) Ab Aa;exact⟨h0,Ak⟩) λ(_,_,_,_)=>by kernel_rfl
def C9:Ax8->Option Tt:=λx=>Ju ((x.1.length+3)) x
theorem Apx:FM 123 N2 Od (C9):=FnLn.fin (ι:=Nat) (sg:=N2) (so:=Od) 0 (F:=λk=>Ju k) (λk=>A2r k) λx _ _ hx=>⟨(x.1.length+3),hx⟩
def Ag5:Sig:=⟨1,[],[(0,.ptr 0 0)],[(0,.cells [.sl .tok false,.int .i64,.bool,.int .i64])],1,1,0,[],[]⟩
def Ag0:Sig:=⟨1,[(0,.sv .col)],[],[(0,.cells [.sl .tok false,.int .i64,.bool,.int .i64])],1,1,0,[],[]⟩
abbrev Bg9:=List Tok×Int×Bool×Int
abbrev Asx:=Col×List Tok×Int×Bool×Int
def Ap4:Sig:=⟨87,[(10,.int .i64)],[(0,.ptr 0 0),(2,.ptr 1 0),(3,.ptr 2 0),(9,.agg [.str [],.str [],.str [66,79,79,76],.str [73,78,84],.str [84,69,88,84],.str [66,89,84,69,83]])],[(0,.cells [.sl .tok false,.int .i64,.bool,.int .i64]),(1,.one (.sv .col)),(2,.one (.sv .col))],3,1,0,[],[]⟩
abbrev Iz:=Int×List Tok×Int×Bool×Int×Col×Col
def G5{R:Type}(rec:Iz->Option R)(kx:Ex->Iz->Option R)(v:Iz):Option R:=match v with
 |(v,w,w1,w2,w3,w4,w5) =>
 cond (decide (v<6)) (
  chk (inb v 6) (
  let j1:=λ(p1:Bool) =>
   let j:=λ(p2:Bool) =>
   cond (p2) (
    (Ao ((at' .str [[],[],[66,79,79,76],[73,78,84],[84,69,88,84],[66,89,84,69,83]] v),w,w1,w2,w3)).bind λ(x5,x6,x7,x8,x9) =>
    cond (x5) (
     rec ((wr .i64 (v+1)),x6,x7,x8,x9,w4,(Col.mk w5.name v w5.notNull w5.unique w5.ref))) (
     rec ((wr .i64 (v+1)),x6,x7,x8,x9,w4,w5))) (
    rec ((wr .i64 (v+1)),w,w1,w2,w3,w4,w5))
   cond (p1) (
   j (decide (w5.kind=0))) (
   j false)
  cond (decide (2<=v)) (
   j1 (!w2)) (
   j1 false))) (
  kx (.exit 0) (v,w,w1,w2,w3,w4,w5))
def A29(R:Type)(k:Nat):Px R:=pxO [(120,Aj Gi Gg Av),(117,Aj Em Ej Ao),(127,Aj H1 H0 Cm),(119,Aj Eu E4 Ai)] [] [(3,Aq k Ap4 (G5))] []
def Ads(k:Nat)(x:Bg9):Option (Asx):=match x with
 |(l,n,b,p) =>
 (Av (l,n,b,p)).bind λ(x,x1,x2,x3,x4) =>
  Al (λrec=>G5 rec (λe vz=>match vz with|(_,v2,v3,v4,v5,_,v7)=>match e with
  |.exit 0 =>
   let j6:=λ(h:List Tok) (i:Int) (d:Bool) (j:Int) =>
   let j2:=λ(m:List Tok) (o:Int) (q:Bool) (r:Int) (a:Col) =>
    let j5:=λ(s:List Tok) (t:Int) (f:Bool) (u:Int) =>
    let j4:=λ(v:List Tok) (w:Int) (g:Bool) (y:Int) (c:Col) =>
     let j3:=λ(p8:Bool) (z:List Tok) (a0:Int) (a1:Bool) (a2:Int) =>
     cond (p8) (
      (Av (z,a0,a1,a2)).bind λ(a3,a4,a5,a6,a7) =>
      some ((Col.mk c.name c.kind c.notNull c.unique a3),a4,a5,a6,a7)) (
      some (c,z,a0,a1,a2))
     cond (!g) (
     (Ao ([82,69,70,69,82,69,78,67,69,83],v,w,g,y)).bind λ(a8,a9,aa,ab,ac) =>j3 a8 a9 aa ab ac) (
     j3 false v w g y)
    cond (!f) (
     (Ao ([85,78,73,81,85,69],s,t,f,u)).bind λ(ad,ae,af,ag,ah) =>
     j4 ae af ag ah (Col.mk a.name a.kind a.notNull ad a.ref)) (
     j4 s t f u (Col.mk a.name a.kind a.notNull false a.ref))
    cond (a.notNull) (
    (Ai ([[78,85,76,76]],m,o,q,r)).bind λ(ai,aj,ak,al) =>j5 ai aj ak al) (
    j5 m o q r)
   cond (!d) (
    (Ao ([78,79,84],h,i,d,j)).bind λ(am,an,ao,ap,aq) =>
    j2 an ao ap aq (Col.mk v7.name v7.kind am v7.unique v7.ref)) (
    j2 h i d j (Col.mk v7.name v7.kind false v7.unique v7.ref))
   cond (decide (v7.kind=0)) (
   (Cm (v2,v3,v4,v5)).bind λ(ar,au,av,aw) =>j6 ar au av aw) (
   j6 v2 v3 v4 v5)
  |_=>none)) k (0,x1,x2,x3,x4,(Col.mk [] 0 false false []),(Col.mk x 0 false false []))
theorem Bb9(k:Nat):FM 183 Ag5 Ag0 (Ads k):=fRL (px:=A29 _ k) (n:=1) Tryz.func183 rfl (λcx H=>by have h0:Lv cx (A29 (Asx) k):=lv H (l1 H I2 (l1 H Fs (l1 H La (l1 H Gp Af)))) Ab Aa;have hlpcol_0:=lO H h0 (b:=lp Tryz.f183 0) (k:=k) (n:=0) (s:=Ap4) (step:=G5) (λ_ _ _ (_,_,_,_,_,_,_)=>by kernel_rfl) Ak;exact⟨h0,(Bq Ak hlpcol_0)⟩) λ(_,_,_,_)=>by kernel_rfl
def Kg:Bg9->Option Asx:=λx=>Ads (10) x
theorem Bkq:FM 183 Ag5 Ag0 (Kg):=FnLn.fin (ι:=Nat) (sg:=Ag5) (so:=Ag0) 0 (F:=λk=>Ads k) (λk=>Bb9 k) λ_ _ _ hx=>⟨10,hx⟩
def U7:Sig:=⟨2,[],[(0,.ptr 0 0),(1,.ptr 1 0)],[(0,.cells [.sl .tok false,.int .i64,.bool,.int .i64]),(1,.cells [.int .i64,.str,.str,.sl .col true,.sl .str false,.sl .expr true,.sl .exprs true,.sl .set true,.bool,.int .i64,.int .i64,.int .i64,.str,.str,.sl .expr false,.sl .str true,.sl .bool true,.int .i64])],2,2,0,[],[]⟩
def Va:Sig:=⟨0,[],[],[(0,.cells [.sl .tok false,.int .i64,.bool,.int .i64]),(1,.cells [.int .i64,.str,.str,.sl .col true,.sl .str false,.sl .expr true,.sl .exprs true,.sl .set true,.bool,.int .i64,.int .i64,.int .i64,.str,.str,.sl .expr false,.sl .str true,.sl .bool true,.int .i64])],2,2,0,[],[]⟩
abbrev Avv:=List Tok×Int×Bool×Int×Int×Str×Str×List Col×List Str×List Xpr×List (List Xpr)×List SetE×Bool×Int×Int×Int×Str×Str×List Xpr×List Str×List Bool×Int
abbrev L5:=List Tok×Int×Bool×Int×Int×Str×Str×List Col×List Str×List Xpr×List (List Xpr)×List SetE×Bool×Int×Int×Int×Str×Str×List Xpr×List Str×List Bool×Int
def Ad8:Sig:=⟨95,[],[(0,.ptr 0 0),(1,.ptr 1 0)],[(0,.cells [.sl .tok false,.int .i64,.bool,.int .i64]),(1,.cells [.int .i64,.str,.str,.sl .col true,.sl .str true,.sl .expr true,.sl .exprs true,.sl .set true,.bool,.int .i64,.int .i64,.int .i64,.str,.str,.sl .expr false,.sl .str true,.sl .bool true,.int .i64])],2,2,0,[],[]⟩
abbrev D4:=List Tok×Int×Bool×Int×Int×Str×Str×List Col×List Str×List Xpr×List (List Xpr)×List SetE×Bool×Int×Int×Int×Str×Str×List Xpr×List Str×List Bool×Int
def Cy{R:Type}(rec:D4->Option R)(kx:Ex->D4->Option R)(v:D4):Option R:=match v with
 |(t,u,b,w,c,d,e,f,g,a,h,i,j,k,l,m,n,o,p,q,r,s) =>
 cond (!b) (
  (Ao ([44],t,u,b,w)).bind λ(a1,x,y,z,a0) =>
  cond (a1) (
   (Ai ([[67,72,69,67,75],[40]],x,y,z,a0)).bind λ(a2,a3,a4,a5) =>
   (Fz (a2,a3,a4,a5)).bind λ(a6,a7,a8,a9,aa) =>
    chk (decide (a.length+1<=Am)&&decide ((a.length:Int)=(a.length:Int))) (
    (Ai ([[41]],a7,a8,a9,aa)).bind λ(ab,ac,ad,ae) =>rec (ab,ac,ad,ae,c,d,e,f,g,(a++[a6]),h,i,j,k,l,m,n,o,p,q,r,s))) (
   kx (.exit 2) (x,y,z,a0,c,d,e,f,g,a,h,i,j,k,l,m,n,o,p,q,r,s))) (
  kx (.exit 2) (t,u,b,w,c,d,e,f,g,a,h,i,j,k,l,m,n,o,p,q,r,s))
def Aeo:Sig:=⟨95,[],[(0,.ptr 0 0),(1,.ptr 1 0)],[(0,.cells [.sl .tok false,.int .i64,.bool,.int .i64]),(1,.cells [.int .i64,.str,.str,.sl .col true,.sl .str false,.sl .expr true,.sl .exprs true,.sl .set true,.bool,.int .i64,.int .i64,.int .i64,.str,.str,.sl .expr false,.sl .str true,.sl .bool true,.int .i64])],2,2,0,[],[]⟩
abbrev D7:=List Tok×Int×Bool×Int×Int×Str×Str×List Col×List Str×List Xpr×List (List Xpr)×List SetE×Bool×Int×Int×Int×Str×Str×List Xpr×List Str×List Bool×Int
def Et{R:Type}(rec:D7->Option R)(kx:Ex->D7->Option R)(v:D7):Option R:=match v with
 |(w,w1,w2,w3,w4,w5,w6,w7,w8,w9,a,b,c,d,e,f,g,h,i,j,k,l) =>
 cond (!w2) (
  (Ao ([80,82,73,77,65,82,89],w,w1,w2,w3)).bind λ(q,m,n,o,p) =>
  cond (!q) (
   (Kg (m,n,o,p)).bind λ(r,s,t,u,x) =>
   chk (decide (w7.length+1<=Am)) (
    (Ai ([[44]],s,t,u,x)).bind λ(y,z,a0,a1) =>
    rec (y,z,a0,a1,w4,w5,w6,(w7++[r]),w8,w9,a,b,c,d,e,f,g,h,i,j,k,l))) (
   kx (.exit 0) (m,n,o,p,w4,w5,w6,w7,w8,w9,a,b,c,d,e,f,g,h,i,j,k,l))) (
  kx (.exit 0) (w,w1,w2,w3,w4,w5,w6,w7,w8,w9,a,b,c,d,e,f,g,h,i,j,k,l))
def Apv(R:Type)(k:Nat):Px R:=pxO [(120,Aj Gi Gg Av),(119,Aj Eu E4 Ai),(117,Aj Em Ej Ao),(161,Aj Nw O8 D8)] [] [(4,Aq k Aeo (Et)),(9,Aq k Ad8 (Cy))] [(183,Ee Ag5 Ag0 Kg),(90,Ee C3 C4 Fz)]
def Tz(k:Nat)(x:Avv):Option (L5):=match x with
 |(l,n,b,p,_,_,so,sc,ss,sl,sr,st,sh,wk,vk,vn,vs,wn,wl,sd,se,sm) =>
 (Av (l,n,b,p)).bind λ(x,x1,x2,x3,x4) =>
  (Ai ([[40]],x1,x2,x3,x4)).bind λ(x5,x6,x7,x8) =>
  (Kg (x5,x6,x7,x8)).bind λ(x9,a,c,d,f) =>
   chk (decide (sc.length+1<=Am)) (
   (Ai ([[44]],a,c,d,f)).bind λ(g,h,i,j) =>
    Al (λrec=>Et rec (λe vz=>match vz with|(v,v1,v2,v3,v4,v5,v6,v7,_,v9,m,o,q,r,s,t,u,w,y,z,a0,a1)=>match e with
    |.exit 0 =>
     (Ai ([[75,69,89]],v,v1,v2,v3)).bind λ(a2,a3,a4,a5) =>
     (D8 (a2,a3,a4,a5)).bind λ(a6,a7,a8,a9,aa) =>
      Al (λrec=>Cy rec (λe vz=>match vz with|(ab,ac,ad,ae,af,ag,ah,ai,aj,ak,al,am,an,ao,ap,aq,ar,au,av,aw,ax,ay)=>match e with
      |.exit 2 =>
       (Ai ([[41]],ab,ac,ad,ae)).bind λ(az,b0,b1,b2) =>
       some (az,b0,b1,b2,af,ag,ah,ai,aj,ak,al,am,an,ao,ap,aq,ar,au,av,aw,ax,ay)
      |_=>none)) k (a7,a8,a9,aa,v4,v5,v6,v7,a6,v9,m,o,q,r,s,t,u,w,y,z,a0,a1)
    |_=>none)) k (g,h,i,j,1,x,so,(sc++[x9]),ss,sl,sr,st,sh,wk,vk,vn,vs,wn,wl,sd,se,sm))
theorem Azd(k:Nat):FM 160 U7 Va (Tz k):=fRL (px:=Apv _ k) (n:=2) Tryz.func160 rfl (λcx H=>by have h0:Lv cx (Apv (L5) k):=lv H (l1 H I2 (l1 H Gp (l1 H Fs (l1 H Aok Af)))) Ab (w1 H Bkq (w1 H Aiv Aa));have hlptable_0:=lO H h0 (b:=lp Tryz.f160 0) (k:=k) (n:=0) (s:=Aeo) (step:=Et) (λ_ _ _ (_,_,_,_,_,_,_,_,_,_,_,_,_,_,_,_,_,_,_,_,_,_)=>by kernel_rfl) Ak;have hlptable_1:=lO H h0 (b:=lp Tryz.f160 1) (k:=k) (n:=0) (s:=Ad8) (step:=Cy) (λ_ _ _ (_,_,_,_,_,_,_,_,_,_,_,_,_,_,_,_,_,_,_,_,_,_)=>by kernel_rfl) Ak;exact⟨h0,(Bq (Bq Ak hlptable_0) hlptable_1)⟩) λ(_,_,_,_,_,_,_,_,_,_,_,_,_,_,_,_,_,_,_,_,_,_)=>by kernel_rfl
def I1:Avv->Option L5:=λx=>Tz ((x.1.length+3)) x
theorem A9y:FM 160 U7 Va (I1):=FnLn.fin (ι:=Nat) (sg:=U7) (so:=Va) 0 (F:=λk=>Tz k) (λk=>Azd k) λx _ _ hx=>⟨(x.1.length+3),hx⟩
def X2:Sig:=⟨2,[],[(0,.ptr 0 0),(1,.ptr 1 0)],[(0,.cells [.sl .tok false,.int .i64,.bool,.int .i64]),(1,.cells [.int .i64,.str,.str,.sl .col true,.sl .str false,.sl .expr true,.sl .exprs true,.sl .set true,.bool,.int .i64,.int .i64,.int .i64,.str,.str,.sl .expr false,.sl .str true,.sl .bool true,.int .i64])],2,2,0,[],[]⟩
def Xv:Sig:=⟨0,[],[],[(0,.cells [.sl .tok false,.int .i64,.bool,.int .i64]),(1,.cells [.int .i64,.str,.str,.sl .col true,.sl .str false,.sl .expr true,.sl .exprs true,.sl .set true,.bool,.int .i64,.int .i64,.int .i64,.str,.str,.sl .expr false,.sl .str true,.sl .bool true,.int .i64])],2,2,0,[],[]⟩
abbrev Anp:=List Tok×Int×Bool×Int×Int×Str×Str×List Col×List Str×List Xpr×List (List Xpr)×List SetE×Bool×Int×Int×Int×Str×Str×List Xpr×List Str×List Bool×Int
abbrev Ao3:=List Tok×Int×Bool×Int×Int×Str×Str×List Col×List Str×List Xpr×List (List Xpr)×List SetE×Bool×Int×Int×Int×Str×Str×List Xpr×List Str×List Bool×Int
def Aze(R:Type):Px R:=pxO [(117,Aj Em Ej Ao),(160,Aj U7 Va I1),(119,Aj Eu E4 Ai),(120,Aj Gi Gg Av),(161,Aj Nw O8 D8)] [] [] []
def Abw(x:Anp):Option (Ao3):=match x with
 |(l,n,b,p,sk,sn,so,sc,ss,sl,sr,st,sh,wk,vk,vn,vs,wn,wl,sd,se,sm) =>
 (Ao ([84,65,66,76,69],l,n,b,p)).bind λ(x,x1,x2,x3,x4) =>
  cond (x) (
  (I1 (x1,x2,x3,x4,sk,sn,so,sc,ss,sl,sr,st,sh,wk,vk,vn,vs,wn,wl,sd,se,sm)).bind λ(x5,x6,x7,x8,x9,a,c,d,e,f,g,h,i,j,k,m,o,q,r,s,t,u) =>some (x5,x6,x7,x8,x9,a,c,d,e,f,g,h,i,j,k,m,o,q,r,s,t,u)) (
  (Ai ([[73,78,68,69,88]],x1,x2,x3,x4)).bind λ(v,w,y,z) =>
   (Av (v,w,y,z)).bind λ(a0,a1,a2,a3,a4) =>
   (Ai ([[79,78]],a1,a2,a3,a4)).bind λ(a5,a6,a7,a8) =>
    (Av (a5,a6,a7,a8)).bind λ(a9,aa,ab,ac,ad) =>
    (D8 (aa,ab,ac,ad)).bind λ(ae,af,ag,ah,ai) =>some (af,ag,ah,ai,3,a0,a9,sc,ae,sl,sr,st,sh,wk,vk,vn,vs,wn,wl,sd,se,sm))
theorem Ax1:FM 118 X2 Xv (Abw):=fRL (px:=Aze _) (n:=0) Tryz.func118 rfl (λ_ H=>⟨lv H (l1 H Fs (l1 H A9y (l1 H Gp (l1 H I2 (l1 H Aok Af))))) Ab Aa,Ak⟩) λ(_,_,_,_,_,_,_,_,_,_,_,_,_,_,_,_,_,_,_,_,_,_)=>by kernel_rfl
def N5:Anp->Option Ao3:=λx=>Abw x
theorem A1g:FM 118 X2 Xv (N5):=Ax1
def O1:Sig:=⟨2,[],[(0,.ptr 0 0),(1,.ptr 1 0)],[(0,.cells [.sl .tok false,.int .i64,.bool,.int .i64]),(1,.cells [.int .i64,.str,.str,.sl .col true,.sl .str false,.sl .expr true,.sl .exprs true,.sl .set true,.bool,.int .i64,.int .i64,.int .i64,.str,.str,.sl .expr false,.sl .str true,.sl .bool true,.int .i64])],2,2,0,[],[]⟩
def Oc:Sig:=⟨0,[],[],[(0,.cells [.sl .tok false,.int .i64,.bool,.int .i64]),(1,.cells [.int .i64,.str,.str,.sl .col true,.sl .str false,.sl .expr true,.sl .exprs true,.sl .set true,.bool,.int .i64,.int .i64,.int .i64,.str,.str,.sl .expr false,.sl .str true,.sl .bool true,.int .i64])],2,2,0,[],[]⟩
abbrev Atq:=List Tok×Int×Bool×Int×Int×Str×Str×List Col×List Str×List Xpr×List (List Xpr)×List SetE×Bool×Int×Int×Int×Str×Str×List Xpr×List Str×List Bool×Int
abbrev Au4:=List Tok×Int×Bool×Int×Int×Str×Str×List Col×List Str×List Xpr×List (List Xpr)×List SetE×Bool×Int×Int×Int×Str×Str×List Xpr×List Str×List Bool×Int
def A73(R:Type):Px R:=pxO [(117,Aj Em Ej Ao),(90,Aj C3 C4 Fz)] [] [] []
def M6(x:Atq):Option (Au4):=match x with
 |(l,n,b,p,sk,sn,so,sc,ss,sl,sr,st,sh,wk,vk,vn,vs,wn,wl,sd,se,sm) =>
 let j:=λ(p2:Bool) (q4:List Tok) (q5:Int) (q6:Bool) (q7:Int) =>
  cond (p2) (
  (Fz (q4,q5,q6,q7)).bind λ(x5,x6,x7,x8,x9) =>some (x6,x7,x8,x9,sk,sn,so,sc,ss,sl,sr,st,true,x5.kind,x5.v.kind,x5.v.n,x5.v.s,x5.name,x5.l,sd,se,sm)) (
  some (q4,q5,q6,q7,sk,sn,so,sc,ss,sl,sr,st,sh,wk,vk,vn,vs,wn,wl,sd,se,sm))
 cond (!b) (
  (Ao ([87,72,69,82,69],l,n,b,p)).bind λ(x,x1,x2,x3,x4) =>
  j x x1 x2 x3 x4) (
  j false l n b p)
theorem Aza:FM 125 O1 Oc (M6):=fRL (px:=A73 _) (n:=0) Tryz.func125 rfl (λ_ H=>⟨lv H (l1 H Fs (l1 H Aiv Af)) Ab Aa,Ak⟩) λ(_,_,_,_,_,_,_,_,_,_,_,_,_,_,_,_,_,_,_,_,_,_)=>by kernel_rfl
def Cf:Atq->Option Au4:=λx=>M6 x
theorem Adn:FM 125 O1 Oc (Cf):=Aza
def P3:Sig:=⟨2,[],[(0,.ptr 0 0),(1,.ptr 1 0)],[(0,.cells [.sl .tok false,.int .i64,.bool,.int .i64]),(1,.cells [.int .i64,.str,.str,.sl .col true,.sl .str false,.sl .expr true,.sl .exprs true,.sl .set true,.bool,.int .i64,.int .i64,.int .i64,.str,.str,.sl .expr false,.sl .str true,.sl .bool true,.int .i64])],2,2,0,[],[]⟩
def Q3:Sig:=⟨0,[],[],[(0,.cells [.sl .tok false,.int .i64,.bool,.int .i64]),(1,.cells [.int .i64,.str,.str,.sl .col true,.sl .str false,.sl .expr true,.sl .exprs true,.sl .set true,.bool,.int .i64,.int .i64,.int .i64,.str,.str,.sl .expr false,.sl .str true,.sl .bool true,.int .i64])],2,2,0,[],[]⟩
abbrev Aqd:=List Tok×Int×Bool×Int×Int×Str×Str×List Col×List Str×List Xpr×List (List Xpr)×List SetE×Bool×Int×Int×Int×Str×Str×List Xpr×List Str×List Bool×Int
abbrev Jj:=List Tok×Int×Bool×Int×Int×Str×Str×List Col×List Str×List Xpr×List (List Xpr)×List SetE×Bool×Int×Int×Int×Str×Str×List Xpr×List Str×List Bool×Int
def Z2:Sig:=⟨19,[],[(0,.ptr 0 0),(1,.fn 163 [.ptr 2 0,.ptr 3 0])],[(0,.cells [.sl .tok false,.int .i64,.bool,.int .i64]),(1,.cells [.int .i64,.str,.str,.sl .col true,.sl .str false,.sl .expr true,.sl .exprs true,.sl .set true,.bool,.int .i64,.int .i64,.int .i64,.str,.str,.sl .expr false,.sl .str true,.sl .bool true,.int .i64]),(2,.fx [.ptr 0 0]),(3,.fx [.ptr 1 0])],80,80,400,[],[]⟩
abbrev Dx:=List Tok×Int×Bool×Int×Int×Str×Str×List Col×List Str×List Xpr×List (List Xpr)×List SetE×Bool×Int×Int×Int×Str×Str×List Xpr×List Str×List Bool×Int
def D3{R:Type}(rec:Dx->Option R)(kx:Ex->Dx->Option R)(v:Dx):Option R:=match v with
 |(w,w1,w2,w3,w4,w5,w6,w7,w8,w9,b,a,c,d,e,f,g,h,i,j,k,l) =>
 cond (!w2) (
  (Ao ([44],w,w1,w2,w3)).bind λ(q,m,n,o,p) =>
  cond (q) (
   (Av (m,n,o,p)).bind λ(r,s,t,u,x) =>
   (Ai ([[61]],s,t,u,x)).bind λ(y,z,a0,a1) =>
    (Fz (y,z,a0,a1)).bind λ(a2,a3,a4,a5,a6) =>
    chk (decide (a.length+1<=Am)) (
     rec (a3,a4,a5,a6,w4,w5,w6,w7,w8,w9,b,(a++[(SetE.mk r (Mf a2))]),c,d,e,f,g,h,i,j,k,l))) (
   kx (.exit 0) (m,n,o,p,w4,w5,w6,w7,w8,w9,b,a,c,d,e,f,g,h,i,j,k,l))) (
  kx (.exit 0) (w,w1,w2,w3,w4,w5,w6,w7,w8,w9,b,a,c,d,e,f,g,h,i,j,k,l))
def S6(R:Type)(_k:Nat):Px R:=pxO [(120,Aj Gi Gg Av),(119,Aj Eu E4 Ai),(90,Aj C3 C4 Fz)] [] [] []
noncomputable def Zc(R:Type)(k:Nat):Px R:=pxO [(117,Aj Em Ej Ao),(163,Az 120 600 (S6 R k) Tryz.f163)] [] [(1,Aq k Z2 (D3))] []
noncomputable def Ahr(R:Type)(k:Nat):Px R:=pxO [(119,Aj Eu E4 Ai),(125,Aj O1 Oc Cf),(121,Az 80 400 (Zc R k) Tryz.f121)] [] [] [(120,Ee Gi Gg Av)]
def Pt(k:Nat)(x:Aqd):Option (Jj):=match x with
 |(l,n,b,p,_,_,so,sc,ss,sl,sr,st,sh,wk,vk,vn,vs,wn,wl,sd,se,sm) =>
 (Av (l,n,b,p)).bind λ(x,x1,x2,x3,x4) =>
  (Ai ([[83,69,84]],x1,x2,x3,x4)).bind λ(x5,x6,x7,x8) =>
  (Av (x5,x6,x7,x8)).bind λ(x9,a,c,d,f) =>
   (Ai ([[61]],a,c,d,f)).bind λ(g,h,i,j) =>
   (Fz (g,h,i,j)).bind λ(m,o,q,r,s) =>
    chk (decide (st.length+1<=Am)) (
    Al (λrec=>D3 rec (λe vz=>match vz with|(v,v1,v2,v3,v4,v5,v6,v7,v8,v9,t,u,w,y,z,a0,a1,a2,a3,a4,a5,a6)=>match e with
     |.exit 0 =>
     (Cf (v,v1,v2,v3,v4,v5,v6,v7,v8,v9,t,u,w,y,z,a0,a1,a2,a3,a4,a5,a6)).bind λ(a7,a8,a9,aa,ab,ac,ad,ae,af,ag,ah,ai,aj,ak,al,am,an,ao,ap,aq,ar,au) =>some (a7,a8,a9,aa,ab,ac,ad,ae,af,ag,ah,ai,aj,ak,al,am,an,ao,ap,aq,ar,au)
     |_=>none)) k (o,q,r,s,6,x,so,sc,ss,sl,sr,(st++[(SetE.mk x9 (Mf m))]),sh,wk,vk,vn,vs,wn,wl,sd,se,sm))
theorem Aup(k:Nat):FM 124 P3 Q3 (Pt k):=fRL (px:=Ahr _ k) (n:=0) Tryz.func124 rfl (λcx H=>by have h2:Lv cx (S6 (Jj) k):=lv H (l1 H I2 (l1 H Gp (l1 H Aiv Af))) Ab Aa;have h1:Lv cx (Zc (Jj) k):=lv H (l1 H Fs (Au (cR H h2 Tryz.func163 rfl (n:=0) (Ak)) Af)) Ab Aa;have hlpupdate_0:=lO H h1 (b:=lp Tryz.f121 0) (k:=k) (n:=0) (s:=Z2) (step:=D3) (λ_ _ _ (_,_,_,_,_,_,_,_,_,_,_,_,_,_,_,_,_,_,_,_,_,_)=>by kernel_rfl) Ak;have h0:Lv cx (Ahr (Jj) k):=lv H (l1 H Gp (l1 H Adn (Au (cR H h1 Tryz.func121 rfl (n:=1) ((Bq Ak hlpupdate_0))) Af))) Ab (w1 H I2 Aa);exact⟨h0,Ak⟩) λ(_,_,_,_,_,_,_,_,_,_,_,_,_,_,_,_,_,_,_,_,_,_)=>by kernel_rfl
def I5:Aqd->Option Jj:=λx=>Pt ((x.1.length+3)) x
theorem Ay9:FM 124 P3 Q3 (I5):=FnLn.fin (ι:=Nat) (sg:=P3) (so:=Q3) 0 (F:=λk=>Pt k) (λk=>Aup k) λx _ _ hx=>⟨(x.1.length+3),hx⟩
def Mg:Sig:=⟨2,[],[(0,.ptr 0 0),(1,.ptr 1 0)],[(0,.cells [.sl .tok false,.int .i64,.bool,.int .i64]),(1,.cells [.int .i64,.str,.str,.sl .col true,.sl .str false,.sl .expr true,.sl .exprs true,.sl .set true,.bool,.int .i64,.int .i64,.int .i64,.str,.str,.sl .expr false,.sl .str true,.sl .bool true,.int .i64])],2,2,0,[],[]⟩
def Mq:Sig:=⟨0,[],[],[(0,.cells [.sl .tok false,.int .i64,.bool,.int .i64]),(1,.cells [.int .i64,.str,.str,.sl .col true,.sl .str false,.sl .expr true,.sl .exprs true,.sl .set true,.bool,.int .i64,.int .i64,.int .i64,.str,.str,.sl .expr false,.sl .str true,.sl .bool true,.int .i64])],2,2,0,[],[]⟩
abbrev Ah5:=List Tok×Int×Bool×Int×Int×Str×Str×List Col×List Str×List Xpr×List (List Xpr)×List SetE×Bool×Int×Int×Int×Str×Str×List Xpr×List Str×List Bool×Int
abbrev E8:=List Tok×Int×Bool×Int×Int×Str×Str×List Col×List Str×List Xpr×List (List Xpr)×List SetE×Bool×Int×Int×Int×Str×Str×List Xpr×List Str×List Bool×Int
def Xl:Sig:=⟨19,[],[(0,.ptr 0 0),(1,.fn 164 [.ptr 3 0,.ptr 2 0])],[(0,.cells [.sl .tok false,.int .i64,.bool,.int .i64]),(1,.cells [.int .i64,.str,.str,.sl .col true,.sl .str false,.sl .expr true,.sl .exprs true,.sl .set true,.bool,.int .i64,.int .i64,.int .i64,.str,.str,.sl .expr false,.sl .str true,.sl .bool true,.int .i64]),(2,.fx [.ptr 0 0]),(3,.fx [.ptr 1 0])],80,80,400,[],[]⟩
abbrev Ci:=List Tok×Int×Bool×Int×Int×Str×Str×List Col×List Str×List Xpr×List (List Xpr)×List SetE×Bool×Int×Int×Int×Str×Str×List Xpr×List Str×List Bool×Int
def Bp{R:Type}(rec:Ci->Option R)(kx:Ex->Ci->Option R)(v:Ci):Option R:=match v with
 |(w,w1,w2,w3,w4,w5,w6,w7,w8,w9,c,d,e,f,g,h,i,j,k,b,a,l) =>
 cond (!w2) (
  (Ao ([44],w,w1,w2,w3)).bind λ(a2,y,z,a0,a1) =>
  cond (a2) (
   (Av (y,z,a0,a1)).bind λ(m,q,r,n,s) =>
   chk (decide (b.length+1<=Am)) (
    cond (!n) (
    (Ao ([68,69,83,67],q,r,n,s)).bind λ(o,t,u,p,x) =>
     cond (!p) (
     cond (!o) (
      (Ao ([65,83,67],t,u,p,x)).bind λ(_,a3,a4,a5,a6) =>
      chk (decide (a.length+1<=Am)) (
       rec (a3,a4,a5,a6,w4,w5,w6,w7,w8,w9,c,d,e,f,g,h,i,j,k,(b++[m]),(a++[o]),l))) (
      chk (decide (a.length+1<=Am)) (
      rec (t,u,p,x,w4,w5,w6,w7,w8,w9,c,d,e,f,g,h,i,j,k,(b++[m]),(a++[o]),l)))) (
     chk (decide (a.length+1<=Am)) (
      rec (t,u,p,x,w4,w5,w6,w7,w8,w9,c,d,e,f,g,h,i,j,k,(b++[m]),(a++[o]),l)))) (
    cond (!n) (
     (Ao ([65,83,67],q,r,n,s)).bind λ(_,a7,a8,a9,aa) =>
     chk (decide (a.length+1<=Am)) (
      rec (a7,a8,a9,aa,w4,w5,w6,w7,w8,w9,c,d,e,f,g,h,i,j,k,(b++[m]),(a++[false]),l))) (
     chk (decide (a.length+1<=Am)) (
     rec (q,r,n,s,w4,w5,w6,w7,w8,w9,c,d,e,f,g,h,i,j,k,(b++[m]),(a++[false]),l)))))) (
   kx (.exit 0) (y,z,a0,a1,w4,w5,w6,w7,w8,w9,c,d,e,f,g,h,i,j,k,b,a,l))) (
  kx (.exit 0) (w,w1,w2,w3,w4,w5,w6,w7,w8,w9,c,d,e,f,g,h,i,j,k,b,a,l))
def Sb(R:Type)(_k:Nat):Px R:=pxO [(117,Aj Em Ej Ao)] [] [] [(120,Ee Gi Gg Av)]
noncomputable def Xe(R:Type)(k:Nat):Px R:=pxO [(117,Aj Em Ej Ao),(164,Az 120 600 (Sb R k) Tryz.f164)] [] [(1,Aq k Xl (Bp))] []
noncomputable def Ae7(R:Type)(k:Nat):Px R:=pxO [(117,Aj Em Ej Ao),(119,Aj Eu E4 Ai),(125,Aj O1 Oc Cf),(158,Aj Jv J1 Ev),(127,Aj H1 H0 Cm),(121,Az 80 400 (Xe R k) Tryz.f121)] [] [] [(123,Ee N2 Od C9),(120,Ee Gi Gg Av),(159,Ee Lg L6 Ch)]
def Nl(k:Nat)(x:Ah5):Option (E8):=match x with
 |(l,n,b,p,_,_,so,sc,ss,sl,sr,st,sh,wk,vk,vn,vs,wn,wl,sd,se,_) =>
 let j3:=λ(q:List Tok) (q1:Int) (q2:Bool) (q3:Int) (q4:List Xpr) =>
  (Ai ([[70,82,79,77]],q,q1,q2,q3)).bind λ(bd,be,bf,bg) =>
  (Av (bd,be,bf,bg)).bind λ(bh,bi,bj,bk,bl) =>
   (Cf (bi,bj,bk,bl,8,bh,so,sc,ss,q4,sr,st,sh,wk,vk,vn,vs,wn,wl,sd,se,(-1))).bind λ(au,av,a4,aw,a5,a6,a7,a8,a9,aa,ab,ac,ad,ae,af,ag,ah,ai,aj,d,a,ak) =>
   let j2:=λ(ax:List Tok) (ay:Int) (al:Bool) (az:Int) (f:Int) (g:Str) (h:Str) (i:List Col) (j:List Str) (m:List Xpr) (o:List (List Xpr)) (r:List SetE) (s:Bool) (t:Int) (u:Int) (v:Int) (w:Str) (y:Str) (z:List Xpr) (a0:List Str) (a1:List Bool) (b0:Int) =>
    cond (!al) (
    (Ao ([76,73,77,73,84],ax,ay,al,az)).bind λ(bm,b1,b2,b3,b4) =>
     cond (bm) (
     (Ev (b1,b2,b3,b4)).bind λ(bn,b5,b6,b7,b8) =>
      cond (!decide (bn.kind=3)) (
      (Cm (b5,b6,b7,b8)).bind λ(bo,bp,bq,br) =>
       (Ch (bo,bp,bq,br)).bind λ(bs,bt,bu,bv,bw) =>
       some (bt,bu,bv,bw,f,g,h,i,j,m,o,r,s,t,u,v,w,y,z,a0,a1,bs.n)) (
      (Ch (b5,b6,b7,b8)).bind λ(bx,bz,c0,c1,c2) =>some (bz,c0,c1,c2,f,g,h,i,j,m,o,r,s,t,u,v,w,y,z,a0,a1,bx.n))) (
     some (b1,b2,b3,b4,f,g,h,i,j,m,o,r,s,t,u,v,w,y,z,a0,a1,b0))) (
    some (ax,ay,al,az,f,g,h,i,j,m,o,r,s,t,u,v,w,y,z,a0,a1,b0))
   cond (!a4) (
    (Ao ([79,82,68,69,82],au,av,a4,aw)).bind λ(c3,b9,ba,bb,bc) =>
    cond (c3) (
     (Ai ([[66,89]],b9,ba,bb,bc)).bind λ(c4,c5,c6,c7) =>
     (Av (c4,c5,c6,c7)).bind λ(c8,am,an,c,ao) =>
      let j1:=λ(c9:List Tok) (ca:Int) (cb:Bool) (cc:Int) (cd:List Bool) =>
      Al (λrec=>Bp rec (λe vz=>match vz with|(ce,cf,cg,ch,ci,cj,ck,cl,cm,cn,co,cp,cq,cr,cs,ct,cu,cv,cw,cx,cy,cz)=>match e with
       |.exit 0 =>
       j2 ce cf cg ch ci cj ck cl cm cn co cp cq cr cs ct cu cv cw cx cy cz
       |_=>none)) k (c9,ca,cb,cc,a5,a6,a7,a8,a9,aa,ab,ac,ad,ae,af,ag,ah,ai,aj,(d++[c8]),cd,ak)
      chk (decide (d.length+1<=Am)) (
      cond (!c) (
       (Ao ([68,69,83,67],am,an,c,ao)).bind λ(a2,ap,aq,a3,ar) =>
       cond (!a3) (
        cond (!a2) (
        (Ao ([65,83,67],ap,aq,a3,ar)).bind λ(_,d0,d1,d2,d3) =>
         chk (decide (a.length+1<=Am)) (
         j1 d0 d1 d2 d3 (a++[a2]))) (
        chk (decide (a.length+1<=Am)) (
         j1 ap aq a3 ar (a++[a2])))) (
        chk (decide (a.length+1<=Am)) (
        j1 ap aq a3 ar (a++[a2])))) (
       cond (!c) (
       (Ao ([65,83,67],am,an,c,ao)).bind λ(_,d4,d5,d6,d7) =>
        chk (decide (a.length+1<=Am)) (
        j1 d4 d5 d6 d7 (a++[false]))) (
       chk (decide (a.length+1<=Am)) (
        j1 am an c ao (a++[false])))))) (
     j2 b9 ba bb bc a5 a6 a7 a8 a9 aa ab ac ad ae af ag ah ai aj d a ak)) (
    j2 au av a4 aw a5 a6 a7 a8 a9 aa ab ac ad ae af ag ah ai aj d a ak)
 (Ao ([42],l,n,b,p)).bind λ(x,x1,x2,x3,x4) =>
  cond (!x) (
  (C9 (x1,x2,x3,x4)).bind λ(x5,x6,x7,x8,x9) =>j3 x6 x7 x8 x9 x5) (
  j3 x1 x2 x3 x4 sl)
theorem Asi(k:Nat):FM 126 Mg Mq (Nl k):=fRL (px:=Ae7 _ k) (n:=0) Tryz.func126 rfl (λcx H=>by have h2:Lv cx (Sb (E8) k):=lv H (l1 H Fs Af) Ab (w1 H I2 Aa);have h1:Lv cx (Xe (E8) k):=lv H (l1 H Fs (Au (cR H h2 Tryz.func164 rfl (n:=0) (Ak)) Af)) Ab Aa;have hlpselects_0:=lO H h1 (b:=lp Tryz.f121 0) (k:=k) (n:=0) (s:=Xl) (step:=Bp) (λ_ _ _ (_,_,_,_,_,_,_,_,_,_,_,_,_,_,_,_,_,_,_,_,_,_)=>by kernel_rfl) Ak;have h0:Lv cx (Ae7 (E8) k):=lv H (l1 H Fs (l1 H Gp (l1 H Adn (l1 H Pq (l1 H La (Au (cR H h1 Tryz.func121 rfl (n:=1) ((Bq Ak hlpselects_0))) Af)))))) Ab (w1 H Apx (w1 H I2 (w1 H S9 Aa)));exact⟨h0,Ak⟩) λ(_,_,_,_,_,_,_,_,_,_,_,_,_,_,_,_,_,_,_,_,_,_)=>by kernel_rfl
def Hs:Ah5->Option E8:=λx=>Nl ((x.1.length+3)) x
theorem Avx:FM 126 Mg Mq (Hs):=FnLn.fin (ι:=Nat) (sg:=Mg) (so:=Mq) 0 (F:=λk=>Nl k) (λk=>Asi k) λx _ _ hx=>⟨(x.1.length+3),hx⟩
def Zf:Sig:=⟨1,[],[(0,.ptr 0 0)],[(0,.cells [.sl .tok false,.int .i64,.bool,.int .i64])],1,1,0,[],[]⟩
def Aby:Sig:=⟨1,[(0,.sv .stmt)],[],[(0,.cells [.sl .tok false,.int .i64,.bool,.int .i64])],1,1,0,[],[]⟩
abbrev A6g:=List Tok×Int×Bool×Int
abbrev Ko:=Stm×List Tok×Int×Bool×Int
def Aka:Sig:=⟨19,[],[(0,.ptr 0 0),(1,.fn 122 [.ptr 1 0,.ptr 3 0])],[(0,.cells [.sl .tok false,.int .i64,.bool,.int .i64]),(1,.fx [.ptr 0 0]),(2,.one (.sv .stmt)),(3,.cells [.int .i64,.str,.str,.sl .col true,.sl .str true,.sl .expr true,.sl .exprs true,.sl .set true,.bool,.int .i64,.int .i64,.int .i64,.str,.str,.sl .expr true,.sl .str true,.sl .bool true,.int .i64])],80,80,400,[],[]⟩
abbrev Gw:=List Tok×Int×Bool×Int×Stm×Int×Str×Str×List Col×List Str×List Xpr×List (List Xpr)×List SetE×Bool×Int×Int×Int×Str×Str×List Xpr×List Str×List Bool×Int
def F7{R:Type}(rec:Gw->Option R)(kx:Ex->Gw->Option R)(v:Gw):Option R:=match v with
 |(w,w1,w2,w3,w4,w5,w6,w7,w8,w9,b,a,c,d,e,f,g,h,i,j,k,l,m) =>
 cond (!w2) (
  (Ao ([44],w,w1,w2,w3)).bind λ(r,n,o,p,q) =>
  cond (r) (
   (Ai ([[40]],n,o,p,q)).bind λ(s,t,u,x) =>
   (C9 (s,t,u,x)).bind λ(y,z,a0,a1,a2) =>
    chk (decide (a.length+1<=Am)) (
    (Ai ([[41]],z,a0,a1,a2)).bind λ(a3,a4,a5,a6) =>rec (a3,a4,a5,a6,w4,w5,w6,w7,w8,w9,b,(a++[y]),c,d,e,f,g,h,i,j,k,l,m))) (
   kx (.exit 0) (n,o,p,q,w4,w5,w6,w7,w8,w9,b,a,c,d,e,f,g,h,i,j,k,l,m))) (
  kx (.exit 0) (w,w1,w2,w3,w4,w5,w6,w7,w8,w9,b,a,c,d,e,f,g,h,i,j,k,l,m))
def Aaq(R:Type)(_k:Nat):Px R:=pxO [(119,Aj Eu E4 Ai)] [] [] [(123,Ee N2 Od C9)]
noncomputable def Aj6(R:Type)(k:Nat):Px R:=pxO [(117,Aj Em Ej Ao),(122,Az 120 600 (Aaq R k) Tryz.f122)] [] [(1,Aq k Aka (F7))] []
noncomputable def Axj(R:Type)(k:Nat):Px R:=pxO [(117,Aj Em Ej Ao),(118,Aj X2 Xv N5),(119,Aj Eu E4 Ai),(120,Aj Gi Gg Av),(124,Aj P3 Q3 I5),(125,Aj O1 Oc Cf),(126,Aj Mg Mq Hs),(127,Aj H1 H0 Cm),(121,Az 80 400 (Aj6 R k) Tryz.f121)] [] [] []
def Yo(k:Nat)(x:A6g):Option (Ko):=match x with
 |(l,n,b,p) =>
 (Ao ([67,82,69,65,84,69],l,n,b,p)).bind λ(x,x1,x2,x3,x4) =>
  cond (x) (
  (N5 (x1,x2,x3,x4,0,[],[],[],[],[],[],[],false,0,0,0,[],[],[],[],[],0)).bind λ(x5,x6,x7,x8,x9,i,j,m,o,q,r,s,t,u,w,y,z,a0,a1,a2,a3,a4) =>
   cond (!x7) (
   (Ao ([59],x5,x6,x7,x8)).bind λ(_,db,dc,dd,de) =>some ((Stm.mk x9 i j m o q r s t (Xpr.mk u ⟨w,y,z⟩ a0 a1) a2 a3 a4),db,dc,dd,de)) (
   some ((Stm.mk x9 i j m o q r s t (Xpr.mk u ⟨w,y,z⟩ a0 a1) a2 a3 a4),x5,x6,x7,x8))) (
  (Ao ([68,82,79,80],x1,x2,x3,x4)).bind λ(df,a5,a6,a7,a8) =>
   cond (df) (
   (Ao ([84,65,66,76,69],a5,a6,a7,a8)).bind λ(dg,a9,aa,ab,ac) =>
    cond (!dg) (
    (Ai ([[73,78,68,69,88]],a9,aa,ab,ac)).bind λ(dh,di,dj,dk) =>
     (Av (dh,di,dj,dk)).bind λ(ad,ae,af,a,ag) =>
     cond (!a) (
      (Ao ([59],ae,af,a,ag)).bind λ(_,dl,dm,dn,dp) =>
      some ((Stm.mk 4 ad [] [] [] [] [] [] false (Xpr.mk 0 ⟨0,0,[]⟩ [] []) [] [] 0),dl,dm,dn,dp)) (
      some ((Stm.mk 4 ad [] [] [] [] [] [] false (Xpr.mk 0 ⟨0,0,[]⟩ [] []) [] [] 0),ae,af,a,ag))) (
    (Av (a9,aa,ab,ac)).bind λ(ah,ai,aj,c,ak) =>
     cond (!c) (
     (Ao ([59],ai,aj,c,ak)).bind λ(_,dq,dr,ds,dt) =>some ((Stm.mk 2 ah [] [] [] [] [] [] false (Xpr.mk 0 ⟨0,0,[]⟩ [] []) [] [] 0),dq,dr,ds,dt)) (
     some ((Stm.mk 2 ah [] [] [] [] [] [] false (Xpr.mk 0 ⟨0,0,[]⟩ [] []) [] [] 0),ai,aj,c,ak)))) (
   (Ao ([73,78,83,69,82,84],a5,a6,a7,a8)).bind λ(du,al,am,an,ao) =>
    cond (du) (
    (Ai ([[73,78,84,79]],al,am,an,ao)).bind λ(dv,dw,dx,dy) =>
     (Av (dv,dw,dx,dy)).bind λ(dz,e0,e1,e2,e3) =>
     (Ai ([[86,65,76,85,69,83]],e0,e1,e2,e3)).bind λ(e4,e5,e6,e7) =>
      (Ai ([[40]],e4,e5,e6,e7)).bind λ(e8,e9,ea,eb) =>
      (C9 (e8,e9,ea,eb)).bind λ(ec,ed,ee,ef,eg) =>
       (Ai ([[41]],ed,ee,ef,eg)).bind λ(eh,ei,ej,ek) =>
       Al (λrec=>F7 rec (λe vz=>match vz with|(v,v1,v2,v3,_,v5,v6,v7,v8,v9,ap,aq,ar,au,av,aw,ax,ay,az,b0,b1,b2,b3)=>match e with
        |.exit 0 =>
        cond (!v2) (
         (Ao ([59],v,v1,v2,v3)).bind λ(_,el,em,en,eo) =>
         some ((Stm.mk v5 v6 v7 v8 v9 ap aq ar au (Xpr.mk av ⟨aw,ax,ay⟩ az b0) b1 b2 b3),el,em,en,eo)) (
         some ((Stm.mk v5 v6 v7 v8 v9 ap aq ar au (Xpr.mk av ⟨aw,ax,ay⟩ az b0) b1 b2 b3),v,v1,v2,v3))
        |_=>none)) k (eh,ei,ej,ek,(Stm.mk 0 [] [] [] [] [] [] [] false (Xpr.mk 0 ⟨0,0,[]⟩ [] []) [] [] 0),5,dz,[],[],[],[],[ec],[],false,0,0,0,[],[],[],[],[],0)) (
    (Ao ([85,80,68,65,84,69],al,am,an,ao)).bind λ(ep,b4,b5,b6,b7) =>
     cond (ep) (
     (I5 (b4,b5,b6,b7,0,[],[],[],[],[],[],[],false,0,0,0,[],[],[],[],[],0)).bind λ(b8,b9,d,ba,bb,bc,bd,be,bf,bg,bh,bi,bj,bk,bl,bm,bn,bo,bp,bq,br,bs) =>
      cond (!d) (
      (Ao ([59],b8,b9,d,ba)).bind λ(_,er,es,et,eu) =>some ((Stm.mk bb bc bd be bf bg bh bi bj (Xpr.mk bk ⟨bl,bm,bn⟩ bo bp) bq br bs),er,es,et,eu)) (
      some ((Stm.mk bb bc bd be bf bg bh bi bj (Xpr.mk bk ⟨bl,bm,bn⟩ bo bp) bq br bs),b8,b9,d,ba))) (
     (Ao ([68,69,76,69,84,69],b4,b5,b6,b7)).bind λ(ev,bt,bu,bv,bw) =>
      cond (ev) (
      (Ai ([[70,82,79,77]],bt,bu,bv,bw)).bind λ(ew,ex,ey,ez) =>
       (Av (ew,ex,ey,ez)).bind λ(f0,f1,f2,f3,f4) =>
       (Cf (f1,f2,f3,f4,7,f0,[],[],[],[],[],[],false,0,0,0,[],[],[],[],[],0)).bind λ(bx,bz,f,c0,c1,c2,c3,c4,c5,c6,c7,c8,c9,ca,cb,cc,cd,ce,cf,cg,ch,ci) =>
        cond (!f) (
        (Ao ([59],bx,bz,f,c0)).bind λ(_,f5,f6,f7,f8) =>some ((Stm.mk c1 c2 c3 c4 c5 c6 c7 c8 c9 (Xpr.mk ca ⟨cb,cc,cd⟩ ce cf) cg ch ci),f5,f6,f7,f8)) (
        some ((Stm.mk c1 c2 c3 c4 c5 c6 c7 c8 c9 (Xpr.mk ca ⟨cb,cc,cd⟩ ce cf) cg ch ci),bx,bz,f,c0))) (
      (Ao ([83,69,76,69,67,84],bt,bu,bv,bw)).bind λ(f9,cj,ck,cl,cm) =>
       cond (f9) (
       (Hs (cj,ck,cl,cm,0,[],[],[],[],[],[],[],false,0,0,0,[],[],[],[],[],0)).bind λ(cn,co,g,cp,cq,cr,cs,ct,cu,cv,cw,cx,cy,cz,d0,d1,d2,d3,d4,d5,d6,d7) =>
        cond (!g) (
        (Ao ([59],cn,co,g,cp)).bind λ(_,fa,fb,fc,fd) =>some ((Stm.mk cq cr cs ct cu cv cw cx cy (Xpr.mk cz ⟨d0,d1,d2⟩ d3 d4) d5 d6 d7),fa,fb,fc,fd)) (
        some ((Stm.mk cq cr cs ct cu cv cw cx cy (Xpr.mk cz ⟨d0,d1,d2⟩ d3 d4) d5 d6 d7),cn,co,g,cp))) (
       (Cm (cj,ck,cl,cm)).bind λ(d8,d9,h,da) =>
        cond (!h) (
        (Ao ([59],d8,d9,h,da)).bind λ(_,fe,ff,fg,fh) =>some ((Stm.mk 0 [] [] [] [] [] [] [] false (Xpr.mk 0 ⟨0,0,[]⟩ [] []) [] [] 0),fe,ff,fg,fh)) (
        some ((Stm.mk 0 [] [] [] [] [] [] [] false (Xpr.mk 0 ⟨0,0,[]⟩ [] []) [] [] 0),d8,d9,h,da))))))))
theorem A7r(k:Nat):FM 85 Zf Aby (Yo k):=fRL (px:=Axj _ k) (n:=0) Tryz.func85 rfl (λcx H=>by have h2:Lv cx (Aaq (Ko) k):=lv H (l1 H Gp Af) Ab (w1 H Apx Aa);have h1:Lv cx (Aj6 (Ko) k):=lv H (l1 H Fs (Au (cR H h2 Tryz.func122 rfl (n:=0) (Ak)) Af)) Ab Aa;have hlpstmt_0:=lO H h1 (b:=lp Tryz.f121 0) (k:=k) (n:=0) (s:=Aka) (step:=F7) (λ_ _ _ (_,_,_,_,_,_,_,_,_,_,_,_,_,_,_,_,_,_,_,_,_,_,_)=>by kernel_rfl) Ak;have h0:Lv cx (Axj (Ko) k):=lv H (l1 H Fs (l1 H A1g (l1 H Gp (l1 H I2 (l1 H Ay9 (l1 H Adn (l1 H Avx (l1 H La (Au (cR H h1 Tryz.func121 rfl (n:=1) ((Bq Ak hlpstmt_0))) Af))))))))) Ab Aa;exact⟨h0,Ak⟩) λ(_,_,_,_)=>by kernel_rfl
def Jl:A6g->Option Ko:=λx=>Yo ((x.1.length+3)) x
theorem Bgc:FM 85 Zf Aby (Jl):=FnLn.fin (ι:=Nat) (sg:=Zf) (so:=Aby) 0 (F:=λk=>Yo k) (λk=>A7r k) λx _ _ hx=>⟨(x.1.length+3),hx⟩
def Abj:Sig:=⟨1,[],[(0,.ptr 0 0)],[(0,.cells [.sl .tok false,.int .i64,.bool,.int .i64])],1,1,0,[],[]⟩
def Aa3:Sig:=⟨1,[(0,.bool)],[],[(0,.cells [.sl .tok false,.int .i64,.bool,.int .i64])],1,1,0,[],[]⟩
abbrev A39:=List Tok×Int×Bool×Int
abbrev A3p:=Bool×List Tok×Int×Bool×Int
def Bcd(R:Type):Px R:=pxO [(127,Aj H1 H0 Cm)] [] [] []
def Rj(x:A39):Option (A3p):=match x with
 |(l,n,b,p) =>
 cond (decide (0<(l.length:Int))) (
  (Cm (l,n,b,p)).bind λ(x,x1,x2,x3) =>
  some (!x2,x,x1,x2,x3)) (
  some (!b,l,n,b,p))
theorem A8h:FM 86 Abj Aa3 (Rj):=fRL (px:=Bcd _) (n:=0) Tryz.func86 rfl (λ_ H=>⟨lv H (l1 H La Af) Ab Aa,Ak⟩) λ(_,_,_,_)=>by kernel_rfl
def Jk:A39->Option A3p:=λx=>Rj x
theorem Awf:FM 86 Abj Aa3 (Jk):=A8h
abbrev RS:=List Tok×Int×Bool×Int
def hdT(n:Int):TL->Tok
 |[]=>⟨0,n,[],0⟩
 |t::_=>t
theorem Boh(n:Int)(l:TL):(hdT n l).pos=Hd n l:=by cases l<;>rfl
theorem Rr(l:TL)(n:Int)(b:Bool)(p:Int):Ev (l,n,b,p)=some (hdT n l,l,n,b,p):=by cases l with|nil=>rfl|cons t r =>have e:decide (((t::r).length:Int)=0)=false:=Zd1 (by simp only[Zf1];omega);have h0:inb 0 (t::r).length=true:=A7 (i:=0) (by simp);simp only[Ev,X5,e,Ah,h0,chk];rfl
theorem A5l(l:TL)(n:Int)(b:Bool)(p:Int):Ch (l,n,b,p)=some (hdT n l,l.tail,n,b,p):=by
 simp only[Ch,Xu,Rr,Zc1];cases l with
 |nil=>rfl
 |cons t r =>
  have e:decide (0<((t::r).length:Int))=true:=Ze1 (by simp only[Zf1];omega);have h:Di 1 ((t::r).length:Int) (t::r).length=true:=by simp only[Di,Zb1,Zg1,Zf1];omega
  simp only[e,Ae,h,chk];rfl
theorem Aqy(t:Tok)(r:TL)(n:Int)(b:Bool)(p:Int):Ev (t::r,n,b,p)=some (t,t::r,n,b,p):=Rr _ _ _ _
theorem Arf(t:Tok)(r:TL)(n:Int)(b:Bool)(p:Int):Ch (t::r,n,b,p)=some (t,r,n,b,p):=A5l _ _ _ _
theorem Fg{s:Str}{l:TL}{n:Int}{b:Bool}{p:Int}(h:isT s l=true):Ao (s,l,n,b,p)=some (true,l.tail,n,b,p):=by
 cases l with
 |nil=>cases h
 |cons t r =>simp only[isT,Zb1] at h;simp only[Ao,Y5,Rr,A5l,Zc1,hdT,h.2,Zt1,Ah];have h1:=h.1;generalize decide (t.kind=1)=c1 at h1 ⊢;generalize decide (t.kind=6)=c2 at h1 ⊢;cases c1<;>cases c2<;>first|rfl|cases h1
theorem Ew{s:Str}{l:TL}{n:Int}{b:Bool}{p:Int}(h:isT s l=false):Ao (s,l,n,b,p)=some (false,l,n,b,p):=by
 simp only[Ao,Y5,Rr,Zc1];cases l with
 |nil=>rfl
 |cons t r =>simp only[isT] at h;simp only[hdT];by_cases h1:t.kind=1<;>by_cases h6:t.kind=6<;>by_cases h3:t.s=s<;>first|(exfalso;simp[h1,h6,h3] at h;done)|simp[h1,h6,h3]
theorem Vm(l:TL)(n p:Int):Cm (l,n,false,p)=some (l,n,true,Hd n l):=by simp only[Cm,Uf,Rr,Zc1,Boh,Zs1,Ae]
theorem Zw(l:TL)(n p:Int):Cm (l,n,true,p)=some (l,n,true,p):=rfl
theorem Ao6{R:Type}{kx:Ex->Wd->Option R}{ss:List Str}{n:Int}{c:TL->Bool->Int->Option R}(hn:ln ss.length)(h1:∀i l b p,kx .ret (ss,(ss.length:Int),i,l,n,b,p)=c l b p)(h2:∀i l b p,kx (.exit 0) (ss,(ss.length:Int),i,l,n,b,p)=c l b p)(a:Int):∀(k i:Nat) (l:TL),i<=ss.length->ss.length-i<k ->
  Al (λrec=>Rc rec kx) k (ss,(ss.length:Int),(i:Int),l,n,false,a)=match A4 (ss.drop i) l with|.ok (_,l')=>c l' false a|.error q=>c q true (Hd n q)
 |0,_,_,_,h=>absurd h (Zm1 _)
 |k+1,i,l,hi,h=>by
  rw[A3];by_cases hlt:i<ss.length
  ·have ih:=Ao6 hn h1 h2 a k (i+1) l.tail (by omega) (by omega);rw[As hlt];simp only[Rc,He hlt,Ae,Ah,A7 hlt,chk,Bb (c :=.str) hlt,A0 hlt hn,A4];cases ht:isT ss[i] l with|true=>simp only[Fg ht,Zc1,Zt1,Ah,ih]|false=>simp only[Ew ht,Zc1,Zs1,Ae,Vm,h1]
  ·obtain rfl:i=ss.length:=by omega
   simp only[Rc,G7,Ah,h2,Zc2,A4]
theorem Asv{ss:List Str}(hs:ss.length<=100)(l:TL)(n a:Int):Ai (ss,l,n,false,a)=match A4 ss l with
  |.ok (_,l')=>some (l',n,false,a)
  |.error q=>some (q,n,true,Hd n q):=by
 simp only[Ai,L4];exact Ao6 (c:=λl b p=>some (l,n,b,p)) (by simp only[ln];omega) (λ_ _ _ _=>rfl) (λ_ _ _ _=>rfl) a (ss.length+1) 0 l (Nat.zero_le _) (by omega)
theorem V9{ss:List Str}(hs:ss.length<=100){l l':TL}{x:Unit}(h:A4 ss l = .ok (x,l'))(n a:Int):Ai (ss,l,n,false,a)=some (l',n,false,a):=by rw[Asv hs,h]
theorem U0{ss:List Str}(hs:ss.length<=100){l q:TL}(h:A4 ss l = .error q)(n a:Int):Ai (ss,l,n,false,a)=some (q,n,true,Hd n q):=by rw[Asv hs,h]
theorem Pz(ss:List Str)(l:TL)(n a:Int):Ai (ss,l,n,true,a)=some (l,n,true,a):=by cases ss with|nil=>rfl|cons s r =>have e:decide ((0:Int)<((s::r).length:Int))=true:=Ze1 (by simp only[Zf1];omega);have h0:inb 0 (s::r).length=true:=A7 (i:=0) (by simp);simp only[Ai,L4,A3,Rc,e,Ae,h0,chk,Zw,Zc1]
theorem Aeb{s:Str}{l:TL}(h:isT s l=true):A4 [s] l = .ok ((),l.tail):=by simp only[A4,h]
theorem Ai7{s:Str}{l:TL}(h:isT s l=false):A4 [s] l = .error l:=by simp only[A4,h]
structure SimP {α:Type}(F:RS->Option (α×RS)) (p:TL->PR α) (L:Nat):Prop where
 ok:∀l n a e l',l.length<L->p l = .ok (e,l')->F (l,n,false,a)=some (e,l',n,false,a)
 er:∀l n a q,l.length<L->p l = .error q->∃e l',F (l,n,false,a)=some (e,l',n,true,Hd n q)
 bad:∀l n a,∃e,F (l,n,true,a)=some (e,l,n,true,a)
theorem Cu(L:Nat):SimP Av Bj L where
 ok l n a e l' _ h:=by
  cases l with
  |nil=>cases h
  |cons t r =>simp only[Av,Ma,Aqy,Arf,Zc1,Ah];simp only[Bj] at h;cases hk:decide (t.kind=2) with|true=>rw[hk] at h;cases h;rfl|false=>rw[hk] at h;cases h
 er l n a q _ h:=by
  cases l with
  |nil=>cases h;exact⟨_,_,rfl⟩
  |cons t r =>simp only[Av,Ma,Aqy,Vm,Zc1,Ah];simp only[Bj] at h;cases hk:decide (t.kind=2) with|true=>rw[hk] at h;cases h|false=>rw[hk] at h;cases h;exact⟨_,_,rfl⟩
 bad l n a:=by simp only[Av,Ma,Rr,Zw,Zc1,Ae];exact⟨_,rfl⟩
theorem A4p(rf:Ay->Option Aw)(t:Tok)(r:TL)(n a:Int):Gn rf (t::r,n,false,a)=match Wt t with
  |some v=>some (v,r,n,false,a)
  |none=>(Ai ([[40]],t::r,n,false,a)).bind λ(x1,x2,x3,x4)=>(rf (x1,x2,x3,x4)).bind λ(e,y1,y2,y3,y4)=>(Ai ([[41]],y1,y2,y3,y4)).bind λ(z1,z2,z3,z4)=>some (e,z1,z2,z3,z4):=by
 simp only[Gn,M2,Aqy,Arf,Zc1,Ah];unfold Wt;by_cases h2:t.kind=2
 ·rw[Ze1 h2,if_pos h2];rfl
 rw[Zd1 h2,if_neg h2,Ah];by_cases h3:t.kind=3
 ·rw[Ze1 h3,if_pos h3];rfl
 rw[Zd1 h3,if_neg h3,Ah];by_cases h4:t.kind=4
 ·rw[Ze1 h4,if_pos h4];rfl
 rw[Zd1 h4,if_neg h4,Ah];by_cases h5:t.kind=5
 ·rw[Ze1 h5,if_pos h5];rfl
 rw[Zd1 h5,if_neg h5,Ah];by_cases h1:t.kind=1
 ·rw[Ze1 h1];simp only[Ae];by_cases g1:t.s=R7
  ·rw[Ze1 (show t.s=[84,82,85,69] from g1),if_pos ⟨h1,g1⟩];rfl
  rw[Zd1 (show ¬t.s=[84,82,85,69] from g1),if_neg (λq=>g1 q.2),Ah];by_cases g2:t.s=Kc
  ·rw[Ze1 (show t.s=[70,65,76,83,69] from g2),if_pos ⟨h1,g2⟩];rfl
  rw[Zd1 (show ¬t.s=[70,65,76,83,69] from g2),if_neg (λq=>g2 q.2),Ah];by_cases g3:t.s=B5
  ·rw[Ze1 (show t.s=[78,85,76,76] from g3),if_pos ⟨h1,g3⟩];rfl
  rw[Zd1 (show ¬t.s=[78,85,76,76] from g3),if_neg (λq=>g3 q.2),Ah]
 ·rw[Zd1 h1,if_neg (λq=>h1 q.1),if_neg (λq=>h1 q.1),if_neg (λq=>h1 q.1)];simp only[Ah]
def I3{α:Type}(F:RS->Option (α×RS)):Prop:=∀l n a,∃e,F (l,n,true,a)=some (e,l,n,true,a)
theorem Ana(rf:Ay->Option Aw):I3 (Gn rf):=λl n a=>by simp only[Gn,M2,Rr,Zc1,Ae];exact⟨_,rfl⟩
theorem A68{rf:Ay->Option Aw}{rec:TL->PR Xpr}{L:Nat}(h:SimP rf rec L):SimP (Gn rf) (Bg rec) (L+1) where
 ok l n a e l' hl hp:=by
  cases l with
  |nil=>cases hp
  |cons t r =>
   simp only[Zf1] at hl;rw[F1] at hp;rw[A4p];cases hv:Wt t with
   |some v=>rw[hv] at hp;cases hp;rfl
   |none =>
    rw[hv] at hp;cases hi:isT [40] (t::r) with
    |false=>rw[hi] at hp;cases hp
    |true =>
     rw[hi] at hp;simp only[brP,bP] at hp;simp only[V9 (by decide) (Aeb hi),Zc1,List.tail_cons];cases hq:rec r with
     |error q=>rw[hq] at hp;cases hp
     |ok x =>obtain⟨e1,l1⟩:=x;rw[hq] at hp;simp only at hp;simp only[h.ok r n a e1 l1 (by omega) hq,Zc1];cases hj:isT [41] l1 with|false=>rw[hj] at hp;cases hp|true =>rw[hj] at hp;cases hp;simp only[V9 (by decide) (Aeb hj),Zc1]
 er l n a q hl hp:=by
  cases l with
  |nil =>cases hp;obtain⟨e1,h1⟩:=h.bad [] n n;refine⟨e1,[],?_⟩;have e:Gn rf ([],n,false,a)=(Ai ([[40]],[],n,false,a)).bind λ(x1,x2,x3,x4)=>(rf (x1,x2,x3,x4)).bind λ(e,y1,y2,y3,y4)=>(Ai ([[41]],y1,y2,y3,y4)).bind λ(z1,z2,z3,z4)=>some (e,z1,z2,z3,z4):=rfl;have hm:A4 [[40]] ([]:TL) = .error []:=rfl;simp only[e,U0 (by decide) hm,Zc1,Hd,h1,Pz]
  |cons t r =>
   simp only[Zf1] at hl;rw[F1] at hp;rw[A4p];cases hv:Wt t with
   |some v=>rw[hv] at hp;cases hp
   |none =>
    rw[hv] at hp;cases hi:isT [40] (t::r) with
    |false =>rw[hi] at hp;cases hp;obtain⟨e1,h1⟩:=h.bad (t::r) n (Hd n (t::r));simp only[U0 (by decide) (Ai7 hi),Zc1,h1,Pz];exact⟨_,_,rfl⟩
    |true =>
     rw[hi] at hp;simp only[brP,bP] at hp;simp only[V9 (by decide) (Aeb hi),Zc1,List.tail_cons];cases hq:rec r with
     |error q' =>rw[hq] at hp;cases hp;obtain⟨e1,l1,h1⟩:=h.er r n a q (by omega) hq;simp only[h1,Zc1,Pz];exact⟨_,_,rfl⟩
     |ok x =>obtain⟨e1,l1⟩:=x;rw[hq] at hp;simp only at hp;simp only[h.ok r n a e1 l1 (by omega) hq,Zc1];cases hj:isT [41] l1 with|true=>rw[hj] at hp;cases hp|false =>rw[hj] at hp;cases hp;simp only[U0 (by decide) (Ai7 hj),Zc1];exact⟨_,_,rfl⟩
 bad:=Ana rf
def Dv(s:Str):TL->Nat×TL
 |[]=>(0,[])
 |t::r=>match isT s (t::r) with|true=>((Dv s r).1+1,(Dv s r).2)|false=>(0,t::r)
def Mm(k:Int):Nat->Xpr->Xpr
 |0,e=>e
 |n+1,e=>Mm k n (.mk k ⟨0,0,[]⟩ [] [e])
theorem Avt(k:Int):∀(n:Nat) (e:Xpr),Mm k (n+1) e=mkX k [Mm k n e]
 |0,_=>rfl
 |n+1,_=>Avt k n _
theorem Agy{s:Str}{l:TL}(h:isT s l=true):Dv s l=((Dv s l.tail).1+1,(Dv s l.tail).2):=by cases l with|nil=>cases h|cons t r=>simp only[Dv,h,List.tail_cons]
theorem Ag4{s:Str}{l:TL}(h:isT s l=false):Dv s l=(0,l):=by cases l with|nil=>rfl|cons t r=>simp only[Dv,h]
theorem Oq(s:Str):∀l:TL,(Dv s l).1+(Dv s l).2.length=l.length
 |[]=>rfl
 |t::r=>by have ih:=Oq s r;cases h:isT s (t::r) with|true=>rw[Agy h];simp only[List.tail_cons,Zf1];omega|false=>rw[Ag4 h];simp
theorem J3(s:Str)(k:Int)(part:TL->PR Xpr):∀l:TL,A8 s k part l=match part (Dv s l).2 with|.error q =>.error q|.ok (e,l') =>.ok (Mm k (Dv s l).1 e,l')
 |[]=>by simp only[A8,Dv,Mm];cases part []<;>rfl
 |t::r=>by
  cases h:isT s (t::r) with
  |true =>rw[Agy h];simp only[A8,h,J3 s k part r,List.tail_cons];cases part (Dv s r).2 with|error q=>rfl|ok x=>simp only[Avt]
  |false =>rw[Ag4 h];simp only[A8,h,Mm];cases part (t::r)<;>rfl
theorem Ar6{R:Type}{kx:Ex->Zx->Option R}{s:Str}{kd n a:Int}{z1 z2:Xpr}{c:Int->TL->Option R}(h:∀i l,kx (.exit 0) (s,kd,i,l,n,false,a,z1,z2)=c i l):∀(k i:Nat) (l:TL),l.length<k->i+l.length<=1000000000 ->
  Al (λrec=>Ac3 rec kx) k (s,kd,(i:Int),l,n,false,a,z1,z2)=c ((i+(Dv s l).1:Nat):Int) (Dv s l).2
 |0,_,_,hk,_=>absurd hk (Zm1 _)
 |k+1,i,l,hk,hb=>by rw[A3];simp only[Ac3,Zs1,Ae];cases hi:isT s l with|false=>simp only[Ew hi,Zc1,Ah,h,Ag4 hi,Nat.add_zero]|true =>have hl:=Fq hi;have hw:wr .i64 ((i:Int)+1)=((i+1:Nat):Int):=A0 (n:=i+1) (by omega) (by simp only[ln];omega);simp only[Fg hi,Zc1,Ae,hw,Ar6 h k (i+1) l.tail (by omega) (by omega),Agy hi];rw[Nat.add_assoc,Nat.add_comm 1]
theorem Ati{R:Type}{kx:Ex->Zr->Option R}{kd:Int}{m:Nat}{l:TL}{n a:Int}{b:Bool}{z1 z2:Xpr}{c:Xpr->Option R}(h:∀i e,kx (.exit 2) (kd,(m:Int),i,l,n,b,a,z1,z2,e)=c e)(hm:m<=1000000000):∀(k i:Nat) (e:Xpr),i<=m->m-i<k ->
  Al (λrec=>Yi rec kx) k (kd,(m:Int),(i:Int),l,n,b,a,z1,z2,e)=c (Mm kd (m-i) e)
 |0,_,_,_,hk=>absurd hk (Zm1 _)
 |k+1,i,e,hi,hk=>by
  rw[A3];by_cases hlt:i<m
  ·have hs:m-i=(m-(i+1))+1:=by omega
   simp only[Yi,He hlt,Ae,A0 hlt (show ln m by simp only[ln];omega),Ati h hm k (i+1) _ (by omega) (by omega),hs,Mm]
  ·obtain rfl:i=m:=by omega
   simp only[Yi,G7,Ah,h,Nat.sub_self,Mm]
theorem Awn{rf:Ay->Option Aw}(h:I3 (Gn rf)):I3 (I0 rf):=λl n a=>by obtain⟨e1,h1⟩:=h l n a;refine⟨e1,?_⟩;simp only[I0,K5,A3,Ac3,Zt1,Ah,h1,Zc1,Yi];rfl
theorem Bdk{rf:Ay->Option Aw}{part:TL->PR Xpr}{L:Nat}(h:SimP (Gn rf) part L)(hL:L<=1000000000):SimP (I0 rf) (A8 [45] 15 part) L where
 ok l n a e l' hl hp:=by have hs:=Oq [45] l;rw[J3] at hp;simp only[I0,K5];refine(Ar6 (s:=[45]) (i:=0) (λ_ _=>rfl) (l.length+1) l (by omega) (by omega)).trans ?_;cases hq:part (Dv [45] l).2 with|error q=>rw[hq] at hp;cases hp|ok x =>obtain⟨e1,l1⟩:=x;rw[hq] at hp;cases hp;simp only[h.ok _ n a e1 l' (by omega) hq,Zc1,Nat.zero_add];exact(Ati (c:=λe=>some (e,l',n,false,a)) (λ_ _=>rfl) (by omega) (l.length+1) 0 e1 (Nat.zero_le _) (by omega)).trans rfl
 er l n a q hl hp:=by have hs:=Oq [45] l;rw[J3] at hp;cases hq:part (Dv [45] l).2 with|ok x=>rw[hq] at hp;cases hp|error q' =>rw[hq] at hp;cases hp;obtain⟨e1,l1,h1⟩:=h.er _ n a q (by omega) hq;refine⟨Mm 15 (Dv [45] l).1 e1,l1,?_⟩;simp only[I0,K5];refine(Ar6 (s:=[45]) (i:=0) (λ_ _=>rfl) (l.length+1) l (by omega) (by omega)).trans ?_;simp only[h1,Zc1,Nat.zero_add];exact(Ati (c:=λe=>some (e,l1,n,true,Hd n q)) (λ_ _=>rfl) (by omega) (l.length+1) 0 e1 (Nat.zero_le _) (by omega)).trans rfl
 bad:=Awn h.bad
def prs(S:List PairS):List (Str×Int):=S.map λp=>(p.sign,p.kind)
theorem L2(l:TL):∀S:List PairS,(prs S).find? (λp=>isT p.1 l)=(S.find? λp=>isT p.sign l).map λp=>(p.sign,p.kind)
 |[]=>rfl
 |p::S=>by have ih:=L2 l S;simp only[prs] at ih;simp only[prs,Zw1,List.find?_cons,ih];cases isT p.sign l<;>rfl
theorem Aef{R:Type}(rf:Ay->Option Aw){kx:Ex->Ks->Option R}{S:List PairS}(hn:ln S.length){l:TL}{n a:Int}{z1 z2 e:Xpr}{c1:Xpr->TL->Int->Bool->Int->Option R}{c2:Option R}(h1:∀i l n b a e,kx (.exit 1) (S,S,(S.length:Int),i,l,n,b,a,z1,z2,e)=c1 e l n b a)(h2:kx (.exit 2) (S,S,(S.length:Int),(S.length:Int),l,n,false,a,z1,z2,e)=c2):∀(k i:Nat),i<=S.length->S.length-i<k ->
  Al (λrc=>Jb rf rc kx) k (S,S,(S.length:Int),(i:Int),l,n,false,a,z1,z2,e)=match(S.drop i).find? (λp=>isT p.sign l) with|none=>c2|some p=>(I0 rf (l.tail,n,false,a)).bind λ(x,y1,y2,y3,y4)=>c1 (mkX p.kind [e,x]) y1 y2 y3 y4
 |0,_,_,hk=>absurd hk (Zm1 _)
 |k+1,i,hi,hk=>by
  rw[A3];by_cases hlt:i<S.length
  ·rw[As hlt];simp only[Jb,He hlt,Ae,A7 hlt,chk,Bb (c :=.pair) hlt,A0 hlt hn,List.find?_cons];cases ht:isT S[i].sign l with|true =>simp only[Fg ht,Zc1,Ae,h1];rfl|false=>simp only[Ew ht,Zc1,Ah,Aef rf hn h1 h2 k (i+1) (by omega) (by omega)]
  ·obtain rfl:i=S.length:=by omega
   simp only[Jb,G7,Ah,h2,Zc2,List.find?_nil]
theorem Pv{R:Type}{rf:Ay->Option Aw}{part:TL->PR Xpr}{L:Nat}(h:SimP (I0 rf) part L)(hp:Co part){kx:Ex->Gy->Option R}{S:List PairS}(hn:ln S.length){n a:Int}{z1 z2:Xpr}{c:Xpr->TL->Bool->Int->Option R}(hx:∀l b a e,kx (.exit 0) (S,l,n,b,a,z1,z2,e)=c e l b a)(K:Nat)(hK:S.length<K):∀(k m:Nat) (e:Xpr) (l:TL),l.length<L->l.length<k->l.length<m ->
  match Bv part (prs S) m e l with|.ok (e',l')=>Al (λrec=>Jg K rf rec kx) k (S,l,n,false,a,z1,z2,e)=c e' l' false a|.error q=>∃e' l',Al (λrec=>Jg K rf rec kx) k (S,l,n,false,a,z1,z2,e)=c e' l' true (Hd n q)
 |0,_,_,_,_,hk,_=>absurd hk (Zm1 _)
 |_,0,_,_,_,_,hk=>absurd hk (Zm1 _)
 |k+1,m+1,e,l,hl,hk,hm=>by
  have hin:=λ(rec:Gy->Option R)=>Aef (R:=R) rf (kx:=λe vz=>match vz with|(v5,_,_,_,v9,d,f,g,i,j,o)=>match e with
   |.exit 1=>rec (v5,v9,d,f,g,i,j,o)
   |.exit 2=>kx (.exit 0) (v5,v9,d,f,g,i,j,o)
   |_=>none) hn (l:=l) (n:=n) (a:=a) (z1:=z1) (z2:=z2) (e:=e) (c1:=λe l n b a=>rec (S,l,n,b,a,z1,z2,e)) (λ_ _ _ _ _ _=>rfl) rfl K 0 (Nat.zero_le _) (by omega)
  have hit:∀rec:Gy->Option R,Jg K rf rec kx (S,l,n,false,a,z1,z2,e)=_:=hin;have hf:=L2 l S;rw[A3];simp only[Bv,hit,Zq1];cases hs:S.find? (λp=>isT p.sign l) with
  |none =>rw[hs] at hf;simp only[Option.map_none] at hf;rw[hf];exact hx _ _ _ _
  |some p =>
   rw[hs] at hf;simp only[Zl2] at hf;rw[hf];have hi:isT p.sign l=true:=by simpa using List.find?_some hs
   have hlt:=Fq hi;cases hq:part l.tail with|error q =>obtain⟨e1,l1,h1⟩:=h.er l.tail n a q (by omega) hq;simp only[h1,Zc1];obtain⟨k,rfl⟩:∃k',k=k'+1:=⟨k-1,by omega⟩;exact⟨mkX p.kind [e,e1],l1,hx _ _ _ _⟩|ok x =>obtain⟨x,l1⟩:=x;have h3:=hp _ _ _ hq;simp only[h.ok l.tail n a x l1 (by omega) hq,Zc1];exact Pv h hp hn hx K hK k m (mkX p.kind [e,x]) l1 (by omega) (by omega) (by omega)
theorem Aa5{rf:Ay->Option Aw}(h:I3 (I0 rf)):I3 (B8 rf):=λl n a=>by obtain⟨e1,h1⟩:=h l n a;simp only[B8,E5,h1,Zc1];exact⟨e1,rfl⟩
theorem Ato{rf:Ay->Option Aw}{part:TL->PR Xpr}{L:Nat}(h:SimP (I0 rf) part L)(hp:Co part):SimP (B8 rf) (Cp part (prs [PairS.mk [42] 14])) L where
 ok l n a e l' hl hq:=by
  simp only[Cp] at hq;cases hr:part l with
  |error q=>rw[hr] at hq;cases hq
  |ok x =>
   obtain⟨e1,l1⟩:=x;rw[hr] at hq;have h3:=hp _ _ _ hr;simp only at hq;have:=Pv h hp (S:=[PairS.mk [42] 14]) (by simp[ln]) (n:=n) (a:=a) (z1:=Xpr.mk 0 ⟨0,0,[]⟩ [] []) (z2:=Xpr.mk 0 ⟨0,0,[]⟩ [] []) (c:=λe l b a=>some (e,l,n,b,a)) (kx:=λe vz=>match vz with|(_,d,f,g,i,_,_,j)=>match e with
    |.exit 0=>some (j,d,f,g,i)
    |_=>none) (λ_ _ _ _=>rfl) (l.length+3) (by simp) (l.length+3) (l1.length+1) e1 l1 (by omega) (by omega) (by omega)
   rw[hq] at this;simp only[B8,E5,h.ok l n a e1 l1 hl hr,Zc1];exact this
 er l n a q hl hq:=by
  simp only[Cp] at hq;cases hr:part l with
  |error q' =>rw[hr] at hq;cases hq;obtain⟨e1,l1,h1⟩:=h.er l n a q hl hr;simp only[B8,E5,h1,Zc1];exact⟨e1,l1,rfl⟩
  |ok x =>
   obtain⟨e1,l1⟩:=x;rw[hr] at hq;have h3:=hp _ _ _ hr;simp only at hq;have:=Pv h hp (S:=[PairS.mk [42] 14]) (by simp[ln]) (n:=n) (a:=a) (z1:=Xpr.mk 0 ⟨0,0,[]⟩ [] []) (z2:=Xpr.mk 0 ⟨0,0,[]⟩ [] []) (c:=λe l b a=>some (e,l,n,b,a)) (kx:=λe vz=>match vz with|(_,d,f,g,i,_,_,j)=>match e with
    |.exit 0=>some (j,d,f,g,i)
    |_=>none) (λ_ _ _ _=>rfl) (l.length+3) (by simp) (l.length+3) (l1.length+1) e1 l1 (by omega) (by omega) (by omega)
   rw[hq] at this;simp only[B8,E5,h.ok l n a e1 l1 hl hr,Zc1];exact this
 bad:=Aa5 h.bad
theorem A5x{R:Type}(rf:Ay->Option Aw){kx:Ex->Abz->Option R}{S:List PairS}(hn:ln S.length){l:TL}{n a:Int}{z1 z2 e:Xpr}{c1:Xpr->TL->Int->Bool->Int->Option R}{c2:Option R}(h1:∀i l n b a e,kx (.exit 1) (S,S,(S.length:Int),i,l,n,b,a,z1,z2,e)=c1 e l n b a)(h2:kx (.exit 2) (S,S,(S.length:Int),(S.length:Int),l,n,false,a,z1,z2,e)=c2):∀(k i:Nat),i<=S.length->S.length-i<k ->
  Al (λrc=>Adm rf rc kx) k (S,S,(S.length:Int),(i:Int),l,n,false,a,z1,z2,e)=match(S.drop i).find? (λp=>isT p.sign l) with|none=>c2|some p=>(B8 rf (l.tail,n,false,a)).bind λ(x,y1,y2,y3,y4)=>c1 (mkX p.kind [e,x]) y1 y2 y3 y4
 |0,_,_,hk=>absurd hk (Zm1 _)
 |k+1,i,hi,hk=>by
  rw[A3];by_cases hlt:i<S.length
  ·rw[As hlt];simp only[Adm,He hlt,Ae,A7 hlt,chk,Bb (c :=.pair) hlt,A0 hlt hn,List.find?_cons];cases ht:isT S[i].sign l with|true =>simp only[Fg ht,Zc1,Ae,h1];rfl|false=>simp only[Ew ht,Zc1,Ah,A5x rf hn h1 h2 k (i+1) (by omega) (by omega)]
  ·obtain rfl:i=S.length:=by omega
   simp only[Adm,G7,Ah,h2,Zc2,List.find?_nil]
theorem Aij{R:Type}{rf:Ay->Option Aw}{part:TL->PR Xpr}{L:Nat}(h:SimP (B8 rf) part L)(hp:Co part){kx:Ex->Oz->Option R}{S:List PairS}(hn:ln S.length){n a:Int}{z1 z2:Xpr}{c:Xpr->TL->Bool->Int->Option R}(hx:∀l b a e,kx (.exit 0) (S,l,n,b,a,z1,z2,e)=c e l b a)(K:Nat)(hK:S.length<K):∀(k m:Nat) (e:Xpr) (l:TL),l.length<L->l.length<k->l.length<m ->
  match Bv part (prs S) m e l with|.ok (e',l')=>Al (λrec=>Ado K rf rec kx) k (S,l,n,false,a,z1,z2,e)=c e' l' false a|.error q=>∃e' l',Al (λrec=>Ado K rf rec kx) k (S,l,n,false,a,z1,z2,e)=c e' l' true (Hd n q)
 |0,_,_,_,_,hk,_=>absurd hk (Zm1 _)
 |_,0,_,_,_,_,hk=>absurd hk (Zm1 _)
 |k+1,m+1,e,l,hl,hk,hm=>by
  have hin:=λ(rec:Oz->Option R)=>A5x (R:=R) rf (kx:=λe vz=>match vz with|(v5,_,_,_,v9,d,f,g,i,j,o)=>match e with
   |.exit 1=>rec (v5,v9,d,f,g,i,j,o)
   |.exit 2=>kx (.exit 0) (v5,v9,d,f,g,i,j,o)
   |_=>none) hn (l:=l) (n:=n) (a:=a) (z1:=z1) (z2:=z2) (e:=e) (c1:=λe l n b a=>rec (S,l,n,b,a,z1,z2,e)) (λ_ _ _ _ _ _=>rfl) rfl K 0 (Nat.zero_le _) (by omega)
  have hit:∀rec:Oz->Option R,Ado K rf rec kx (S,l,n,false,a,z1,z2,e)=_:=hin;have hf:=L2 l S;rw[A3];simp only[Bv,hit,Zq1];cases hs:S.find? (λp=>isT p.sign l) with
  |none =>rw[hs] at hf;simp only[Option.map_none] at hf;rw[hf];exact hx _ _ _ _
  |some p =>
   rw[hs] at hf;simp only[Zl2] at hf;rw[hf];have hi:isT p.sign l=true:=by simpa using List.find?_some hs
   have hlt:=Fq hi;cases hq:part l.tail with|error q =>obtain⟨e1,l1,h1⟩:=h.er l.tail n a q (by omega) hq;simp only[h1,Zc1];obtain⟨k,rfl⟩:∃k',k=k'+1:=⟨k-1,by omega⟩;exact⟨mkX p.kind [e,e1],l1,hx _ _ _ _⟩|ok x =>obtain⟨x,l1⟩:=x;have h3:=hp _ _ _ hq;simp only[h.ok l.tail n a x l1 (by omega) hq,Zc1];exact Aij h hp hn hx K hK k m (mkX p.kind [e,x]) l1 (by omega) (by omega) (by omega)
theorem Aum{rf:Ay->Option Aw}(h:I3 (B8 rf)):I3 (G2 rf):=λl n a=>by obtain⟨e1,h1⟩:=h l n a;simp only[G2,Jd,h1,Zc1];exact⟨e1,rfl⟩
theorem Bf7{rf:Ay->Option Aw}{part:TL->PR Xpr}{L:Nat}(h:SimP (B8 rf) part L)(hp:Co part):SimP (G2 rf) (Cp part (prs [PairS.mk [43] 12,PairS.mk [45] 13])) L where
 ok l n a e l' hl hq:=by
  simp only[Cp] at hq;cases hr:part l with
  |error q=>rw[hr] at hq;cases hq
  |ok x =>
   obtain⟨e1,l1⟩:=x;rw[hr] at hq;have h3:=hp _ _ _ hr;simp only at hq;have:=Aij h hp (S:=[PairS.mk [43] 12,PairS.mk [45] 13]) (by simp[ln]) (n:=n) (a:=a) (z1:=Xpr.mk 0 ⟨0,0,[]⟩ [] []) (z2:=Xpr.mk 0 ⟨0,0,[]⟩ [] []) (c:=λe l b a=>some (e,l,n,b,a)) (kx:=λe vz=>match vz with|(_,d,f,g,i,_,_,j)=>match e with
    |.exit 0=>some (j,d,f,g,i)
    |_=>none) (λ_ _ _ _=>rfl) (l.length+3) (by simp) (l.length+3) (l1.length+1) e1 l1 (by omega) (by omega) (by omega)
   rw[hq] at this;simp only[G2,Jd,h.ok l n a e1 l1 hl hr,Zc1];exact this
 er l n a q hl hq:=by
  simp only[Cp] at hq;cases hr:part l with
  |error q' =>rw[hr] at hq;cases hq;obtain⟨e1,l1,h1⟩:=h.er l n a q hl hr;simp only[G2,Jd,h1,Zc1];exact⟨e1,l1,rfl⟩
  |ok x =>
   obtain⟨e1,l1⟩:=x;rw[hr] at hq;have h3:=hp _ _ _ hr;simp only at hq;have:=Aij h hp (S:=[PairS.mk [43] 12,PairS.mk [45] 13]) (by simp[ln]) (n:=n) (a:=a) (z1:=Xpr.mk 0 ⟨0,0,[]⟩ [] []) (z2:=Xpr.mk 0 ⟨0,0,[]⟩ [] []) (c:=λe l b a=>some (e,l,n,b,a)) (kx:=λe vz=>match vz with|(_,d,f,g,i,_,_,j)=>match e with
    |.exit 0=>some (j,d,f,g,i)
    |_=>none) (λ_ _ _ _=>rfl) (l.length+3) (by simp) (l.length+3) (l1.length+1) e1 l1 (by omega) (by omega) (by omega)
   rw[hq] at this;simp only[G2,Jd,h.ok l n a e1 l1 hl hr,Zc1];exact this
 bad:=Aum h.bad
def cmpC:List PairS:=[PairS.mk [61] 6,PairS.mk [60,62] 7,PairS.mk [60] 8,PairS.mk [60,61] 9,PairS.mk [62] 10,PairS.mk [62,61] 11]
theorem A3n{R:Type}(rf:Ay->Option Aw){kx:Ex->Abb->Option R}{S:List PairS}(hn:ln S.length){l:TL}{n a:Int}{z e:Xpr}{c1:Xpr->TL->Int->Bool->Int->Option R}{c2:Option R}(h1:∀i l n b a x,kx .ret (S,(S.length:Int),i,l,n,b,a,x,e)=c1 x l n b a)(h2:kx (.exit 0) (S,(S.length:Int),(S.length:Int),l,n,false,a,z,e)=c2):∀(k i:Nat),i<=S.length->S.length-i<k ->
  Al (λrc=>Adz rf rc kx) k (S,(S.length:Int),(i:Int),l,n,false,a,z,e)=match(S.drop i).find? (λp=>isT p.sign l) with|none=>c2|some p=>(G2 rf (l.tail,n,false,a)).bind λ(x,y1,y2,y3,y4)=>c1 (mkX p.kind [e,x]) y1 y2 y3 y4
 |0,_,_,hk=>absurd hk (Zm1 _)
 |k+1,i,hi,hk=>by
  rw[A3];by_cases hlt:i<S.length
  ·rw[As hlt];simp only[Adz,He hlt,Ae,A7 hlt,chk,Bb (c :=.pair) hlt,A0 hlt hn,List.find?_cons];cases ht:isT S[i].sign l with|true =>simp only[Fg ht,Zc1,Ae,h1];rfl|false=>simp only[Ew ht,Zc1,Ah,A3n rf hn h1 h2 k (i+1) (by omega) (by omega)]
  ·obtain rfl:i=S.length:=by omega
   simp only[Adz,G7,Ah,h2,Zc2,List.find?_nil]
def isF(e:Xpr)(l:TL)(n a:Int):Option Aw:=(Ao ([73,83],l,n,false,a)).bind λ(k,b,c,d,f) =>cond (!k) (some (e,b,c,d,f)) ((Ao ([78,79,84],b,c,d,f)).bind λ(m,o,p,q,r) =>(Ai ([[78,85,76,76]],o,p,q,r)).bind λ(g,h,i,j) =>cond (m) (some ((Xpr.mk 3 ⟨0,0,[]⟩ [] [(Xpr.mk 16 ⟨0,0,[]⟩ [] [e])]),g,h,i,j)) (some ((Xpr.mk 16 ⟨0,0,[]⟩ [] [e]),g,h,i,j)))
theorem A3c(rf:Ay->Option Aw){l l1:TL}{n a:Int}{e:Xpr}(h:G2 rf (l,n,false,a)=some (e,l1,n,false,a)):Md rf (l,n,false,a)=match cmpC.find? (λp=>isT p.sign l1) with
  |none=>isF e l1 n a
  |some p=>(G2 rf (l1.tail,n,false,a)).bind λ(x,y1,y2,y3,y4)=>some (mkX p.kind [e,x],y1,y2,y3,y4):=by
 simp only[Md,Kt,h,Zc1,Ah];exact A3n rf (S:=cmpC) (by simp[ln,cmpC]) (z:=Xpr.mk 0 ⟨0,0,[]⟩ [] []) (c1:=λx l n b a=>some (x,l,n,b,a)) (c2:=isF e l1 n a) (λ_ _ _ _ _ _=>rfl) rfl 10 0 (Nat.zero_le _) (by decide)
theorem Brc{e x:Xpr}{l l':TL}(h:(match isT sIS l with|true=>isP e l|false =>.ok (e,l)) = .ok (x,l'))(n a:Int):isF e l n a=some (x,l',n,false,a):=by
 simp only[isF];cases hi:isT sIS l with
 |false=>rw[hi] at h;cases h;simp only[Ew (s:=[73,83]) hi,Zc1,Zs1,Ae]
 |true =>
  rw[hi] at h;simp only[isP] at h;simp only[Fg (s:=[73,83]) hi,Zc1,Zt1,Ah];cases hn:isT Eg l.tail with
  |true =>rw[hn] at h;simp only[Fg (s:=[78,79,84]) hn,Zc1,Ae];cases hu:isT B5 l.tail.tail with|true=>simp only[hu] at h;cases h;simp only[V9 (by decide) (Aeb (s:=[78,85,76,76]) hu),Zc1];rfl|false=>simp only[hu] at h;cases h
  |false =>rw[hn] at h;simp only[Ew (s:=[78,79,84]) hn,Zc1,Ah];cases hu:isT B5 l.tail with|true=>simp only[hu] at h;cases h;simp only[V9 (by decide) (Aeb (s:=[78,85,76,76]) hu),Zc1];rfl|false=>simp only[hu] at h;cases h
theorem Bpg{e:Xpr}{l q:TL}(h:(match isT sIS l with|true=>isP e l|false =>.ok (e,l)) = .error q)(n a:Int):∃x l',isF e l n a=some (x,l',n,true,Hd n q):=by
 simp only[isF];cases hi:isT sIS l with
 |false=>rw[hi] at h;cases h
 |true =>
  rw[hi] at h;simp only[isP] at h;simp only[Fg (s:=[73,83]) hi,Zc1,Zt1,Ah];cases hn:isT Eg l.tail with
  |true =>rw[hn] at h;simp only[Fg (s:=[78,79,84]) hn,Zc1,Ae];cases hu:isT B5 l.tail.tail with|true=>simp only[hu] at h;cases h|false=>simp only[hu] at h;cases h;simp only[U0 (by decide) (Ai7 (s:=[78,85,76,76]) hu),Zc1];exact⟨_,_,rfl⟩
  |false =>rw[hn] at h;simp only[Ew (s:=[78,79,84]) hn,Zc1,Ah];cases hu:isT B5 l.tail with|true=>simp only[hu] at h;cases h|false=>simp only[hu] at h;cases h;simp only[U0 (by decide) (Ai7 (s:=[78,85,76,76]) hu),Zc1];exact⟨_,_,rfl⟩
theorem Axm{rf:Ay->Option Aw}(h:I3 (G2 rf)):I3 (Md rf):=λl n a=>by obtain⟨e1,h1⟩:=h l n a;refine⟨e1,?_⟩;simp only[Md,Kt,h1,Zc1,Ae]
theorem Bfi{rf:Ay->Option Aw}{part:TL->PR Xpr}{L:Nat}(h:SimP (G2 rf) part L)(he:Co part):SimP (Md rf) (Rs part) L where
 ok l n a e l' hl hp:=by
  simp only[Rs] at hp;cases hr:part l with
  |error q=>rw[hr] at hp;cases hp
  |ok x =>
   obtain⟨e1,l1⟩:=x;have h3:=he _ _ _ hr;have hf:cmpS.find? (λp=>isT p.1 l1)=(cmpC.find? λp=>isT p.sign l1).map λp=>(p.sign,p.kind):=L2 l1 cmpC;rw[hr] at hp;simp only[hf] at hp;rw[A3c rf (h.ok l n a e1 l1 hl hr)];cases hs:cmpC.find? (λp=>isT p.sign l1) with
   |none=>rw[hs] at hp;exact Brc hp n a
   |some p =>rw[hs] at hp;simp only[Zl2] at hp;have h4:=A2 l1;cases hq:part l1.tail with|error q=>rw[hq] at hp;cases hp|ok y =>obtain⟨x,l2⟩:=y;rw[hq] at hp;cases hp;simp only[h.ok l1.tail n a x l' (by omega) hq,Zc1]
 er l n a q hl hp:=by
  simp only[Rs] at hp;cases hr:part l with
  |error q' =>rw[hr] at hp;cases hp;obtain⟨e1,l1,h1⟩:=h.er l n a q hl hr;refine⟨e1,l1,?_⟩;simp only[Md,Kt,h1,Zc1,Ae]
  |ok x =>
   obtain⟨e1,l1⟩:=x;have h3:=he _ _ _ hr;have hf:cmpS.find? (λp=>isT p.1 l1)=(cmpC.find? λp=>isT p.sign l1).map λp=>(p.sign,p.kind):=L2 l1 cmpC;rw[hr] at hp;simp only[hf] at hp;rw[A3c rf (h.ok l n a e1 l1 hl hr)];cases hs:cmpC.find? (λp=>isT p.sign l1) with
   |none=>rw[hs] at hp;exact Bpg hp n a
   |some p =>rw[hs] at hp;simp only[Zl2] at hp;have h4:=A2 l1;cases hq:part l1.tail with|ok y=>rw[hq] at hp;cases hp|error q' =>rw[hq] at hp;cases hp;obtain⟨e2,l2,h2⟩:=h.er l1.tail n a q (by omega) hq;simp only[h2,Zc1];exact⟨_,_,rfl⟩
 bad:=Axm h.bad
theorem Aqv{R:Type}{kx:Ex->Aay->Option R}{s:Str}{kd n a:Int}{z1 z2:Xpr}{c:Int->TL->Option R}(h:∀i l,kx (.exit 0) (s,kd,i,l,n,false,a,z1,z2)=c i l):∀(k i:Nat) (l:TL),l.length<k->i+l.length<=1000000000 ->
  Al (λrec=>Adt rec kx) k (s,kd,(i:Int),l,n,false,a,z1,z2)=c ((i+(Dv s l).1:Nat):Int) (Dv s l).2
 |0,_,_,hk,_=>absurd hk (Zm1 _)
 |k+1,i,l,hk,hb=>by rw[A3];simp only[Adt,Zs1,Ae];cases hi:isT s l with|false=>simp only[Ew hi,Zc1,Ah,h,Ag4 hi,Nat.add_zero]|true =>have hl:=Fq hi;have hw:wr .i64 ((i:Int)+1)=((i+1:Nat):Int):=A0 (n:=i+1) (by omega) (by simp only[ln];omega);simp only[Fg hi,Zc1,Ae,hw,Aqv h k (i+1) l.tail (by omega) (by omega),Agy hi];rw[Nat.add_assoc,Nat.add_comm 1]
theorem Aso{R:Type}{kx:Ex->Zp->Option R}{kd:Int}{m:Nat}{l:TL}{n a:Int}{b:Bool}{z1 z2:Xpr}{c:Xpr->Option R}(h:∀i e,kx (.exit 2) (kd,(m:Int),i,l,n,b,a,z1,z2,e)=c e)(hm:m<=1000000000):∀(k i:Nat) (e:Xpr),i<=m->m-i<k ->
  Al (λrec=>Yk rec kx) k (kd,(m:Int),(i:Int),l,n,b,a,z1,z2,e)=c (Mm kd (m-i) e)
 |0,_,_,_,hk=>absurd hk (Zm1 _)
 |k+1,i,e,hi,hk=>by
  rw[A3];by_cases hlt:i<m
  ·have hs:m-i=(m-(i+1))+1:=by omega
   simp only[Yk,He hlt,Ae,A0 hlt (show ln m by simp only[ln];omega),Aso h hm k (i+1) _ (by omega) (by omega),hs,Mm]
  ·obtain rfl:i=m:=by omega
   simp only[Yk,G7,Ah,h,Nat.sub_self,Mm]
theorem Auf{rf:Ay->Option Aw}(h:I3 (Md rf)):I3 (Im rf):=λl n a=>by obtain⟨e1,h1⟩:=h l n a;refine⟨e1,?_⟩;simp only[Im,K4,A3,Adt,Zt1,Ah,h1,Zc1,Yk];rfl
theorem Bdd{rf:Ay->Option Aw}{part:TL->PR Xpr}{L:Nat}(h:SimP (Md rf) part L)(hL:L<=1000000000):SimP (Im rf) (A8 [78,79,84] 3 part) L where
 ok l n a e l' hl hp:=by have hs:=Oq [78,79,84] l;rw[J3] at hp;simp only[Im,K4];refine(Aqv (s:=[78,79,84]) (i:=0) (λ_ _=>rfl) (l.length+1) l (by omega) (by omega)).trans ?_;cases hq:part (Dv [78,79,84] l).2 with|error q=>rw[hq] at hp;cases hp|ok x =>obtain⟨e1,l1⟩:=x;rw[hq] at hp;cases hp;simp only[h.ok _ n a e1 l' (by omega) hq,Zc1,Nat.zero_add];exact(Aso (c:=λe=>some (e,l',n,false,a)) (λ_ _=>rfl) (by omega) (l.length+1) 0 e1 (Nat.zero_le _) (by omega)).trans rfl
 er l n a q hl hp:=by have hs:=Oq [78,79,84] l;rw[J3] at hp;cases hq:part (Dv [78,79,84] l).2 with|ok x=>rw[hq] at hp;cases hp|error q' =>rw[hq] at hp;cases hp;obtain⟨e1,l1,h1⟩:=h.er _ n a q (by omega) hq;refine⟨Mm 3 (Dv [78,79,84] l).1 e1,l1,?_⟩;simp only[Im,K4];refine(Aqv (s:=[78,79,84]) (i:=0) (λ_ _=>rfl) (l.length+1) l (by omega) (by omega)).trans ?_;simp only[h1,Zc1,Nat.zero_add];exact(Aso (c:=λe=>some (e,l1,n,true,Hd n q)) (λ_ _=>rfl) (by omega) (l.length+1) 0 e1 (Nat.zero_le _) (by omega)).trans rfl
 bad:=Auf h.bad
theorem A5k{R:Type}(rf:Ay->Option Aw){kx:Ex->Zu->Option R}{S:List PairS}(hn:ln S.length){l:TL}{n a:Int}{z1 z2 e:Xpr}{c1:Xpr->TL->Int->Bool->Int->Option R}{c2:Option R}(h1:∀i l n b a e,kx (.exit 1) (S,S,(S.length:Int),i,l,n,b,a,z1,z2,e)=c1 e l n b a)(h2:kx (.exit 2) (S,S,(S.length:Int),(S.length:Int),l,n,false,a,z1,z2,e)=c2):∀(k i:Nat),i<=S.length->S.length-i<k ->
  Al (λrc=>Acf rf rc kx) k (S,S,(S.length:Int),(i:Int),l,n,false,a,z1,z2,e)=match(S.drop i).find? (λp=>isT p.sign l) with|none=>c2|some p=>(Im rf (l.tail,n,false,a)).bind λ(x,y1,y2,y3,y4)=>c1 (mkX p.kind [e,x]) y1 y2 y3 y4
 |0,_,_,hk=>absurd hk (Zm1 _)
 |k+1,i,hi,hk=>by
  rw[A3];by_cases hlt:i<S.length
  ·rw[As hlt];simp only[Acf,He hlt,Ae,A7 hlt,chk,Bb (c :=.pair) hlt,A0 hlt hn,List.find?_cons];cases ht:isT S[i].sign l with|true =>simp only[Fg ht,Zc1,Ae,h1];rfl|false=>simp only[Ew ht,Zc1,Ah,A5k rf hn h1 h2 k (i+1) (by omega) (by omega)]
  ·obtain rfl:i=S.length:=by omega
   simp only[Acf,G7,Ah,h2,Zc2,List.find?_nil]
theorem Alo{R:Type}{rf:Ay->Option Aw}{part:TL->PR Xpr}{L:Nat}(h:SimP (Im rf) part L)(hp:Co part){kx:Ex->Po->Option R}{S:List PairS}(hn:ln S.length){n a:Int}{z1 z2:Xpr}{c:Xpr->TL->Bool->Int->Option R}(hx:∀l b a e,kx (.exit 0) (S,l,n,b,a,z1,z2,e)=c e l b a)(K:Nat)(hK:S.length<K):∀(k m:Nat) (e:Xpr) (l:TL),l.length<L->l.length<k->l.length<m ->
  match Bv part (prs S) m e l with|.ok (e',l')=>Al (λrec=>Aci K rf rec kx) k (S,l,n,false,a,z1,z2,e)=c e' l' false a|.error q=>∃e' l',Al (λrec=>Aci K rf rec kx) k (S,l,n,false,a,z1,z2,e)=c e' l' true (Hd n q)
 |0,_,_,_,_,hk,_=>absurd hk (Zm1 _)
 |_,0,_,_,_,_,hk=>absurd hk (Zm1 _)
 |k+1,m+1,e,l,hl,hk,hm=>by
  have hin:=λ(rec:Po->Option R)=>A5k (R:=R) rf (kx:=λe vz=>match vz with|(v5,_,_,_,v9,d,f,g,i,j,o)=>match e with
   |.exit 1=>rec (v5,v9,d,f,g,i,j,o)
   |.exit 2=>kx (.exit 0) (v5,v9,d,f,g,i,j,o)
   |_=>none) hn (l:=l) (n:=n) (a:=a) (z1:=z1) (z2:=z2) (e:=e) (c1:=λe l n b a=>rec (S,l,n,b,a,z1,z2,e)) (λ_ _ _ _ _ _=>rfl) rfl K 0 (Nat.zero_le _) (by omega)
  have hit:∀rec:Po->Option R,Aci K rf rec kx (S,l,n,false,a,z1,z2,e)=_:=hin;have hf:=L2 l S;rw[A3];simp only[Bv,hit,Zq1];cases hs:S.find? (λp=>isT p.sign l) with
  |none =>rw[hs] at hf;simp only[Option.map_none] at hf;rw[hf];exact hx _ _ _ _
  |some p =>
   rw[hs] at hf;simp only[Zl2] at hf;rw[hf];have hi:isT p.sign l=true:=by simpa using List.find?_some hs
   have hlt:=Fq hi;cases hq:part l.tail with|error q =>obtain⟨e1,l1,h1⟩:=h.er l.tail n a q (by omega) hq;simp only[h1,Zc1];obtain⟨k,rfl⟩:∃k',k=k'+1:=⟨k-1,by omega⟩;exact⟨mkX p.kind [e,e1],l1,hx _ _ _ _⟩|ok x =>obtain⟨x,l1⟩:=x;have h3:=hp _ _ _ hq;simp only[h.ok l.tail n a x l1 (by omega) hq,Zc1];exact Alo h hp hn hx K hK k m (mkX p.kind [e,x]) l1 (by omega) (by omega) (by omega)
theorem Awp{rf:Ay->Option Aw}(h:I3 (Im rf)):I3 (Hr rf):=λl n a=>by obtain⟨e1,h1⟩:=h l n a;simp only[Hr,I4,h1,Zc1];exact⟨e1,rfl⟩
theorem Bgw{rf:Ay->Option Aw}{part:TL->PR Xpr}{L:Nat}(h:SimP (Im rf) part L)(hp:Co part):SimP (Hr rf) (Cp part (prs [PairS.mk [65,78,68] 4])) L where
 ok l n a e l' hl hq:=by
  simp only[Cp] at hq;cases hr:part l with
  |error q=>rw[hr] at hq;cases hq
  |ok x =>
   obtain⟨e1,l1⟩:=x;rw[hr] at hq;have h3:=hp _ _ _ hr;simp only at hq;have:=Alo h hp (S:=[PairS.mk [65,78,68] 4]) (by simp[ln]) (n:=n) (a:=a) (z1:=Xpr.mk 0 ⟨0,0,[]⟩ [] []) (z2:=Xpr.mk 0 ⟨0,0,[]⟩ [] []) (c:=λe l b a=>some (e,l,n,b,a)) (kx:=λe vz=>match vz with|(_,d,f,g,i,_,_,j)=>match e with
    |.exit 0=>some (j,d,f,g,i)
    |_=>none) (λ_ _ _ _=>rfl) (l.length+3) (by simp) (l.length+3) (l1.length+1) e1 l1 (by omega) (by omega) (by omega)
   rw[hq] at this;simp only[Hr,I4,h.ok l n a e1 l1 hl hr,Zc1];exact this
 er l n a q hl hq:=by
  simp only[Cp] at hq;cases hr:part l with
  |error q' =>rw[hr] at hq;cases hq;obtain⟨e1,l1,h1⟩:=h.er l n a q hl hr;simp only[Hr,I4,h1,Zc1];exact⟨e1,l1,rfl⟩
  |ok x =>
   obtain⟨e1,l1⟩:=x;rw[hr] at hq;have h3:=hp _ _ _ hr;simp only at hq;have:=Alo h hp (S:=[PairS.mk [65,78,68] 4]) (by simp[ln]) (n:=n) (a:=a) (z1:=Xpr.mk 0 ⟨0,0,[]⟩ [] []) (z2:=Xpr.mk 0 ⟨0,0,[]⟩ [] []) (c:=λe l b a=>some (e,l,n,b,a)) (kx:=λe vz=>match vz with|(_,d,f,g,i,_,_,j)=>match e with
    |.exit 0=>some (j,d,f,g,i)
    |_=>none) (λ_ _ _ _=>rfl) (l.length+3) (by simp) (l.length+3) (l1.length+1) e1 l1 (by omega) (by omega) (by omega)
   rw[hq] at this;simp only[Hr,I4,h.ok l n a e1 l1 hl hr,Zc1];exact this
 bad:=Awp h.bad
theorem Bbs{R:Type}(rf:Ay->Option Aw){kx:Ex->Ag3->Option R}{S:List PairS}(hn:ln S.length){l:TL}{n a:Int}{z1 z2 e:Xpr}{c1:Xpr->TL->Int->Bool->Int->Option R}{c2:Option R}(h1:∀i l n b a e,kx (.exit 1) (S,S,(S.length:Int),i,l,n,b,a,z1,z2,e)=c1 e l n b a)(h2:kx (.exit 2) (S,S,(S.length:Int),(S.length:Int),l,n,false,a,z1,z2,e)=c2):∀(k i:Nat),i<=S.length->S.length-i<k ->
  Al (λrc=>Aon rf rc kx) k (S,S,(S.length:Int),(i:Int),l,n,false,a,z1,z2,e)=match(S.drop i).find? (λp=>isT p.sign l) with|none=>c2|some p=>(Hr rf (l.tail,n,false,a)).bind λ(x,y1,y2,y3,y4)=>c1 (mkX p.kind [e,x]) y1 y2 y3 y4
 |0,_,_,hk=>absurd hk (Zm1 _)
 |k+1,i,hi,hk=>by
  rw[A3];by_cases hlt:i<S.length
  ·rw[As hlt];simp only[Aon,He hlt,Ae,A7 hlt,chk,Bb (c :=.pair) hlt,A0 hlt hn,List.find?_cons];cases ht:isT S[i].sign l with|true =>simp only[Fg ht,Zc1,Ae,h1];rfl|false=>simp only[Ew ht,Zc1,Ah,Bbs rf hn h1 h2 k (i+1) (by omega) (by omega)]
  ·obtain rfl:i=S.length:=by omega
   simp only[Aon,G7,Ah,h2,Zc2,List.find?_nil]
theorem Aqt{R:Type}{rf:Ay->Option Aw}{part:TL->PR Xpr}{L:Nat}(h:SimP (Hr rf) part L)(hp:Co part){kx:Ex->Vi->Option R}{S:List PairS}(hn:ln S.length){n a:Int}{z1 z2:Xpr}{c:Xpr->TL->Bool->Int->Option R}(hx:∀l b a e,kx (.exit 0) (S,l,n,b,a,z1,z2,e)=c e l b a)(K:Nat)(hK:S.length<K):∀(k m:Nat) (e:Xpr) (l:TL),l.length<L->l.length<k->l.length<m ->
  match Bv part (prs S) m e l with|.ok (e',l')=>Al (λrec=>Anh K rf rec kx) k (S,l,n,false,a,z1,z2,e)=c e' l' false a|.error q=>∃e' l',Al (λrec=>Anh K rf rec kx) k (S,l,n,false,a,z1,z2,e)=c e' l' true (Hd n q)
 |0,_,_,_,_,hk,_=>absurd hk (Zm1 _)
 |_,0,_,_,_,_,hk=>absurd hk (Zm1 _)
 |k+1,m+1,e,l,hl,hk,hm=>by
  have hin:=λ(rec:Vi->Option R)=>Bbs (R:=R) rf (kx:=λe vz=>match vz with|(v5,_,_,_,v9,d,f,g,i,j,o)=>match e with
   |.exit 1=>rec (v5,v9,d,f,g,i,j,o)
   |.exit 2=>kx (.exit 0) (v5,v9,d,f,g,i,j,o)
   |_=>none) hn (l:=l) (n:=n) (a:=a) (z1:=z1) (z2:=z2) (e:=e) (c1:=λe l n b a=>rec (S,l,n,b,a,z1,z2,e)) (λ_ _ _ _ _ _=>rfl) rfl K 0 (Nat.zero_le _) (by omega)
  have hit:∀rec:Vi->Option R,Anh K rf rec kx (S,l,n,false,a,z1,z2,e)=_:=hin;have hf:=L2 l S;rw[A3];simp only[Bv,hit,Zq1];cases hs:S.find? (λp=>isT p.sign l) with
  |none =>rw[hs] at hf;simp only[Option.map_none] at hf;rw[hf];exact hx _ _ _ _
  |some p =>
   rw[hs] at hf;simp only[Zl2] at hf;rw[hf];have hi:isT p.sign l=true:=by simpa using List.find?_some hs
   have hlt:=Fq hi;cases hq:part l.tail with|error q =>obtain⟨e1,l1,h1⟩:=h.er l.tail n a q (by omega) hq;simp only[h1,Zc1];obtain⟨k,rfl⟩:∃k',k=k'+1:=⟨k-1,by omega⟩;exact⟨mkX p.kind [e,e1],l1,hx _ _ _ _⟩|ok x =>obtain⟨x,l1⟩:=x;have h3:=hp _ _ _ hq;simp only[h.ok l.tail n a x l1 (by omega) hq,Zc1];exact Aqt h hp hn hx K hK k m (mkX p.kind [e,x]) l1 (by omega) (by omega) (by omega)
theorem A5h{rf:Ay->Option Aw}(h:I3 (Hr rf)):I3 (R5 rf):=λl n a=>by obtain⟨e1,h1⟩:=h l n a;simp only[R5,Ln,h1,Zc1];exact⟨e1,rfl⟩
theorem Bi9{rf:Ay->Option Aw}{part:TL->PR Xpr}{L:Nat}(h:SimP (Hr rf) part L)(hp:Co part):SimP (R5 rf) (Cp part (prs [PairS.mk [79,82] 5])) L where
 ok l n a e l' hl hq:=by
  simp only[Cp] at hq;cases hr:part l with
  |error q=>rw[hr] at hq;cases hq
  |ok x =>
   obtain⟨e1,l1⟩:=x;rw[hr] at hq;have h3:=hp _ _ _ hr;simp only at hq;have:=Aqt h hp (S:=[PairS.mk [79,82] 5]) (by simp[ln]) (n:=n) (a:=a) (z1:=Xpr.mk 0 ⟨0,0,[]⟩ [] []) (z2:=Xpr.mk 0 ⟨0,0,[]⟩ [] []) (c:=λe l b a=>some (e,l,n,b,a)) (kx:=λe vz=>match vz with|(_,d,f,g,i,_,_,j)=>match e with
    |.exit 0=>some (j,d,f,g,i)
    |_=>none) (λ_ _ _ _=>rfl) (l.length+3) (by simp) (l.length+3) (l1.length+1) e1 l1 (by omega) (by omega) (by omega)
   rw[hq] at this;simp only[R5,Ln,h.ok l n a e1 l1 hl hr,Zc1];exact this
 er l n a q hl hq:=by
  simp only[Cp] at hq;cases hr:part l with
  |error q' =>rw[hr] at hq;cases hq;obtain⟨e1,l1,h1⟩:=h.er l n a q hl hr;simp only[R5,Ln,h1,Zc1];exact⟨e1,l1,rfl⟩
  |ok x =>
   obtain⟨e1,l1⟩:=x;rw[hr] at hq;have h3:=hp _ _ _ hr;simp only at hq;have:=Aqt h hp (S:=[PairS.mk [79,82] 5]) (by simp[ln]) (n:=n) (a:=a) (z1:=Xpr.mk 0 ⟨0,0,[]⟩ [] []) (z2:=Xpr.mk 0 ⟨0,0,[]⟩ [] []) (c:=λe l b a=>some (e,l,n,b,a)) (kx:=λe vz=>match vz with|(_,d,f,g,i,_,_,j)=>match e with
    |.exit 0=>some (j,d,f,g,i)
    |_=>none) (λ_ _ _ _=>rfl) (l.length+3) (by simp) (l.length+3) (l1.length+1) e1 l1 (by omega) (by omega) (by omega)
   rw[hq] at this;simp only[R5,Ln,h.ok l n a e1 l1 hl hr,Zc1];exact this
 bad:=A5h h.bad
theorem Bl0(rf:Ay->Option Aw):I3 (R5 rf):=A5h (Awp (Auf (Axm (Aum (Aa5 (Awn (Ana rf)))))))
theorem Bqm{rf:Ay->Option Aw}{L:Nat}(h:SimP rf orW L)(hL:L+1<=1000000000):SimP (R5 rf) orW (L+1):=by have e:orW=lev orW 1:=funext Aqk;have e7:=Hq (s:=[45]) (k:=15) (X7 Hb);have e6:=F3 (sg:=[([42],14)]) e7;have e5:=F3 (sg:=[([43],12),([45],13)]) e6;have e3:Co (A8 Eg 3 _):=Hq (Akj e5);have e2:=F3 (sg:=[(Al8,4)]) e3;have:=Bi9 (Bgw (Bdd (Bfi (Bf7 (Ato (Bdk (A68 h) hL) e7) e6) e5) hL) e3) e2;rw[e];exact this
theorem Atp:∀m:Nat,m<=1000000000->SimP (Al (V:=Ay) (R:=Aw) R5 (m+1)) orW m
 |0,_=>⟨λ_ _ _ _ _ h=>absurd h (Zm1 _),λ_ _ _ _ h=>absurd h (Zm1 _),Bl0 _⟩
 |m+1,h=>Bqm (Atp m (by omega)) h
theorem Su{L:Nat}(hL:L<=1000000000):SimP Fz orW L where
 ok l n a e l' hl hp:=(Atp (l.length+1) (by omega)).ok l n a e l' (by omega) hp
 er l n a q hl hp:=(Atp (l.length+1) (by omega)).er l n a q (by omega) hp
 bad l n a:=Bl0 _ l n a
def Out{α γ:Type}(g : α->TL->γ)(E:Int->γ->Prop)(n:Int)(x:Option γ)(y:PR α):Prop:=match y with|.ok (r,l)=>x=some (g r l)|.error q=>∃z,x=some z/\E (Hd n q) z
def Bt{γ:Type}(E:Int->γ->Prop)(b:Int)(x:Option γ):Prop:=∃z,x=some z/\E b z
section
variable {α β γ:Type}{g : β->TL->γ}{E:Int->γ->Prop}{n a:Int}
theorem Out.bindS{F:RS->Option (α×RS)}{p:TL->PR α}{L:Nat}(h:SimP F p L){G : α×RS->Option γ}{f : α->TL->PR β}{l:TL}(hl:l.length<L)(h1:∀r l',p l = .ok (r,l')->Out g E n (G (r,l',n,false,a)) (f r l'))(h2:∀r l' b,Bt E b (G (r,l',n,true,b))):Out g E n ((F (l,n,false,a)).bind G) (bP p f l):=by unfold bP;cases hq:p l with|error q =>obtain⟨e1,l1,h3⟩:=h.er l n a q hl hq;rw[h3];exact h2 e1 l1 (Hd n q)|ok x =>obtain⟨r,l'⟩:=x;rw[h.ok l n a r l' hl hq];exact h1 r l' hq
theorem Bt.bindS{F:RS->Option (α×RS)}(h:I3 F){G : α×RS->Option γ}{l:TL}{b:Int}(h2:∀r,Bt E b (G (r,l,n,true,b))):Bt E b ((F (l,n,true,b)).bind G):=by obtain⟨e,h1⟩:=h l n b;rw[h1];exact h2 e
theorem Out.must{ss:List Str}(hs:ss.length<=100){G:RS->Option γ}{f:Unit->TL->PR β}{l:TL}(h1:∀l',A4 ss l = .ok ((),l')->Out g E n (G (l',n,false,a)) (f () l'))(h2:∀l' b,Bt E b (G (l',n,true,b))):Out g E n ((Ai (ss,l,n,false,a)).bind G) (bP (A4 ss) f l):=by unfold bP;rw[Asv hs];cases hq:A4 ss l with|error q=>exact h2 q (Hd n q)|ok x =>obtain⟨⟨⟩,l'⟩:=x;exact h1 l' hq
theorem Bt.must{ss:List Str}{G:RS->Option γ}{l:TL}{b:Int}(h2:Bt E b (G (l,n,true,b))):Bt E b ((Ai (ss,l,n,true,b)).bind G):=by rw[Pz];exact h2
theorem Out.loop{part:TL->PR α}{m:Nat}{acc:List α}{l:TL}{X:Option γ}(c:List α->TL->Bool->Int->Option γ){f:List α->TL->PR β}(hX:∀e l',A5 part m acc l = .ok (e,l')->X=c e l' false a)(hE:∀q,A5 part m acc l = .error q->∃e l',X=c e l' true (Hd n q))(h1:∀e l',A5 part m acc l = .ok (e,l')->Out g E n (c e l' false a) (f e l'))(h2:∀e l' b,Bt E b (c e l' true b)):Out g E n X (bP (A5 part m acc) f l):=by unfold bP;cases hq:A5 part m acc l with|error q =>obtain⟨e,l',h⟩:=hE q hq;rw[h];exact h2 e l' (Hd n q)|ok x =>obtain⟨e,l'⟩:=x;rw[hX e l' hq];exact h1 e l' hq
end
theorem Uv{α β:Type}(part:TL->PR α)(f:List α->TL->PR β)(l:TL):bP (F8 part) f l=bP part (λx l'=>bP (A5 part (l'.length+1) [x]) f l') l:=by simp only[bP,F8];cases part l with|error q=>rfl|ok x=>rfl
theorem Bic{α:Type}(part:TL->PR α)(l:TL):F8 part l=bP part (λx l'=>bP (A5 part (l'.length+1) [x]) Bd l') l:=by simp only[bP,F8,Bd];cases part l with|error q=>rfl|ok x =>obtain⟨x,l'⟩:=x;simp only;cases A5 part (l'.length+1) [x] l'<;>rfl
abbrev gV{α:Type}(n a:Int)(r : α)(l:TL) : α×RS:=(r,l,n,false,a)
abbrev EV{α:Type}(n:Int)(p:Int)(z : α×RS):Prop:=z.2.2.1=n/\z.2.2.2.1=true/\z.2.2.2.2=p
theorem SimP.of{α:Type}{F:RS->Option (α×RS)}{p:TL->PR α}{L:Nat}(h:∀l n a,l.length<L->Out (gV n a) (EV n) n (F (l,n,false,a)) (p l))(hb:I3 F):SimP F p L where
 ok l n a e l' hl hp:=by have:=h l n a hl;rw[hp] at this;exact this
 er l n a q hl hp:=by have:=h l n a hl;rw[hp] at this;obtain⟨⟨r,l',n',b,p'⟩,h1,h2,h3,h4⟩:=this;simp only at h2 h3 h4;subst h2 h3 h4;exact⟨r,l',h1⟩
 bad:=hb
theorem Gu:Co Bj:=λl e l' h=>by
 cases l with
 |nil=>cases h
 |cons t r =>simp only[Bj] at h;cases hk:decide (t.kind=2) with|true=>rw[hk] at h;cases h;simp|false=>rw[hk] at h;cases h
theorem Ta{R:Type}{kx:Ex->Hi->Option R}{n:Int}{c:List Str->TL->Bool->Int->Option R}(hk:∀acc l b a,kx (.exit 0) (l,n,b,a,acc)=c acc l b a){L:Nat}(hs:SimP Av Bj L)(he:Co Bj)(a:Int):∀(k m:Nat) (acc:List Str) (l:TL),l.length<L->l.length<k->l.length<m->acc.length+l.length<=1000000000 ->
  match A5 Bj m acc l with|.ok (e,l')=>Al (λrec=>G9 rec kx) k (l,n,false,a,acc)=c e l' false a|.error q=>∃e l',Al (λrec=>G9 rec kx) k (l,n,false,a,acc)=c e l' true (Hd n q)
 |0,_,_,_,_,h,_,_=>absurd h (Zm1 _)
 |_,0,_,_,_,_,h,_=>absurd h (Zm1 _)
 |k+1,m+1,acc,l,hl,h1,h2,h3=>by
  have hm:decide (acc.length+1<=Am)=true:=Ze1 (by simp only[Am];omega);simp only[A3,G9,Zs1,Ae,A5];cases hi:isT [44] l with
  |false=>simp only[Ew hi,Zc1,Ah,hk]
  |true =>have hlt:=Fq hi;simp only[Fg hi,Zc1,Ae];cases hq:Bj l.tail with|error q =>obtain⟨e1,l1,h4⟩:=hs.er l.tail n a q (by omega) hq;simp only[h4,Zc1,hm,chk];obtain⟨k,rfl⟩:∃k',k=k'+1:=⟨k-1,by omega⟩;exact⟨acc++[e1],l1,hk _ _ _ _⟩|ok x =>obtain⟨x,l1⟩:=x;have h5:=he _ _ _ hq;simp only[hs.ok l.tail n a x l1 (by omega) hq,Zc1,hm,chk];exact Ta hk hs he a k m (acc++[x]) l1 (by omega) (by omega) (by omega) (by simp only[Zh1,Zf1,Zi1];omega)
theorem A1m{R:Type}{kx:Ex->Hi->Option R}{n:Int}{c:List Str->TL->Bool->Int->Option R}(hk:∀acc l b a,kx (.exit 0) (l,n,b,a,acc)=c acc l b a){L:Nat}(hs:SimP Av Bj L)(he:Co Bj){a:Int}{k m:Nat}{acc:List Str}{l:TL}(h1:l.length<L)(h2:l.length<k)(h3:l.length<m)(h4:acc.length+l.length<=1000000000)(e:List Str)(l':TL)(h:A5 Bj m acc l = .ok (e,l')):Al (λrec=>G9 rec kx) k (l,n,false,a,acc)=c e l' false a:=by have:=Ta hk hs he a k m acc l h1 h2 h3 h4;rw[h] at this;exact this
theorem A1w{R:Type}{kx:Ex->Hi->Option R}{n:Int}{c:List Str->TL->Bool->Int->Option R}(hk:∀acc l b a,kx (.exit 0) (l,n,b,a,acc)=c acc l b a){L:Nat}(hs:SimP Av Bj L)(he:Co Bj){a:Int}{k m:Nat}{acc:List Str}{l:TL}(h1:l.length<L)(h2:l.length<k)(h3:l.length<m)(h4:acc.length+l.length<=1000000000)(q:TL)(h:A5 Bj m acc l = .error q):∃e l',Al (λrec=>G9 rec kx) k (l,n,false,a,acc)=c e l' true (Hd n q):=by have:=Ta hk hs he a k m acc l h1 h2 h3 h4;rw[h] at this;exact this
theorem X8{R:Type}{kx:Ex->Hi->Option R}{n a:Int}{l:TL}{acc:List Str}(k:Nat):Al (λrec=>G9 rec kx) (k+1) (l,n,true,a,acc)=kx (.exit 0) (l,n,true,a,acc):=by simp only[A3,G9,Zt1,Ah]
theorem S7{R:Type}{kx:Ex->Hy->Option R}{n:Int}{c:List Xpr->TL->Bool->Int->Option R}(hk:∀acc l b a,kx (.exit 0) (l,n,b,a,acc)=c acc l b a){L:Nat}(hs:SimP Fz orW L)(he:Co orW)(a:Int):∀(k m:Nat) (acc:List Xpr) (l:TL),l.length<L->l.length<k->l.length<m->acc.length+l.length<=1000000000 ->
  match A5 orW m acc l with|.ok (e,l')=>Al (λrec=>Hg rec kx) k (l,n,false,a,acc)=c e l' false a|.error q=>∃e l',Al (λrec=>Hg rec kx) k (l,n,false,a,acc)=c e l' true (Hd n q)
 |0,_,_,_,_,h,_,_=>absurd h (Zm1 _)
 |_,0,_,_,_,_,h,_=>absurd h (Zm1 _)
 |k+1,m+1,acc,l,hl,h1,h2,h3=>by
  have hm:decide (acc.length+1<=Am)=true:=Ze1 (by simp only[Am];omega);simp only[A3,Hg,Zs1,Ae,A5];cases hi:isT [44] l with
  |false=>simp only[Ew hi,Zc1,Ah,hk]
  |true =>have hlt:=Fq hi;simp only[Fg hi,Zc1,Ae];cases hq:orW l.tail with|error q =>obtain⟨e1,l1,h4⟩:=hs.er l.tail n a q (by omega) hq;simp only[h4,Zc1,hm,decide_true,Bool.and_self,chk];obtain⟨k,rfl⟩:∃k',k=k'+1:=⟨k-1,by omega⟩;exact⟨acc++[e1],l1,hk _ _ _ _⟩|ok x =>obtain⟨x,l1⟩:=x;have h5:=he _ _ _ hq;simp only[hs.ok l.tail n a x l1 (by omega) hq,Zc1,hm,decide_true,Bool.and_self,chk];exact S7 hk hs he a k m (acc++[x]) l1 (by omega) (by omega) (by omega) (by simp only[Zh1,Zf1,Zi1];omega)
theorem A2n{R:Type}{kx:Ex->Hy->Option R}{n:Int}{c:List Xpr->TL->Bool->Int->Option R}(hk:∀acc l b a,kx (.exit 0) (l,n,b,a,acc)=c acc l b a){L:Nat}(hs:SimP Fz orW L)(he:Co orW){a:Int}{k m:Nat}{acc:List Xpr}{l:TL}(h1:l.length<L)(h2:l.length<k)(h3:l.length<m)(h4:acc.length+l.length<=1000000000)(e:List Xpr)(l':TL)(h:A5 orW m acc l = .ok (e,l')):Al (λrec=>Hg rec kx) k (l,n,false,a,acc)=c e l' false a:=by have:=S7 hk hs he a k m acc l h1 h2 h3 h4;rw[h] at this;exact this
theorem A2c{R:Type}{kx:Ex->Hy->Option R}{n:Int}{c:List Xpr->TL->Bool->Int->Option R}(hk:∀acc l b a,kx (.exit 0) (l,n,b,a,acc)=c acc l b a){L:Nat}(hs:SimP Fz orW L)(he:Co orW){a:Int}{k m:Nat}{acc:List Xpr}{l:TL}(h1:l.length<L)(h2:l.length<k)(h3:l.length<m)(h4:acc.length+l.length<=1000000000)(q:TL)(h:A5 orW m acc l = .error q):∃e l',Al (λrec=>Hg rec kx) k (l,n,false,a,acc)=c e l' true (Hd n q):=by have:=S7 hk hs he a k m acc l h1 h2 h3 h4;rw[h] at this;exact this
theorem Aj1{R:Type}{kx:Ex->Hy->Option R}{n a:Int}{l:TL}{acc:List Xpr}(k:Nat):Al (λrec=>Hg rec kx) (k+1) (l,n,true,a,acc)=kx (.exit 0) (l,n,true,a,acc):=by simp only[A3,Hg,Zt1,Ah]
theorem Ez:I3 Av:=(Cu 0).bad
theorem Acm:I3 Fz:=(Su (L:=0) (by omega)).bad
theorem Ady:I3 C9:=λl n a=>by obtain⟨e1,h1⟩:=Acm l n a;simp only[C9,Ju,h1,Zc1,Aj1];exact⟨[e1],rfl⟩
theorem Ap7{L:Nat}(hL:L<=1000000000):SimP C9 P5 L :=.of (λl n a hl=>by
 unfold P5;rw[Bic];simp only[C9,Ju];refine Out.bindS (Su hL) hl (λr l' hp =>?_) (λr l' b =>?_)
 ·have h5:=Hb _ _ _ hp;have hm:decide (0+1<=Am)=true:=Ze1 (by simp only[Am];omega);simp only[hm,decide_true,Bool.and_self,chk,Ae];have hl':[r].length+l'.length<=1000000000:=by simp only[Zf1,Zi1];omega
  refine Out.loop (a:=a) (λacc l b a=>some (acc,l,n,b,a)) (A2n (λ_ _ _ _=>rfl) (Su hL) Hb (by omega) (by omega) (by omega) hl') (A2c (λ_ _ _ _=>rfl) (Su hL) Hb (by omega) (by omega) (by omega) hl') (λe l2 _ =>?_) (λe l2 b =>?_)
  ·exact rfl
  ·exact⟨_,rfl,rfl,rfl,rfl⟩
 ·have hm:decide (0+1<=Am)=true:=Ze1 (by simp only[Am];omega);simp only[hm,decide_true,Bool.and_self,chk,Ae,Aj1];exact⟨_,rfl,rfl,rfl,rfl⟩) Ady
theorem Jh:I3 D8:=λl n a=>by obtain⟨e1,h1⟩:=Ez l n a;simp only[D8,Js,Pz,h1,Zc1,X8];exact⟨[e1],rfl⟩
theorem Ao7{L:Nat}(hL:L<=1000000000):SimP D8 Ns L :=.of (λl n a hl=>by
 unfold Ns;simp only[D8,Js];refine Out.must (by decide) (λl0 h0 =>?_) (λl0 b =>?_)
 ·have hl0:l0.length<=l.length:=by cases hi:isT [40] l with|true=>rw[Aeb hi] at h0;cases h0;exact A2 l|false=>rw[Ai7 hi] at h0;cases h0
  rw[Uv];refine Out.bindS (Cu L) (show l0.length<L by omega) (λr l' hp =>?_) (λr l' b =>?_)
  ·have h5:l'.length<l0.length:=Gu _ _ _ hp;have hl':[r].length+l'.length<=1000000000:=by simp only[Zf1,Zi1];omega
   refine Out.loop (a:=a) (λacc l b a=>(Ai ([[41]],l,n,b,a)).bind λ(c,d,f,g)=>some (acc,c,d,f,g)) (A1m (λ_ _ _ _=>rfl) (Cu L) Gu (by omega) (by omega) (by omega) hl') (A1w (λ_ _ _ _=>rfl) (Cu L) Gu (by omega) (by omega) (by omega) hl') (λe l2 _ =>?_) (λe l2 b =>?_)
   ·exact Out.must (by decide) (λl3 _=>rfl) (λl3 b=>⟨_,rfl,rfl,rfl,rfl⟩)
   ·exact Bt.must ⟨_,rfl,rfl,rfl,rfl⟩
  ·simp only[X8];exact Bt.must ⟨_,rfl,rfl,rfl,rfl⟩
 ·refine Bt.bindS Ez (λr =>?_);simp only[X8];exact Bt.must ⟨_,rfl,rfl,rfl,rfl⟩) Jh
section
variable {V R α:Type}{step:(V->Option R)->V->Option R}{st:TL->Int->Bool->Int->List α->V}{n:Int}{Fp:RS->Option (α×RS)}{part:TL->PR α}{L:Nat}{c:List α->TL->Bool->Int->Option R}
theorem Ajj(hs:SimP Fp part L)(he:Co part)
  (hg:∀rec l a acc,acc.length<=1000000000->isT [44] l=true->step rec (st l n false a acc)=(Fp (l.tail,n,false,a)).bind λz=>rec (st z.2.1 z.2.2.1 z.2.2.2.1 z.2.2.2.2 (acc++[z.1])))
  (hf:∀rec l a acc,isT [44] l=false->step rec (st l n false a acc)=c acc l false a)
  (hb:∀rec l a acc,step rec (st l n true a acc)=c acc l true a) (a:Int):∀(k m:Nat) (acc:List α) (l:TL),l.length<L->l.length<k->l.length<m->acc.length+l.length<=1000000000 ->
  match A5 part m acc l with|.ok (e,l')=>Al step k (st l n false a acc)=c e l' false a|.error q=>∃e l',Al step k (st l n false a acc)=c e l' true (Hd n q)
 |0,_,_,_,_,h,_,_=>absurd h (Zm1 _)
 |_,0,_,_,_,_,h,_=>absurd h (Zm1 _)
 |k+1,m+1,acc,l,hl,h1,h2,h3=>by
  simp only[A3,A5];cases hi:isT [44] l with
  |false=>exact hf _ l a acc hi
  |true =>have hlt:=Fq hi;simp only[hg _ l a acc (by omega) hi];cases hq:part l.tail with|error q =>obtain⟨e1,l1,h4⟩:=hs.er l.tail n a q (by omega) hq;simp only[h4,Zc1];obtain⟨k,rfl⟩:∃k',k=k'+1:=⟨k-1,by omega⟩;exact⟨acc++[e1],l1,hb _ _ _ _⟩|ok x =>obtain⟨x,l1⟩:=x;have h5:=he _ _ _ hq;simp only[hs.ok l.tail n a x l1 (by omega) hq,Zc1];exact Ajj hs he hg hf hb a k m (acc++[x]) l1 (by omega) (by omega) (by omega) (by simp only[Zh1,Zf1,Zi1];omega)
theorem As1(hs:SimP Fp part L)(he:Co part)
  (hg:∀rec l a acc,acc.length<=1000000000->isT [44] l=true->step rec (st l n false a acc)=(Fp (l.tail,n,false,a)).bind λz=>rec (st z.2.1 z.2.2.1 z.2.2.2.1 z.2.2.2.2 (acc++[z.1])))
  (hf:∀rec l a acc,isT [44] l=false->step rec (st l n false a acc)=c acc l false a)
  (hb:∀rec l a acc,step rec (st l n true a acc)=c acc l true a) {a:Int}{k m:Nat}{acc:List α}{l:TL}(h1:l.length<L) (h2:l.length<k) (h3:l.length<m) (h4:acc.length+l.length<=1000000000) (e:List α) (l':TL) (h:A5 part m acc l = .ok (e,l')):Al step k (st l n false a acc)=c e l' false a:=by
 have:=Ajj hs he hg hf hb a k m acc l h1 h2 h3 h4;rw[h] at this;exact this
theorem As9(hs:SimP Fp part L)(he:Co part)
  (hg:∀rec l a acc,acc.length<=1000000000->isT [44] l=true->step rec (st l n false a acc)=(Fp (l.tail,n,false,a)).bind λz=>rec (st z.2.1 z.2.2.1 z.2.2.2.1 z.2.2.2.2 (acc++[z.1])))
  (hf:∀rec l a acc,isT [44] l=false->step rec (st l n false a acc)=c acc l false a)
  (hb:∀rec l a acc,step rec (st l n true a acc)=c acc l true a) {a:Int}{k m:Nat}{acc:List α}{l:TL}(h1:l.length<L) (h2:l.length<k) (h3:l.length<m) (h4:acc.length+l.length<=1000000000) (q:TL) (h:A5 part m acc l = .error q):∃e l',Al step k (st l n false a acc)=c e l' true (Hd n q):=by
 have:=Ajj hs he hg hf hb a k m acc l h1 h2 h3 h4;rw[h] at this;exact this
end
abbrev Cl:=Int×Str×Str×List Col×List Str×List Xpr×List (List Xpr)×List SetE×Bool×Int×Int×Int×Str×Str×List Xpr×List Str×List Bool×Int
abbrev ES(n:Int)(p:Int)(z:TL×Int×Bool×Int×Cl):Prop:=z.2.1=n/\z.2.2.1=true/\z.2.2.2.1=p
theorem Ago(l:TL)(n a:Int)(z:Cl):Cf (l,n,true,a,z)=some (l,n,true,a,z):=by obtain⟨sk,sn,so,sc,ss,sl,sr,st,sh,wk,vk,vn,vs,wn,wl,sd,se,sm⟩:=z;simp only[Cf,M6,Zt1,Ah]
theorem Ac2{L:Nat}(hL:L<=1000000000)(n a sk:Int)(sn so:Str)(sc:List Col)(ss:List Str)(sl:List Xpr)(sr:List (List Xpr))(st:List SetE)(sd:List Str)(se:List Bool)(sm:Int){l:TL}(hl:l.length<L) :
  Out (λ(w:Bool×Xpr) l'=>((l',n,false,a,sk,sn,so,sc,ss,sl,sr,st,w.1,w.2.kind,w.2.v.kind,w.2.v.n,w.2.v.s,w.2.name,w.2.l,sd,se,sm):TL×Int×Bool×Int×Cl)) (ES n) n (Cf (l,n,false,a,sk,sn,so,sc,ss,sl,sr,st,false,0,0,0,[],[],[],sd,se,sm)) (Fo l):=by
 simp only[Cf,M6,Zs1,Ae,Fo];cases hi:isT Hu l with
 |false =>simp only[Ew (s:=[87,72,69,82,69]) hi,Zc1,Ah];exact rfl
 |true =>have ht:=A2 l;simp only[Fg (s:=[87,72,69,82,69]) hi,Zc1,Ae];cases hq:orW l.tail with|error q =>obtain⟨e1,l1,h1⟩:=(Su hL).er l.tail n a q (by omega) hq;simp only[h1,Zc1];exact⟨_,rfl,rfl,rfl,rfl⟩|ok x =>obtain⟨x,l1⟩:=x;simp only[(Su hL).ok l.tail n a x l1 (by omega) hq,Zc1];exact rfl
def Ara(s:RS):Option (SetE×RS):=(Av s).bind λ(a,b,c,d,e) =>(Ai ([[61]],b,c,d,e)).bind λ(f,g,h,i) =>(Fz (f,g,h,i)).bind λ(j,k,l,m,n)=>some (SetE.mk a (Mf j),k,l,m,n)
theorem Aq1{s:Str}{l l':TL}{x:Unit}(h:A4 [s] l = .ok (x,l')):l'.length<=l.length:=by cases hi:isT s l with|true=>rw[Aeb hi] at h;cases h;exact A2 l|false=>rw[Ai7 hi] at h;cases h
theorem Arh:I3 Ara:=λl n a=>by obtain⟨e1,h1⟩:=Ez l n a;obtain⟨e2,h2⟩:=Acm l n a;simp only[Ara,h1,Pz,h2,Zc1];exact⟨_,rfl⟩
theorem Asl{L:Nat}(hL:L<=1000000000):SimP Ara A1j L :=.of (λl n a hl=>by
 unfold A1j Ara;refine Out.bindS (Cu L) hl (λr l1 h1 =>?_) (λr l1 b =>?_)
 ·have q1:l1.length<l.length:=Gu _ _ _ h1;refine Out.must (by decide) (λl2 h2 =>?_) (λl2 b =>?_)
  ·have q2:=Aq1 h2;refine Out.bindS (Su hL) (show l2.length<L by omega) (λe l3 h3 =>?_) (λe l3 b =>?_)
   ·show some (SetE.mk r (Mf e),l3,n,false,a)=some (gV n a ⟨r,e⟩ l3);rw[Jo]
   ·exact⟨_,rfl,rfl,rfl,rfl⟩
  ·exact Bt.bindS Acm (λe=>⟨_,rfl,rfl,rfl,rfl⟩)
 ·exact Bt.must (Bt.bindS Acm (λe=>⟨_,rfl,rfl,rfl,rfl⟩))) Arh
theorem Ha{α β:Type}{p:TL->PR α}{f : α->TL->PR β}{l l':TL}{e : β}(h:bP p f l = .ok (e,l')):∃x l1,p l = .ok (x,l1)/\f x l1 = .ok (e,l'):=by unfold bP at h;cases hq:p l with|error q=>rw[hq] at h;cases h|ok x =>obtain⟨x,l1⟩:=x;rw[hq] at h;exact⟨x,l1,rfl,h⟩
theorem Aa0:Co A1j:=λl e l' h=>by obtain⟨x,l1,h1,h⟩:=Ha h;obtain⟨_,l2,h2,h⟩:=Ha h;obtain⟨y,l3,h3,h⟩:=Ha h;have q1:=Gu _ _ _ h1;have q2:=Aq1 h2;have q3:=Hb _ _ _ h3;cases h;omega
abbrev upV(sn so:Str)(sc:List Col)(ss:List Str)(sl:List Xpr)(sr:List (List Xpr))(sd:List Str)(se:List Bool)(sm:Int)(l:TL)(n:Int)(b:Bool)(a:Int)(acc:List SetE):Dx:=(l,n,b,a,6,sn,so,sc,ss,sl,sr,acc,false,0,0,0,[],[],[],sd,se,sm)
section
variable {R:Type}{kx:Ex->Dx->Option R}{n:Int}{sn so:Str}{sc:List Col}{ss:List Str}{sl:List Xpr}{sr:List (List Xpr)}{sd:List Str}{se:List Bool}{sm:Int}
theorem Bpn(rec:Dx->Option R)(l:TL)(a:Int)(acc:List SetE)(ha:acc.length<=1000000000)(hi:isT [44] l=true):D3 rec kx (upV sn so sc ss sl sr sd se sm l n false a acc)=(Ara (l.tail,n,false,a)).bind λz=>rec (upV sn so sc ss sl sr sd se sm z.2.1 z.2.2.1 z.2.2.2.1 z.2.2.2.2 (acc++[z.1])):=by
 have hm:decide (acc.length+1<=Am)=true:=Ze1 (by simp only[Am];omega);simp only[D3,Zs1,Ae,Fg hi,Zc1,Ara];cases Av (l.tail,n,false,a) with
 |none=>rfl
 |some x =>
  simp only[Zc1];cases Ai ([[61]],x.2) with
  |none=>rfl
  |some y =>simp only[Zc1];cases Fz y with|none=>rfl|some z=>simp only[Zc1,hm,chk,Ae]
theorem Bq7(rec:Dx->Option R)(l:TL)(a:Int)(acc:List SetE)(hi:isT [44] l=false):D3 rec kx (upV sn so sc ss sl sr sd se sm l n false a acc)=kx (.exit 0) (upV sn so sc ss sl sr sd se sm l n false a acc):=by simp only[D3,Zs1,Ae,Ew hi,Zc1,Ah]
theorem Bm8(rec:Dx->Option R)(l:TL)(a:Int)(acc:List SetE):D3 rec kx (upV sn so sc ss sl sr sd se sm l n true a acc)=kx (.exit 0) (upV sn so sc ss sl sr sd se sm l n true a acc):=by simp only[D3,Zt1,Ah]
end
theorem Out.map{α β γ:Type}{g : α->TL->γ}{g' : β->TL->γ}{E:Int->γ->Prop}{n:Int}{x:Option γ}{p:TL->PR α}{h : α->β}{l:TL}(ho:Out g E n x (p l))(hg:∀r l',g r l' = g' (h r) l'):Out g' E n x (bP p (λw=>Bd (h w)) l):=by unfold bP;cases hq:p l with|error q=>rw[hq] at ho;exact ho|ok y =>obtain⟨r,l'⟩:=y;rw[hq] at ho;exact ho.trans (congrArg some (hg r l'))
def Ay7(s:Stm):Cl:=(s.kind,s.name,s.on,s.cols,s.names,s.l,s.rows,s.sets,s.has,s.whr.kind,s.whr.v.kind,s.whr.v.n,s.whr.v.s,s.whr.name,s.whr.l,s.order,s.desc,s.most)
abbrev gS(n a:Int)(s:Stm)(l:TL):TL×Int×Bool×Int×Cl:=(l,n,false,a,Ay7 s)
abbrev z0:Cl:=(0,[],[],[],[],[],[],[],false,0,0,0,[],[],[],[],[],0)
abbrev upX(nm:Str):=upV nm [] [] [] [] [] [] [] 0
def upK(e:Ex)(v:Dx):Option Jj:=match e with|.exit 0=>Cf v|_=>none
theorem Bo4(l:TL)(n:Int)(b:Bool)(a:Int):I5 (l,n,b,a,z0)=(Av (l,n,b,a)).bind λx=>(Ai ([[83,69,84]],x.2)).bind λy=>(Ara y).bind λz=>Al (λrec=>D3 rec upK) (l.length+3) (upX x.1 z.2.1 z.2.2.1 z.2.2.2.1 z.2.2.2.2 [z.1]):=by
 have hk:∀(e:Ex) (vz:Dx),(match vz with|(v,v1,v2,v3,v4,v5,v6,v7,v8,v9,c,d,f,g,h,i,j,k,m,o,p,q)=>match e with
   |.exit 0=>(Cf (v,v1,v2,v3,v4,v5,v6,v7,v8,v9,c,d,f,g,h,i,j,k,m,o,p,q)).bind λ(r,s,t,u,w,a0,a1,a2,a3,a4,a5,a6,a7,a8,a9,aa,ab,ac,ad,ae,af,ag)=>some (r,s,t,u,w,a0,a1,a2,a3,a4,a5,a6,a7,a8,a9,aa,ab,ac,ad,ae,af,ag)
   |_=>none:Option Jj)=upK e vz:=λe vz=>by
  match e with|.exit 0 =>show(Cf vz).bind (λx=>some x)=Cf vz;cases Cf vz<;>rfl|.exit (_+1)=>rfl|.ret=>rfl|.normal=>rfl
 have hm:decide (([]:List SetE).length+1<=Am)=true:=Ze1 (by simp only[Am,Zi1];omega);unfold I5;show(Av (l,n,b,a)).bind _=_;cases Av (l,n,b,a) with
 |none=>rfl
 |some x =>
  show(Ai ([[83,69,84]],x.2)).bind _=(Ai ([[83,69,84]],x.2)).bind _;cases Ai ([[83,69,84]],x.2) with
  |none=>rfl
  |some y =>
   show(Av y).bind _=(Ara y).bind _;unfold Ara;cases Av y with
   |none=>rfl
   |some x9 =>
    show(Ai ([[61]],x9.2)).bind _=Option.bind ((Ai ([[61]],x9.2)).bind _) _;cases Ai ([[61]],x9.2) with
    |none=>rfl
    |some y2 =>show(Fz y2).bind _=Option.bind ((Fz y2).bind _) _;cases Fz y2 with|none=>rfl|some z =>obtain⟨z1,z2,z3,z4,z5⟩:=z;have hk2:=funext λe=>funext λvz=>hk e vz;rw[<-hk2];simp only[Zc1];rw[hm];rfl
theorem Ad4{α:Type}{part:TL->PR α}(he:Co part):∀{m:Nat}{acc:List α}{l:TL}{e:List α}{l':TL},A5 part m acc l = .ok (e,l')->l'.length<=l.length
 |0,_,_,_,_,h=>by cases h
 |m+1,acc,l,e,l',h=>by
  simp only[A5] at h;cases hi:isT [44] l with
  |false=>rw[hi] at h;cases h;exact Zn1 _
  |true =>rw[hi] at h;simp only at h;cases hq:part l.tail with|error q=>rw[hq] at h;cases h|ok x =>obtain⟨x,l1⟩:=x;rw[hq] at h;have h1:=he _ _ _ hq;have h2:=Ad4 he h;have h3:=A2 l;omega
theorem A09(nm:Str)(k:Nat)(l:TL)(n a:Int)(acc:List SetE):Bt (ES n) a (Al (λrec=>D3 rec upK) (k+1) (upX nm l n true a acc)):=by rw[A3,Bm8];exact⟨_,Ago l n a _,rfl,rfl,rfl⟩
theorem A0d{L:Nat}(hL:L<=1000000000){l:TL}(hl:l.length<L)(n a:Int):Out (gS n a) (ES n) n (I5 (l,n,false,a,z0)) (Gx l):=by
 rw[Bo4];unfold Gx;refine Out.bindS (Cu L) hl (λnm l1 h1 =>?_) (λnm l1 b=>Bt.must (Bt.bindS Arh λx=>A09 nm _ l1 n b [x]));have q1:l1.length<l.length:=Gu _ _ _ h1;refine Out.must (by decide) (λl2 h2 =>?_) (λl2 b=>Bt.bindS Arh λx=>A09 nm _ l2 n b [x]);have q2:=Aq1 h2;rw[Uv];refine Out.bindS (Asl hL) (show l2.length<L by omega) (λx l3 h3 =>?_) (λx l3 b=>A09 nm _ l3 n b [x]);have q3:l3.length<l2.length:=Aa0 _ _ _ h3;have q4:[x].length+l3.length<=1000000000:=by simp only[Zf1,Zi1];omega
 refine Out.loop (a:=a) (λacc l b a=>upK (.exit 0) (upX nm l n b a acc))
  (As1 (step:=λrec=>D3 rec upK) (st:=upX nm) (n:=n) (c:=λacc l b a=>upK (.exit 0) (upX nm l n b a acc)) (Asl hL) Aa0 (λrec l a acc ha hi=>Bpn rec l a acc ha hi) (λrec l a acc hi=>Bq7 rec l a acc hi) (λrec l a acc=>Bm8 rec l a acc) (a:=a) (k:=l.length+3) (m:=l3.length+1) (acc:=[x]) (l:=l3) (by omega) (by omega) (by omega) q4)
  (As9 (step:=λrec=>D3 rec upK) (st:=upX nm) (n:=n) (c:=λacc l b a=>upK (.exit 0) (upX nm l n b a acc)) (Asl hL) Aa0 (λrec l a acc ha hi=>Bpn rec l a acc ha hi) (λrec l a acc hi=>Bq7 rec l a acc hi) (λrec l a acc=>Bm8 rec l a acc) (a:=a) (k:=l.length+3) (m:=l3.length+1) (acc:=[x]) (l:=l3) (by omega) (by omega) (by omega) q4) (λacc l4 h4 =>?_) (λacc l4 b=>⟨_,Ago l4 n b _,rfl,rfl,rfl⟩)
 have q5:l4.length<=l3.length:=Ad4 Aa0 h4;exact Out.map (Ac2 hL n a 6 nm [] [] [] [] [] acc [] [] 0 (show l4.length<L by omega)) (λw l'=>rfl)
def A3i(c:Col)(s:RS):Option (Col×RS):=cond (!s.2.2.1) ((Ao ([82,69,70,69,82,69,78,67,69,83],s)).bind λz=>cond z.1 ((Av z.2).bind λy=>some (Col.mk c.name c.kind c.notNull c.unique y.1,y.2)) (some (c,z.2))) (some (c,s))
def Axe(c:Col)(s:RS):Option (Col×RS):=cond (!s.2.2.1) ((Ao ([85,78,73,81,85,69],s)).bind λz=>A3i (Col.mk c.name c.kind c.notNull z.1 c.ref) z.2) (A3i (Col.mk c.name c.kind c.notNull false c.ref) s)
def Bg8(c:Col)(s:RS):Option (Col×RS):=cond c.notNull ((Ai ([[78,85,76,76]],s)).bind λy=>Axe c y) (Axe c s)
def Awc(c:Col)(s:RS):Option (Col×RS):=cond (!s.2.2.1) ((Ao ([78,79,84],s)).bind λz=>Bg8 (Col.mk c.name c.kind z.1 c.unique c.ref) z.2) (Bg8 (Col.mk c.name c.kind false c.unique c.ref) s)
def Ba2(e:Ex)(v:Iz):Option Asx:=match e with|.exit 0=>cond (decide (v.2.2.2.2.2.2.kind=0)) ((Cm (v.2.1,v.2.2.1,v.2.2.2.1,v.2.2.2.2.1)).bind λy=>Awc v.2.2.2.2.2.2 y) (Awc v.2.2.2.2.2.2 (v.2.1,v.2.2.1,v.2.2.2.1,v.2.2.2.2.1))|_=>none
abbrev c0(nm:Str):Col:=Col.mk nm 0 false false []
theorem A3v(l:TL)(n:Int)(b:Bool)(a:Int):Kg (l,n,b,a)=(Av (l,n,b,a)).bind λx=>Al (λrec=>G5 rec Ba2) 10 (0,x.2.1,x.2.2.1,x.2.2.2.1,x.2.2.2.2,c0 [],c0 x.1):=by
 unfold Kg;show(Av (l,n,b,a)).bind _=_;cases Av (l,n,b,a) with
 |none=>rfl
 |some x =>obtain⟨x0,x1,x2,x3,x4⟩:=x;simp only[Zc1];refine congrFun (congrArg (λkx=>Al (λrec=>G5 rec kx) 10) ?_) _;funext e v;match e with|.exit 0 =>obtain⟨v1,v2,v3,v4,v5,v6,v7⟩:=v;rfl|.exit (_+1)=>rfl|.ret=>rfl|.normal=>rfl
section
variable {R:Type}{kx:Ex->Iz->Option R}(rec:Iz->Option R) (w:TL) (n a:Int) (z:Col) (nm:Str)
theorem pc0(b:Bool)(c:Col):G5 rec kx (0,w,n,b,a,z,c)=rec (1,w,n,b,a,z,c):=rfl
theorem pc1(b:Bool)(c:Col):G5 rec kx (1,w,n,b,a,z,c)=rec (2,w,n,b,a,z,c):=rfl
theorem pc2:G5 rec kx (2,w,n,false,a,z,c0 nm)=(Ao ([66,79,79,76],w,n,false,a)).bind λ(x5,x6,x7,x8,x9)=>cond x5 (rec (3,x6,x7,x8,x9,z,Col.mk nm 2 false false [])) (rec (3,x6,x7,x8,x9,z,c0 nm)):=rfl
theorem pc3:G5 rec kx (3,w,n,false,a,z,c0 nm)=(Ao ([73,78,84],w,n,false,a)).bind λ(x5,x6,x7,x8,x9)=>cond x5 (rec (4,x6,x7,x8,x9,z,Col.mk nm 3 false false [])) (rec (4,x6,x7,x8,x9,z,c0 nm)):=rfl
theorem pc4:G5 rec kx (4,w,n,false,a,z,c0 nm)=(Ao ([84,69,88,84],w,n,false,a)).bind λ(x5,x6,x7,x8,x9)=>cond x5 (rec (5,x6,x7,x8,x9,z,Col.mk nm 4 false false [])) (rec (5,x6,x7,x8,x9,z,c0 nm)):=rfl
theorem pc5:G5 rec kx (5,w,n,false,a,z,c0 nm)=(Ao ([66,89,84,69,83],w,n,false,a)).bind λ(x5,x6,x7,x8,x9)=>cond x5 (rec (6,x6,x7,x8,x9,z,Col.mk nm 5 false false [])) (rec (6,x6,x7,x8,x9,z,c0 nm)):=rfl
end
theorem Bgf{R:Type}{kx:Ex->Iz->Option R}(l:TL)(n a:Int)(z:Col)(nm:Str):Al (λrec=>G5 rec kx) 10 (0,l,n,false,a,z,c0 nm)=match Kh l with
  |.ok (k,l')=>kx (.exit 0) (6,l',n,false,a,z,Col.mk nm k false false [])
  |.error q=>kx (.exit 0) (6,q,n,false,a,z,c0 nm):=by
 have e:∀(m:Nat) (v:Iz),Al (λrec=>G5 rec kx) (m+1) v=G5 (Al (λrec=>G5 rec kx) m) kx v:=λ_ _=>rfl;rw[e 9,pc0,e 8,pc1,e 7,pc2];unfold Kh;cases h2:isT Ao8 l with
 |true =>rw[Fg (s:=[66,79,79,76]) h2];rfl
 |false =>
  rw[Ew (s:=[66,79,79,76]) h2];simp only[Zc1,Ah];rw[e 6,pc3];cases h3:isT Baw l with
  |true =>rw[Fg (s:=[73,78,84]) h3];rfl
  |false =>
   rw[Ew (s:=[73,78,84]) h3];simp only[Zc1,Ah];rw[e 5,pc4];cases h4:isT Apz l with
   |true =>rw[Fg (s:=[84,69,88,84]) h4];rfl
   |false =>rw[Ew (s:=[84,69,88,84]) h4];simp only[Zc1,Ah];rw[e 4,pc5];cases h5:isT Acg l with|true =>rw[Fg (s:=[66,89,84,69,83]) h5];rfl|false =>rw[Ew (s:=[66,89,84,69,83]) h5];rfl
theorem A4n{R:Type}{kx:Ex->Iz->Option R}(l:TL)(n a:Int)(z c:Col):Al (λrec=>G5 rec kx) 10 (0,l,n,true,a,z,c)=kx (.exit 0) (6,l,n,true,a,z,c):=rfl
theorem Bh8(c:Col)(l:TL)(n a:Int):Axe c (l,n,true,a)=some (Col.mk c.name c.kind c.notNull false c.ref,l,n,true,a):=rfl
theorem Asz(c:Col)(l:TL)(n a:Int):Awc c (l,n,true,a)=some (Col.mk c.name c.kind false false c.ref,l,n,true,a):=rfl
section
variable {L:Nat}(n a:Int) (nm:Str) (k:Int)
theorem Aoi(nn u:Bool){l:TL}(hl:l.length<L):Out (gV n a) (EV n) n (A3i (Col.mk nm k nn u []) (l,n,false,a)) (bP Agl (λr=>Bd (Col.mk nm k nn u r)) l):=by
 unfold A3i Agl bP;simp only[Zs1,Ae];cases hi:isT A1b l with
 |false =>rw[Ew (s:=[82,69,70,69,82,69,78,67,69,83]) hi];exact rfl
 |true =>have ht:=A2 l;rw[Fg (s:=[82,69,70,69,82,69,78,67,69,83]) hi];simp only[Zc1,Ae];cases hq:Bj l.tail with|error q =>obtain⟨e1,l1,h1⟩:=(Cu L).er l.tail n a q (by omega) hq;rw[h1];exact⟨_,rfl,rfl,rfl,rfl⟩|ok x =>obtain⟨x,l1⟩:=x;rw[(Cu L).ok l.tail n a x l1 (by omega) hq];exact rfl
theorem An9(nn:Bool){l:TL}(hl:l.length<L):Out (gV n a) (EV n) n (Axe (Col.mk nm k nn false []) (l,n,false,a)) (bP (Mb F6 []) (λu=>bP Agl λr=>Bd (Col.mk nm k nn u r)) l):=by unfold Axe Mb;simp only[Zs1,Ae];cases hi:isT F6 l with|false =>rw[Ew (s:=[85,78,73,81,85,69]) hi];have:=Aoi (L:=L) n a nm k nn false hl;unfold bP at this ⊢;simp only[hi];exact this|true =>have ht:=A2 l;rw[Fg (s:=[85,78,73,81,85,69]) hi];have:=Aoi (L:=L) n a nm k nn true (l:=l.tail) (by omega);unfold bP at this ⊢;simp only[hi,A4];exact this
theorem Bal{l:TL}(hl:l.length<L):Out (gV n a) (EV n) n (Awc (Col.mk nm k false false []) (l,n,false,a)) (bP (Mb Eg [B5]) (λnn=>bP (Mb F6 []) λu=>bP Agl λr=>Bd (Col.mk nm k nn u r)) l):=by
 unfold Awc Mb;simp only[Zs1,Ae];cases hi:isT Eg l with
 |false =>rw[Ew (s:=[78,79,84]) hi];have:=An9 (L:=L) n a nm k false hl;unfold bP at this ⊢;simp only[hi];exact this
 |true =>have ht:=A2 l;rw[Fg (s:=[78,79,84]) hi];simp only[Zc1,Bg8,Ae];cases hu:isT B5 l.tail with|false =>rw[U0 (by decide) (Ai7 (s:=[78,85,76,76]) hu)];unfold bP;simp only[hi,A4,hu];exact⟨_,Bh8 _ _ _ _,rfl,rfl,rfl⟩|true =>have ht2:=A2 l.tail;rw[V9 (by decide) (Aeb (s:=[78,85,76,76]) hu)];have:=An9 (L:=L) n a nm k true (l:=l.tail.tail) (by omega);unfold bP at this ⊢;simp only[hi,A4,hu];exact this
end
theorem A3o{l l':TL}{k:Int}(h:Kh l = .ok (k,l')):k≠0/\l'.length<=l.length:=by
 have ht:=A2 l;unfold Kh at h;split at h
 ·cases h;exact⟨by decide,ht⟩
 ·split at h
  ·cases h;exact⟨by decide,ht⟩
  ·split at h
   ·cases h;exact⟨by decide,ht⟩
   ·split at h
    ·cases h;exact⟨by decide,ht⟩
    ·cases h
theorem Bop(l:TL)(n b:Int)(z c:Col):Bt (EV n) b (Ba2 (.exit 0) (6,l,n,true,b,z,c)):=by unfold Ba2;simp only[Zw,Zc1,Asz];cases decide (c.kind=0)<;>exact⟨_,rfl,rfl,rfl,rfl⟩
theorem A5o:I3 Kg:=λl n a=>by obtain⟨e1,h1⟩:=Ez l n a;rw[A3v,h1];simp only[Zc1];rw[A4n];unfold Ba2;simp only[Zw,Zc1,Asz];exact⟨_,by cases decide ((c0 e1).kind=0)<;>rfl⟩
theorem Bib{L:Nat}:SimP Kg A85 L :=.of (λl n a hl=>by
 rw[A3v];unfold A85;refine Out.bindS (Cu L) hl (λnm l1 h1 =>?_) (λnm l1 b =>?_)
 ·have q1:l1.length<l.length:=Gu _ _ _ h1;simp only;rw[Bgf];unfold bP;cases hk:Kh l1 with|error q =>simp only;unfold Ba2;simp only[Vm,Zc1,Asz];exact⟨_,rfl,rfl,rfl,rfl⟩|ok x =>obtain⟨k,l2⟩:=x;obtain⟨q2,q3⟩:=A3o hk;simp only;unfold Ba2;simp only[Zd1 q2,Ah];exact Bal (L:=L) n a nm k (by omega)
 ·simp only;rw[A4n];exact Bop _ _ _ _ _) A5o
theorem B6:∀{ss:List Str}{l l':TL}{x:Unit},A4 ss l = .ok (x,l')->l'.length<=l.length
 |[],_,_,_,h=>by cases h;exact Zn1 _
 |s::ss,l,l',x,h=>by simp only[A4] at h;have ht:=A2 l;cases hi:isT s l with|true=>rw[hi] at h;have:=B6 (ss:=ss) h;omega|false=>rw[hi] at h;cases h
theorem Ig{l l':TL}{x:Str}(h:Bj l = .ok (x,l')):l'.length<l.length:=Gu _ _ _ h
theorem Bch:Co A85:=λl e l' h=>by
 obtain⟨x,l1,h1,h⟩:=Ha h;obtain⟨k,l2,h2,h⟩:=Ha h;obtain⟨nn,l3,h3,h⟩:=Ha h;obtain⟨u,l4,h4,h⟩:=Ha h;obtain⟨r,l5,h5,h⟩:=Ha h;have q1:=Ig h1;have q2:=(A3o h2).2;have opt:∀{s:Str}{ss:List Str}{b:Bool}{l l':TL},Mb s ss l = .ok (b,l')->l'.length<=l.length:=λ{s ss b l l'} h=>by
  unfold Mb at h;have ht:=A2 l;split at h
  ·split at h
   ·cases h
   ·rename_i y l6 hm;cases h;have:=B6 hm;omega
  ·cases h;exact Zn1 _
 have q3:=opt h3;have q4:=opt h4;have q5:l5.length<=l4.length:=by
  unfold Agl at h5;have ht:=A2 l4;split at h5
  ·have:=Ig h5;omega
  ·cases h5;exact Zn1 _
 cases h;omega
def Xc(s:RS):Option (Col×RS):=(Kg s).bind λc=>(Ai ([[44]],c.2)).bind λy=>some (c.1,y)
theorem Aiq:I3 Xc:=λl n a=>by obtain⟨e1,h1⟩:=A5o l n a;simp only[Xc,h1,Pz,Zc1];exact⟨_,rfl⟩
theorem Ak6{L:Nat}:SimP Xc Om L :=.of (λl n a hl=>by unfold Xc Om;refine Out.bindS Bib hl (λc l1 h1 =>?_) (λc l1 b=>Bt.must ⟨_,rfl,rfl,rfl,rfl⟩);exact Out.must (by decide) (λl2 h2=>rfl) (λl2 b=>⟨_,rfl,rfl,rfl,rfl⟩)) Aiq
theorem Wi:Co Om:=λl e l' h=>by obtain⟨x,l1,h1,h⟩:=Ha h;obtain⟨_,l2,h2,h⟩:=Ha h;have q1:=Bch _ _ _ h1;have q2:=B6 h2;cases h;omega
section
variable {V R:Type}{step:(V->Option R)->V->Option R}{st:TL->Int->Bool->Int->List Col->V}{n:Int}{L:Nat}{c:List Col->TL->Bool->Int->Option R}
theorem Amq
  (hg:∀rec l a acc,acc.length<=1000000000->isT Dq l=false->step rec (st l n false a acc)=(Xc (l,n,false,a)).bind λz=>rec (st z.2.1 z.2.2.1 z.2.2.2.1 z.2.2.2.2 (acc++[z.1])))
  (hf:∀rec l a acc,isT Dq l=true->step rec (st l n false a acc)=c acc l.tail false a)
  (hb:∀rec l a acc,step rec (st l n true a acc)=c acc l true a) (a:Int):∀(k m:Nat) (acc:List Col) (l:TL),l.length<L->l.length+1<k->l.length<m->acc.length+l.length<=1000000000 ->
  match Cr m acc l with|.ok (e,l')=>Al step k (st l n false a acc)=c e l' false a|.error q=>∃e l',Al step k (st l n false a acc)=c e l' true (Hd n q)
 |0,_,_,_,_,h,_,_=>absurd h (Zm1 _)
 |_,0,_,_,_,_,h,_=>absurd h (Zm1 _)
 |k+1,m+1,acc,l,hl,h1,h2,h3=>by
  simp only[A3,Cr];cases hi:isT Dq l with
  |true=>exact hf _ l a acc hi
  |false =>simp only[hg _ l a acc (by omega) hi];cases hq:Om l with|error q =>obtain⟨e1,l1,h4⟩:=(Ak6 (L:=L)).er l n a q hl hq;simp only[h4,Zc1];obtain⟨k,rfl⟩:∃k',k=k'+1:=⟨k-1,by omega⟩;exact⟨acc++[e1],l1,hb _ _ _ _⟩|ok x =>obtain⟨x,l1⟩:=x;have h5:=Wi _ _ _ hq;simp only[(Ak6 (L:=L)).ok l n a x l1 hl hq,Zc1];exact Amq hg hf hb a k m (acc++[x]) l1 (by omega) (by omega) (by omega) (by simp only[Zh1,Zf1,Zi1];omega)
end
theorem Amk:∀{m:Nat}{acc:List Col}{l:TL}{e:List Col}{l':TL},Cr m acc l = .ok (e,l')->l'.length<=l.length
 |0,_,_,_,_,h=>by cases h
 |m+1,acc,l,e,l',h=>by
  simp only[Cr] at h;have ht:=A2 l;cases hi:isT Dq l with
  |true=>rw[hi] at h;cases h;exact ht
  |false =>rw[hi] at h;simp only at h;cases hq:Om l with|error q=>rw[hq] at h;cases h|ok x =>obtain⟨x,l1⟩:=x;rw[hq] at h;have h1:=Wi _ _ _ hq;have h2:=Amk h;omega
def Ap0(s:RS):Option (Xpr×RS):=(Ai ([[67,72,69,67,75],[40]],s)).bind λy=>(Fz y).bind λz=>(Ai ([[41]],z.2)).bind λw=>some (z.1,w)
theorem Bgq:I3 Ap0:=λl n a=>by obtain⟨e1,h1⟩:=Acm l n a;simp only[Ap0,h1,Pz,Zc1];exact⟨_,rfl⟩
theorem Avd{L:Nat}(hL:L<=1000000000):SimP Ap0 Aki L :=.of (λl n a hl=>by unfold Ap0 Aki;refine Out.must (by decide) (λl1 h1 =>?_) (λl1 b=>Bt.bindS Acm λe=>Bt.must ⟨_,rfl,rfl,rfl,rfl⟩);have q1:=B6 h1;refine Out.bindS (Su hL) (show l1.length<L by omega) (λe l2 h2 =>?_) (λe l2 b=>Bt.must ⟨_,rfl,rfl,rfl,rfl⟩);exact Out.must (by decide) (λl3 h3=>rfl) (λl3 b=>⟨_,rfl,rfl,rfl,rfl⟩)) Bgq
theorem Au7:Co Aki:=λl e l' h=>by obtain⟨_,l1,h1,h⟩:=Ha h;obtain⟨x,l2,h2,h⟩:=Ha h;obtain⟨_,l3,h3,h⟩:=Ha h;have q1:=B6 h1;have q2:=Hb _ _ _ h2;have q3:=B6 h3;cases h;omega
end Go.Proofs.YthndhaolemgbdaaGreatDoor
