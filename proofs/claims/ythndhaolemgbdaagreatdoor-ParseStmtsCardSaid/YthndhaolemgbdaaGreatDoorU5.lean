/- Texts of the proof,one behind the other: Nc,Eb,Fc,Es,En,Ep,Ac,Ad,Pg,Ph,Pj,Bw,Shj,Sj,Wr. -/
import Derived.Test.YthndhaolemgbdaaGreatDoorU4
import Derived.Lib.Walk
import Derived.Lib.Strings
import Derived.Lib.Slices
import Derived.Lib.Builder
import Derived.Lib.UnsafeStr
import Derived.Lib.FrozenHead
import Derived.Laws.Externs
import Derived.Shelf.RegionOpenPlain
import Derived.Shelf.Strings.OnBuilder
set_option linter.all false
namespace Go.Proofs.YthndhaolemgbdaaGreatDoor
open Go.Ax
abbrev hexL:Str:=[48,49,50,51,52,53,54,55,56,57,97,98,99,100,101,102]
def Bc1(n:Nat):Str:=[hexL.getD (n / 16) 0,hexL.getD (n % 16) 0]
def Avz(s:Str):Str:=s.flatMap λb=>Bc1 b.toNat
def Bta(n:Nat):Bool:=inb (J1 .u8 (n:Int) 4) 16&&inb (Kv .u8 (n:Int) 15) 16&&decide ([(UInt8.ofNat ((bat hexL (J1 .u8 (n:Int) 4)):Int).toNat),(UInt8.ofNat ((bat hexL (Kv .u8 (n:Int) 15)):Int).toNat)]=Bc1 n)
theorem Bsc:((List.range 256).all Bta)=true:=by kernel_rfl
theorem hx(b:UInt8):inb (J1 .u8 (b.toNat:Int) 4) 16=true/\inb (Kv .u8 (b.toNat:Int) 15) 16=true/\[(UInt8.ofNat ((bat hexL (J1 .u8 (b.toNat:Int) 4)):Int).toNat),(UInt8.ofNat ((bat hexL (Kv .u8 (b.toNat:Int) 15)):Int).toNat)]=Bc1 b.toNat:=by have h:=Zg2.1 Bsc b.toNat (List.mem_range.2 b.toNat_lt);simp only[Bta,Zb1,Zg1] at h;exact⟨h.1.1,h.1.2,h.2⟩
theorem A0l(s:Str):(Avz s).length=2*s.length:=by induction s with|nil=>rfl|cons b l ih=>simp only[Avz,List.flatMap_cons,Bc1,Zh1,Zf1,Zi1] at ih ⊢;omega
def Arn:Sig:=⟨26,[(0,.str),(3,.sl .byte true),(6,.int .i64),(7,.int .i64)],[],[],0,0,0,[],[]⟩
abbrev Acm:=Str×List UInt8×Int×Int
def Adv{R:Type}(rec:Acm->Option R)(kx:Ex->Acm->Option R)(v:Acm):Option R:=match v with
 |(v,v1,v2,v3) =>
 cond (decide (v3<v2)) (
  chk (inb v3 v.length) (
  chk (inb (J1 .u8 (bat v v3) 4) 16) (
   chk (inb v3 v.length) (
   chk (inb (Kv .u8 (bat v v3) 15) 16) (
    chk (decide (v1.length+2<=Al)) (
    rec (v,(v1++[(UInt8.ofNat ((bat [48,49,50,51,52,53,54,55,56,57,97,98,99,100,101,102] (J1 .u8 (bat v v3) 4)):Int).toNat),(UInt8.ofNat ((bat [48,49,50,51,52,53,54,55,56,57,97,98,99,100,101,102] (Kv .u8 (bat v v3) 15)):Int).toNat)]),v2,(wr .i64 (v3+1))))))))) (
  kx (.exit 0) (v,v1,v2,v3))
def A7u(R:Type)(k:Nat):Px R:=pxO [] [] [(3,Ao k Arn (Adv))] []
def Apn(k:Nat)(x:HV [.str]):Option (HV [.str]):=match x with
 |s =>
 Ak (λrec=>Adv rec (λe vz=>match vz with|(_,v5,_,_)=>match e with
  |.exit 0 =>
  some v5
  |_=>none)) k (s,[],(s.length:Int),0)
theorem Bjv(k:Nat):FO 151 [.str] [.str] (Apn k):=fR (px:=A7u _ k) (n:=1) Tryz.func151 rfl (λcx H=>by have h0:Lv cx (A7u (HV [.str]) k):=lv H Ah Ae Ab;have hlvhex_0:=lO H h0 (b:=lp Tryz.f151 0) (k:=k) (n:=0) (s:=Arn) (step:=Adv) (λ_ _ _ (_,_,_,_)=>by kernel_rfl) Aj;exact⟨h0,(Bh Aj hlvhex_0)⟩) λ_=>by kernel_rfl
def Bg5(s:Str):Option Str:=cond (decide (s.length<=3000)) (some (Avz s)) none
def A5c:FT [.str] [.str]:=λx=>Bg5 x
theorem Ass{R:Type}{kx:Ex->Acm->Option R}{s:Str}{b:Str->Option R}(hs:s.length<=3000)(h2:∀out j,kx (.exit 0) (s,out,(s.length:Int),j)=b out):∀(k i:Nat) (out:Str),i<=s.length->s.length-i<k->out.length<=2*i->Ak (λrec=>Adv rec kx) k (s,out,(s.length:Int),(i:Int))=b (out++Avz (s.drop i))
 |0,i,_,_,h,_=>absurd h (Zm1 _)
 |k+1,i,out,hi,h,ho=>by
  rw[Aw];by_cases hl:i<s.length
  ·obtain⟨h3,h4,h5⟩:=hx (s[i]'hl);have hn:ln s.length:=by simp only[ln];omega
   have ih:=Ass hs h2 k (i+1) (out++Bc1 (s[i]'hl).toNat) (by omega) (by omega) (by simp only[Zh1,Bc1,Zf1,Zi1];omega);simp only[Adv,A1 hl hn,Cg hl,A5 hl,h3,h4,h5,ih,h2];rw[Ze1 (show(i:Int)<(s.length:Int) by omega),Ze1 (show out.length+2<=Al by simp only[Al];omega),An hl];simp only[chk,Aa,Avz,List.flatMap_cons,Zj1]
  ·simp only[Adv,h2];rw[Zd1 (show ¬(i:Int)<(s.length:Int) by omega),Zk1 (by omega)];simp[Avz]
theorem Bpd:FO 151 [.str] [.str] A5c :=.fin 0 Bjv λs r hb hx=>⟨3001,by
 simp only[A5c,Bg5] at hx;by_cases hs:s.length<=3000
 ·rw[Ze1 hs] at hx;simp only[Apn];exact(Ass (b:=some) hs (λ_ _=>rfl) 3001 0 [] (Nat.zero_le _) (by omega) (by simp)).trans hx
 ·rw[Zd1 hs] at hx;cases hx⟩
def dch(d:Int):UInt8:=UInt8.ofNat (48+d).toNat
def txt(l:List Int):Str:=(l.map dch).reverse
def Bfa(n:Int):Str:=let t:=if n=0 then [48] else txt (S0 n.natAbs)
 if n<0 then 45::t else t
theorem Aw2(d:Int)(l:List Int):txt (d::l)=txt l++[dch d]:=by simp[txt]
theorem Bqd{d:Int}(h : 0<=d/\d<=9):UInt8.ofNat ((wr .u8 (wr .u64 (48+d))):Int).toNat=dch d:=by
 have e:wr .u8 (wr .u64 (48+d))=48+d:=by rw[Ko (by omega)];simp only[wr,IntKind.wrap,IntKind.bits,IntKind.signed];simp;omega
 rw[e];rfl
theorem Bno(l:List Int):(txt l).length=l.length:=by simp[txt]
theorem Be8(n:Int):txt (S0 (n.natAbs / 10))++[dch ((n.natAbs % 10:Nat):Int)]=if n=0 then [48] else txt (S0 n.natAbs):=by
 by_cases h0:n=0
 ·subst h0;rw[if_pos rfl,show(0:Int).natAbs / 10=0 from rfl,Lj];rfl
 ·rw[if_neg h0,Aby (n:=n.natAbs) (by omega),Aw2]
def Aal:Sig:=⟨32,[(0,.int .i64),(3,.sl .byte true),(4,.int .u64)],[],[],0,0,0,[],[]⟩
abbrev M2:=Int×List UInt8×Int
def Ld{R:Type}(rec:M2->Option R)(kx:Ex->M2->Option R)(v:M2):Option R:=match v with
 |(v,v1,v2) =>
 cond (decide (0<v2)) (
  chk (decide (1+v1.length<=Al)) (
  rec (v,([(UInt8.ofNat ((wr .u8 (wr .u64 (48+(Int.tmod v2 10)))):Int).toNat)]++v1),(wr .u64 (Int.tdiv v2 10))))) (
  kx (.exit 0) (v,v1,v2))
def Al2(R:Type)(k:Nat):Px R:=pxO [(170,cA Av7)] [] [(3,Ao k Aal (Ld))] []
def Acr(k:Nat)(x:HV [.int .i64]):Option (HV [.str]):=match x with
 |n =>
 Ak (λrec=>Ld rec (λe vz=>match vz with|(v3,v4,_)=>match e with
  |.exit 0 =>
  cond (decide (v3<0)) (
   chk (decide ([45].length+v4.length<=Eo)) (
   some ([45]++v4))) (
   some v4)
  |_=>none)) k (n,[(UInt8.ofNat ((wr .u8 (wr .u64 (48+(Int.tmod (Ev n) 10)))):Int).toNat)],(wr .u64 (Int.tdiv (Ev n) 10)))
theorem Azp(k:Nat):FO 149 [.int .i64] [.str] (Acr k):=fR (px:=Al2 _ k) (n:=1) Tryz.func149 rfl (λcx H=>by have h0:Lv cx (Al2 (HV [.str]) k):=lv H (c1 H Azt Ah) Ae Ab;have hlvdigits_0:=lO H h0 (b:=lp Tryz.f149 0) (k:=k) (n:=0) (s:=Aal) (step:=Ld) (λ_ _ _ (_,_,_)=>by kernel_rfl) Aj;exact⟨h0,(Bh Aj hlvdigits_0)⟩) λ_=>by kernel_rfl
abbrev Auk(n:Int):Str:=Bfa n
def Aee:FT [.int .i64] [.str]:=λx=>some (Auk x)
theorem Bvl{n:Int}(h:inI n):Ev n=(n.natAbs:Int):=by rw[Avj h];simp only[N5];split<;>omega
theorem Adr{R:Type}{kx:Ex->M2->Option R}{n:Int}{b:Str->Option R}(h2:∀out x,kx (.exit 0) (n,out,x)=b out):∀(k a:Nat) (out:Str),(a:Int)<=18446744073709551615->(S0 a).length<k->out.length+(S0 a).length<=1000->Ak (λrec=>Ld rec kx) k (n,out,(a:Int))=b (txt (S0 a)++out)
 |0,a,out,_,h,_=>absurd h (Zm1 _)
 |k+1,a,out,ha,h,ho=>by
  rw[Aw];by_cases h0:a=0
  ·subst h0;simp only[Ld,h2];rw[Zd1 (by omega),Lj];rfl
  ·have hd:=Aby h0;rw[hd,Zf1] at h ho;have e1:Int.tmod (a:Int) 10=((a % 10:Nat):Int):=rfl;have e2:wr .u64 (Int.tdiv (a:Int) 10)=((a / 10:Nat):Int):=by have:Int.tdiv (a:Int) 10=((a / 10:Nat):Int):=rfl;rw[this,Ko (by omega)]
   have ih:=Adr h2 k (a / 10) ([dch ((a % 10:Nat):Int)]++out) (by omega) (by omega) (by simp only[Zh1,Zf1,Zi1];omega);simp only[Ld,e1,e2,Bqd (show 0<=((a % 10:Nat):Int)/\((a % 10:Nat):Int)<=9 by omega),ih];rw[Ze1 (show(0:Int)<(a:Int) by omega),Ze1 (show 1+out.length<=Al by simp only[Al];omega),hd,Aw2];simp[chk]
theorem A2l:FO 149 [.int .i64] [.str] Aee :=.fin 0 Azp λn r hb hx=>⟨30,by
 have hb:=C0 hb;simp only[Aee,Za1] at hx;subst hx;have hl:(S0 (n.natAbs / 10)).length<=20:=Aw4 20 _ (by
  simp only[inI] at hb;have:pw 20=100000000000000000000:=by kernel_rfl
  omega)
 have e1:Int.tmod (n.natAbs:Int) 10=((n.natAbs % 10:Nat):Int):=rfl;have e2:wr .u64 (Int.tdiv (n.natAbs:Int) 10)=((n.natAbs / 10:Nat):Int):=by have:Int.tdiv (n.natAbs:Int) 10=((n.natAbs / 10:Nat):Int):=rfl;simp only[inI] at hb;rw[this,Ko (by omega)]
 simp only[Acr,Bvl hb,e1,e2,Bqd (show 0<=((n.natAbs % 10:Nat):Int)/\((n.natAbs % 10:Nat):Int)<=9 by omega)];refine(Adr (b:=λout=>cond (decide (n<0)) (chk (decide ([45].length+out.length<=Eo)) (some ([45]++out))) (some out)) (λ_ _=>rfl) 30 (n.natAbs / 10) [dch ((n.natAbs % 10:Nat):Int)] (by simp only[inI] at hb;omega) (by omega) (by simp only[Zf1,Zi1];omega)).trans ?_;have et:=Be8 n;have hlen:(txt (S0 (n.natAbs / 10))++[dch ((n.natAbs % 10:Nat):Int)]).length<=21:=by rw[Zh1,Bno];simp only[Zf1,Zi1];omega
 have hc:decide ([45].length+(txt (S0 (n.natAbs / 10))++[dch ((n.natAbs % 10:Nat):Int)]).length<=Eo)=true:=Ze1 (by simp only[Zf1,Zi1,Eo];omega);simp only[hc,chk,Aa];rw[et];simp only[Auk,Bfa];by_cases h:n<0
 ·rw[Ze1 h,if_pos h];rfl
 ·rw[Zd1 h,if_neg h];rfl⟩
def quo:Str->Str
 |[]=>[]
 |b::l=>if b=39 then 39::39::quo l else b::quo l
theorem A9m(s:Str):(quo s).length<=2*s.length:=by induction s with|nil=>simp[quo]|cons b l ih =>simp only[quo];split<;>simp only[Zf1]<;>omega
theorem Ap7:∀s:Str,(Lib.index s [39] = -1/\quo s=s)\/∃i:Nat,Lib.index s [39]=(i:Int)/\i<s.length/\quo s=s.take i++[39,39]++quo (s.drop (i+1))
 |[] =>.inl ⟨rfl,rfl⟩
 |b::l=>by
  by_cases h:b=39
  ·subst h;refine .inr ⟨0,rfl,by simp,by simp[quo]⟩
  ·have hp:List.isPrefixOf [39] (b::l)=false:=by simp only[List.isPrefixOf,Bool.and_true];exact beq_eq_false_iff_ne.2 (Ne.symm h)
   rcases Ap7 l with ⟨h1,h2⟩|⟨i,h1,h2,h3⟩
   ·left;refine⟨?_,by simp only[quo,if_neg h,h2]⟩;unfold Lib.index;rw[hp,h1];rfl
   ·right;refine⟨i+1,?_,by simpa using h2,?_⟩
    ·unfold Lib.index;rw[hp,h1];have:((i:Int) == -1)=false:=beq_eq_false_iff_ne.2 (by omega);simp[this]
    ·simp only[quo,if_neg h,h3,List.take_succ_cons,List.drop_succ_cons,Zb2]
theorem Ap1:∀(f:Nat) (s:Str),s.length<f->Lib.replaceK [39] [39,39] (Lib.countFrom [39] f s) s=quo s
 |0,s,h=>absurd h (Zm1 _)
 |f+1,s,h=>by
  rcases Ap7 s with ⟨h1,h2⟩|⟨i,h1,h2,h3⟩
  ·simp only[Lib.countFrom,h1];exact h2.symm
  ·have hn:((i:Int) == -1)=false:=beq_eq_false_iff_ne.2 (by omega);have ih:=Ap1 f (s.drop (i+1)) (by rw[Za2];omega);have e:Lib.countFrom [39] (f+1) s=Lib.countFrom [39] f (s.drop (i+1))+1:=by simp only[Lib.countFrom,h1,hn,Int.toNat_natCast,Zf1,Zi1];simp[Nat.add_comm]
   rw[e,Lib.replaceK_hit _ _ _ _ i h1];simp only[Zf1,Zi1,Nat.zero_add];rw[ih,h3]
theorem Bm4(s:Str):Lib.replaceAll s [39] [39,39]=quo s:=by
 have e:Lib.replaceNum s [39] (-1)=Lib.countFrom [39] (s.length+1) s:=by unfold Lib.replaceNum;rw[if_pos (.inl (by decide))];rfl
 have hc:=Ap1 (s.length+1) s (by omega);rw[<-e] at hc;exact hc
theorem A3z{s:Str}(h:s.length<=3000):Akn s [39] [39,39]=some (quo s):=by have h1:=Lib.countB_mul_le ⟨#[39]⟩ (by decide) s.length ⟨s.toArray⟩ (Zn1 _);have h2:Lib.count s [39]*1<=s.length:=h1;have h3:=A9m s;simp only[Akn,Bm4];rw[Ze1 (show s.length<4294967281 by omega),Ze1 (show 1<=([39]:Str).length by decide),Ze1 (show s.length+Lib.count s [39]*([39,39]:Str).length<=140737488355328 by simp only[Zf1,Zi1];omega),Ze1 (show(quo s).length<=maxLen by simp only[maxLen];omega)];rfl
def Bcg(R:Type):Px R:=pxO [(147,cA Am3),(149,cA Aee),(150,cA Akr),(151,cA A5c)] [] [] []
def Ahz(x:HV [.sv .val]):Option (HV [.str]):=match x with
 |v =>
 cond (!(Fy v)) (
  some []) (
  cond (decide (v.kind=2)) (
  chk (inb v.n 2) (
   some (at' .str [[70,65,76,83,69],[84,82,85,69]] v.n))) (
  cond (decide (v.kind=3)) (
   some (Auk v.n)) (
   cond (decide (v.kind=4)) (
   (Akn v.s [39] [39,39]).bind λx =>
    chk (decide ([39].length+x.length<=Eo)) (
    chk (decide (([39]++x).length+[39].length<=Eo)) (
     some (([39]++x)++[39])))) (
   cond (decide (v.kind=5)) (
    (Bg5 v.s).bind λx1 =>
    chk (decide ([120,39].length+x1.length<=Eo)) (
     chk (decide (([120,39]++x1).length+[39].length<=Eo)) (
     some (([120,39]++x1)++[39])))) (
    some [78,85,76,76])))))
theorem A2r:FO 98 [.sv .val] [.str] (Ahz):=fR (px:=Bcg _) (n:=0) Tryz.func98 rfl (λ_ H=>⟨lv H (c1 H Atl (c1 H A2l (c1 H Bah (c1 H Bpd Ah)))) Ae Ab,Aj⟩) λ_=>by kernel_rfl
def Ds(v:Val):Str:=cond (Fy v) (if v.kind=2 then(if v.n=0 then [70,65,76,83,69] else [84,82,85,69]) else if v.kind=3 then Bfa v.n else if v.kind=4 then 39::(quo v.s++[39]) else if v.kind=5 then 120::39::(Avz v.s++[39]) else [78,85,76,76]) []
def Aan:FT [.sv .val] [.str]:=λx=>some (Ds x)
theorem Aqg{v:Val}(h:Fy v=true)(hk:v.kind=4\/v.kind=5):v.s.length<=1000:=by
 rcases hk with h4|h5
 ·simp[Fy,h4] at h;omega
 ·simp[Fy,h5] at h;omega
theorem A5g{v:Val}(h:Fy v=true)(hk:v.kind=2):v.n=0\/v.n=1:=by
 by_cases h0:v.n=0
 ·exact .inl h0
 ·by_cases h1:v.n=1
  ·exact .inr h1
  ·simp[Fy,hk,h0,h1] at h
theorem Ash:FO 98 [.sv .val] [.str] Aan :=.fin0 A2r λv r _ hx=>by
 simp only[Aan,Za1] at hx;subst hx;simp only[Ahz,Ds];cases hr:Fy v with
 |false=>rfl
 |true =>
  simp only[Zt1,Af,Aa];by_cases k2:v.kind=2
  ·rw[Ze1 k2,if_pos k2];rcases A5g hr k2 with h|h<;>rw[h]<;>rfl
  ·rw[Zd1 k2,if_neg k2];by_cases k3:v.kind=3
   ·rw[Ze1 k3,if_pos k3];rfl
   ·rw[Zd1 k3,if_neg k3];by_cases k4:v.kind=4
    ·have hl:=Aqg hr (.inl k4);have hq:=A9m v.s;rw[Ze1 k4,if_pos k4];simp only[Aa,Af,A3z (show v.s.length<=3000 by omega),Zc1];refine(A7h (Ze1 ?_)).trans ((A7h (Ze1 ?_)).trans rfl)
     ·simp only[Zf1,Zi1,Eo];omega
     ·simp only[Zh1,Zf1,Zi1,Eo];omega
    ·rw[Zd1 k4,if_neg k4];by_cases k5:v.kind=5
     ·have hl:=Aqg hr (.inr k5);have hh:=A0l v.s;have hv:Bg5 v.s=some (Avz v.s):=by simp only[Bg5];rw[Ze1 (by omega)];rfl
      rw[Ze1 k5,if_pos k5];simp only[Aa,Af,hv,Zc1];refine(A7h (Ze1 ?_)).trans ((A7h (Ze1 ?_)).trans rfl)
      ·simp only[Zf1,Zi1,Eo];omega
      ·simp only[Zh1,Zf1,Zi1,Eo];omega
     ·rw[Zd1 k5,if_neg k5];rfl
def Bin(R:Type):Px R:=pxO [] [] [] []
def Z8(x:HV [.int .i64]):Option (HV [.int .i64]):=match x with
 |kind =>
 let j1:=λ(p1:Bool) =>
  cond (p1) (
  some 0) (
  let j:=λ(p5:Bool) =>
   cond (p5) (
   some 1) (
   cond (!decide ((Rc signsL kind)=[])) (
    some 2) (
    some (-1)))
  cond (decide (kind=3)) (
   j true) (
   cond (decide (kind=15)) (
   j true) (
   j (decide (kind=16)))))
 cond (decide (kind=1)) (
  j1 true) (
  j1 (decide (kind=2)))
theorem Bbf:FO 94 [.int .i64] [.int .i64] (Z8):=fR (px:=Bin _) (n:=0) Tryz.func94 rfl (λ_ H=>⟨lv H Ah Ae Ab,Aj⟩) λ_=>by kernel_rfl
def J9(kind:Int):Int :=
 let j1:=λ(p1:Bool) =>
  cond (p1) (
  0) (
  let j:=λ(p5:Bool) =>
   cond (p5) (
   1) (
   cond (!decide ((Rc signsL kind)=[])) (
    2) (
    (-1)))
  cond (decide (kind=3)) (
   j true) (
   cond (decide (kind=15)) (
   j true) (
   j (decide (kind=16)))))
 cond (decide (kind=1)) (
  j1 true) (
  j1 (decide (kind=2)))
theorem Bbo(x:HV [.int .i64]):Z8 x=some (J9 x):=by
 first
  |exact rfl
  |simp only[Z8,J9,Bn]
def Avl:FT [.int .i64] [.int .i64]:=λx=>some (J9 x)
theorem Aw3:FO 94 [.int .i64] [.int .i64] Avl :=.fin0 Bbf λx _ _ hx=>(Bbo x).trans hx
mutual
def Bf:Xpr->Nat
 |.mk _ _ _ l=>1+esizes l
def esizes:List Xpr->Nat
 |[]=>0
 |x::l=>1+Bf x+esizes l
end
theorem E9:∀{l:List Xpr}{x:Xpr},x∈l->Bf x<esizes l
 |y::l,x,h=>by
  simp only[List.mem_cons] at h;simp only[esizes];rcases h with rfl|h
  ·omega
  ·have:=E9 h;omega
theorem Q8:∀(l:List Xpr),l.length<=esizes l
 |[]=>by simp
 |x::l=>by have:=Q8 l;simp only[esizes,Zf1];omega
theorem Jm(e:Xpr) : 0<Bf e:=by cases e;simp only[Bf];omega
theorem Gq(e:Xpr):Bf e=1+esizes e.l:=by cases e;simp only[Bf,Xpr.l]
theorem Arb{e:Xpr}(h:BdExpr e):ln e.l.length/\∀x,x∈e.l->BdExpr x:=by obtain⟨_,_,_,_,_,_,_,h4,h5⟩:=h;exact⟨h4,h5⟩
def Agg:Sig:=⟨19,[(0,.sl .expr false),(4,.int .i64),(7,.int .i64),(8,.int .i64)],[(1,.fn 97 [.ptr 1 0])],[(1,.cells [.int .i64])],80,80,400,[],[]⟩
abbrev R2:=List Xpr×Int×Int×Int×Int
def Pe{R:Type}(rf:FT [.sv .expr,.int .i64] [.bool])(rec:R2->Option R)(kx:Ex->R2->Option R)(v:R2):Option R:=match v with
 |(v,v1,v2,v3,w) =>
 cond (decide (v3<v2)) (
  chk (inb v3 v.length) (
  (rf ((at' .expr v v3),(wr .i64 (w-1)))).bind λx =>
   cond (!x) (
   kx .ret (v,v3,v2,v3,w)) (
   rec (v,v1,v2,(wr .i64 (v3+1)),w)))) (
  kx (.exit 0) (v,v1,v2,v3,w))
def Sv(R:Type)(_k:Nat)(rf:FT [.sv .expr,.int .i64] [.bool]):Px R:=pxO [(39,cA rf)] [] [] []
noncomputable def Yy(R:Type)(k:Nat)(rf:FT [.sv .expr,.int .i64] [.bool]):Px R:=pxO [(97,Av 120 600 (Sv R k rf) Tryz.f97)] [] [(2,Ao k Agg (Pe rf))] []
noncomputable def Agp(R:Type)(k:Nat)(rf:FT [.sv .expr,.int .i64] [.bool]):Px R:=pxO [(148,Av 80 400 (Yy R k rf) Tryz.f148)] [] [] []
noncomputable def Atk(R:Type)(k:Nat)(rf:FT [.sv .expr,.int .i64] [.bool]):Px R:=pxO [(95,cA Aku),(63,cA R5),(96,Av 40 200 (Agp R k rf) Tryz.f96)] [(94,qA Avl)] [] []
def Ib(k:Nat)(rf:FT [.sv .expr,.int .i64] [.bool])(x:HV [.sv .expr,.int .i64]):Option (HV [.bool]):=match x with
 |(e,most) =>
 cond (decide (most=0)) (
  some false) (
  cond (!decide ((e.l.length:Int)=(J9 e.kind))) (
  some false) (
  let j2:=λ(_:Unit) =>
   let j1:=λ(_:Unit) =>
   Ak (λrec=>Pe rf rec (λe vz=>match vz with|(_,v5,_,_,_)=>match e with
    |.ret =>
    some (!(decide (0<=v5)))
    |.exit 0 =>
    some true
    |_=>none)) k (e.l,0,(e.l.length:Int),0,most)
   let j:=λ(p5:Bool) =>
   cond (p5) (
    some false) (
    cond (!decide (e.kind=2)) (
    cond (!decide (e.name=[])) (
     some false) (
     j1 ())) (
    j1 ()))
   cond (decide (e.kind=2)) (
   j (!(Dr e.name))) (
   j false)
  cond (decide (e.kind=1)) (
   cond (!decide ((G4 e.v)=0)) (
   some false) (
   cond (decide (e.v.kind=3)) (
    cond (decide (e.v.n<0)) (
    some false) (
    j2 ())) (
    j2 ()))) (
   cond (!decide (e.v=(Val.mk 0 0 []))) (
   some false) (
   j2 ()))))
theorem A39(k:Nat)(rf:FT [.sv .expr,.int .i64] [.bool])(hrf:FO 39 [.sv .expr,.int .i64] [.bool] rf):FO 39 [.sv .expr,.int .i64] [.bool] (Ib k rf):=fR (px:=Atk _ k rf) (n:=0) Tryz.func39 rfl (λcx H=>by have h3:Lv cx (Sv (HV [.bool]) k rf):=lv H (c1 H hrf Ah) Ae Ab;have h2:Lv cx (Yy (HV [.bool]) k rf):=lv H (As (cR H h3 Tryz.func97 rfl (n:=0) (Aj)) Ah) Ae Ab;have hleright_0:=lO H h2 (b:=lp Tryz.f148 0) (k:=k) (n:=0) (s:=Agg) (step:=Pe rf) (λ_ _ _ (_,_,_,_,_)=>by kernel_rfl) Aj;have h1:Lv cx (Agp (HV [.bool]) k rf):=lv H (As (cR H h2 Tryz.func148 rfl (n:=1) ((Bh Aj hleright_0))) Ah) Ae Ab;have h0:Lv cx (Atk (HV [.bool]) k rf):=lv H (c1 H Ast (c1 H Ug (As (cR H h1 Tryz.func96 rfl (n:=0) (Aj)) Ah))) (q1 H Aw3 Ae) Ab;exact⟨h0,Aj⟩) λ(_,_)=>by kernel_rfl
def eok(k:Int)(v:Val)(nm:Str):Bool:=cond (decide (k=1)) (decide (G4 v=0) && !(decide (v.kind=3)&&decide (v.n<0))) (decide (v=⟨0,0,[]⟩))&&cond (decide (k=2)) (Dr nm) (decide (nm=[]))
mutual
def Bl:Xpr->Int->Bool
 |.mk k v nm l,m => !decide (m=0)&&decide ((l.length:Int)=J9 k)&&eok k v nm&&erights l (wr .i64 (m-1))
def erights:List Xpr->Int->Bool
 |[],_=>true
 |x::l,m=>Bl x m&&erights l m
end
def Om:FT [.sv .expr,.int .i64] [.bool]:=λx=>some (Bl x.1 x.2)
theorem Agc{R:Type}{rf:FT [.sv .expr,.int .i64] [.bool]}{kx:Ex->R2->Option R}{l:List Xpr}{m:Int}{a b:Option R}(hn:ln l.length)(hrf:∀x,x∈l->rf (x,wr .i64 (m-1))=some (Bl x (wr .i64 (m-1))))(h1:∀(j:Nat),kx .ret (l,(j:Int),(l.length:Int),(j:Int),m)=a)(h2:∀q j,kx (.exit 0) (l,q,(l.length:Int),j,m)=b):∀(k i:Nat) q,i<=l.length->l.length-i<k->Ak (λrec=>Pe rf rec kx) k (l,q,(l.length:Int),(i:Int),m)=cond (erights (l.drop i) (wr .i64 (m-1))) b a
 |0,i,q,_,h=>by omega
 |k+1,i,q,hi,h=>by
  rw[Aw];by_cases hl:i<l.length
  ·have ih:=Agc hn hrf h1 h2 k (i+1) q (by omega) (by omega);simp only[Pe,A1 hl hn,ih,h1,An hl,A8 (c :=.expr) hl,A5 hl,chk,Aa,Bool.cond_decide,erights,hrf _ (List.getElem_mem hl),Zc1];rw[if_pos (by omega)];cases Bl l[i] (wr .i64 (m-1))<;>rfl
  ·simp only[Pe,h2,Bool.cond_decide];rw[if_neg (by omega),Zk1 (by omega)];rfl
theorem Apf(e:Xpr)(m:Int):Bl e m=(!decide (m=0)&&decide ((e.l.length:Int)=J9 e.kind)&&eok e.kind e.v e.name&&erights e.l (wr .i64 (m-1))):=by cases e;simp only[Bl];rfl
theorem An4(k:Nat):∀(n:Nat) (e:Xpr) (m:Int),BdExpr e->Bf e<=n->Bf e<=k->Ak (Ib k) n (e,m)=some (Bl e m)
 |0,e,m,_,h,_=>by have:=Jm e;omega
 |n+1,e,m,hb,h,hk=>by
  obtain⟨hb4,hb5⟩:=Arb hb;rw[Gq] at h hk;have hl:=Q8 e.l;have hrf:∀x,x∈e.l->∀m,Ak (Ib k) n (x,m)=some (Bl x m):=λx hx m=>An4 k n x m (hb5 x hx) (by have:=E9 hx;omega) (by have:=E9 hx;omega);have hloop:=Agc (R:=Bool) (rf:=Ak (Ib k) n) (l:=e.l) (m:=m) (a:=some false) (b:=some true) (kx:=λe v=>match v with
   |(_,v5,_,_,_)=>match e with
    |.ret=>some (!(decide (0<=v5)))
    |.exit 0=>some true
    |_=>none) hb4 (λx hx=>hrf x hx _) (λj=>by simp) (λ_ _=>rfl) k 0 0 (Nat.zero_le _) (by omega)
  have e0:((0:Nat):Int)=0:=rfl;rw[e0] at hloop;rw[Aw,Apf];simp only[Ib] at hloop ⊢;rw[hloop];simp only[Zq1,eok];by_cases hm:m=0
  ·simp[hm]
  ·rw[Zd1 hm];simp only[Af,Zs1,Bool.true_and];by_cases hp:(e.l.length:Int)=J9 e.kind
   ·rw[Ze1 hp];by_cases h1:e.kind=1
    ·have h2:¬e.kind=2:=by omega
     rw[Ze1 h1,Zd1 h2];simp only[Aa,Af,Zs1,Zt1,Bool.true_and];cases decide (G4 e.v=0)<;>cases decide (e.v.kind=3)<;>cases decide (e.v.n<0)<;>cases decide (e.name=[])<;>cases erights e.l (wr .i64 (m-1))<;>rfl
    ·rw[Zd1 h1];simp only[Af,Zt1,Bool.true_and];cases decide (e.v=Val.mk 0 0 [])<;>cases decide (e.kind=2)<;>cases decide (e.name=[])<;>cases Dr e.name<;>cases erights e.l (wr .i64 (m-1))<;>rfl
   ·rw[Zd1 hp];rfl
theorem Ox:FO 39 [.sv .expr,.int .i64] [.bool] Om:=by refine .fin (ι:=Nat) 0 (F:=λn=>Ak (Ib n) n) (λn=>FnOk.rec' (Sx.enters_of Tryz.func39 rfl rfl) (λrf hrf=>A39 n rf hrf) n) λ(e,m) r hb hx=>⟨Bf e,?_⟩;exact(An4 (Bf e) (Bf e) e m hb.1 (Zn1 _) (Zn1 _)).trans hx
def Bfu(R:Type):Px R:=pxO [(39,cA Om)] [] [] []
def Y0(x:HV [.sv .expr]):Option (HV [.int .i64]):=match x with
 |e =>
 cond (!(Bl e 30)) (
  some 2) (
  some 0)
theorem Bdh:FO 18 [.sv .expr] [.int .i64] (Y0):=fR (px:=Bfu _) (n:=0) Tryz.func18 rfl (λ_ H=>⟨lv H (c1 H Ox Ah) Ae Ab,Aj⟩) λ_=>by kernel_rfl
def Axh(e:Xpr):Int :=
 cond (!(Bl e 30)) (
  2) (
  0)
theorem Bd8(x:HV [.sv .expr]):Y0 x=some (Axh x):=by
 first
  |exact rfl
  |simp only[Y0,Axh,Bn]
def A6s:FT [.sv .expr] [.int .i64]:=λx=>some (Axh x)
theorem Biz:FO 18 [.sv .expr] [.int .i64] A6s :=.fin0 Bdh λx _ _ hx=>(Bd8 x).trans hx
mutual
def Bg9:Xpr->Int->Int
 |.mk _ v nm l,most=>muchL l most (wr .i64 (1+wr .i64 (Int.tdiv (wr .i64 ((v.s.length:Int)+(nm.length:Int))) 30)))
def muchL:List Xpr->Int->Int->Int
 |[],_,n=>n
 |x::l,most,n=>cond (decide (n<most)) (muchL l most (wr .i64 (n+Bg9 x (wr .i64 (most-n))))) n
end
mutual
def Ig:Xpr->Xpr->Bool
 |.mk k v n l,.mk k' v' n' l'=>decide (k=k')&&decide (v=v')&&decide (n=n')&&xsames l l'
def xsames:List Xpr->List Xpr->Bool
 |[],[]=>true
 |x::l,y::m=>Ig x y&&xsames l m
 |_,_=>false
end
mutual
theorem Adz:∀a b:Xpr,Ig a b=true↔a=b
 |.mk k v n l,.mk k' v' n' l'=>by
  simp only[Ig,Zb1,Zg1,xsames_iff l l',Xpr.mk.injEq];constructor
  ·rintro⟨⟨⟨h1,h2⟩,h3⟩,h4⟩;exact⟨h1,h2,h3,h4⟩
  ·rintro⟨h1,h2,h3,h4⟩;exact⟨⟨⟨h1,h2⟩,h3⟩,h4⟩
theorem xsames_iff:∀a b:List Xpr,xsames a b=true↔a=b
 |[],[]=>by simp[xsames]
 |x::l,y::m=>by simp only[xsames,Zb1,Adz x y,xsames_iff l m,Ze2]
 |[],_::_=>by simp[xsames]
 |_::_,[]=>by simp[xsames]
end
instance:DecidableEq Xpr:=λa b=>decidable_of_iff (Ig a b=true) (Adz a b)
theorem Jb(a b:Xpr):Ig a b=decide (a=b):=by rw[Bool.eq_iff_iff,Adz,Zg1]
theorem Aka{a b:List Xpr}(h:xsames a b=true):a.length=b.length:=by rw[(xsames_iff a b).1 h]
theorem Aw7(a b:Xpr):Ig a b=(decide (a.kind=b.kind)&&decide (a.v=b.v)&&decide (a.name=b.name)&&xsames a.l b.l):=by cases a;cases b;simp only[Ig];rfl
def Ajs:Sig:=⟨32,[(1,.sl .expr false),(6,.bool),(15,.sl .expr false),(16,.int .i64),(17,.int .i64)],[(2,.fn 20 [])],[],40,40,200,[],[]⟩
abbrev Vk:=List Xpr×Bool×List Xpr×Int×Int
def Vv{R:Type}(rf:FT [.sv .expr,.sv .expr] [.bool])(rec:Vk->Option R)(kx:Ex->Vk->Option R)(v:Vk):Option R:=match v with
 |(v,v1,v2,v3,v4) =>
 cond (decide (v4<v3)) (
  chk (inb v4 v2.length) (
  chk (inb v4 v.length) (
   (rf ((at' .expr v2 v4),(at' .expr v v4))).bind λx =>
   cond (!x) (
    kx .ret (v,false,v2,v3,v4)) (
    rec (v,v1,v2,v3,(wr .i64 (v4+1))))))) (
  kx (.exit 0) (v,v1,v2,v3,v4))
def Anf(R:Type)(k:Nat)(rf:FT [.sv .expr,.sv .expr] [.bool]):Px R:=pxO [(20,cA rf)] [] [(4,Ao k Ajs (Vv rf))] []
noncomputable def Axx(R:Type)(k:Nat)(rf:FT [.sv .expr,.sv .expr] [.bool]):Px R:=pxO [(47,Av 40 200 (Anf R k rf) Tryz.f47)] [] [] []
def Jo(k:Nat)(rf:FT [.sv .expr,.sv .expr] [.bool])(x:HV [.sv .expr,.sv .expr]):Option (HV [.bool]):=match x with
 |(a,b) =>
 let j1:=λ(p:Bool) =>
  let j:=λ(p1:Bool) =>
  cond (p1) (
   cond (!decide ((a.l.length:Int)=(b.l.length:Int))) (
   some false) (
   Ak (λrec=>Vv rf rec (λe vz=>match vz with|(_,v6,_,_,_)=>match e with
    |.ret =>
    some v6
    |.exit 0 =>
    some true
    |_=>none)) k (b.l,false,a.l,(a.l.length:Int),0))) (
   some false)
  cond (p) (
  j (decide (a.name=b.name))) (
  j false)
 cond (decide (a.kind=b.kind)) (
  j1 (decide (a.v=b.v))) (
  j1 false)
theorem Beh(k:Nat)(rf:FT [.sv .expr,.sv .expr] [.bool])(hrf:FO 20 [.sv .expr,.sv .expr] [.bool] rf):FO 20 [.sv .expr,.sv .expr] [.bool] (Jo k rf):=fR (px:=Axx _ k rf) (n:=0) Tryz.func20 rfl (λcx H=>by have h1:Lv cx (Anf (HV [.bool]) k rf):=lv H (c1 H hrf Ah) Ae Ab;have hlasame_0:=lO H h1 (b:=lp Tryz.f47 0) (k:=k) (n:=0) (s:=Ajs) (step:=Vv rf) (λ_ _ _ (_,_,_,_,_)=>by kernel_rfl) Aj;have h0:Lv cx (Axx (HV [.bool]) k rf):=lv H (As (cR H h1 Tryz.func47 rfl (n:=1) ((Bh Aj hlasame_0))) Ah) Ae Ab;exact⟨h0,Aj⟩) λ(_,_)=>by kernel_rfl
def U8(a b:Xpr):Bool:=Ig a b
def W0:FT [.sv .expr,.sv .expr] [.bool]:=λx=>some (U8 x.1 x.2)
theorem A4s{R:Type}{rf:FT [.sv .expr,.sv .expr] [.bool]}{kx:Ex->Vk->Option R}{l m:List Xpr}{c:Bool->Option R}(hn:ln l.length)(hm:l.length=m.length)(hrf:∀x,x∈l->∀y,y∈m->rf (x,y)=some (Ig x y))
  (h1:∀i,kx .ret (m,false,l,(l.length:Int),i)=c false) (h2:∀q i,kx (.exit 0) (m,q,l,(l.length:Int),i)=c true) (k:Nat) (hk:l.length<k):Ak (λrec=>Vv rf rec kx) k (m,false,l,(l.length:Int),0)=c (xsames l m):=by
 refine(B1 l.length (λi=>(m,false,l,(l.length:Int),(i:Int))) (λi=>c (xsames (l.drop i) (m.drop i))) (λi hi rec hr =>?_) (λrec =>?_) k 0 (Nat.zero_le _) (by omega)).trans (by rw[Zq1,Zq1])
 ·have hi2:i<m.length:=by omega
  simp only[Vv,E7 hi,Aa,A5 hi,A5 hi2,chk,A8 (c :=.expr) hi,A8 (c :=.expr) hi2,hrf _ (List.getElem_mem hi) _ (List.getElem_mem hi2),Zc1,A1 hi hn,hr,h1,An hi,An hi2,xsames];cases Ig l[i] m[i]<;>rfl
 ·simp only[Vv,E8,Af,h2];rw[Zk1 (Zn1 _),Zk1 (by omega)];rfl
theorem Ap4(k:Nat):∀(n:Nat) (a b:Xpr),BdExpr a->BdExpr b->Bf a<=n->Bf a<=k->Ak (Jo k) n (a,b)=some (Ig a b)
 |0,a,b,_,_,h,_=>by have:=Jm a;omega
 |n+1,a,b,ha,hb,h,hk=>by
  obtain⟨hb4,hb5⟩:=Arb ha;obtain⟨hc4,hc5⟩:=Arb hb;rw[Gq] at h hk;have hl:=Q8 a.l;have hrf:∀x,x∈a.l->∀y,y∈b.l->Ak (Jo k) n (x,y)=some (Ig x y):=λx hx y hy=>Ap4 k n x y (hb5 x hx) (hc5 y hy) (by have:=E9 hx;omega) (by have:=E9 hx;omega);rw[Aw,Aw7];simp only[Jo];by_cases hlen:a.l.length=b.l.length
  ·have hloop:=A4s (R:=Bool) (rf:=Ak (Jo k) n) (l:=a.l) (m:=b.l) (c:=some) (kx:=λe v=>match v with
    |(_,v6,_,_,_)=>match e with
     |.ret=>some v6
     |.exit 0=>some true
     |_=>none) hb4 hlen hrf (λ_=>rfl) (λ_ _=>rfl) k (by omega)
   rw[hloop,Ze1 (show(a.l.length:Int)=(b.l.length:Int) by omega)];cases decide (a.kind=b.kind)<;>cases decide (a.v=b.v)<;>cases decide (a.name=b.name)<;>cases xsames a.l b.l<;>rfl
  ·have hno:xsames a.l b.l=false:=by cases hs:xsames a.l b.l with|false=>rfl|true=>exact absurd (Aka hs) hlen
   rw[hno,Zd1 (show ¬(a.l.length:Int)=(b.l.length:Int) by omega)];cases decide (a.kind=b.kind)<;>cases decide (a.v=b.v)<;>cases decide (a.name=b.name)<;>rfl
theorem Uc:FO 20 [.sv .expr,.sv .expr] [.bool] W0:=by refine .fin (ι:=Nat) 0 (F:=λn=>Ak (Jo n) n) (λn=>FnOk.rec' (Sx.enters_of Tryz.func20 rfl rfl) (λrf hrf=>Beh n rf hrf) n) λ(a,b) r hb hx=>⟨Bf a,?_⟩;exact(Ap4 (Bf a) (Bf a) a b hb.1 hb.2 (Zn1 _) (Zn1 _)).trans hx
def Amm:Sig:=⟨53,[(4,.bool),(5,.int .i64)],[(2,.ptr 0 0),(3,.ptr 1 0)],[(0,.one (.sv .expr)),(1,.one (.sv .expr))],2,0,0,[],[]⟩
abbrev Wy:=Bool×Int×Xpr×Xpr
def V1{R:Type}(rf:FT [.sv .expr,.sv .expr] [.bool])(rec:Wy->Option R)(kx:Ex->Wy->Option R)(v:Wy):Option R:=match v with
 |(v,v1,w,w1) =>
 cond (decide (v1<(w.l.length:Int))) (
  chk (inb v1 w.l.length) (
  chk (inb v1 w1.l.length) (
   (rf ((at' .expr w.l v1),(at' .expr w1.l v1))).bind λx =>
   cond (!x) (
    kx .ret (false,v1,w,w1)) (
    rec (v,(wr .i64 (v1+1)),w,w1))))) (
  kx (.exit 0) (v,v1,w,w1))
def A0x(R:Type)(k:Nat)(rf:FT [.sv .expr,.sv .expr] [.bool]):Px R:=pxO [(21,cA rf)] [] [(4,Ao k Amm (V1 rf))] []
def Je(k:Nat)(rf:FT [.sv .expr,.sv .expr] [.bool])(x:HV [.sv .expr,.sv .expr]):Option (HV [.bool]):=match x with
 |(a,b) =>
 let j:=λ(p:Bool) =>
  cond (p) (
  some false) (
  cond (!decide (a.name=b.name)) (
   some false) (
   cond (!decide ((a.l.length:Int)=(b.l.length:Int))) (
   some false) (
   Ak (λrec=>V1 rf rec (λe vz=>match vz with|(v2,_,_,_)=>match e with
    |.ret =>
    some v2
    |.exit 0 =>
    some true
    |_=>none)) k (false,0,a,b))))
 cond (!decide (a.kind=b.kind)) (
  j true) (
  j (!decide (a.v=b.v)))
theorem Bbp(k:Nat)(rf:FT [.sv .expr,.sv .expr] [.bool])(hrf:FO 21 [.sv .expr,.sv .expr] [.bool] rf):FO 21 [.sv .expr,.sv .expr] [.bool] (Je k rf):=fR (px:=A0x _ k rf) (n:=1) Tryz.func21 rfl (λcx H=>by have h0:Lv cx (A0x (HV [.bool]) k rf):=lv H (c1 H hrf Ah) Ae Ab;have hlrsame_0:=lO H h0 (b:=lp Tryz.f21 0) (k:=k) (n:=0) (s:=Amm) (step:=V1 rf) (λ_ _ _ (_,_,_,_)=>by kernel_rfl) Aj;exact⟨h0,(Bh Aj hlrsame_0)⟩) λ(_,_)=>by kernel_rfl
def Arh(a b:Xpr):Bool:=Ig a b
def Ave:FT [.sv .expr,.sv .expr] [.bool]:=λx=>some (Arh x.1 x.2)
theorem A50{R:Type}{rf:FT [.sv .expr,.sv .expr] [.bool]}{kx:Ex->Wy->Option R}{a b:Xpr}{c:Bool->Option R}(hn:ln a.l.length)(hm:a.l.length=b.l.length)(hrf:∀x,x∈a.l->∀y,y∈b.l->rf (x,y)=some (Ig x y))
  (h1:∀i,kx .ret (false,i,a,b)=c false) (h2:∀q i,kx (.exit 0) (q,i,a,b)=c true) (k:Nat) (hk:a.l.length<k):Ak (λrec=>V1 rf rec kx) k (false,0,a,b)=c (xsames a.l b.l):=by
 refine(B1 a.l.length (λi=>(false,(i:Int),a,b)) (λi=>c (xsames (a.l.drop i) (b.l.drop i))) (λi hi rec hr =>?_) (λrec =>?_) k 0 (Nat.zero_le _) (by omega)).trans (by rw[Zq1,Zq1])
 ·have hi2:i<b.l.length:=by omega
  simp only[V1,E7 hi,Aa,A5 hi,A5 hi2,chk,A8 (c :=.expr) hi,A8 (c :=.expr) hi2,hrf _ (List.getElem_mem hi) _ (List.getElem_mem hi2),Zc1,A1 hi hn,hr,h1,An hi,An hi2,xsames];cases Ig a.l[i] b.l[i]<;>rfl
 ·simp only[V1,E8,Af,h2];rw[Zk1 (Zn1 _),Zk1 (by omega)];rfl
theorem Ape(k:Nat):∀(n:Nat) (a b:Xpr),BdExpr a->BdExpr b->Bf a<=n->Bf a<=k->Ak (Je k) n (a,b)=some (Ig a b)
 |0,a,b,_,_,h,_=>by have:=Jm a;omega
 |n+1,a,b,ha,hb,h,hk=>by
  obtain⟨hb4,hb5⟩:=Arb ha;obtain⟨hc4,hc5⟩:=Arb hb;rw[Gq] at h hk;have hl:=Q8 a.l;have hrf:∀x,x∈a.l->∀y,y∈b.l->Ak (Je k) n (x,y)=some (Ig x y):=λx hx y hy=>Ape k n x y (hb5 x hx) (hc5 y hy) (by have:=E9 hx;omega) (by have:=E9 hx;omega);rw[Aw,Aw7];simp only[Je];by_cases hlen:a.l.length=b.l.length
  ·have hloop:=A50 (R:=Bool) (rf:=Ak (Je k) n) (a:=a) (b:=b) (c:=some) (kx:=λe v=>match v with
    |(v2,_,_,_)=>match e with
     |.ret=>some v2
     |.exit 0=>some true
     |_=>none) hb4 hlen hrf (λ_=>rfl) (λ_ _=>rfl) k (by omega)
   rw[hloop,Ze1 (show(a.l.length:Int)=(b.l.length:Int) by omega)];cases decide (a.kind=b.kind)<;>cases decide (a.v=b.v)<;>cases decide (a.name=b.name)<;>cases xsames a.l b.l<;>rfl
  ·have hno:xsames a.l b.l=false:=by cases hs:xsames a.l b.l with|false=>rfl|true=>exact absurd (Aka hs) hlen
   rw[hno,Zd1 (show ¬(a.l.length:Int)=(b.l.length:Int) by omega)];cases decide (a.kind=b.kind)<;>cases decide (a.v=b.v)<;>cases decide (a.name=b.name)<;>rfl
theorem Axr:FO 21 [.sv .expr,.sv .expr] [.bool] Ave:=by refine .fin (ι:=Nat) 0 (F:=λn=>Ak (Je n) n) (λn=>FnOk.rec' (Sx.enters_of Tryz.func21 rfl rfl) (λrf hrf=>Bbp n rf hrf) n) λ(a,b) r hb hx=>⟨Bf a,?_⟩;exact(Ape (Bf a) (Bf a) a b hb.1 hb.2 (Zn1 _) (Zn1 _)).trans hx
theorem A2v(k:Int):(J9 k=0/\(k=1\/k=2))\/(J9 k=1/\(k=3\/k=15\/k=16))\/(J9 k=2/\4<=k/\k<=14)\/J9 k = -1:=by
 by_cases h1:k=1
 ·subst h1;left;decide
 by_cases h2:k=2
 ·subst h2;left;decide
 by_cases h3:k=3
 ·subst h3;right;left;decide
 by_cases h15:k=15
 ·subst h15;right;left;decide
 by_cases h16:k=16
 ·subst h16;right;left;decide
 right;right;by_cases h : 4<=k/\k<=14
 ·left;refine⟨?_,h⟩;have:k=4\/k=5\/k=6\/k=7\/k=8\/k=9\/k=10\/k=11\/k=12\/k=13\/k=14:=by omega
  rcases this with rfl|rfl|rfl|rfl|rfl|rfl|rfl|rfl|rfl|rfl|rfl<;>decide
 ·right;have hm:Rc signsL k=[]:=by simp only[signsL,Rc];rw[Zd1 (by omega),Zd1 (by omega),Zd1 (by omega),Zd1 (by omega),Zd1 (by omega),Zd1 (by omega),Zd1 (by omega),Zd1 (by omega),Zd1 (by omega),Zd1 (by omega),Zd1 (by omega)]
  simp[J9,hm,h1,h2,h3,h15,h16]
def Atp:Sig:=⟨26,[(0,.sl .col false),(1,.sl .col false),(4,.bool),(12,.int .i64),(13,.int .i64)],[],[],0,0,0,[],[]⟩
abbrev Aa4:=List Col×List Col×Bool×Int×Int
def Afh{R:Type}(rec:Aa4->Option R)(kx:Ex->Aa4->Option R)(v:Aa4):Option R:=match v with
 |(v,v1,v2,v3,v4) =>
 cond (decide (v4<v3)) (
  chk (inb v4 v.length) (
  chk (inb v4 v1.length) (
   cond (!decide ((at' .col v v4)=(at' .col v1 v4))) (
   kx .ret (v,v1,false,v3,v4)) (
   rec (v,v1,v2,v3,(wr .i64 (v4+1))))))) (
  kx (.exit 0) (v,v1,v2,v3,v4))
def A8u(R:Type)(k:Nat):Px R:=pxO [] [] [(4,Ao k Atp (Afh))] []
def Ars(k:Nat)(x:HV [.sl .col false,.sl .col false]):Option (HV [.bool]):=match x with
 |(a,b) =>
 cond (!decide ((a.length:Int)=(b.length:Int))) (
  some false) (
  Ak (λrec=>Afh rec (λe vz=>match vz with|(_,_,v7,_,_)=>match e with
  |.ret =>some v7
  |.exit 0 =>some true
  |_=>none)) k (a,b,false,(a.length:Int),0))
theorem Bfh(k:Nat):FO 75 [.sl .col false,.sl .col false] [.bool] (Ars k):=fR (px:=A8u _ k) (n:=1) Tryz.func75 rfl (λcx H=>by have h0:Lv cx (A8u (HV [.bool]) k):=lv H Ah Ae Ab;have hlaeqc_0:=lO H h0 (b:=lp Tryz.f75 0) (k:=k) (n:=0) (s:=Atp) (step:=Afh) (λ_ _ _ (_,_,_,_,_)=>by kernel_rfl) Aj;exact⟨h0,(Bh Aj hlaeqc_0)⟩) λ(_,_)=>by kernel_rfl
def Bm2(a b:List Col):Bool:=decide (a=b)
def A42:FT [.sl .col false,.sl .col false] [.bool]:=λx=>some (Bm2 x.1 x.2)
theorem Bao{R:Type}{kx:Ex->Aa4->Option R}{a b:List Col}{c:Bool->Option R}(hn:ln a.length)(he:a.length=b.length)(h1:∀i,kx .ret (a,b,false,(a.length:Int),i)=c false)(h2:∀q i,kx (.exit 0) (a,b,q,(a.length:Int),i)=c true)(k:Nat)(hk:a.length<k) :
  Ak (λrec=>Afh rec kx) k (a,b,false,(a.length:Int),0)=c (decide (a=b)):=by
 refine(B1 a.length (λi=>(a,b,false,(a.length:Int),(i:Int))) (λi=>c (decide (a.drop i=b.drop i))) (λi hi rec hr =>?_) (λrec =>?_) k 0 (Nat.zero_le _) (by omega)).trans (by rw[Zq1,Zq1])
 ·have hi2:i<b.length:=by omega
  simp only[Afh,E7 hi,Aa,A5 hi,A5 hi2,chk,A8 (c :=.col) hi,A8 (c :=.col) hi2,A1 hi hn,hr,h1,An hi,An hi2,Ze2];by_cases hx:a[i]=b[i]
  ·rw[Ze1 hx];simp[hx]
  ·rw[Zd1 hx];simp[hx]
 ·simp only[Afh,E8,Af,h2];rw[Zk1 (Zn1 _),Zk1 (by omega)];rfl
theorem Bpc:FO 75 [.sl .col false,.sl .col false] [.bool] A42 :=.fin 0 Bfh λ(a,b) r hb hx=>⟨a.length+1,by
 simp only[A42,Za1] at hx;rw[<-hx];simp only[Ars,Bm2];by_cases he:a.length=b.length
 ·rw[Ze1 (show(a.length:Int)=(b.length:Int) by omega),Zt1,Af];exact Bao (c:=some) hb.1.1 he (λ_=>rfl) (λ_ _=>rfl) (a.length+1) (by omega)
 ·rw[Zd1 (show ¬(a.length:Int)=(b.length:Int) by omega),Zd1 (λh=>he (by rw[h]))];rfl⟩
def Aqa:Sig:=⟨26,[(0,.sl .str false),(1,.sl .str false),(4,.bool),(12,.int .i64),(13,.int .i64)],[],[],0,0,0,[],[]⟩
abbrev Acv:=List Str×List Str×Bool×Int×Int
def Ae3{R:Type}(rec:Acv->Option R)(kx:Ex->Acv->Option R)(v:Acv):Option R:=match v with
 |(v,v1,v2,v3,v4) =>
 cond (decide (v4<v3)) (
  chk (inb v4 v.length) (
  chk (inb v4 v1.length) (
   cond (!decide ((at' .str v v4)=(at' .str v1 v4))) (
   kx .ret (v,v1,false,v3,v4)) (
   rec (v,v1,v2,v3,(wr .i64 (v4+1))))))) (
  kx (.exit 0) (v,v1,v2,v3,v4))
def A6k(R:Type)(k:Nat):Px R:=pxO [] [] [(4,Ao k Aqa (Ae3))] []
def Arc(k:Nat)(x:HV [.sl .str false,.sl .str false]):Option (HV [.bool]):=match x with
 |(a,b) =>
 cond (!decide ((a.length:Int)=(b.length:Int))) (
  some false) (
  Ak (λrec=>Ae3 rec (λe vz=>match vz with|(_,_,v7,_,_)=>match e with
  |.ret =>some v7
  |.exit 0 =>some true
  |_=>none)) k (a,b,false,(a.length:Int),0))
theorem Bkx(k:Nat):FO 76 [.sl .str false,.sl .str false] [.bool] (Arc k):=fR (px:=A6k _ k) (n:=1) Tryz.func76 rfl (λcx H=>by have h0:Lv cx (A6k (HV [.bool]) k):=lv H Ah Ae Ab;have hlaeqs_0:=lO H h0 (b:=lp Tryz.f76 0) (k:=k) (n:=0) (s:=Aqa) (step:=Ae3) (λ_ _ _ (_,_,_,_,_)=>by kernel_rfl) Aj;exact⟨h0,(Bh Aj hlaeqs_0)⟩) λ(_,_)=>by kernel_rfl
def Bju(a b:List Str):Bool:=decide (a=b)
def A11:FT [.sl .str false,.sl .str false] [.bool]:=λx=>some (Bju x.1 x.2)
theorem Bc0{R:Type}{kx:Ex->Acv->Option R}{a b:List Str}{c:Bool->Option R}(hn:ln a.length)(he:a.length=b.length)(h1:∀i,kx .ret (a,b,false,(a.length:Int),i)=c false)(h2:∀q i,kx (.exit 0) (a,b,q,(a.length:Int),i)=c true)(k:Nat)(hk:a.length<k) :
  Ak (λrec=>Ae3 rec kx) k (a,b,false,(a.length:Int),0)=c (decide (a=b)):=by
 refine(B1 a.length (λi=>(a,b,false,(a.length:Int),(i:Int))) (λi=>c (decide (a.drop i=b.drop i))) (λi hi rec hr =>?_) (λrec =>?_) k 0 (Nat.zero_le _) (by omega)).trans (by rw[Zq1,Zq1])
 ·have hi2:i<b.length:=by omega
  simp only[Ae3,E7 hi,Aa,A5 hi,A5 hi2,chk,A8 (c :=.str) hi,A8 (c :=.str) hi2,A1 hi hn,hr,h1,An hi,An hi2,Ze2];by_cases hx:a[i]=b[i]
  ·rw[Ze1 hx];simp[hx]
  ·rw[Zd1 hx];simp[hx]
 ·simp only[Ae3,E8,Af,h2];rw[Zk1 (Zn1 _),Zk1 (by omega)];rfl
theorem Bma:FO 76 [.sl .str false,.sl .str false] [.bool] A11 :=.fin 0 Bkx λ(a,b) r hb hx=>⟨a.length+1,by
 simp only[A11,Za1] at hx;rw[<-hx];simp only[Arc,Bju];by_cases he:a.length=b.length
 ·rw[Ze1 (show(a.length:Int)=(b.length:Int) by omega),Zt1,Af];exact Bc0 (c:=some) hb.1.1 he (λ_=>rfl) (λ_ _=>rfl) (a.length+1) (by omega)
 ·rw[Zd1 (show ¬(a.length:Int)=(b.length:Int) by omega),Zd1 (λh=>he (by rw[h]))];rfl⟩
def Aqy:Sig:=⟨26,[(0,.sl .bool false),(1,.sl .bool false),(4,.bool),(12,.int .i64),(13,.int .i64)],[],[],0,0,0,[],[]⟩
abbrev Ack:=List Bool×List Bool×Bool×Int×Int
def Aeu{R:Type}(rec:Ack->Option R)(kx:Ex->Ack->Option R)(v:Ack):Option R:=match v with
 |(v,v1,v2,v3,v4) =>
 cond (decide (v4<v3)) (
  chk (inb v4 v.length) (
  chk (inb v4 v1.length) (
   cond (!decide ((at' .bool v v4)=(at' .bool v1 v4))) (
   kx .ret (v,v1,false,v3,v4)) (
   rec (v,v1,v2,v3,(wr .i64 (v4+1))))))) (
  kx (.exit 0) (v,v1,v2,v3,v4))
def A80(R:Type)(k:Nat):Px R:=pxO [] [] [(4,Ao k Aqy (Aeu))] []
def Aqr(k:Nat)(x:HV [.sl .bool false,.sl .bool false]):Option (HV [.bool]):=match x with
 |(a,b) =>
 cond (!decide ((a.length:Int)=(b.length:Int))) (
  some false) (
  Ak (λrec=>Aeu rec (λe vz=>match vz with|(_,_,v7,_,_)=>match e with
  |.ret =>some v7
  |.exit 0 =>some true
  |_=>none)) k (a,b,false,(a.length:Int),0))
theorem Blg(k:Nat):FO 77 [.sl .bool false,.sl .bool false] [.bool] (Aqr k):=fR (px:=A80 _ k) (n:=1) Tryz.func77 rfl (λcx H=>by have h0:Lv cx (A80 (HV [.bool]) k):=lv H Ah Ae Ab;have hlaeqb_0:=lO H h0 (b:=lp Tryz.f77 0) (k:=k) (n:=0) (s:=Aqy) (step:=Aeu) (λ_ _ _ (_,_,_,_,_)=>by kernel_rfl) Aj;exact⟨h0,(Bh Aj hlaeqb_0)⟩) λ(_,_)=>by kernel_rfl
def Bog(a b:List Bool):Bool:=decide (a=b)
def A5d:FT [.sl .bool false,.sl .bool false] [.bool]:=λx=>some (Bog x.1 x.2)
theorem Bd3{R:Type}{kx:Ex->Ack->Option R}{a b:List Bool}{c:Bool->Option R}(hn:ln a.length)(he:a.length=b.length)(h1:∀i,kx .ret (a,b,false,(a.length:Int),i)=c false)(h2:∀q i,kx (.exit 0) (a,b,q,(a.length:Int),i)=c true)(k:Nat)(hk:a.length<k) :
  Ak (λrec=>Aeu rec kx) k (a,b,false,(a.length:Int),0)=c (decide (a=b)):=by
 refine(B1 a.length (λi=>(a,b,false,(a.length:Int),(i:Int))) (λi=>c (decide (a.drop i=b.drop i))) (λi hi rec hr =>?_) (λrec =>?_) k 0 (Nat.zero_le _) (by omega)).trans (by rw[Zq1,Zq1])
 ·have hi2:i<b.length:=by omega
  simp only[Aeu,E7 hi,Aa,A5 hi,A5 hi2,chk,A8 (c :=.bool) hi,A8 (c :=.bool) hi2,A1 hi hn,hr,h1,An hi,An hi2,Ze2];by_cases hx:a[i]=b[i]
  ·rw[Ze1 hx];simp[hx]
  ·rw[Zd1 hx];simp[hx]
 ·simp only[Aeu,E8,Af,h2];rw[Zk1 (Zn1 _),Zk1 (by omega)];rfl
theorem Bnn:FO 77 [.sl .bool false,.sl .bool false] [.bool] A5d :=.fin 0 Blg λ(a,b) r hb hx=>⟨a.length+1,by
 simp only[A5d,Za1] at hx;rw[<-hx];simp only[Aqr,Bog];by_cases he:a.length=b.length
 ·rw[Ze1 (show(a.length:Int)=(b.length:Int) by omega),Zt1,Af];exact Bd3 (c:=some) hb.1.1 he (λ_=>rfl) (λ_ _=>rfl) (a.length+1) (by omega)
 ·rw[Zd1 (show ¬(a.length:Int)=(b.length:Int) by omega),Zd1 (λh=>he (by rw[h]))];rfl⟩
instance:DecidableEq SetE:=λa b=>decidable_of_iff (a.name=b.name/\a.e=b.e) (by cases a;cases b;simp)
def Avo(a b:SetE):Bool:=decide (a.name=b.name)&&Ig a.e b.e
theorem Azd(a b:SetE):Avo a b=decide (a=b):=by cases a;cases b;simp only[Avo,Jb,SetE.mk.injEq,Bool.decide_and]
def Al1(a b:Stm):Bool:=decide (a.kind=b.kind)&&decide (a.name=b.name)&&decide (a.on=b.on)&&decide (a.has=b.has)&&decide (a.most=b.most)&&decide (a.whr=b.whr)&&(decide (a.cols=b.cols)&&decide (a.names=b.names)&&decide (a.order=b.order)&&decide (a.desc=b.desc)&&decide (a.l=b.l))&&decide (a.rows=b.rows)&&decide (a.sets=b.sets)
theorem Apj(a b:Stm):Al1 a b=true↔a=b:=by
 cases a;cases b;simp only[Al1,Zb1,Zg1,Stm.mk.injEq];constructor
 ·rintro⟨⟨⟨⟨⟨⟨⟨⟨h1,h2⟩,h3⟩,h4⟩,h5⟩,h6⟩,⟨⟨⟨h7,h8⟩,h9⟩,h10⟩,h11⟩,h12⟩,h13⟩;exact⟨h1,h2,h3,h7,h8,h11,h12,h13,h4,h6,h9,h10,h5⟩
 ·rintro⟨h1,h2,h3,h7,h8,h11,h12,h13,h4,h6,h9,h10,h5⟩;exact⟨⟨⟨⟨⟨⟨⟨⟨h1,h2⟩,h3⟩,h4⟩,h5⟩,h6⟩,⟨⟨⟨h7,h8⟩,h9⟩,h10⟩,h11⟩,h12⟩,h13⟩
def Ahw:Sig:=⟨32,[(1,.sl .set false),(6,.bool),(15,.sl .set false),(16,.int .i64),(17,.int .i64)],[(2,.fn 81 [])],[],40,40,600,[],[]⟩
abbrev P9:=List SetE×Bool×List SetE×Int×Int
def Oh{R:Type}(rec:P9->Option R)(kx:Ex->P9->Option R)(v:P9):Option R:=match v with
 |(b,f,c,d,a) =>
 cond (decide (a<d)) (
  chk (inb a c.length) (
  chk (inb a b.length) (
   cond (decide (((at' .set c a).name)=((at' .set b a).name))) (
   cond (!(U8 (Fb ((at' .set c a).e)) (Fb ((at' .set b a).e)))) (
    kx .ret (b,false,c,d,a)) (
    rec (b,f,c,d,(wr .i64 (a+1))))) (
   kx .ret (b,false,c,d,a))))) (
  kx (.exit 0) (b,f,c,d,a))
def Agt:Sig:=⟨32,[(1,.sl .expr false),(6,.bool),(15,.sl .expr false),(16,.int .i64),(17,.int .i64)],[(2,.fn 20 [])],[(0,.one (.sv .stmt)),(1,.one (.sv .stmt))],120,120,600,[],[]⟩
abbrev Rz:=List Xpr×Bool×List Xpr×Int×Int×Stm×Stm
def Of{R:Type}(rec:Rz->Option R)(kx:Ex->Rz->Option R)(v:Rz):Option R:=match v with
 |(b,e,c,d,a,w4,w5) =>
 cond (decide (a<d)) (
  chk (inb a c.length) (
  chk (inb a b.length) (
   cond (!(U8 (at' .expr c a) (at' .expr b a))) (
   kx .ret (b,false,c,d,a,w4,w5)) (
   rec (b,e,c,d,(wr .i64 (a+1)),w4,w5))))) (
  kx (.exit 0) (b,e,c,d,a,w4,w5))
def Ah1:Sig:=⟨32,[(1,.sl .exprs false),(6,.bool),(15,.sl .exprs false),(16,.int .i64),(17,.int .i64)],[(2,.fn 79 [])],[(0,.one (.sv .stmt)),(1,.one (.sv .stmt))],40,40,400,[],[]⟩
abbrev R3:=List (List Xpr)×Bool×List (List Xpr)×Int×Int×Stm×Stm
def O0{R:Type}(k:Nat)(rec:R3->Option R)(kx:Ex->R3->Option R)(v:R3):Option R:=match v with
 |(c,f,b,d,a,w2,w3) =>
 cond (decide (a<d)) (
  chk (inb a b.length) (
  chk (inb a c.length) (
   cond (!decide (((at' .exprs b a).length:Int)=((at' .exprs c a).length:Int))) (
   kx .ret (c,false,b,d,a,w2,w3)) (
   Ak (λrc=>Of rc (λe vz=>match vz with|(_,i,_,_,_,g,h)=>match e with
    |.ret =>
    cond (!i) (
     kx .ret (c,false,b,d,a,g,h)) (
     rec (c,f,b,d,(wr .i64 (a+1)),g,h))
    |.exit 0 =>
    rec (c,f,b,d,(wr .i64 (a+1)),g,h)
    |_=>none)) k ((at' .exprs c a),false,(at' .exprs b a),((at' .exprs b a).length:Int),0,w2,w3))))) (
  kx (.exit 0) (c,f,b,d,a,w2,w3))
def Aii:Sig:=⟨32,[(1,.sl .expr false),(6,.bool),(15,.sl .expr false),(16,.int .i64),(17,.int .i64)],[(2,.fn 20 [])],[(0,.one (.sv .stmt)),(1,.one (.sv .stmt))],40,40,200,[],[]⟩
abbrev R7:=List Xpr×Bool×List Xpr×Int×Int×Stm×Stm
def O5{R:Type}(rec:R7->Option R)(kx:Ex->R7->Option R)(v:R7):Option R:=match v with
 |(v,v1,v2,v3,v4,w,w1) =>
 cond (decide (v4<v3)) (
  chk (inb v4 v2.length) (
  chk (inb v4 v.length) (
   cond (!(U8 (at' .expr v2 v4) (at' .expr v v4))) (
   kx .ret (v,false,v2,v3,v4,w,w1)) (
   rec (v,v1,v2,v3,(wr .i64 (v4+1)),w,w1))))) (
  kx (.exit 0) (v,v1,v2,v3,v4,w,w1))
def Af9(R:Type)(k:Nat):Px R:=pxO [(20,cA W0)] [] [(4,Ao k Aii (O5))] []
def Sm(R:Type)(k:Nat):Px R:=pxO [(20,cA W0)] [] [(4,Ao k Agt (Of))] []
noncomputable def Yt(R:Type)(k:Nat):Px R:=pxO [(47,Av 120 600 (Sm R k) Tryz.f47)] [] [] []
noncomputable def Af5(R:Type)(k:Nat):Px R:=pxO [(79,Av 80 600 (Yt R k) Tryz.f79)] [] [(4,Ao k Ah1 (O0 k))] []
def X8(R:Type)(_k:Nat):Px R:=pxO [(20,cA W0)] [] [] []
noncomputable def Ahi(R:Type)(k:Nat):Px R:=pxO [(81,Av 80 800 (X8 R k) Tryz.f81)] [] [(4,Ao k Ahw (Oh))] []
noncomputable def Apm(R:Type)(k:Nat):Px R:=pxO [(20,cA W0),(75,cA A42),(76,cA A11),(77,cA A5d),(47,Av 40 200 (Af9 R k) Tryz.f47),(78,Av 40 400 (Af5 R k) Tryz.f78),(80,Av 40 600 (Ahi R k) Tryz.f80)] [] [] []
def Vg(k:Nat)(x:HV [.sv .stmt,.sv .stmt]):Option (HV [.bool]):=match x with
 |(a,b) =>
 let j9:=λ(p6:Bool) =>
  let j8:=λ(m:Bool) (q6:Stm) (q7:Stm) =>
  let j7:=λ(n:Bool) =>
   let j6:=λ(o:Bool) (c:Stm) (d:Stm) =>
   cond (o) (
    cond (!decide ((c.sets.length:Int)=(d.sets.length:Int))) (
    some false) (
    Ak (λrec=>Oh rec (λe vz=>match vz with|(_,q,_,_,_)=>match e with
     |.ret =>
     some q
     |.exit 0 =>
     some true
     |_=>none)) k (d.sets,false,c.sets,(c.sets.length:Int),0))) (
    some false)
   cond (n) (
   cond (!decide ((q6.rows.length:Int)=(q7.rows.length:Int))) (
    j6 false q6 q7) (
    Ak (λrec=>O0 k rec (λe vz=>match vz with|(_,r,_,_,_,f,g)=>match e with
    |.ret =>j6 r f g
    |.exit 0 =>j6 true f g
    |_=>none)) k (q7.rows,false,q6.rows,(q6.rows.length:Int),0,q6,q7))) (
   j6 false q6 q7)
  cond (p6) (
   j7 m) (
   j7 false)
  let j5:=λ(p7:Bool) =>
  let j4:=λ(p8:Bool) =>
   let j3:=λ(p9:Bool) =>
   cond (p9) (
    cond (!decide ((a.l.length:Int)=(b.l.length:Int))) (
    j8 false a b) (
    Ak (λrec=>O5 rec (λe vz=>match vz with|(_,v6,_,_,_,h,i)=>match e with
     |.ret =>
     j8 v6 h i
     |.exit 0 =>
     j8 true h i
     |_=>none)) k (b.l,false,a.l,(a.l.length:Int),0,a,b))) (
    j8 false a b)
   cond (p8) (
   j3 (Bog a.desc b.desc)) (
   j3 false)
  cond (p7) (
   j4 (Bju a.order b.order)) (
   j4 false)
  cond ((Bm2 a.cols b.cols)) (
  j5 (Bju a.names b.names)) (
  j5 false)
 let j2:=λ(p:Bool) =>
  let j1:=λ(p1:Bool) =>
  let j:=λ(p2:Bool) =>
   cond (p2) (
   cond (decide (a.most=b.most)) (
    j9 (U8 (Fb a.whr) (Fb b.whr))) (
    j9 false)) (
   j9 false)
  cond (p1) (
   j (decide (a.has=b.has))) (
   j false)
  cond (p) (
  j1 (decide (a.on=b.on))) (
  j1 false)
 cond (decide (a.kind=b.kind)) (
  j2 (decide (a.name=b.name))) (
  j2 false)
theorem A3p(k:Nat):FO 27 [.sv .stmt,.sv .stmt] [.bool] (Vg k):=fR (px:=Apm _ k) (n:=0) Tryz.func27 rfl (λcx H=>by have h1:Lv cx (Af9 (HV [.bool]) k):=lv H (c1 H Uc Ah) Ae Ab;have hlastmts_0:=lO H h1 (b:=lp Tryz.f47 0) (k:=k) (n:=0) (s:=Aii) (step:=O5) (λ_ _ _ (_,_,_,_,_,_,_)=>by kernel_rfl) Aj;have h4:Lv cx (Sm (HV [.bool]) k):=lv H (c1 H Uc Ah) Ae Ab;have hlastmts_2:=lO H h4 (b:=lp Tryz.f47 0) (k:=k) (n:=0) (s:=Agt) (step:=Of) (λ_ _ _ (_,_,_,_,_,_,_)=>by kernel_rfl) Aj;have h3:Lv cx (Yt (HV [.bool]) k):=lv H (As (cR H h4 Tryz.func47 rfl (n:=1) ((Bh Aj hlastmts_2))) Ah) Ae Ab;have h2:Lv cx (Af5 (HV [.bool]) k):=lv H (As (cR H h3 Tryz.func79 rfl (n:=0) (Aj)) Ah) Ae Ab;have hlastmts_1:=lO H h2 (b:=lp Tryz.f78 0) (k:=k) (n:=0) (s:=Ah1) (step:=O0 k) (λ_ _ _ (_,_,_,_,_,_,_)=>by kernel_rfl) Aj;have h6:Lv cx (X8 (HV [.bool]) k):=lv H (c1 H Uc Ah) Ae Ab;have h5:Lv cx (Ahi (HV [.bool]) k):=lv H (As (cR H h6 Tryz.func81 rfl (n:=0) (Aj)) Ah) Ae Ab;have hlastmts_3:=lO H h5 (b:=lp Tryz.f80 0) (k:=k) (n:=0) (s:=Ahw) (step:=Oh) (λ_ _ _ (_,_,_,_,_)=>by kernel_rfl) Aj;have h0:Lv cx (Apm (HV [.bool]) k):=lv H (c1 H Uc (c1 H Bpc (c1 H Bma (c1 H Bnn (As (cR H h1 Tryz.func47 rfl (n:=1) ((Bh Aj hlastmts_0))) (As (cR H h2 Tryz.func78 rfl (n:=1) ((Bh Aj hlastmts_1))) (As (cR H h5 Tryz.func80 rfl (n:=1) ((Bh Aj hlastmts_3))) Ah))))))) Ae Ab;exact⟨h0,Aj⟩) λ(_,_)=>by kernel_rfl
def A2f(a b:Stm):Bool:=Al1 a b
def Azu:FT [.sv .stmt,.sv .stmt] [.bool]:=λx=>some (A2f x.1 x.2)
theorem Abz{α:Type}[DecidableEq α](x y : α)(l m:List α):decide (x::l=y::m)=(decide (x=y)&&decide (l=m)):=by simp only[Ze2,Bool.decide_and]
theorem Ao1{R:Type}{kx:Ex->R7->Option R}{l m:List Xpr}{s t:Stm}{c:Bool->Option R}(hn:ln l.length)(hm:l.length=m.length)
  (h1:∀i,kx .ret (m,false,l,(l.length:Int),i,s,t)=c false) (h2:∀q i,kx (.exit 0) (m,q,l,(l.length:Int),i,s,t)=c true) (k:Nat) (hk:l.length<k):Ak (λrec=>O5 rec kx) k (m,false,l,(l.length:Int),0,s,t)=c (decide (l=m)):=by
 refine(B1 l.length (λi=>(m,false,l,(l.length:Int),(i:Int),s,t)) (λi=>c (decide (l.drop i=m.drop i))) (λi hi rec hr =>?_) (λrec =>?_) k 0 (Nat.zero_le _) (by omega)).trans (by rw[Zq1,Zq1])
 ·have hi2:i<m.length:=by omega
  simp only[O5,E7 hi,Aa,A5 hi,A5 hi2,chk,A8 (c :=.expr) hi,A8 (c :=.expr) hi2,A1 hi hn,hr,h1,An hi,An hi2,Abz,U8,Jb];cases decide (l[i]=m[i])<;>rfl
 ·simp only[O5,E8,Af,h2];rw[Zk1 (Zn1 _),Zk1 (by omega)];rfl
theorem Ao0{R:Type}{kx:Ex->Rz->Option R}{l m:List Xpr}{s t:Stm}{c:Bool->Option R}(hn:ln l.length)(hm:l.length=m.length)
  (h1:∀i,kx .ret (m,false,l,(l.length:Int),i,s,t)=c false) (h2:∀q i,kx (.exit 0) (m,q,l,(l.length:Int),i,s,t)=c true) (k:Nat) (hk:l.length<k):Ak (λrec=>Of rec kx) k (m,false,l,(l.length:Int),0,s,t)=c (decide (l=m)):=by
 refine(B1 l.length (λi=>(m,false,l,(l.length:Int),(i:Int),s,t)) (λi=>c (decide (l.drop i=m.drop i))) (λi hi rec hr =>?_) (λrec =>?_) k 0 (Nat.zero_le _) (by omega)).trans (by rw[Zq1,Zq1])
 ·have hi2:i<m.length:=by omega
  simp only[Of,E7 hi,Aa,A5 hi,A5 hi2,chk,A8 (c :=.expr) hi,A8 (c :=.expr) hi2,A1 hi hn,hr,h1,An hi,An hi2,Abz,U8,Jb];cases decide (l[i]=m[i])<;>rfl
 ·simp only[Of,E8,Af,h2];rw[Zk1 (Zn1 _),Zk1 (by omega)];rfl
theorem Aos{R:Type}{kx:Ex->R3->Option R}{l m:List (List Xpr)}{s t:Stm}{c:Bool->Option R}(hn:ln l.length)(hm:l.length=m.length)(hr0:∀x,x∈l->ln x.length)(k:Nat)(hkr:∀x,x∈l->List.length x<k)
  (h1:∀i,kx .ret (m,false,l,(l.length:Int),i,s,t)=c false) (h2:∀q i,kx (.exit 0) (m,q,l,(l.length:Int),i,s,t)=c true) (hk:l.length<k):Ak (λrec=>O0 k rec kx) k (m,false,l,(l.length:Int),0,s,t)=c (decide (l=m)):=by
 refine(B1 l.length (λi=>(m,false,l,(l.length:Int),(i:Int),s,t)) (λi=>c (decide (l.drop i=m.drop i))) (λi hi rec hr =>?_) (λrec =>?_) k 0 (Nat.zero_le _) (by omega)).trans (by rw[Zq1,Zq1])
 ·have hi2:i<m.length:=by omega
  simp only[O0,E7 hi,Aa,A5 hi,A5 hi2,chk,A8 (c :=.exprs) hi,A8 (c :=.exprs) hi2,A1 hi hn,An hi,An hi2,Abz];by_cases hlen:l[i].length=m[i].length
  ·rw[Ze1 (show(l[i].length:Int)=(m[i].length:Int) by omega),Zt1,Af];rw[Ao0 (c:=λb=>cond b (c (decide (l.drop (i+1)=m.drop (i+1)))) (c false)) (hr0 _ (List.getElem_mem hi)) hlen (λ_=>h1 _) (λ_ _=>hr) k (hkr _ (List.getElem_mem hi))];cases decide (l[i]=m[i])<;>rfl
  ·rw[Zd1 (show ¬(l[i].length:Int)=(m[i].length:Int) by omega),Zd1 (λh=>hlen (by rw[h])),h1];rfl
 ·simp only[O0,E8,Af,h2];rw[Zk1 (Zn1 _),Zk1 (by omega)];rfl
theorem Ao7{R:Type}{kx:Ex->P9->Option R}{l m:List SetE}{c:Bool->Option R}(hn:ln l.length)(hm:l.length=m.length)
  (h1:∀i,kx .ret (m,false,l,(l.length:Int),i)=c false) (h2:∀q i,kx (.exit 0) (m,q,l,(l.length:Int),i)=c true) (k:Nat) (hk:l.length<k):Ak (λrec=>Oh rec kx) k (m,false,l,(l.length:Int),0)=c (decide (l=m)):=by
 refine(B1 l.length (λi=>(m,false,l,(l.length:Int),(i:Int))) (λi=>c (decide (l.drop i=m.drop i))) (λi hi rec hr =>?_) (λrec =>?_) k 0 (Nat.zero_le _) (by omega)).trans (by rw[Zq1,Zq1])
 ·have hi2:i<m.length:=by omega
  simp only[Oh,E7 hi,Aa,A5 hi,A5 hi2,chk,A8 (c :=.set) hi,A8 (c :=.set) hi2,A1 hi hn,hr,h1,An hi,An hi2,Abz,U8,<-Azd,Avo,Ez];cases decide (l[i].name=m[i].name)<;>cases Ig l[i].e m[i].e<;>rfl
 ·simp only[Oh,E8,Af,h2];rw[Zk1 (Zn1 _),Zk1 (by omega)];rfl
theorem Awk{α:Type}[DecidableEq α]{l m:List α}(h:¬l.length=m.length):decide (l=m)=false:=Zd1 λe=>h (by rw[e])
def Bn8(s:Stm):Nat:=s.l.length+s.rows.length+s.sets.length+(s.rows.map List.length).sum
theorem A6b{l:List (List Xpr)}{x:List Xpr}(h:x∈l):x.length<=(l.map List.length).sum:=by
 induction l with
 |nil=>cases h
 |cons y l ih =>
  simp only[Zw1,List.sum_cons];rcases List.mem_cons.1 h with rfl|h
  ·omega
  ·have:=ih h;omega
theorem Bjt(k:Nat)(a b:Stm)(hb:BdStm a)(hk:Bn8 a<k):Vg k (a,b)=some (Al1 a b):=by
 have hk2:=hk;simp only[Bn8] at hk2;simp -zeta only [Vg,U8,Jb,Ez,Bm2,Bju,Bog];extract_lets j6 j9 j j1 j2;have h6:∀q,j6 q a b=some (q&&decide (a.sets=b.sets)):=λq=>by
  simp -zeta only [j6];cases q with
  |false=>rfl
  |true =>
   rw[Aa,Bool.true_and];by_cases hs:a.sets.length=b.sets.length
   ·rw[Ze1 (show(a.sets.length:Int)=(b.sets.length:Int) by omega),Zt1,Af];exact Ao7 (c:=some) hb.sets.1 hs (λ_=>rfl) (λ_ _=>rfl) k (by omega)
   ·rw[Zd1 (show ¬(a.sets.length:Int)=(b.sets.length:Int) by omega),Awk hs];rfl
 have h9:∀p,j9 p=some (p&&(decide (a.cols=b.cols)&&decide (a.names=b.names)&&decide (a.order=b.order)&&decide (a.desc=b.desc)&&decide (a.l=b.l))&&decide (a.rows=b.rows)&&decide (a.sets=b.sets)):=λp=>by
  simp -zeta only [j9];extract_lets j8 j3 j4 j5;have h8:∀q,j8 q a b=some (p&&q&&decide (a.rows=b.rows)&&decide (a.sets=b.sets)):=λq=>by
   simp -zeta only [j8];extract_lets j7;have h7:∀q,j7 q=some (q&&decide (a.rows=b.rows)&&decide (a.sets=b.sets)):=λq=>by
    simp -zeta only [j7];cases q with
    |false=>exact(h6 false).trans rfl
    |true =>
     rw[Aa,Bool.true_and];by_cases hs:a.rows.length=b.rows.length
     ·rw[Ze1 (show(a.rows.length:Int)=(b.rows.length:Int) by omega),Zt1,Af];refine(Aos (c:=λq=>j6 q a b) hb.rows.1 hs (λx hx=>(hb.rows.2 x hx).1) k (λx hx=>by have:=A6b hx;omega) (λ_=>rfl) (λ_ _=>rfl) (by omega)).trans (h6 _)
     ·rw[Zd1 (show ¬(a.rows.length:Int)=(b.rows.length:Int) by omega),Awk hs];exact(h6 false).trans rfl
   cases p with|false=>exact(h7 false).trans rfl|true=>exact(h7 q).trans (by rw[Bool.true_and])
  have h3:∀q,j3 q=some (p&&(q&&decide (a.l=b.l))&&decide (a.rows=b.rows)&&decide (a.sets=b.sets)):=λq=>by
   simp -zeta only [j3];cases q with
   |false=>exact h8 false
   |true =>
    rw[Aa,Bool.true_and];by_cases hs:a.l.length=b.l.length
    ·rw[Ze1 (show(a.l.length:Int)=(b.l.length:Int) by omega),Zt1,Af];exact(Ao1 (c:=λq=>j8 q a b) hb.l.1 hs (λ_=>rfl) (λ_ _=>rfl) k (by omega)).trans (h8 _)
    ·rw[Zd1 (show ¬(a.l.length:Int)=(b.l.length:Int) by omega),Awk hs];exact h8 false
  have h4:∀q,j4 q=some (p&&(q&&decide (a.desc=b.desc)&&decide (a.l=b.l))&&decide (a.rows=b.rows)&&decide (a.sets=b.sets)):=λq=>by simp -zeta only [j4];cases q with|false=>exact h3 false|true=>exact(h3 _).trans (by rw[Bool.true_and])
  have h5:∀q,j5 q=some (p&&(q&&decide (a.order=b.order)&&decide (a.desc=b.desc)&&decide (a.l=b.l))&&decide (a.rows=b.rows)&&decide (a.sets=b.sets)):=λq=>by simp -zeta only [j5];cases q with|false=>exact h4 false|true=>exact(h4 _).trans (by rw[Bool.true_and])
  cases decide (a.cols=b.cols) with|false=>exact h5 false|true=>exact(h5 _).trans (by simp only[Bool.true_and])
 simp -zeta only [j2,j1,j,Al1];cases decide (a.kind=b.kind) with
 |false=>exact(h9 false).trans rfl
 |true =>
  cases decide (a.name=b.name) with
  |false=>exact(h9 false).trans rfl
  |true =>
   cases decide (a.on=b.on) with
   |false=>exact(h9 false).trans rfl
   |true =>
    cases decide (a.has=b.has) with
    |false=>exact(h9 false).trans rfl
    |true =>cases decide (a.most=b.most) with|false=>exact(h9 false).trans rfl|true=>exact(h9 _).trans (by simp only[Bool.true_and])
theorem Bbt:FO 27 [.sv .stmt,.sv .stmt] [.bool] Azu :=.fin 0 A3p λ(a,b) r hb hx=>⟨Bn8 a+1,(Bjt (Bn8 a+1) a b hb.1 (by omega)).trans hx⟩
instance:DecidableEq Stm:=λa b=>decidable_of_iff (Al1 a b=true) (Apj a b)
theorem Bcs(a b:Stm):Al1 a b=decide (a=b):=by rw[Bool.eq_iff_iff,Apj,Zg1]
def Bis(R:Type):Px R:=pxO [] [] [] []
def Zc(x:HV [.int .i64]):Option (HV [.bool]):=match x with
 |n =>
 cond (decide (1<=n)) (
  some (decide (n<=100))) (
  some false)
theorem Bbg:FO 66 [.int .i64] [.bool] (Zc):=fR (px:=Bis _) (n:=0) Tryz.func66 rfl (λ_ H=>⟨lv H Ah Ae Ab,Aj⟩) λ_=>by kernel_rfl
def C7(n:Int):Bool :=
 cond (decide (1<=n)) (
  (decide (n<=100))) (
  false)
theorem A97(x:HV [.int .i64]):Zc x=some (C7 x):=by
 first
  |exact rfl
  |simp only[Zc,C7,Bn]
def Adc:FT [.int .i64] [.bool]:=λx=>some (C7 x)
theorem Acc:FO 66 [.int .i64] [.bool] Adc :=.fin0 Bbg λx _ _ hx=>(A97 x).trans hx
theorem Aw6(n:Nat):C7 (n:Int)=(decide (1<=n)&&decide (n<=100)):=by simp only[C7];rw[show decide ((1:Int)<=(n:Int))=decide (1<=n) from Zy1.2 (by omega),show decide ((n:Int)<=100)=decide (n<=100) from Zy1.2 (by omega)];cases decide (1<=n)<;>rfl
def Akk:Sig:=⟨26,[(0,.sl .str false),(2,.bool),(5,.sl .str false),(6,.int .i64),(7,.int .i64)],[],[],0,0,0,[],[]⟩
abbrev Wt:=List Str×Bool×List Str×Int×Int
def Vs{R:Type}(rec:Wt->Option R)(kx:Ex->Wt->Option R)(v:Wt):Option R:=match v with
 |(v,v1,v2,v3,v4) =>
 cond (decide (v4<v3)) (
  chk (inb v4 v2.length) (
  cond (!(Dr (at' .str v2 v4))) (
   kx .ret (v,false,v2,v3,v4)) (
   chk (Dp 0 v4 v.length) (
   cond ((Axn (v.take (v4:Int).toNat) (at' .str v2 v4))) (
    kx .ret (v,false,v2,v3,v4)) (
    rec (v,v1,v2,v3,(wr .i64 (v4+1)))))))) (
  kx (.exit 0) (v,v1,v2,v3,v4))
def A0o(R:Type)(k:Nat):Px R:=pxO [(63,cA R5),(44,cA A3a)] [] [(2,Ao k Akk (Vs))] []
def Akh(k:Nat)(x:HV [.sl .str false]):Option (HV [.bool]):=match x with
 |l =>
 Ak (λrec=>Vs rec (λe vz=>match vz with|(v5,v6,_,_,_)=>match e with
  |.ret =>
  some v6
  |.exit 0 =>
  some (decide ((v5.length:Int)<=100))
  |_=>none)) k (l,false,l,(l.length:Int),0)
theorem Bdi(k:Nat):FO 67 [.sl .str false] [.bool] (Akh k):=fR (px:=A0o _ k) (n:=1) Tryz.func67 rfl (λcx H=>by have h0:Lv cx (A0o (HV [.bool]) k):=lv H (c1 H Ug (c1 H A51 Ah)) Ae Ab;have hlaonce_0:=lO H h0 (b:=lp Tryz.f67 0) (k:=k) (n:=0) (s:=Akk) (step:=Vs) (λ_ _ _ (_,_,_,_,_)=>by kernel_rfl) Aj;exact⟨h0,(Bh Aj hlaonce_0)⟩) λ_=>by kernel_rfl
def Ve:List Str->List Str->Bool
 |_,[]=>true
 |seen,s::r=>Dr s && !seen.contains s&&Ve (seen++[s]) r
def Dy(l:List Str):Bool:=Ve [] l&&decide (l.length<=100)
def Adm:FT [.sl .str false] [.bool]:=λx=>some (Dy x)
theorem Ajv{l:List Str}{i:Nat}(hi:i<l.length):l.take (i+1)=l.take i++[l[i]]:=by rw[List.take_add_one,Zo1 hi];rfl
theorem A4u{R:Type}{kx:Ex->Wt->Option R}{l:List Str}{c:Bool->Option R}(hn:ln l.length)(h1:∀i,kx .ret (l,false,l,(l.length:Int),i)=c false)(h2:∀q i,kx (.exit 0) (l,q,l,(l.length:Int),i)=c true)(k:Nat)(hk:l.length<k) :
  Ak (λrec=>Vs rec kx) k (l,false,l,(l.length:Int),0)=c (Ve [] l):=by
 refine(B1 l.length (λi=>(l,false,l,(l.length:Int),(i:Int))) (λi=>c (Ve (l.take i) (l.drop i))) (λi hi rec hr =>?_) (λrec =>?_) k 0 (Nat.zero_le _) (by omega)).trans (by rw[Zq1,List.take_zero])
 ·have hu:Dp 0 (i:Int) l.length=true:=by simp[Dp];omega
  simp only[Vs,E7 hi,Aa,A5 hi,chk,A8 (c :=.str) hi,A1 hi hn,hr,h1,An hi,Ve,hu,Int.toNat_natCast,A87,Ajv hi];cases Dr l[i]<;>cases (l.take i).contains l[i]<;>rfl
 ·simp only[Vs,E8,Af,h2];rw[Zk1 (Zn1 _)];rfl
theorem Ak0:FO 67 [.sl .str false] [.bool] Adm :=.fin 0 Bdi λl r hb hx=>⟨l.length+1,by simp only[Adm,Za1] at hx;rw[<-hx];simp only[Akh];refine(A4u (l:=l) (c:=λb=>cond b (some (decide ((l.length:Int)<=100))) (some false)) hb.1 (λ_=>rfl) (λ_ _=>rfl) (l.length+1) (by omega)).trans ?_;rw[show decide ((l.length:Int)<=100)=decide (l.length<=100) from Zy1.2 (by omega),Dy];cases Ve [] l<;>rfl⟩
def Ag9:Sig:=⟨19,[(0,.sl .expr false),(4,.int .i64),(7,.int .i64),(8,.int .i64)],[(1,.fn 112 [])],[],80,80,400,[],[]⟩
abbrev Q3:=List Xpr×Int×Int×Int
def O7{R:Type}(rec:Q3->Option R)(kx:Ex->Q3->Option R)(v:Q3):Option R:=match v with
 |(v,v1,v2,v3) =>
 cond (decide (v3<v2)) (
  chk (inb v3 v.length) (
  cond (!(Bl (at' .expr v v3) 30)) (
   kx .ret (v,v3,v2,v3)) (
   rec (v,v1,v2,(wr .i64 (v3+1)))))) (
  kx (.exit 0) (v,v1,v2,v3))
def Su(R:Type)(_k:Nat):Px R:=pxO [(39,cA Om)] [] [] []
noncomputable def Yu(R:Type)(k:Nat):Px R:=pxO [(112,Av 120 600 (Su R k) Tryz.f112)] [] [(2,Ao k Ag9 (O7))] []
noncomputable def Agu(R:Type)(k:Nat):Px R:=pxO [(148,Av 80 400 (Yu R k) Tryz.f148)] [] [] []
noncomputable def Aq9(R:Type)(k:Nat):Px R:=pxO [(96,Av 40 200 (Agu R k) Tryz.f96)] [] [] []
def Agz(k:Nat)(x:HV [.sl .expr false]):Option (HV [.bool]):=match x with
 |l =>
 cond (decide ((l.length:Int)<=100)) (
  Ak (λrec=>O7 rec (λe vz=>match vz with|(_,v5,_,_)=>match e with
  |.ret =>some (!(decide (0<=v5)))
  |.exit 0 =>some true
  |_=>none)) k (l,0,(l.length:Int),0)) (
  some false)
theorem A10(k:Nat):FO 68 [.sl .expr false] [.bool] (Agz k):=fR (px:=Aq9 _ k) (n:=0) Tryz.func68 rfl (λcx H=>by have h3:Lv cx (Su (HV [.bool]) k):=lv H (c1 H Ox Ah) Ae Ab;have h2:Lv cx (Yu (HV [.bool]) k):=lv H (As (cR H h3 Tryz.func112 rfl (n:=0) (Aj)) Ah) Ae Ab;have hlaexprs_0:=lO H h2 (b:=lp Tryz.f148 0) (k:=k) (n:=0) (s:=Ag9) (step:=O7) (λ_ _ _ (_,_,_,_)=>by kernel_rfl) Aj;have h1:Lv cx (Agu (HV [.bool]) k):=lv H (As (cR H h2 Tryz.func148 rfl (n:=1) ((Bh Aj hlaexprs_0))) Ah) Ae Ab;have h0:Lv cx (Aq9 (HV [.bool]) k):=lv H (As (cR H h1 Tryz.func96 rfl (n:=0) (Aj)) Ah) Ae Ab;exact⟨h0,Aj⟩) λ_=>by kernel_rfl
def G8(l:List Xpr):Bool:=decide (l.length<=100)&&l.all λe=>Bl e 30
def Aca:FT [.sl .expr false] [.bool]:=λx=>some (G8 x)
theorem A05{R:Type}{kx:Ex->Q3->Option R}{l:List Xpr}{c:Bool->Option R}(hn:ln l.length)(h1:∀i:Nat,kx .ret (l,(i:Int),(l.length:Int),(i:Int))=c false)(h2:∀q i,kx (.exit 0) (l,q,(l.length:Int),i)=c true)(k:Nat)(hk:l.length<k) :
  Ak (λrec=>O7 rec kx) k (l,0,(l.length:Int),0)=c (l.all λe=>Bl e 30):=by
 refine(B1 l.length (λi=>(l,(0:Int),(l.length:Int),(i:Int))) (λi=>c ((l.drop i).all λe=>Bl e 30)) (λi hi rec hr =>?_) (λrec =>?_) k 0 (Nat.zero_le _) (by omega)).trans (by rw[Zq1])
 ·simp only[O7,E7 hi,Aa,A5 hi,chk,A8 (c :=.expr) hi,A1 hi hn,hr,h1,An hi,Zv1];cases Bl l[i] 30<;>rfl
 ·simp only[O7,E8,Af,h2];rw[Zk1 (Zn1 _)];rfl
theorem Aqs:FO 68 [.sl .expr false] [.bool] Aca :=.fin 0 A10 λl r hb hx=>⟨l.length+1,by
 simp only[Aca,Za1] at hx;rw[<-hx];simp only[Agz,G8];rw[show decide ((l.length:Int)<=100)=decide (l.length<=100) from Zy1.2 (by omega)];cases decide (l.length<=100) with
 |false=>rfl
 |true =>rw[Aa,Bool.true_and];exact A05 (l:=l) (c:=some) hb.1 (λi=>by simp) (λ_ _=>rfl) (l.length+1) (by omega)⟩
def Am8:Sig:=⟨19,[(0,.sl .exprs false),(4,.int .i64),(7,.int .i64),(8,.int .i64)],[(1,.fn 114 [])],[],80,80,400,[],[]⟩
abbrev V3:=List (List Xpr)×Int×Int×Int
def Wx{R:Type}(rec:V3->Option R)(kx:Ex->V3->Option R)(v:V3):Option R:=match v with
 |(v,v1,v2,v3) =>
 cond (decide (v3<v2)) (
  chk (inb v3 v.length) (
  cond (decide (((at' .exprs v v3).length:Int)=0)) (
   kx .ret (v,v3,v2,v3)) (
   cond (!(G8 (at' .exprs v v3))) (
   kx .ret (v,v3,v2,v3)) (
   rec (v,v1,v2,(wr .i64 (v3+1))))))) (
  kx (.exit 0) (v,v1,v2,v3))
def U7(R:Type)(_k:Nat):Px R:=pxO [(68,cA Aca)] [] [] []
noncomputable def Acs(R:Type)(k:Nat):Px R:=pxO [(114,Av 120 600 (U7 R k) Tryz.f114)] [] [(2,Ao k Am8 (Wx))] []
noncomputable def Als(R:Type)(k:Nat):Px R:=pxO [(155,Av 80 400 (Acs R k) Tryz.f155)] [] [] []
noncomputable def Ay5(R:Type)(k:Nat):Px R:=pxO [(66,cA Adc),(113,Av 40 200 (Als R k) Tryz.f113)] [] [] []
def Amw(k:Nat)(x:HV [.sl .exprs false]):Option (HV [.bool]):=match x with
 |l =>
 cond ((C7 (l.length:Int))) (
  Ak (λrec=>Wx rec (λe vz=>match vz with|(_,v5,_,_)=>match e with
  |.ret =>some (!(decide (0<=v5)))
  |.exit 0 =>some true
  |_=>none)) k (l,0,(l.length:Int),0)) (
  some false)
theorem Bct(k:Nat):FO 69 [.sl .exprs false] [.bool] (Amw k):=fR (px:=Ay5 _ k) (n:=0) Tryz.func69 rfl (λcx H=>by have h3:Lv cx (U7 (HV [.bool]) k):=lv H (c1 H Aqs Ah) Ae Ab;have h2:Lv cx (Acs (HV [.bool]) k):=lv H (As (cR H h3 Tryz.func114 rfl (n:=0) (Aj)) Ah) Ae Ab;have hlarows_0:=lO H h2 (b:=lp Tryz.f155 0) (k:=k) (n:=0) (s:=Am8) (step:=Wx) (λ_ _ _ (_,_,_,_)=>by kernel_rfl) Aj;have h1:Lv cx (Als (HV [.bool]) k):=lv H (As (cR H h2 Tryz.func155 rfl (n:=1) ((Bh Aj hlarows_0))) Ah) Ae Ab;have h0:Lv cx (Ay5 (HV [.bool]) k):=lv H (c1 H Acc (As (cR H h1 Tryz.func113 rfl (n:=0) (Aj)) Ah)) Ae Ab;exact⟨h0,Aj⟩) λ_=>by kernel_rfl
def Ani(r:List Xpr):Bool := !decide (r.length=0)&&G8 r
def Ato(l:List (List Xpr)):Bool:=C7 (l.length:Int)&&l.all Ani
def Auu:FT [.sl .exprs false] [.bool]:=λx=>some (Ato x)
theorem A17{R:Type}{kx:Ex->V3->Option R}{l:List (List Xpr)}{c:Bool->Option R}(hn:ln l.length)(h1:∀i:Nat,kx .ret (l,(i:Int),(l.length:Int),(i:Int))=c false)(h2:∀q i,kx (.exit 0) (l,q,(l.length:Int),i)=c true)(k:Nat)(hk:l.length<k) :
  Ak (λrec=>Wx rec kx) k (l,0,(l.length:Int),0)=c (l.all Ani):=by
 refine(B1 l.length (λi=>(l,(0:Int),(l.length:Int),(i:Int))) (λi=>c ((l.drop i).all Ani)) (λi hi rec hr =>?_) (λrec =>?_) k 0 (Nat.zero_le _) (by omega)).trans (by rw[Zq1])
 ·simp only[Wx,E7 hi,Aa,A5 hi,chk,A8 (c :=.exprs) hi,A1 hi hn,hr,h1,An hi,Zv1,Ani];rw[show decide ((l[i].length:Int)=0)=decide (l[i].length=0) from Zy1.2 (by omega)];cases decide (l[i].length=0)<;>cases G8 l[i]<;>rfl
 ·simp only[Wx,E8,Af,h2];rw[Zk1 (Zn1 _)];rfl
theorem Bjm:FO 69 [.sl .exprs false] [.bool] Auu :=.fin 0 Bct λl r hb hx=>⟨l.length+1,by
 simp only[Auu,Za1] at hx;rw[<-hx];simp only[Amw,Ato];cases C7 (l.length:Int) with
 |false=>rfl
 |true =>rw[Aa,Bool.true_and];exact A17 (l:=l) (c:=some) hb.1 (λi=>by simp) (λ_ _=>rfl) (l.length+1) (by omega)⟩
def Bid(R:Type):Px R:=pxO [(20,cA W0)] [] [] []
def Z9(x:HV [.sv .expr]):Option (HV [.bool]):=match x with
 |e =>
 some (U8 e (Xpr.mk 0 ⟨0,0,[]⟩ [] []))
theorem Bcu:FO 115 [.sv .expr] [.bool] (Z9):=fR (px:=Bid _) (n:=0) Tryz.func115 rfl (λ_ H=>⟨lv H (c1 H Uc Ah) Ae Ab,Aj⟩) λ_=>by kernel_rfl
def Aqt(e:Xpr):Bool :=(U8 e (Xpr.mk 0 ⟨0,0,[]⟩ [] []))
theorem Bbk(x:HV [.sv .expr]):Z9 x=some (Aqt x):=by
 first
  |exact rfl
  |simp only[Z9,Aqt,Bn]
def A6m:FT [.sv .expr] [.bool]:=λx=>some (Aqt x)
theorem Bg2:FO 115 [.sv .expr] [.bool] A6m :=.fin0 Bcu λx _ _ hx=>(Bbk x).trans hx
theorem Bfd(e:Xpr):Aqt e=decide (e = .mk 0 ⟨0,0,[]⟩ [] []):=Jb e _
def Bdx(R:Type):Px R:=pxO [(115,cA A6m),(39,cA Om)] [] [] []
def Tp(x:HV [.sv .stmt]):Option (HV [.bool]):=match x with
 |s =>
 cond (!s.has) (
  some (Aqt (Fb s.whr))) (
  some (Bl (Fb s.whr) 30))
theorem A47:FO 71 [.sv .stmt] [.bool] (Tp):=fR (px:=Bdx _) (n:=0) Tryz.func71 rfl (λ_ H=>⟨lv H (c1 H Bg2 (c1 H Ox Ah)) Ae Ab,Aj⟩) λ_=>by kernel_rfl
def Iz(s:Stm):Bool :=
 cond (!s.has) (
  (Aqt (Fb s.whr))) (
  (Bl (Fb s.whr) 30))
theorem A22(x:HV [.sv .stmt]):Tp x=some (Iz x):=by
 first
  |exact rfl
  |simp only[Tp,Iz,Bn]
def Azb:FT [.sv .stmt] [.bool]:=λx=>some (Iz x)
theorem Bat:FO 71 [.sv .stmt] [.bool] Azb :=.fin0 A47 λx _ _ hx=>(A22 x).trans hx
theorem Aru(s:Stm):Iz s=cond s.has (Bl s.whr 30) (decide (s.whr = .mk 0 ⟨0,0,[]⟩ [] [])):=by simp only[Iz,Ez,Bfd];cases s.has<;>rfl
def Ajw:Sig:=⟨44,[(0,.sl .col false),(2,.bool),(3,.sl .str true),(6,.sl .col false),(7,.int .i64),(8,.int .i64)],[],[],0,0,0,[],[]⟩
abbrev Xd:=List Col×Bool×List Str×List Col×Int×Int
def Xe{R:Type}(rec:Xd->Option R)(kx:Ex->Xd->Option R)(v:Xd):Option R:=match v with
 |(v,v1,v2,v3,v4,v5) =>
 cond (decide (v5<v4)) (
  chk (inb v5 v3.length) (
  let j:=λ(p:Bool) =>
   cond (p) (
   kx .ret (v,false,v2,v3,v4,v5)) (
   cond (!decide (((at' .col v3 v5).ref)=[])) (
    cond (!(Dr ((at' .col v3 v5).ref))) (
    kx .ret (v,false,v2,v3,v4,v5)) (
    chk (decide (v2.length+1<=Al)) (
     rec (v,v1,(v2++[((at' .col v3 v5).name)]),v3,v4,(wr .i64 (v5+1)))))) (
    chk (decide (v2.length+1<=Al)) (
    rec (v,v1,(v2++[((at' .col v3 v5).name)]),v3,v4,(wr .i64 (v5+1))))))
  cond (decide ((at' .col v3 v5).kind<2)) (
   j true) (
   j (decide (5<(at' .col v3 v5).kind))))) (
  kx (.exit 0) (v,v1,v2,v3,v4,v5))
def A0c(R:Type)(k:Nat):Px R:=pxO [(63,cA R5),(66,cA Adc),(67,cA Adm)] [] [(3,Ao k Ajw (Xe))] []
def Aj6(k:Nat)(x:HV [.sl .col false]):Option (HV [.bool]):=match x with
 |l =>
 Ak (λrec=>Xe rec (λe vz=>match vz with|(v6,v7,v8,_,_,_)=>match e with
  |.ret =>
  some v7
  |.exit 0 =>
  cond ((C7 (v6.length:Int))) (
   some (Dy v8)) (
   some false)
  |_=>none)) k (l,false,[],l,(l.length:Int),0)
theorem A98(k:Nat):FO 65 [.sl .col false] [.bool] (Aj6 k):=fR (px:=A0c _ k) (n:=1) Tryz.func65 rfl (λcx H=>by have h0:Lv cx (A0c (HV [.bool]) k):=lv H (c1 H Ug (c1 H Acc (c1 H Ak0 Ah))) Ae Ab;have hlacols_0:=lO H h0 (b:=lp Tryz.f65 0) (k:=k) (n:=0) (s:=Ajw) (step:=Xe) (λ_ _ _ (_,_,_,_,_,_)=>by kernel_rfl) Aj;exact⟨h0,(Bh Aj hlacols_0)⟩) λ_=>by kernel_rfl
def Xw(c:Col):Bool:=decide (2<=c.kind)&&decide (c.kind<=5)&&(decide (c.ref=[])||Dr c.ref)
def A6u(l:List Col):Option Bool:=if l.length<=1000000 then some (l.all Xw&&C7 (l.length:Int)&&Dy (l.map (·.name))) else none
def Auc:FT [.sl .col false] [.bool]:=λx=>A6u x
theorem A46{R:Type}{kx:Ex->Xd->Option R}{l:List Col}{c:Bool->Option R}(hn:l.length<=1000000)(h1:∀o i,kx .ret (l,false,o,l,(l.length:Int),i)=c false)(h2:∀q o i,kx (.exit 0) (l,q,o,l,(l.length:Int),i)=cond (C7 (l.length:Int)) (c (Dy o)) (c false))(k:Nat)(hk:l.length<k) :
  Ak (λrec=>Xe rec kx) k (l,false,[],l,(l.length:Int),0)=c (l.all Xw&&C7 (l.length:Int)&&Dy (l.map (·.name))):=by
 have hl:ln l.length:=by simp only[ln];omega
 refine(B1 l.length (λi=>(l,false,(l.take i).map (·.name),l,(l.length:Int),(i:Int))) (λi=>c ((l.drop i).all Xw&&C7 (l.length:Int)&&Dy (l.map (·.name)))) (λi hi rec hr =>?_) (λrec =>?_) k 0 (Nat.zero_le _) (by omega)).trans (by rw[Zq1])
 ·have ht:(l.take (i+1)).map (·.name)=(l.take i).map (·.name)++[l[i].name]:=by rw[List.take_add_one,Zo1 hi,List.map_append];rfl
  have hlen:((l.take i).map (·.name)).length+1<=Al:=by simp only[List.length_map,List.length_take,Al];omega
  rw[ht] at hr;simp only[Xe,E7 hi,Aa,A5 hi,chk,A8 (c :=.col) hi,A1 hi hl,hr,h1,An hi,Zv1,Xw,Ze1 hlen];by_cases ha:l[i].kind<2
  ·rw[Ze1 ha,Zd1 (show ¬ 2<=l[i].kind by omega)];rfl
  ·rw[Zd1 ha,Ze1 (show 2<=l[i].kind by omega)];by_cases hb : 5<l[i].kind
   ·rw[Ze1 hb,Zd1 (show ¬l[i].kind<=5 by omega)];rfl
   ·rw[Zd1 hb,Ze1 (show l[i].kind<=5 by omega)];cases decide (l[i].ref=[])<;>cases Dr l[i].ref<;>rfl
 ·simp only[Xe,E8,Af,h2];rw[Zk1 (Zn1 _),List.take_length];cases C7 (l.length:Int)<;>rfl
theorem Bi2:FO 65 [.sl .col false] [.bool] Auc :=.fin 0 A98 λl r hb hx=>⟨l.length+1,by
 simp only[Auc,A6u] at hx;split at hx
 ·rename_i h;rw[<-hx];simp only[Aj6];refine A46 (l:=l) (c:=some) h (λ_ _=>rfl) (λ_ _ _ =>?_) (l.length+1) (by omega);cases C7 (l.length:Int)<;>rfl
 ·cases hx⟩
def Anr:Sig:=⟨29,[(0,.sl .set false),(2,.bool),(3,.sl .str true),(6,.sl .set false),(7,.int .i64),(8,.int .i64)],[],[],0,0,0,[],[]⟩
abbrev V7:=List SetE×Bool×List Str×List SetE×Int×Int
def Vn{R:Type}(rec:V7->Option R)(kx:Ex->V7->Option R)(v:V7):Option R:=match v with
 |(v,v1,v2,v3,v4,v5) =>
 cond (decide (v5<v4)) (
  chk (inb v5 v3.length) (
  cond (!(Bl (Fb ((at' .set v3 v5).e)) 30)) (
   kx .ret (v,false,v2,v3,v4,v5)) (
   chk (decide (v2.length+1<=Al)) (
   rec (v,v1,(v2++[((at' .set v3 v5).name)]),v3,v4,(wr .i64 (v5+1))))))) (
  kx (.exit 0) (v,v1,v2,v3,v4,v5))
def A0m(R:Type)(k:Nat):Px R:=pxO [(39,cA Om),(66,cA Adc),(67,cA Adm)] [] [(3,Ao k Anr (Vn))] []
def Amo(k:Nat)(x:HV [.sl .set false]):Option (HV [.bool]):=match x with
 |l =>
 Ak (λrec=>Vn rec (λe vz=>match vz with|(v6,v7,v8,_,_,_)=>match e with
  |.ret =>
  some v7
  |.exit 0 =>
  cond ((C7 (v6.length:Int))) (
   some (Dy v8)) (
   some false)
  |_=>none)) k (l,false,[],l,(l.length:Int),0)
theorem Bdm(k:Nat):FO 70 [.sl .set false] [.bool] (Amo k):=fR (px:=A0m _ k) (n:=1) Tryz.func70 rfl (λcx H=>by have h0:Lv cx (A0m (HV [.bool]) k):=lv H (c1 H Ox (c1 H Acc (c1 H Ak0 Ah))) Ae Ab;have hlasets_0:=lO H h0 (b:=lp Tryz.f70 0) (k:=k) (n:=0) (s:=Anr) (step:=Vn) (λ_ _ _ (_,_,_,_,_,_)=>by kernel_rfl) Aj;exact⟨h0,(Bh Aj hlasets_0)⟩) λ_=>by kernel_rfl
def A88(l:List SetE):Option Bool:=if l.length<=1000000 then some (l.all (λx=>Bl x.e 30)&&C7 (l.length:Int)&&Dy (l.map (·.name))) else none
def Auq:FT [.sl .set false] [.bool]:=λx=>A88 x
theorem A12{R:Type}{kx:Ex->V7->Option R}{l:List SetE}{c:Bool->Option R}(hn:l.length<=1000000)(h1:∀o i,kx .ret (l,false,o,l,(l.length:Int),i)=c false)(h2:∀q o i,kx (.exit 0) (l,q,o,l,(l.length:Int),i)=cond (C7 (l.length:Int)) (c (Dy o)) (c false))(k:Nat)(hk:l.length<k) :
  Ak (λrec=>Vn rec kx) k (l,false,[],l,(l.length:Int),0)=c (l.all (λx=>Bl x.e 30)&&C7 (l.length:Int)&&Dy (l.map (·.name))):=by
 have hl:ln l.length:=by simp only[ln];omega
 refine(B1 l.length (λi=>(l,false,(l.take i).map (·.name),l,(l.length:Int),(i:Int))) (λi=>c ((l.drop i).all (λx=>Bl x.e 30)&&C7 (l.length:Int)&&Dy (l.map (·.name)))) (λi hi rec hr =>?_) (λrec =>?_) k 0 (Nat.zero_le _) (by omega)).trans (by rw[Zq1])
 ·have ht:(l.take (i+1)).map (·.name)=(l.take i).map (·.name)++[l[i].name]:=by rw[List.take_add_one,Zo1 hi,List.map_append];rfl
  have hlen:((l.take i).map (·.name)).length+1<=Al:=by simp only[List.length_map,List.length_take,Al];omega
  rw[ht] at hr;simp only[Vn,E7 hi,Aa,A5 hi,chk,A8 (c :=.set) hi,A1 hi hl,hr,h1,An hi,Zv1,Ze1 hlen,Ez];cases Bl l[i].e 30<;>rfl
 ·simp only[Vn,E8,Af,h2];rw[Zk1 (Zn1 _),List.take_length];cases C7 (l.length:Int)<;>rfl
theorem Bjo:FO 70 [.sl .set false] [.bool] Auq :=.fin 0 Bdm λl r hb hx=>⟨l.length+1,by
 simp only[Auq,A88] at hx;split at hx
 ·rename_i h;rw[<-hx];simp only[Amo];refine A12 (l:=l) (c:=some) h (λ_ _=>rfl) (λ_ _ _ =>?_) (l.length+1) (by omega);cases C7 (l.length:Int)<;>rfl
 ·cases hx⟩
def noX:Xpr :=.mk 0 ⟨0,0,[]⟩ [] []
def noS:Stm:=⟨0,[],[],[],[],[],[],[],false,noX,[],[],0⟩
def Blx(R:Type):Px R:=pxO [] [] [] []
def Ajp(x:HV [.sv .stmt]):Option (HV [.sv .stmt]):=match x with
 |s =>
 cond (decide (s.kind=1)) (
  some (Stm.mk 0 [] s.on [] [] [] s.rows s.sets s.has (Fb s.whr) s.order s.desc s.most)) (
  cond (decide (s.kind=3)) (
  some (Stm.mk 0 [] [] s.cols [] s.l s.rows s.sets s.has (Fb s.whr) s.order s.desc s.most)) (
  cond (decide (s.kind=5)) (
   some (Stm.mk 0 [] s.on s.cols s.names s.l [] s.sets s.has (Fb s.whr) s.order s.desc s.most)) (
   cond (decide (s.kind=6)) (
   some (Stm.mk 0 [] s.on s.cols s.names s.l s.rows [] false (Xpr.mk 0 ⟨0,0,[]⟩ [] []) s.order s.desc s.most)) (
   cond (decide (s.kind=7)) (
    some (Stm.mk 0 [] s.on s.cols s.names s.l s.rows s.sets false (Xpr.mk 0 ⟨0,0,[]⟩ [] []) s.order s.desc s.most)) (
    cond (decide (s.kind=8)) (
    some (Stm.mk 0 [] s.on s.cols s.names [] s.rows s.sets false (Xpr.mk 0 ⟨0,0,[]⟩ [] []) [] [] 0)) (
    some (Stm.mk 0 [] s.on s.cols s.names s.l s.rows s.sets s.has (Fb s.whr) s.order s.desc s.most)))))))
theorem Bd1:FO 64 [.sv .stmt] [.sv .stmt] (Ajp):=fR (px:=Blx _) (n:=0) Tryz.func64 rfl (λ_ H=>⟨lv H Ah Ae Ab,Aj⟩) λ_=>by kernel_rfl
def Co(s:Stm):Stm :=
 if s.kind=1 then { s with kind:=0,name:=[],cols:=[],names:=[],l:=[] }
 else if s.kind=3 then { s with kind:=0,name:=[],on:=[],names:=[] }
 else if s.kind=5 then { s with kind:=0,name:=[],rows:=[] }
 else if s.kind=6 then { s with kind:=0,name:=[],sets:=[],has:=false,whr:=noX }
 else if s.kind=7 then { s with kind:=0,name:=[],has:=false,whr:=noX }
 else if s.kind=8 then { s with kind:=0,name:=[],l:=[],has:=false,whr:=noX,order:=[],desc:=[],most:=0 }
 else { s with kind:=0,name:=[] }
def Auv:FT [.sv .stmt] [.sv .stmt]:=λx=>some (Co x)
theorem Bl1:FO 64 [.sv .stmt] [.sv .stmt] Auv :=.fin0 Bd1 λs r hb hx=>by
 simp only[Auv,Za1] at hx;rw[<-hx];simp only[Ajp,Co,Ez,Bool.cond_decide];split; · rfl
 split; · rfl
 split; · rfl
 split; · rfl
 split; · rfl
 split<;>rfl
def Bdv(R:Type):Px R:=pxO [(63,cA R5),(64,cA Auv),(27,cA Azu),(65,cA Auc),(66,cA Adc),(67,cA Adm),(68,cA Aca),(69,cA Auu),(70,cA Auq),(71,cA Azb)] [] [] []
def Aid(x:HV [.sv .stmt]):Option (HV [.int .i64]):=match x with
 |s =>
 let j7:=λ(p1:Bool) =>
  cond (decide (s.kind=1)) (
  let j1:=λ(p2:Bool) =>
   let j:=λ(p3:Bool) =>
   cond (p3) (
    cond ((Dy s.names)) (
    cond (!(G8 s.l)) (
     some 2) (
     some 0)) (
    some 2)) (
    some 2)
   cond (p2) (
   j (C7 (s.names.length:Int))) (
   j false)
  cond (p1) (
   (A6u s.cols).bind λx =>
   j1 x) (
   j1 false)) (
  cond (decide (s.kind=3)) (
   let j2:=λ(p7:Bool) =>
   cond (p7) (
    cond ((C7 (s.names.length:Int))) (
    cond (!(Dy s.names)) (
     some 2) (
     some 0)) (
    some 2)) (
    some 2)
   cond (p1) (
   j2 (Dr s.on)) (
   j2 false)) (
   let j6:=λ(a:Bool) =>
   cond (a) (
    cond (!p1) (
    some 2) (
    some 0)) (
    cond (decide (s.kind=5)) (
    cond (p1) (
     cond (!(Ato s.rows)) (
     some 2) (
     some 0)) (
     some 2)) (
    cond (decide (s.kind=6)) (
     cond (p1) (
     (A88 s.sets).bind λx1 =>
      cond (x1) (
      cond (!(Iz s)) (
       some 2) (
       some 0)) (
      some 2)) (
     some 2)) (
     cond (decide (s.kind=7)) (
     cond (p1) (
      cond (!(Iz s)) (
      some 2) (
      some 0)) (
      some 2)) (
     cond (decide (s.kind=8)) (
      let j5:=λ(b:Bool) =>
      let j4:=λ(c:Bool) =>
       let j3:=λ(d:Bool) =>
       cond (d) (
        cond (decide ((s.desc.length:Int)=(s.order.length:Int))) (
        cond (!(decide ((-1)<=s.most))) (
         some 2) (
         some 0)) (
        some 2)) (
        some 2)
       cond (c) (
       j3 (Dy s.order)) (
       j3 false)
      cond (b) (
       j4 (Iz s)) (
       j4 false)
      cond (p1) (
      j5 (G8 s.l)) (
      j5 false)) (
      some 2)))))
   cond (decide (s.kind=2)) (
   j6 (decide (s.kind=2))) (
   j6 (decide (s.kind=4)))))
 cond ((Dr s.name)) (
  j7 (A2f (Co s) (Stm.mk 0 [] [] [] [] [] [] [] false (Xpr.mk 0 ⟨0,0,[]⟩ [] []) [] [] 0))) (
  j7 false)
theorem A38:FO 25 [.sv .stmt] [.int .i64] (Aid):=fR (px:=Bdv _) (n:=0) Tryz.func25 rfl (λ_ H=>⟨lv H (c1 H Ug (c1 H Bl1 (c1 H Bbt (c1 H Bi2 (c1 H Acc (c1 H Ak0 (c1 H Aqs (c1 H Bjm (c1 H Bjo (c1 H Bat Ah)))))))))) Ae Ab,Aj⟩) λ_=>by kernel_rfl
def E4(s:Stm):Bool:=Dr s.name&&decide (Co s=noS)&&(
 if s.kind=1 then s.cols.all Xw&&C7 (s.cols.length:Int)&&Dy (s.cols.map (·.name))&&C7 (s.names.length:Int)&&Dy s.names&&G8 s.l
 else if s.kind=3 then Dr s.on&&C7 (s.names.length:Int)&&Dy s.names
 else if s.kind=2\/s.kind=4 then true
 else if s.kind=5 then Ato s.rows
 else if s.kind=6 then s.sets.all (λx=>Bl x.e 30)&&C7 (s.sets.length:Int)&&Dy (s.sets.map (·.name))&&Iz s
 else if s.kind=7 then Iz s
 else if s.kind=8 then G8 s.l&&Iz s&&Dy s.order&&decide (s.desc.length=s.order.length)&&decide (-1<=s.most)
 else false)
def N8(s:Stm):Option Int:=if s.cols.length<=1000000/\s.sets.length<=1000000 then some (cond (E4 s) 0 2) else none
def Aau:FT [.sv .stmt] [.int .i64]:=λx=>N8 x
theorem Aqh:FO 25 [.sv .stmt] [.int .i64] Aau :=.fin0 A38 λs r hb hx=>by
 simp only[Aau,N8] at hx;split at hx
 case isFalse=>cases hx
 rename_i h;rw[<-hx];have e1:A6u s.cols=some (s.cols.all Xw&&C7 (s.cols.length:Int)&&Dy (s.cols.map (·.name))):=if_pos h.1;have e2:A88 s.sets=some (s.sets.all (λx=>Bl x.e 30)&&C7 (s.sets.length:Int)&&Dy (s.sets.map (·.name))):=if_pos h.2;have e3:A2f (Co s) (Stm.mk 0 [] [] [] [] [] [] [] false (Xpr.mk 0 ⟨0,0,[]⟩ [] []) [] [] 0)=decide (Co s=noS):=Bcs _ _;have e4:decide ((s.desc.length:Int)=(s.order.length:Int))=decide (s.desc.length=s.order.length):=Zy1.2 (by omega);simp only[Aid,E4,e1,e2,e3,e4,Zc1];generalize Dr s.name=A;generalize decide (Co s=noS)=B;generalize (s.cols.all Xw&&C7 (s.cols.length:Int)&&Dy (s.cols.map (·.name)))=C;generalize C7 (s.names.length:Int)=D;generalize Dy s.names=E;generalize G8 s.l=F;generalize Dr s.on=G;generalize Ato s.rows=H;generalize (s.sets.all (λx=>Bl x.e 30)&&C7 (s.sets.length:Int)&&Dy (s.sets.map (·.name)))=I;generalize Iz s=J;generalize Dy s.order=K;generalize decide (s.desc.length=s.order.length)=L;generalize decide (-1<=s.most)=M;by_cases h1:s.kind=1
 ·rw[Ze1 h1,if_pos h1];cases A<;>cases B<;>cases C<;>cases D<;>cases E<;>cases F<;>rfl
 rw[Zd1 h1,if_neg h1];by_cases h3:s.kind=3
 ·rw[Ze1 h3,if_pos h3];cases A<;>cases B<;>cases G<;>cases D<;>cases E<;>rfl
 rw[Zd1 h3,if_neg h3];by_cases h24:s.kind=2\/s.kind=4
 ·rw[if_pos h24];rcases h24 with h2|h2
  ·rw[Ze1 h2];cases A<;>cases B<;>rfl
  ·rw[Ze1 h2,Zd1 (show ¬s.kind=2 by omega)];cases A<;>cases B<;>rfl
 rw[if_neg h24,Zd1 (show ¬s.kind=2 by omega),Zd1 (show ¬s.kind=4 by omega)];by_cases h5:s.kind=5
 ·rw[Ze1 h5,if_pos h5];cases A<;>cases B<;>cases H<;>rfl
 rw[Zd1 h5,if_neg h5];by_cases h6:s.kind=6
 ·rw[Ze1 h6,if_pos h6];cases A<;>cases B<;>cases I<;>cases J<;>rfl
 rw[Zd1 h6,if_neg h6];by_cases h7:s.kind=7
 ·rw[Ze1 h7,if_pos h7];cases A<;>cases B<;>cases J<;>rfl
 rw[Zd1 h7,if_neg h7];by_cases h8:s.kind=8
 ·rw[Ze1 h8,if_pos h8];cases A<;>cases B<;>cases F<;>cases J<;>cases K<;>cases L<;>cases M<;>rfl
 rw[Zd1 h8,if_neg h8];cases A<;>cases B<;>rfl
def Ka:Sig:=⟨1,[],[(0,.ptr 0 0)],[(0,.cells [.sl .tok false,.int .i64,.bool,.int .i64])],1,1,0,[],[]⟩
def J5:Sig:=⟨1,[(0,.sv .tok)],[],[(0,.cells [.sl .tok false,.int .i64,.bool,.int .i64])],1,1,0,[],[]⟩
abbrev A73:=List Tok×Int×Bool×Int
abbrev A52:=Tok×List Tok×Int×Bool×Int
def Blj(R:Type):Px R:=pxO [] [] [] []
def Zk(x:A73):Option (A52):=match x with
 |(l,n,b,p) =>
 cond (decide ((l.length:Int)=0)) (
  some ((Tok.mk 0 n [] 0),l,n,b,p)) (
  chk (inb 0 l.length) (
  some ((at' .tok l 0),l,n,b,p)))
theorem Bbj:FM 158 Ka J5 (Zk):=fRL (px:=Blj _) (n:=0) Tryz.func158 rfl (λ_ H=>⟨lv H Ah Ae Ab,Aj⟩) λ(_,_,_,_)=>by kernel_rfl
def D9:A73->Option A52:=λx=>Zk x
theorem O4:FM 158 Ka J5 (D9):=Bbj
def L1:Sig:=⟨1,[],[(0,.ptr 0 0)],[(0,.cells [.sl .tok false,.int .i64,.bool,.int .i64])],1,1,0,[],[]⟩
def Mi:Sig:=⟨1,[(0,.sv .tok)],[],[(0,.cells [.sl .tok false,.int .i64,.bool,.int .i64])],1,1,0,[],[]⟩
abbrev A76:=List Tok×Int×Bool×Int
abbrev A70:=Tok×List Tok×Int×Bool×Int
def Bf3(R:Type):Px R:=pxO [(158,Am Ka J5 D9)] [] [] []
def Zo(x:A76):Option (A70):=match x with
 |(l,n,b,p) =>
 (D9 (l,n,b,p)).bind λ(x,x1,x2,x3,x4) =>
  cond (decide (0<(x1.length:Int))) (
  chk (Dp 1 x1.length x1.length) (
   some (x,(x1.drop (1:Int).toNat),x2,x3,x4))) (
  some (x,x1,x2,x3,x4))
theorem Bc5:FM 159 L1 Mi (Zo):=fRL (px:=Bf3 _) (n:=0) Tryz.func159 rfl (λ_ H=>⟨lv H (l1 H O4 Ah) Ae Ab,Aj⟩) λ(_,_,_,_)=>by kernel_rfl
def Cj:A76->Option A70:=λx=>Zo x
theorem Va:FM 159 L1 Mi (Cj):=Bc5
def Dz:Sig:=⟨2,[(1,.str)],[(0,.ptr 0 0)],[(0,.cells [.sl .tok false,.int .i64,.bool,.int .i64])],1,1,0,[],[]⟩
def D3:Sig:=⟨1,[(0,.bool)],[],[(0,.cells [.sl .tok false,.int .i64,.bool,.int .i64])],1,1,0,[],[]⟩
abbrev Bqk:=Str×List Tok×Int×Bool×Int
abbrev Bqj:=Bool×List Tok×Int×Bool×Int
def Bsn(R:Type):Px R:=pxO [(158,Am Ka J5 D9),(159,Am L1 Mi Cj)] [] [] []
def Abg(x:Bqk):Option (Bqj):=match x with
 |(s,l,n,b,p) =>
 (D9 (l,n,b,p)).bind λ(x,x1,x2,x3,x4) =>
  cond (!decide (x.kind=1)) (
  cond (!decide (x.kind=6)) (
   some (false,x1,x2,x3,x4)) (
   cond (!decide (x.s=s)) (
   some (false,x1,x2,x3,x4)) (
   (Cj (x1,x2,x3,x4)).bind λ(_,a,c,d,e) =>some (true,a,c,d,e)))) (
  cond (!decide (x.s=s)) (
   some (false,x1,x2,x3,x4)) (
   (Cj (x1,x2,x3,x4)).bind λ(_,f,g,h,i) =>
   some (true,f,g,h,i)))
theorem Bm5:FM 117 Dz D3 (Abg):=fRL (px:=Bsn _) (n:=0) Tryz.func117 rfl (λ_ H=>⟨lv H (l1 H O4 (l1 H Va Ah)) Ae Ab,Aj⟩) λ(_,_,_,_,_)=>by kernel_rfl
def Au:Bqk->Option Bqj:=λx=>Abg x
theorem Fa:FM 117 Dz D3 (Au):=Bm5
def H4:Sig:=⟨1,[],[(0,.ptr 0 0)],[(0,.cells [.sl .tok false,.int .i64,.bool,.int .i64])],1,1,0,[],[]⟩
def H6:Sig:=⟨0,[],[],[(0,.cells [.sl .tok false,.int .i64,.bool,.int .i64])],1,1,0,[],[]⟩
abbrev Ay7:=List Tok×Int×Bool×Int
abbrev Ayw:=List Tok×Int×Bool×Int
def Bar(R:Type):Px R:=pxO [(158,Am Ka J5 D9)] [] [] []
def S7(x:Ay7):Option (Ayw):=match x with
 |(l,n,b,p) =>
 cond (!b) (
  (D9 (l,n,b,p)).bind λ(x,x1,x2,_,_) =>
  some (x1,x2,true,x.pos)) (
  some (l,n,b,p))
theorem A45:FM 127 H4 H6 (S7):=fRL (px:=Bar _) (n:=0) Tryz.func127 rfl (λ_ H=>⟨lv H (l1 H O4 Ah) Ae Ab,Aj⟩) λ(_,_,_,_)=>by kernel_rfl
def Ch:Ay7->Option Ayw:=λx=>S7 x
theorem Lk:FM 127 H4 H6 (Ch):=A45
def Ee:Sig:=⟨2,[(1,.sl .str false)],[(0,.ptr 0 0)],[(0,.cells [.sl .tok false,.int .i64,.bool,.int .i64])],1,1,0,[],[]⟩
def D7:Sig:=⟨0,[],[],[(0,.cells [.sl .tok false,.int .i64,.bool,.int .i64])],1,1,0,[],[]⟩
abbrev A59:=List Str×List Tok×Int×Bool×Int
abbrev Awh:=List Tok×Int×Bool×Int
def Alh:Sig:=⟨27,[(6,.sl .str false),(7,.int .i64),(8,.int .i64)],[(0,.ptr 0 0)],[(0,.cells [.sl .tok false,.int .i64,.bool,.int .i64])],1,1,0,[],[]⟩
abbrev Vi:=List Str×Int×Int×List Tok×Int×Bool×Int
def R4{R:Type}(rec:Vi->Option R)(kx:Ex->Vi->Option R)(v:Vi):Option R:=match v with
 |(v,v1,v2,w,w1,w2,w3) =>
 cond (decide (v2<v1)) (
  chk (inb v2 v.length) (
  let j:=λ(p2:Bool) (q4:List Tok) (q5:Int) (q6:Bool) (q7:Int) =>
   cond (p2) (
   (Ch (q4,q5,q6,q7)).bind λ(x5,x6,x7,x8) =>kx .ret (v,v1,v2,x5,x6,x7,x8)) (
   rec (v,v1,(wr .i64 (v2+1)),q4,q5,q6,q7))
  cond (w2) (
   j true w w1 w2 w3) (
   (Au ((at' .str v v2),w,w1,w2,w3)).bind λ(x,x1,x2,x3,x4) =>
   j (!x) x1 x2 x3 x4))) (
  kx (.exit 0) (v,v1,v2,w,w1,w2,w3))
def A0p(R:Type)(k:Nat):Px R:=pxO [(117,Am Dz D3 Au),(127,Am H4 H6 Ch)] [] [(1,Ao k Alh (R4))] []
def Ms(k:Nat)(x:A59):Option (Awh):=match x with
 |(ss,l,n,b,p) =>
 Ak (λrec=>R4 rec (λe vz=>match vz with|(_,_,_,v6,v7,v8,v9)=>match e with
  |.ret =>
  some (v6,v7,v8,v9)
  |.exit 0 =>
  some (v6,v7,v8,v9)
  |_=>none)) k (ss,(ss.length:Int),0,l,n,b,p)
theorem Bd5(k:Nat):FM 119 Ee D7 (Ms k):=fRL (px:=A0p _ k) (n:=1) Tryz.func119 rfl (λcx H=>by have h0:Lv cx (A0p (Awh) k):=lv H (l1 H Fa (l1 H Lk Ah)) Ae Ab;have hlpmust_0:=lO H h0 (b:=lp Tryz.f119 0) (k:=k) (n:=0) (s:=Alh) (step:=R4) (λ_ _ _ (_,_,_,_,_,_,_)=>by kernel_rfl) Aj;exact⟨h0,(Bh Aj hlpmust_0)⟩) λ(_,_,_,_,_)=>by kernel_rfl
def Ai:A59->Option Awh:=λx=>Ms ((x.1.length+1)) x
theorem Gm:FM 119 Ee D7 (Ai):=FnLn.fin (ι:=Nat) (sg:=Ee) (so:=D7) 0 (F:=λk=>Ms k) (λk=>Bd5 k) λx _ _ hx=>⟨(x.1.length+1),hx⟩
def Gn:Sig:=⟨1,[],[(0,.ptr 0 0)],[(0,.cells [.sl .tok false,.int .i64,.bool,.int .i64])],1,1,0,[],[]⟩
def Gt:Sig:=⟨1,[(0,.str)],[],[(0,.cells [.sl .tok false,.int .i64,.bool,.int .i64])],1,1,0,[],[]⟩
abbrev A78:=List Tok×Int×Bool×Int
abbrev A8e:=Str×List Tok×Int×Bool×Int
def Bhn(R:Type):Px R:=pxO [(158,Am Ka J5 D9),(127,Am H4 H6 Ch),(159,Am L1 Mi Cj)] [] [] []
def Lw(x:A78):Option (A8e):=match x with
 |(l,n,b,p) =>
 (D9 (l,n,b,p)).bind λ(x,x1,x2,x3,x4) =>
  let j:=λ(p2:Bool) =>
  cond (p2) (
   (Ch (x1,x2,x3,x4)).bind λ(x5,x6,x7,x8) =>
   some ([],x5,x6,x7,x8)) (
   (Cj (x1,x2,x3,x4)).bind λ(x9,a,c,d,e) =>
   some (x9.s,a,c,d,e))
  cond (x3) (
  j true) (
  j (!decide (x.kind=2)))
theorem Bd0:FM 120 Gn Gt (Lw):=fRL (px:=Bhn _) (n:=0) Tryz.func120 rfl (λ_ H=>⟨lv H (l1 H O4 (l1 H Lk (l1 H Va Ah))) Ae Ab,Aj⟩) λ(_,_,_,_)=>by kernel_rfl
def Az:A78->Option A8e:=λx=>Lw x
theorem I1:FM 120 Gn Gt (Az):=Bd0
def Cu:Sig:=⟨1,[],[(0,.ptr 0 0)],[(0,.cells [.sl .tok false,.int .i64,.bool,.int .i64])],1,1,0,[],[]⟩
def Cv:Sig:=⟨1,[(0,.sv .expr)],[],[(0,.cells [.sl .tok false,.int .i64,.bool,.int .i64])],1,1,0,[],[]⟩
abbrev A3:=List Tok×Int×Bool×Int
abbrev A2:=Xpr×List Tok×Int×Bool×Int
def Afq:Sig:=⟨1,[],[(0,.ptr 0 0)],[(0,.cells [.sl .tok false,.int .i64,.bool,.int .i64])],1,1,0,[],[]⟩
def Afc:Sig:=⟨1,[(0,.sv .expr)],[],[(0,.cells [.sl .tok false,.int .i64,.bool,.int .i64])],1,1,0,[],[]⟩
abbrev A0z:=List Tok×Int×Bool×Int
abbrev Abn:=Xpr×List Tok×Int×Bool×Int
def Ah6(R:Type)(_rf:A3->Option A2):Px R:=pxO [(159,Am L1 Mi Cj)] [] [] []
noncomputable def Ar4(R:Type)(rf:A3->Option A2):Px R:=pxO [(158,Am Ka J5 D9),(159,Am L1 Mi Cj),(119,Am Ee D7 Ai),(90,Am Cu Cv rf),(209,Av 80 400 (Ah6 R rf) Tryz.f209)] [] [] []
def Ng(rf:A3->Option A2)(x:A0z):Option (Abn):=match x with
 |(l,n,b,p) =>
 (D9 (l,n,b,p)).bind λ(x,x1,x2,x3,x4) =>
  cond (x3) (
  some ((Xpr.mk 0 ⟨0,0,[]⟩ [] []),x1,x2,x3,x4)) (
  cond (decide (x.kind=2)) (
   (Cj (x1,x2,x3,x4)).bind λ(_,x6,x7,x8,x9) =>
   some ((Xpr.mk 2 ⟨0,0,[]⟩ x.s []),x6,x7,x8,x9)) (
   cond (decide (x.kind=3)) (
   (Cj (x1,x2,x3,x4)).bind λ(_,a,c,d,e) =>some ((Xpr.mk 1 ⟨3,x.n,[]⟩ [] []),a,c,d,e)) (
   cond (decide (x.kind=4)) (
    (Cj (x1,x2,x3,x4)).bind λ(_,f,g,h,i) =>
    some ((Xpr.mk 1 ⟨4,0,x.s⟩ [] []),f,g,h,i)) (
    cond (decide (x.kind=5)) (
    (Cj (x1,x2,x3,x4)).bind λ(_,k,m,o,q) =>some ((Xpr.mk 1 ⟨5,0,x.s⟩ [] []),k,m,o,q)) (
    let j2:=λ(p2:Bool) =>
     cond (p2) (
     (Cj (x1,x2,x3,x4)).bind λ(_,r,t,u,v) =>some ((Xpr.mk 1 ⟨2,1,[]⟩ [] []),r,t,u,v)) (
     let j1:=λ(p4:Bool) =>
      cond (p4) (
      (Cj (x1,x2,x3,x4)).bind λ(_,w,y,z,a0) =>some ((Xpr.mk 1 ⟨2,0,[]⟩ [] []),w,y,z,a0)) (
      let j:=λ(p6:Bool) =>
       cond (p6) (
       (Cj (x1,x2,x3,x4)).bind λ(_,a1,a2,a3,a4) =>some ((Xpr.mk 1 ⟨1,0,[]⟩ [] []),a1,a2,a3,a4)) (
       (Ai ([[40]],x1,x2,x3,x4)).bind λ(a5,a6,a7,a8) =>
        (rf (a5,a6,a7,a8)).bind λ(a9,aa,ab,ac,ad) =>
        (Ai ([[41]],aa,ab,ac,ad)).bind λ(ae,af,ag,ah) =>some (a9,ae,af,ag,ah))
      cond (decide (x.kind=1)) (
       j (decide (x.s=[78,85,76,76]))) (
       j false))
     cond (decide (x.kind=1)) (
      j1 (decide (x.s=[70,65,76,83,69]))) (
      j1 false))
    cond (decide (x.kind=1)) (
     j2 (decide (x.s=[84,82,85,69]))) (
     j2 false))))))
theorem A2g(rf:A3->Option A2)(hrf:FM 90 Cu Cv rf):FM 208 Afq Afc (Ng rf):=fRL (px:=Ar4 _ rf) (n:=0) Tryz.func208 rfl (λcx H=>by have h1:Lv cx (Ah6 (Abn) rf):=lv H (l1 H Va Ah) Ae Ab;have h0:Lv cx (Ar4 (Abn) rf):=lv H (l1 H O4 (l1 H Va (l1 H Gm (l1 H hrf (As (cR H h1 Tryz.func209 rfl (n:=0) (Aj)) Ah))))) Ae Ab;exact⟨h0,Aj⟩) λ(_,_,_,_)=>by kernel_rfl
def Gr(rf:A3->Option A2):A0z->Option Abn:=λx=>Ng rf x
theorem Bed(rf:A3->Option A2)(hrf:FM 90 Cu Cv rf):FM 208 Afq Afc (Gr rf):=A2g rf hrf
def Acx:Sig:=⟨1,[],[(0,.ptr 0 0)],[(0,.cells [.sl .tok false,.int .i64,.bool,.int .i64])],1,1,0,[],[]⟩
def Ac0:Sig:=⟨1,[(0,.sv .expr)],[],[(0,.cells [.sl .tok false,.int .i64,.bool,.int .i64])],1,1,0,[],[]⟩
abbrev Be4:=List Tok×Int×Bool×Int
abbrev Avq:=Xpr×List Tok×Int×Bool×Int
def Ap6:Sig:=⟨36,[(2,.int .i64),(27,.int .i64),(28,.int .i64)],[(8,.ptr 80 0),(10,.ptr 81 0)],[(0,.cells [.sl .tok false,.int .i64,.bool,.int .i64]),(1,.one (.sv .expr)),(80,.one (.sv .expr)),(81,.one (.sv .expr))],82,80,400,[],[]⟩
abbrev Adg:=Int×Int×Int×List Tok×Int×Bool×Int×Xpr×Xpr×Xpr
def Zt{R:Type}(rec:Adg->Option R)(kx:Ex->Adg->Option R)(v:Adg):Option R:=match v with
 |(a,b,c,w6,w7,w8,w9,d,e,f) =>
 cond (decide (c<b)) (
  rec (a,b,(wr .i64 (c+1)),w6,w7,w8,w9,d,e,(Xpr.mk a ⟨0,0,[]⟩ [] [f]))) (
  kx (.exit 2) (a,b,c,w6,w7,w8,w9,d,e,f))
def Asp:Sig:=⟨36,[(1,.str),(2,.int .i64),(9,.int .i64)],[(0,.ptr 0 0),(3,.bm 208 [.ptr 0 0]),(8,.ptr 80 0)],[(0,.cells [.sl .tok false,.int .i64,.bool,.int .i64]),(1,.one (.sv .expr)),(80,.one (.sv .expr))],81,80,400,[],[]⟩
abbrev Abt:=Str×Int×Int×List Tok×Int×Bool×Int×Xpr×Xpr
def Aen{R:Type}(rec:Abt->Option R)(kx:Ex->Abt->Option R)(v:Abt):Option R:=match v with
 |(v,v1,v2,w,w1,w2,w3,w4,w5) =>
 cond (!w2) (
  (Au (v,w,w1,w2,w3)).bind λ(x,x1,x2,x3,x4) =>
  cond (x) (
   rec (v,v1,(wr .i64 (v2+1)),x1,x2,x3,x4,w4,w5)) (
   kx (.exit 0) (v,v1,v2,x1,x2,x3,x4,w4,w5))) (
  kx (.exit 0) (v,v1,v2,w,w1,w2,w3,w4,w5))
def Asb(R:Type)(k:Nat)(rf:A3->Option A2):Px R:=pxO [(117,Am Dz D3 Au),(208,Am Afq Afc (Gr rf))] [] [(2,Ao k Asp (Aen)),(6,Ao k Ap6 (Zt))] []
noncomputable def A86(R:Type)(k:Nat)(rf:A3->Option A2):Px R:=pxO [(185,Av 80 400 (Asb R k rf) Tryz.f185)] [] [] []
def K5(k:Nat)(rf:A3->Option A2)(x:Be4):Option (Avq):=match x with
 |(l,n,b,p) =>
 Ak (λrec=>Aen rec (λe vz=>match vz with|(_,v4,v5,v6,v7,v8,v9,a,c)=>match e with
  |.exit 0 =>
  (Gr rf (v6,v7,v8,v9)).bind λ(x5,x6,x7,x8,x9) =>
   Ak (λrec=>Zt rec (λe vz=>match vz with|(_,_,_,d,f,g,h,_,_,i)=>match e with
   |.exit 2 =>some (i,d,f,g,h)
   |_=>none)) k (v4,v5,0,x6,x7,x8,x9,a,c,x5)
  |_=>none)) k ([45],15,0,l,n,b,p,(Xpr.mk 0 ⟨0,0,[]⟩ [] []),(Xpr.mk 0 ⟨0,0,[]⟩ [] []))
theorem Bez(k:Nat)(rf:A3->Option A2)(hrf:FM 90 Cu Cv rf):FM 206 Acx Ac0 (K5 k rf):=fRL (px:=A86 _ k rf) (n:=0) Tryz.func206 rfl (λcx H=>by have h1:Lv cx (Asb (Avq) k rf):=lv H (l1 H Fa (l1 H (Bed rf hrf) Ah)) Ae Ab;have hlpneg_0:=lO H h1 (b:=lp Tryz.f185 0) (k:=k) (n:=0) (s:=Asp) (step:=Aen) (λ_ _ _ (_,_,_,_,_,_,_,_,_)=>by kernel_rfl) Aj;have hlpneg_1:=lO H h1 (b:=lp Tryz.f185 1) (k:=k) (n:=0) (s:=Ap6) (step:=Zt) (λ_ _ _ (_,_,_,_,_,_,_,_,_,_)=>by kernel_rfl) Aj;have h0:Lv cx (A86 (Avq) k rf):=lv H (As (cR H h1 Tryz.func185 rfl (n:=2) ((Bh (Bh Aj hlpneg_0) hlpneg_1))) Ah) Ae Ab;exact⟨h0,Aj⟩) λ(_,_,_,_)=>by kernel_rfl
def Iq(rf:A3->Option A2):Be4->Option Avq:=λx=>K5 ((x.1.length+1)) rf x
theorem A8o(rf:A3->Option A2)(hrf:FM 90 Cu Cv rf):FM 206 Acx Ac0 (Iq rf):=FnLn.fin (ι:=Nat) (sg:=Acx) (so:=Ac0) 0 (F:=λk=>K5 k rf) (λk=>Bez k rf hrf) λx _ _ hx=>⟨(x.1.length+1),hx⟩
def Kb:Sig:=⟨1,[],[(0,.ptr 0 0)],[(0,.cells [.sl .tok false,.int .i64,.bool,.int .i64])],1,1,0,[],[]⟩
def Jy:Sig:=⟨1,[(0,.sv .expr)],[],[(0,.cells [.sl .tok false,.int .i64,.bool,.int .i64])],1,1,0,[],[]⟩
abbrev Ame:=List Tok×Int×Bool×Int
abbrev Ri:=Xpr×List Tok×Int×Bool×Int
def Xr:Sig:=⟨38,[(2,.sl .pair true),(17,.sl .pair false),(18,.int .i64),(19,.int .i64)],[(0,.ptr 0 0),(1,.bm 206 [.ptr 0 0]),(6,.ptr 80 0),(7,.ptr 81 0)],[(0,.cells [.sl .tok false,.int .i64,.bool,.int .i64]),(1,.one (.sv .expr)),(80,.one (.sv .expr)),(81,.one (.sv .expr))],82,80,400,[],[]⟩
abbrev Kx:=List PairS×List PairS×Int×Int×List Tok×Int×Bool×Int×Xpr×Xpr×Xpr
def Jp{R:Type}(rf:A3->Option A2)(rec:Kx->Option R)(kx:Ex->Kx->Option R)(v:Kx):Option R:=match v with
 |(v1,v2,v3,v4,w7,w8,w9,d,a,b,c) =>
 cond (decide (v4<v3)) (
  chk (inb v4 v2.length) (
  (Au ((at' .pair v2 v4).sign,w7,w8,w9,d)).bind λ(x5,x6,x7,x8,x9) =>
   cond (x5) (
   (Iq rf (x6,x7,x8,x9)).bind λ(e,f,g,h,i) =>kx (.exit 1) (v1,v2,v3,v4,f,g,h,i,a,b,(Xpr.mk ((at' .pair v2 v4).kind) ⟨0,0,[]⟩ [] [c,e]))) (
   rec (v1,v2,v3,(wr .i64 (v4+1)),x6,x7,x8,x9,a,b,c)))) (
  kx (.exit 2) (v1,v2,v3,v4,w7,w8,w9,d,a,b,c))
def X5:Sig:=⟨38,[(2,.sl .pair true)],[(0,.ptr 0 0),(1,.bm 206 [.ptr 0 0]),(6,.ptr 80 0),(7,.ptr 81 0)],[(0,.cells [.sl .tok false,.int .i64,.bool,.int .i64]),(1,.one (.sv .expr)),(80,.one (.sv .expr)),(81,.one (.sv .expr))],82,80,400,[],[]⟩
abbrev Gy:=List PairS×List Tok×Int×Bool×Int×Xpr×Xpr×Xpr
def Jn{R:Type}(k:Nat)(rf:A3->Option A2)(rec:Gy->Option R)(kx:Ex->Gy->Option R)(v:Gy):Option R:=match v with
 |(v,w,w1,w2,w3,w4,w5,w6) =>
 cond (!w2) (
  Ak (λrc=>Jp rf rc (λe vz=>match vz with|(v5,_,_,_,v9,a,b,c,d,f,g)=>match e with
  |.exit 1 =>rec (v5,v9,a,b,c,d,f,g)
  |.exit 2 =>kx (.exit 0) (v5,v9,a,b,c,d,f,g)
  |_=>none)) k (v,v,(v.length:Int),0,w,w1,w2,w3,w4,w5,w6)) (
  kx (.exit 0) (v,w,w1,w2,w3,w4,w5,w6))
def Ys(R:Type)(k:Nat)(rf:A3->Option A2):Px R:=pxO [(206,Am Acx Ac0 (Iq rf)),(117,Am Dz D3 Au)] [] [(4,Ao k Xr (Jp rf)),(2,Ao k X5 (Jn k rf))] [(206,Dw Acx Ac0 (Iq rf))]
noncomputable def Agd(R:Type)(k:Nat)(rf:A3->Option A2):Px R:=pxO [(137,Av 80 400 (Ys R k rf) Tryz.f137)] [] [] []
def Eg(k:Nat)(rf:A3->Option A2)(x:Ame):Option (Ri):=match x with
 |(l,n,b,p) =>
 (Iq rf (l,n,b,p)).bind λ(x,x1,x2,x3,x4) =>
  Ak (λrec=>Jn k rf rec (λe vz=>match vz with|(_,a,c,d,f,_,_,g)=>match e with
  |.exit 0 =>some (g,a,c,d,f)
  |_=>none)) k ([(PairS.mk [42] 14)],x1,x2,x3,x4,(Xpr.mk 0 ⟨0,0,[]⟩ [] []),(Xpr.mk 0 ⟨0,0,[]⟩ [] []),x)
theorem At1(k:Nat)(rf:A3->Option A2)(hrf:FM 90 Cu Cv rf):FM 202 Kb Jy (Eg k rf):=fRL (px:=Agd _ k rf) (n:=0) Tryz.func202 rfl (λcx H=>by have h1:Lv cx (Ys (Ri) k rf):=lv H (l1 H (A8o rf hrf) (l1 H Fa Ah)) Ae (w1 H (A8o rf hrf) Ab);have hlpproduct_1:=lO H h1 (b:=lpC (lp Tryz.f137 0) 0) (k:=k) (n:=0) (s:=Xr) (step:=Jp rf) (λ_ _ _ (_,_,_,_,_,_,_,_,_,_,_)=>by kernel_rfl) Aj;have hlpproduct_0:=lO H h1 (b:=lp Tryz.f137 0) (k:=k) (n:=1) (s:=X5) (step:=Jn k rf) (λ_ _ _ (_,_,_,_,_,_,_,_)=>by kernel_rfl) (Bh Aj hlpproduct_1);have h0:Lv cx (Agd (Ri) k rf):=lv H (As (cR H h1 Tryz.func137 rfl (n:=2) ((Bh (Bh Aj hlpproduct_0) hlpproduct_1))) Ah) Ae Ab;exact⟨h0,Aj⟩) λ(_,_,_,_)=>by kernel_rfl
def B7(rf:A3->Option A2):Ame->Option Ri:=λx=>Eg ((x.1.length+3)) rf x
theorem Ag5(rf:A3->Option A2)(hrf:FM 90 Cu Cv rf):FM 202 Kb Jy (B7 rf):=FnLn.fin (ι:=Nat) (sg:=Kb) (so:=Jy) 0 (F:=λk=>Eg k rf) (λk=>At1 k rf hrf) λx _ _ hx=>⟨(x.1.length+3),hx⟩
def Aaw:Sig:=⟨1,[],[(0,.ptr 0 0)],[(0,.cells [.sl .tok false,.int .i64,.bool,.int .i64])],1,1,0,[],[]⟩
def Ace:Sig:=⟨1,[(0,.sv .expr)],[],[(0,.cells [.sl .tok false,.int .i64,.bool,.int .i64])],1,1,0,[],[]⟩
abbrev Blr:=List Tok×Int×Bool×Int
abbrev Aud:=Xpr×List Tok×Int×Bool×Int
def Asf:Sig:=⟨38,[(2,.sl .pair true),(17,.sl .pair false),(18,.int .i64),(19,.int .i64)],[(0,.ptr 0 0),(1,.bm 202 [.ptr 0 0]),(6,.ptr 80 0),(7,.ptr 81 0)],[(0,.cells [.sl .tok false,.int .i64,.bool,.int .i64]),(1,.one (.sv .expr)),(80,.one (.sv .expr)),(81,.one (.sv .expr))],82,80,400,[],[]⟩
abbrev Ab8:=List PairS×List PairS×Int×Int×List Tok×Int×Bool×Int×Xpr×Xpr×Xpr
def Afn{R:Type}(rf:A3->Option A2)(rec:Ab8->Option R)(kx:Ex->Ab8->Option R)(v:Ab8):Option R:=match v with
 |(v1,v2,v3,v4,w7,w8,w9,d,a,b,c) =>
 cond (decide (v4<v3)) (
  chk (inb v4 v2.length) (
  (Au ((at' .pair v2 v4).sign,w7,w8,w9,d)).bind λ(x5,x6,x7,x8,x9) =>
   cond (x5) (
   (B7 rf (x6,x7,x8,x9)).bind λ(e,f,g,h,i) =>kx (.exit 1) (v1,v2,v3,v4,f,g,h,i,a,b,(Xpr.mk ((at' .pair v2 v4).kind) ⟨0,0,[]⟩ [] [c,e]))) (
   rec (v1,v2,v3,(wr .i64 (v4+1)),x6,x7,x8,x9,a,b,c)))) (
  kx (.exit 2) (v1,v2,v3,v4,w7,w8,w9,d,a,b,c))
def Asj:Sig:=⟨38,[(2,.sl .pair true)],[(0,.ptr 0 0),(1,.bm 202 [.ptr 0 0]),(6,.ptr 80 0),(7,.ptr 81 0)],[(0,.cells [.sl .tok false,.int .i64,.bool,.int .i64]),(1,.one (.sv .expr)),(80,.one (.sv .expr)),(81,.one (.sv .expr))],82,80,400,[],[]⟩
abbrev Og:=List PairS×List Tok×Int×Bool×Int×Xpr×Xpr×Xpr
def Adt{R:Type}(k:Nat)(rf:A3->Option A2)(rec:Og->Option R)(kx:Ex->Og->Option R)(v:Og):Option R:=match v with
 |(v,w,w1,w2,w3,w4,w5,w6) =>
 cond (!w2) (
  Ak (λrc=>Afn rf rc (λe vz=>match vz with|(v5,_,_,_,v9,a,b,c,d,f,g)=>match e with
  |.exit 1 =>rec (v5,v9,a,b,c,d,f,g)
  |.exit 2 =>kx (.exit 0) (v5,v9,a,b,c,d,f,g)
  |_=>none)) k (v,v,(v.length:Int),0,w,w1,w2,w3,w4,w5,w6)) (
  kx (.exit 0) (v,w,w1,w2,w3,w4,w5,w6))
def Aq4(R:Type)(k:Nat)(rf:A3->Option A2):Px R:=pxO [(202,Am Kb Jy (B7 rf)),(117,Am Dz D3 Au)] [] [(4,Ao k Asf (Afn rf)),(2,Ao k Asj (Adt k rf))] [(202,Dw Kb Jy (B7 rf))]
noncomputable def A9g(R:Type)(k:Nat)(rf:A3->Option A2):Px R:=pxO [(137,Av 80 400 (Aq4 R k rf) Tryz.f137)] [] [] []
def Jf(k:Nat)(rf:A3->Option A2)(x:Blr):Option (Aud):=match x with
 |(l,n,b,p) =>
 (B7 rf (l,n,b,p)).bind λ(x,x1,x2,x3,x4) =>
  Ak (λrec=>Adt k rf rec (λe vz=>match vz with|(_,a,c,d,f,_,_,g)=>match e with
  |.exit 0 =>some (g,a,c,d,f)
  |_=>none)) k ([(PairS.mk [43] 12),(PairS.mk [45] 13)],x1,x2,x3,x4,(Xpr.mk 0 ⟨0,0,[]⟩ [] []),(Xpr.mk 0 ⟨0,0,[]⟩ [] []),x)
theorem Bg6(k:Nat)(rf:A3->Option A2)(hrf:FM 90 Cu Cv rf):FM 196 Aaw Ace (Jf k rf):=fRL (px:=A9g _ k rf) (n:=0) Tryz.func196 rfl (λcx H=>by have h1:Lv cx (Aq4 (Aud) k rf):=lv H (l1 H (Ag5 rf hrf) (l1 H Fa Ah)) Ae (w1 H (Ag5 rf hrf) Ab);have hlpsum_1:=lO H h1 (b:=lpC (lp Tryz.f137 0) 0) (k:=k) (n:=0) (s:=Asf) (step:=Afn rf) (λ_ _ _ (_,_,_,_,_,_,_,_,_,_,_)=>by kernel_rfl) Aj;have hlpsum_0:=lO H h1 (b:=lp Tryz.f137 0) (k:=k) (n:=1) (s:=Asj) (step:=Adt k rf) (λ_ _ _ (_,_,_,_,_,_,_,_)=>by kernel_rfl) (Bh Aj hlpsum_1);have h0:Lv cx (A9g (Aud) k rf):=lv H (As (cR H h1 Tryz.func137 rfl (n:=2) ((Bh (Bh Aj hlpsum_0) hlpsum_1))) Ah) Ae Ab;exact⟨h0,Aj⟩) λ(_,_,_,_)=>by kernel_rfl
def G5(rf:A3->Option A2):Blr->Option Aud:=λx=>Jf ((x.1.length+3)) rf x
theorem A8n(rf:A3->Option A2)(hrf:FM 90 Cu Cv rf):FM 196 Aaw Ace (G5 rf):=FnLn.fin (ι:=Nat) (sg:=Aaw) (so:=Ace) 0 (F:=λk=>Jf k rf) (λk=>Bg6 k rf hrf) λx _ _ hx=>⟨(x.1.length+3),hx⟩
def Ajm:Sig:=⟨1,[],[(0,.ptr 0 0)],[(0,.cells [.sl .tok false,.int .i64,.bool,.int .i64])],1,1,0,[],[]⟩
def Aix:Sig:=⟨1,[(0,.sv .expr)],[],[(0,.cells [.sl .tok false,.int .i64,.bool,.int .i64])],1,1,0,[],[]⟩
abbrev Bf6:=List Tok×Int×Bool×Int
abbrev A2e:=Xpr×List Tok×Int×Bool×Int
def As2:Sig:=⟨61,[(20,.sl .pair true),(21,.int .i64),(22,.int .i64)],[(0,.ptr 0 0),(2,.ptr 1 0),(3,.ptr 2 0)],[(0,.cells [.sl .tok false,.int .i64,.bool,.int .i64]),(1,.one (.sv .expr)),(2,.one (.sv .expr))],3,1,0,[],[]⟩
abbrev Ab6:=List PairS×Int×Int×List Tok×Int×Bool×Int×Xpr×Xpr
def Aed{R:Type}(rf:A3->Option A2)(rec:Ab6->Option R)(kx:Ex->Ab6->Option R)(v:Ab6):Option R:=match v with
 |(v,v1,v2,w,w1,w2,w3,w4,w5) =>
 cond (decide (v2<v1)) (
  chk (inb v2 v.length) (
  (Au ((at' .pair v v2).sign,w,w1,w2,w3)).bind λ(x5,x6,x7,x8,x9) =>
   cond (x5) (
   (G5 rf (x6,x7,x8,x9)).bind λ(a,b,c,d,e) =>kx .ret (v,v1,v2,b,c,d,e,(Xpr.mk ((at' .pair v v2).kind) ⟨0,0,[]⟩ [] [w5,a]),w5)) (
   rec (v,v1,(wr .i64 (v2+1)),x6,x7,x8,x9,w4,w5)))) (
  kx (.exit 0) (v,v1,v2,w,w1,w2,w3,w4,w5))
def A82(R:Type)(k:Nat)(rf:A3->Option A2):Px R:=pxO [(196,Am Aaw Ace (G5 rf)),(117,Am Dz D3 Au),(119,Am Ee D7 Ai)] [] [(5,Ao k As2 (Aed rf))] [(196,Dw Aaw Ace (G5 rf))]
def Kz(k:Nat)(rf:A3->Option A2)(x:Bf6):Option (A2e):=match x with
 |(l,n,b,p) =>
 (G5 rf (l,n,b,p)).bind λ(x,x1,x2,x3,x4) =>
  cond (x3) (
  some (x,x1,x2,x3,x4)) (
  Ak (λrec=>Aed rf rec (λe vz=>match vz with|(_,_,_,v6,v7,v8,v9,o,a)=>match e with
   |.ret =>
   some (o,v6,v7,v8,v9)
   |.exit 0 =>
   (Au ([73,83],v6,v7,v8,v9)).bind λ(q,c,d,f,g) =>
    cond (!q) (
    some (a,c,d,f,g)) (
    (Au ([78,79,84],c,d,f,g)).bind λ(r,s,t,u,v) =>
     (Ai ([[78,85,76,76]],s,t,u,v)).bind λ(h,i,j,m) =>
     cond (r) (
      some ((Xpr.mk 3 ⟨0,0,[]⟩ [] [(Xpr.mk 16 ⟨0,0,[]⟩ [] [a])]),h,i,j,m)) (
      some ((Xpr.mk 16 ⟨0,0,[]⟩ [] [a]),h,i,j,m)))
   |_=>none)) k ([(PairS.mk [61] 6),(PairS.mk [60,62] 7),(PairS.mk [60] 8),(PairS.mk [60,61] 9),(PairS.mk [62] 10),(PairS.mk [62,61] 11)],6,0,x1,x2,x3,x4,(Xpr.mk 0 ⟨0,0,[]⟩ [] []),x))
theorem Bjn(k:Nat)(rf:A3->Option A2)(hrf:FM 90 Cu Cv rf):FM 186 Ajm Aix (Kz k rf):=fRL (px:=A82 _ k rf) (n:=1) Tryz.func186 rfl (λcx H=>by have h0:Lv cx (A82 (A2e) k rf):=lv H (l1 H (A8n rf hrf) (l1 H Fa (l1 H Gm Ah))) Ae (w1 H (A8n rf hrf) Ab);have hlpcmp_0:=lO H h0 (b:=lp Tryz.f186 0) (k:=k) (n:=0) (s:=As2) (step:=Aed rf) (λ_ _ _ (_,_,_,_,_,_,_,_,_)=>by kernel_rfl) Aj;exact⟨h0,(Bh Aj hlpcmp_0)⟩) λ(_,_,_,_)=>by kernel_rfl
def Md(rf:A3->Option A2):Bf6->Option A2e:=λx=>Kz (10) rf x
theorem Bnl(rf:A3->Option A2)(hrf:FM 90 Cu Cv rf):FM 186 Ajm Aix (Md rf):=FnLn.fin (ι:=Nat) (sg:=Ajm) (so:=Aix) 0 (F:=λk=>Kz k rf) (λk=>Bjn k rf hrf) λ_ _ _ hx=>⟨10,hx⟩
def Ac2:Sig:=⟨1,[],[(0,.ptr 0 0)],[(0,.cells [.sl .tok false,.int .i64,.bool,.int .i64])],1,1,0,[],[]⟩
def Acz:Sig:=⟨1,[(0,.sv .expr)],[],[(0,.cells [.sl .tok false,.int .i64,.bool,.int .i64])],1,1,0,[],[]⟩
abbrev Bk8:=List Tok×Int×Bool×Int
abbrev At5:=Xpr×List Tok×Int×Bool×Int
def Ar7:Sig:=⟨36,[(2,.int .i64),(27,.int .i64),(28,.int .i64)],[(8,.ptr 80 0),(10,.ptr 81 0)],[(0,.cells [.sl .tok false,.int .i64,.bool,.int .i64]),(1,.one (.sv .expr)),(80,.one (.sv .expr)),(81,.one (.sv .expr))],82,80,400,[],[]⟩
abbrev Abs:=Int×Int×Int×List Tok×Int×Bool×Int×Xpr×Xpr×Xpr
def Aad{R:Type}(rec:Abs->Option R)(kx:Ex->Abs->Option R)(v:Abs):Option R:=match v with
 |(a,b,c,w6,w7,w8,w9,d,e,f) =>
 cond (decide (c<b)) (
  rec (a,b,(wr .i64 (c+1)),w6,w7,w8,w9,d,e,(Xpr.mk a ⟨0,0,[]⟩ [] [f]))) (
  kx (.exit 2) (a,b,c,w6,w7,w8,w9,d,e,f))
def Apv:Sig:=⟨36,[(1,.str),(2,.int .i64),(9,.int .i64)],[(0,.ptr 0 0),(3,.bm 186 [.ptr 0 0]),(8,.ptr 80 0)],[(0,.cells [.sl .tok false,.int .i64,.bool,.int .i64]),(1,.one (.sv .expr)),(80,.one (.sv .expr))],81,80,400,[],[]⟩
abbrev Aa2:=Str×Int×Int×List Tok×Int×Bool×Int×Xpr×Xpr
def Afu{R:Type}(rec:Aa2->Option R)(kx:Ex->Aa2->Option R)(v:Aa2):Option R:=match v with
 |(v,v1,v2,w,w1,w2,w3,w4,w5) =>
 cond (!w2) (
  (Au (v,w,w1,w2,w3)).bind λ(x,x1,x2,x3,x4) =>
  cond (x) (
   rec (v,v1,(wr .i64 (v2+1)),x1,x2,x3,x4,w4,w5)) (
   kx (.exit 0) (v,v1,v2,x1,x2,x3,x4,w4,w5))) (
  kx (.exit 0) (v,v1,v2,w,w1,w2,w3,w4,w5))
def Aqd(R:Type)(k:Nat)(rf:A3->Option A2):Px R:=pxO [(117,Am Dz D3 Au),(186,Am Ajm Aix (Md rf))] [] [(2,Ao k Apv (Afu)),(6,Ao k Ar7 (Aad))] []
noncomputable def A6p(R:Type)(k:Nat)(rf:A3->Option A2):Px R:=pxO [(185,Av 80 400 (Aqd R k rf) Tryz.f185)] [] [] []
def La(k:Nat)(rf:A3->Option A2)(x:Bk8):Option (At5):=match x with
 |(l,n,b,p) =>
 Ak (λrec=>Afu rec (λe vz=>match vz with|(_,v4,v5,v6,v7,v8,v9,a,c)=>match e with
  |.exit 0 =>
  (Md rf (v6,v7,v8,v9)).bind λ(x5,x6,x7,x8,x9) =>
   Ak (λrec=>Aad rec (λe vz=>match vz with|(_,_,_,d,f,g,h,_,_,i)=>match e with
   |.exit 2 =>some (i,d,f,g,h)
   |_=>none)) k (v4,v5,0,x6,x7,x8,x9,a,c,x5)
  |_=>none)) k ([78,79,84],3,0,l,n,b,p,(Xpr.mk 0 ⟨0,0,[]⟩ [] []),(Xpr.mk 0 ⟨0,0,[]⟩ [] []))
theorem Bft(k:Nat)(rf:A3->Option A2)(hrf:FM 90 Cu Cv rf):FM 167 Ac2 Acz (La k rf):=fRL (px:=A6p _ k rf) (n:=0) Tryz.func167 rfl (λcx H=>by have h1:Lv cx (Aqd (At5) k rf):=lv H (l1 H Fa (l1 H (Bnl rf hrf) Ah)) Ae Ab;have hlpnot_0:=lO H h1 (b:=lp Tryz.f185 0) (k:=k) (n:=0) (s:=Apv) (step:=Afu) (λ_ _ _ (_,_,_,_,_,_,_,_,_)=>by kernel_rfl) Aj;have hlpnot_1:=lO H h1 (b:=lp Tryz.f185 1) (k:=k) (n:=0) (s:=Ar7) (step:=Aad) (λ_ _ _ (_,_,_,_,_,_,_,_,_,_)=>by kernel_rfl) Aj;have h0:Lv cx (A6p (At5) k rf):=lv H (As (cR H h1 Tryz.func185 rfl (n:=2) ((Bh (Bh Aj hlpnot_0) hlpnot_1))) Ah) Ae Ab;exact⟨h0,Aj⟩) λ(_,_,_,_)=>by kernel_rfl
def Iw(rf:A3->Option A2):Bk8->Option At5:=λx=>La ((x.1.length+1)) rf x
theorem A55(rf:A3->Option A2)(hrf:FM 90 Cu Cv rf):FM 167 Ac2 Acz (Iw rf):=FnLn.fin (ι:=Nat) (sg:=Ac2) (so:=Acz) 0 (F:=λk=>La k rf) (λk=>Bft k rf hrf) λx _ _ hx=>⟨(x.1.length+1),hx⟩
def Aai:Sig:=⟨1,[],[(0,.ptr 0 0)],[(0,.cells [.sl .tok false,.int .i64,.bool,.int .i64])],1,1,0,[],[]⟩
def Abb:Sig:=⟨1,[(0,.sv .expr)],[],[(0,.cells [.sl .tok false,.int .i64,.bool,.int .i64])],1,1,0,[],[]⟩
abbrev Bks:=List Tok×Int×Bool×Int
abbrev Aty:=Xpr×List Tok×Int×Bool×Int
def Arx:Sig:=⟨38,[(2,.sl .pair true),(17,.sl .pair false),(18,.int .i64),(19,.int .i64)],[(0,.ptr 0 0),(1,.bm 167 [.ptr 0 0]),(6,.ptr 80 0),(7,.ptr 81 0)],[(0,.cells [.sl .tok false,.int .i64,.bool,.int .i64]),(1,.one (.sv .expr)),(80,.one (.sv .expr)),(81,.one (.sv .expr))],82,80,400,[],[]⟩
abbrev Adb:=List PairS×List PairS×Int×Int×List Tok×Int×Bool×Int×Xpr×Xpr×Xpr
def Afr{R:Type}(rf:A3->Option A2)(rec:Adb->Option R)(kx:Ex->Adb->Option R)(v:Adb):Option R:=match v with
 |(v1,v2,v3,v4,w7,w8,w9,d,a,b,c) =>
 cond (decide (v4<v3)) (
  chk (inb v4 v2.length) (
  (Au ((at' .pair v2 v4).sign,w7,w8,w9,d)).bind λ(x5,x6,x7,x8,x9) =>
   cond (x5) (
   (Iw rf (x6,x7,x8,x9)).bind λ(e,f,g,h,i) =>kx (.exit 1) (v1,v2,v3,v4,f,g,h,i,a,b,(Xpr.mk ((at' .pair v2 v4).kind) ⟨0,0,[]⟩ [] [c,e]))) (
   rec (v1,v2,v3,(wr .i64 (v4+1)),x6,x7,x8,x9,a,b,c)))) (
  kx (.exit 2) (v1,v2,v3,v4,w7,w8,w9,d,a,b,c))
def Ao8:Sig:=⟨38,[(2,.sl .pair true)],[(0,.ptr 0 0),(1,.bm 167 [.ptr 0 0]),(6,.ptr 80 0),(7,.ptr 81 0)],[(0,.cells [.sl .tok false,.int .i64,.bool,.int .i64]),(1,.one (.sv .expr)),(80,.one (.sv .expr)),(81,.one (.sv .expr))],82,80,400,[],[]⟩
abbrev Ol:=List PairS×List Tok×Int×Bool×Int×Xpr×Xpr×Xpr
def Ael{R:Type}(k:Nat)(rf:A3->Option A2)(rec:Ol->Option R)(kx:Ex->Ol->Option R)(v:Ol):Option R:=match v with
 |(v,w,w1,w2,w3,w4,w5,w6) =>
 cond (!w2) (
  Ak (λrc=>Afr rf rc (λe vz=>match vz with|(v5,_,_,_,v9,a,b,c,d,f,g)=>match e with
  |.exit 1 =>rec (v5,v9,a,b,c,d,f,g)
  |.exit 2 =>kx (.exit 0) (v5,v9,a,b,c,d,f,g)
  |_=>none)) k (v,v,(v.length:Int),0,w,w1,w2,w3,w4,w5,w6)) (
  kx (.exit 0) (v,w,w1,w2,w3,w4,w5,w6))
def As7(R:Type)(k:Nat)(rf:A3->Option A2):Px R:=pxO [(167,Am Ac2 Acz (Iw rf)),(117,Am Dz D3 Au)] [] [(4,Ao k Arx (Afr rf)),(2,Ao k Ao8 (Ael k rf))] [(167,Dw Ac2 Acz (Iw rf))]
noncomputable def A8p(R:Type)(k:Nat)(rf:A3->Option A2):Px R:=pxO [(137,Av 80 400 (As7 R k rf) Tryz.f137)] [] [] []
def Jc(k:Nat)(rf:A3->Option A2)(x:Bks):Option (Aty):=match x with
 |(l,n,b,p) =>
 (Iw rf (l,n,b,p)).bind λ(x,x1,x2,x3,x4) =>
  Ak (λrec=>Ael k rf rec (λe vz=>match vz with|(_,a,c,d,f,_,_,g)=>match e with
  |.exit 0 =>some (g,a,c,d,f)
  |_=>none)) k ([(PairS.mk [65,78,68] 4)],x1,x2,x3,x4,(Xpr.mk 0 ⟨0,0,[]⟩ [] []),(Xpr.mk 0 ⟨0,0,[]⟩ [] []),x)
theorem Bfl(k:Nat)(rf:A3->Option A2)(hrf:FM 90 Cu Cv rf):FM 138 Aai Abb (Jc k rf):=fRL (px:=A8p _ k rf) (n:=0) Tryz.func138 rfl (λcx H=>by have h1:Lv cx (As7 (Aty) k rf):=lv H (l1 H (A55 rf hrf) (l1 H Fa Ah)) Ae (w1 H (A55 rf hrf) Ab);have hlpand_1:=lO H h1 (b:=lpC (lp Tryz.f137 0) 0) (k:=k) (n:=0) (s:=Arx) (step:=Afr rf) (λ_ _ _ (_,_,_,_,_,_,_,_,_,_,_)=>by kernel_rfl) Aj;have hlpand_0:=lO H h1 (b:=lp Tryz.f137 0) (k:=k) (n:=1) (s:=Ao8) (step:=Ael k rf) (λ_ _ _ (_,_,_,_,_,_,_,_)=>by kernel_rfl) (Bh Aj hlpand_1);have h0:Lv cx (A8p (Aty) k rf):=lv H (As (cR H h1 Tryz.func137 rfl (n:=2) ((Bh (Bh Aj hlpand_0) hlpand_1))) Ah) Ae Ab;exact⟨h0,Aj⟩) λ(_,_,_,_)=>by kernel_rfl
def Hj(rf:A3->Option A2):Bks->Option Aty:=λx=>Jc ((x.1.length+3)) rf x
theorem A7t(rf:A3->Option A2)(hrf:FM 90 Cu Cv rf):FM 138 Aai Abb (Hj rf):=FnLn.fin (ι:=Nat) (sg:=Aai) (so:=Abb) 0 (F:=λk=>Jc k rf) (λk=>Bfl k rf hrf) λx _ _ hx=>⟨(x.1.length+3),hx⟩
def A0f:Sig:=⟨38,[(2,.sl .pair true),(17,.sl .pair false),(18,.int .i64),(19,.int .i64)],[(0,.ptr 0 0),(1,.bm 138 [.ptr 0 0]),(6,.ptr 80 0),(7,.ptr 81 0)],[(0,.cells [.sl .tok false,.int .i64,.bool,.int .i64]),(1,.one (.sv .expr)),(80,.one (.sv .expr)),(81,.one (.sv .expr))],82,80,400,[],[]⟩
abbrev Ai0:=List PairS×List PairS×Int×Int×List Tok×Int×Bool×Int×Xpr×Xpr×Xpr
def Apo{R:Type}(rf:A3->Option A2)(rec:Ai0->Option R)(kx:Ex->Ai0->Option R)(v:Ai0):Option R:=match v with
 |(v1,v2,v3,v4,w7,w8,w9,d,a,b,c) =>
 cond (decide (v4<v3)) (
  chk (inb v4 v2.length) (
  (Au ((at' .pair v2 v4).sign,w7,w8,w9,d)).bind λ(x5,x6,x7,x8,x9) =>
   cond (x5) (
   (Hj rf (x6,x7,x8,x9)).bind λ(e,f,g,h,i) =>kx (.exit 1) (v1,v2,v3,v4,f,g,h,i,a,b,(Xpr.mk ((at' .pair v2 v4).kind) ⟨0,0,[]⟩ [] [c,e]))) (
   rec (v1,v2,v3,(wr .i64 (v4+1)),x6,x7,x8,x9,a,b,c)))) (
  kx (.exit 2) (v1,v2,v3,v4,w7,w8,w9,d,a,b,c))
def Azc:Sig:=⟨38,[(2,.sl .pair true)],[(0,.ptr 0 0),(1,.bm 138 [.ptr 0 0]),(6,.ptr 80 0),(7,.ptr 81 0)],[(0,.cells [.sl .tok false,.int .i64,.bool,.int .i64]),(1,.one (.sv .expr)),(80,.one (.sv .expr)),(81,.one (.sv .expr))],82,80,400,[],[]⟩
abbrev Vq:=List PairS×List Tok×Int×Bool×Int×Xpr×Xpr×Xpr
def Arf{R:Type}(k:Nat)(rf:A3->Option A2)(rec:Vq->Option R)(kx:Ex->Vq->Option R)(v:Vq):Option R:=match v with
 |(v,w,w1,w2,w3,w4,w5,w6) =>
 cond (!w2) (
  Ak (λrc=>Apo rf rc (λe vz=>match vz with|(v5,_,_,_,v9,a,b,c,d,f,g)=>match e with
  |.exit 1 =>rec (v5,v9,a,b,c,d,f,g)
  |.exit 2 =>kx (.exit 0) (v5,v9,a,b,c,d,f,g)
  |_=>none)) k (v,v,(v.length:Int),0,w,w1,w2,w3,w4,w5,w6)) (
  kx (.exit 0) (v,w,w1,w2,w3,w4,w5,w6))
def Az5(R:Type)(k:Nat)(rf:A3->Option A2):Px R:=pxO [(138,Am Aai Abb (Hj rf)),(117,Am Dz D3 Au)] [] [(4,Ao k A0f (Apo rf)),(2,Ao k Azc (Arf k rf))] [(138,Dw Aai Abb (Hj rf))]
noncomputable def Blf(R:Type)(k:Nat)(rf:A3->Option A2):Px R:=pxO [(137,Av 80 400 (Az5 R k rf) Tryz.f137)] [] [] []
def Ml(k:Nat)(rf:A3->Option A2)(x:A3):Option (A2):=match x with
 |(l,n,b,p) =>
 (Hj rf (l,n,b,p)).bind λ(x,x1,x2,x3,x4) =>
  Ak (λrec=>Arf k rf rec (λe vz=>match vz with|(_,a,c,d,f,_,_,g)=>match e with
  |.exit 0 =>some (g,a,c,d,f)
  |_=>none)) k ([(PairS.mk [79,82] 5)],x1,x2,x3,x4,(Xpr.mk 0 ⟨0,0,[]⟩ [] []),(Xpr.mk 0 ⟨0,0,[]⟩ [] []),x)
theorem Bm1(k:Nat)(rf:A3->Option A2)(hrf:FM 90 Cu Cv rf):FM 90 Cu Cv (Ml k rf):=fRL (px:=Blf _ k rf) (n:=0) Tryz.func90 rfl (λcx H=>by have h1:Lv cx (Az5 (A2) k rf):=lv H (l1 H (A7t rf hrf) (l1 H Fa Ah)) Ae (w1 H (A7t rf hrf) Ab);have hlpor_1:=lO H h1 (b:=lpC (lp Tryz.f137 0) 0) (k:=k) (n:=0) (s:=A0f) (step:=Apo rf) (λ_ _ _ (_,_,_,_,_,_,_,_,_,_,_)=>by kernel_rfl) Aj;have hlpor_0:=lO H h1 (b:=lp Tryz.f137 0) (k:=k) (n:=1) (s:=Azc) (step:=Arf k rf) (λ_ _ _ (_,_,_,_,_,_,_,_)=>by kernel_rfl) (Bh Aj hlpor_1);have h0:Lv cx (Blf (A2) k rf):=lv H (As (cR H h1 Tryz.func137 rfl (n:=2) ((Bh (Bh Aj hlpor_0) hlpor_1))) Ah) Ae Ab;exact⟨h0,Aj⟩) λ(_,_,_,_)=>by kernel_rfl
def Sq(rf:A3->Option A2):A3->Option A2:=λx=>Ml (x.1.length+3) rf x
theorem Bmj(rf:A3->Option A2)(hrf:FnLn Tryz.prog elT glT 90 Cu Cv rf):FnLn Tryz.prog elT glT 90 Cu Cv (Sq rf) :=.fin (ι:=Nat) (sg:=Cu) (so:=Cv) 0 (F:=λk=>Ml k rf) (λk=>Bm1 k rf hrf) λx _ _ hx=>⟨x.1.length+3,hx⟩
def Ft:A3->Option A2:=λx=>Ak (V:=A3) (R:=A2) Sq (x.1.length+2) x
theorem Aom:FnLn Tryz.prog elT glT 90 Cu Cv Ft :=.fin (ι:=Nat) (sg:=Cu) (so:=Cv) 0 (F:=λn=>Ak (V:=A3) (R:=A2) Sq n) (λn=>FnLn.rec' (Sx.enters_of Tryz.func90 rfl rfl) (λrf hrf=>Bmj rf hrf) n) λx _ _ hx=>⟨x.1.length+2,hx⟩
def Oz:Sig:=⟨1,[],[(0,.ptr 0 0)],[(0,.cells [.sl .tok false,.int .i64,.bool,.int .i64])],1,1,0,[],[]⟩
def Oe:Sig:=⟨1,[(0,.sl .str true)],[],[(0,.cells [.sl .tok false,.int .i64,.bool,.int .i64])],1,1,0,[],[]⟩
abbrev A09:=List Tok×Int×Bool×Int
abbrev Uw:=List Str×List Tok×Int×Bool×Int
def Agm:Sig:=⟨19,[],[(0,.ptr 0 0),(1,.fn 184 [.ptr 2 0,.ptr 1 0])],[(0,.cells [.sl .tok false,.int .i64,.bool,.int .i64]),(1,.fx [.ptr 0 0]),(2,.cells [.sl .str true])],80,80,400,[],[]⟩
abbrev Hp:=List Tok×Int×Bool×Int×List Str
def Hb{R:Type}(rec:Hp->Option R)(kx:Ex->Hp->Option R)(v:Hp):Option R:=match v with
 |(w,w1,w2,w3,w4) =>
 cond (!w2) (
  (Au ([44],w,w1,w2,w3)).bind λ(x9,a,b,c,d) =>
  cond (x9) (
   (Az (a,b,c,d)).bind λ(e,f,g,h,i) =>
   chk (decide (w4.length+1<=Al)) (
    rec (f,g,h,i,(w4++[e])))) (
   kx (.exit 0) (a,b,c,d,w4))) (
  kx (.exit 0) (w,w1,w2,w3,w4))
def Yx(R:Type)(_k:Nat):Px R:=pxO [] [] [] [(120,Dw Gn Gt Az)]
noncomputable def Ag0(R:Type)(k:Nat):Px R:=pxO [(117,Am Dz D3 Au),(184,Av 120 600 (Yx R k) Tryz.f184)] [] [(1,Ao k Agm (Hb))] []
noncomputable def Aqo(R:Type)(k:Nat):Px R:=pxO [(119,Am Ee D7 Ai),(121,Av 80 400 (Ag0 R k) Tryz.f121)] [] [] []
def Ki(k:Nat)(x:A09):Option (Uw):=match x with
 |(l,n,b,p) =>
 (Ai ([[40]],l,n,b,p)).bind λ(x,x1,x2,x3) =>
  (Az (x,x1,x2,x3)).bind λ(x4,x5,x6,x7,x8) =>
  Ak (λrec=>Hb rec (λe vz=>match vz with|(v,v1,v2,v3,v4)=>match e with
   |.exit 0 =>
   (Ai ([[41]],v,v1,v2,v3)).bind λ(a,c,d,f) =>some (v4,a,c,d,f)
   |_=>none)) k (x5,x6,x7,x8,[x4])
theorem A5p(k:Nat):FM 161 Oz Oe (Ki k):=fRL (px:=Aqo _ k) (n:=0) Tryz.func161 rfl (λcx H=>by have h2:Lv cx (Yx (Uw) k):=lv H Ah Ae (w1 H I1 Ab);have h1:Lv cx (Ag0 (Uw) k):=lv H (l1 H Fa (As (cR H h2 Tryz.func184 rfl (n:=0) (Aj)) Ah)) Ae Ab;have hlpnames_0:=lO H h1 (b:=lp Tryz.f121 0) (k:=k) (n:=0) (s:=Agm) (step:=Hb) (λ_ _ _ (_,_,_,_,_)=>by kernel_rfl) Aj;have h0:Lv cx (Aqo (Uw) k):=lv H (l1 H Gm (As (cR H h1 Tryz.func121 rfl (n:=1) ((Bh Aj hlpnames_0))) Ah)) Ae Ab;exact⟨h0,Aj⟩) λ(_,_,_,_)=>by kernel_rfl
def Dq:A09->Option Uw:=λx=>Ki ((x.1.length+3)) x
theorem Apa:FM 161 Oz Oe (Dq):=FnLn.fin (ι:=Nat) (sg:=Oz) (so:=Oe) 0 (F:=λk=>Ki k) (λk=>A5p k) λx _ _ hx=>⟨(x.1.length+3),hx⟩
def O3:Sig:=⟨1,[],[(0,.ptr 0 0)],[(0,.cells [.sl .tok false,.int .i64,.bool,.int .i64])],1,1,0,[],[]⟩
def Pw:Sig:=⟨1,[(0,.sl .expr true)],[],[(0,.cells [.sl .tok false,.int .i64,.bool,.int .i64])],1,1,0,[],[]⟩
abbrev Aw1:=List Tok×Int×Bool×Int
abbrev Tt:=List Xpr×List Tok×Int×Bool×Int
def Ahm:Sig:=⟨19,[],[(0,.ptr 0 0),(1,.fn 162 [.ptr 2 0,.ptr 1 0])],[(0,.cells [.sl .tok false,.int .i64,.bool,.int .i64]),(1,.fx [.ptr 0 0]),(2,.cells [.sl .expr true])],80,80,400,[],[]⟩
abbrev Hs:=List Tok×Int×Bool×Int×List Xpr
def Ha{R:Type}(rec:Hs->Option R)(kx:Ex->Hs->Option R)(v:Hs):Option R:=match v with
 |(w,w1,w2,w3,w4) =>
 cond (!w2) (
  (Au ([44],w,w1,w2,w3)).bind λ(x5,x6,x7,x8,x9) =>
  cond (x5) (
   (Ft (x6,x7,x8,x9)).bind λ(a,b,c,d,e) =>
   chk (decide (w4.length+1<=Al)&&decide ((w4.length:Int)=(w4.length:Int))) (
    rec (b,c,d,e,(w4++[a])))) (
   kx (.exit 0) (x6,x7,x8,x9,w4))) (
  kx (.exit 0) (w,w1,w2,w3,w4))
def X1(R:Type)(_k:Nat):Px R:=pxO [] [] [] [(90,Dw Cu Cv Ft)]
noncomputable def Ahg(R:Type)(k:Nat):Px R:=pxO [(117,Am Dz D3 Au),(162,Av 120 600 (X1 R k) Tryz.f162)] [] [(1,Ao k Ahm (Ha))] []
noncomputable def Ar9(R:Type)(k:Nat):Px R:=pxO [(121,Av 80 400 (Ahg R k) Tryz.f121)] [] [] []
def Jz(k:Nat)(x:Aw1):Option (Tt):=match x with
 |(l,n,b,p) =>
 (Ft (l,n,b,p)).bind λ(x,x1,x2,x3,x4) =>
  chk (decide (0+1<=Al)&&decide (0=(0:Int))) (
  Ak (λrec=>Ha rec (λe vz=>match vz with|(v,v1,v2,v3,v4)=>match e with
   |.exit 0 =>
   some (v4,v,v1,v2,v3)
   |_=>none)) k (x1,x2,x3,x4,[x]))
theorem A5h(k:Nat):FM 123 O3 Pw (Jz k):=fRL (px:=Ar9 _ k) (n:=0) Tryz.func123 rfl (λcx H=>by have h2:Lv cx (X1 (Tt) k):=lv H Ah Ae (w1 H Aom Ab);have h1:Lv cx (Ahg (Tt) k):=lv H (l1 H Fa (As (cR H h2 Tryz.func162 rfl (n:=0) (Aj)) Ah)) Ae Ab;have hlpexprs_0:=lO H h1 (b:=lp Tryz.f121 0) (k:=k) (n:=0) (s:=Ahm) (step:=Ha) (λ_ _ _ (_,_,_,_,_)=>by kernel_rfl) Aj;have h0:Lv cx (Ar9 (Tt) k):=lv H (As (cR H h1 Tryz.func121 rfl (n:=1) ((Bh Aj hlpexprs_0))) Ah) Ae Ab;exact⟨h0,Aj⟩) λ(_,_,_,_)=>by kernel_rfl
def C6:Aw1->Option Tt:=λx=>Jz ((x.1.length+3)) x
theorem Ati:FM 123 O3 Pw (C6):=FnLn.fin (ι:=Nat) (sg:=O3) (so:=Pw) 0 (F:=λk=>Jz k) (λk=>A5h k) λx _ _ hx=>⟨(x.1.length+3),hx⟩
def Aji:Sig:=⟨1,[],[(0,.ptr 0 0)],[(0,.cells [.sl .tok false,.int .i64,.bool,.int .i64])],1,1,0,[],[]⟩
def Ai1:Sig:=⟨1,[(0,.sv .col)],[],[(0,.cells [.sl .tok false,.int .i64,.bool,.int .i64])],1,1,0,[],[]⟩
abbrev Bgl:=List Tok×Int×Bool×Int
abbrev Aum:=Col×List Tok×Int×Bool×Int
def Asd:Sig:=⟨87,[(10,.int .i64)],[(0,.ptr 0 0),(2,.ptr 1 0),(3,.ptr 2 0),(9,.agg [.str [],.str [],.str [66,79,79,76],.str [73,78,84],.str [84,69,88,84],.str [66,89,84,69,83]])],[(0,.cells [.sl .tok false,.int .i64,.bool,.int .i64]),(1,.one (.sv .col)),(2,.one (.sv .col))],3,1,0,[],[]⟩
abbrev I2:=Int×List Tok×Int×Bool×Int×Col×Col
def G7{R:Type}(rec:I2->Option R)(kx:Ex->I2->Option R)(v:I2):Option R:=match v with
 |(v,w,w1,w2,w3,w4,w5) =>
 cond (decide (v<6)) (
  chk (inb v 6) (
  let j1:=λ(p1:Bool) =>
   let j:=λ(p2:Bool) =>
   cond (p2) (
    (Au ((at' .str [[],[],[66,79,79,76],[73,78,84],[84,69,88,84],[66,89,84,69,83]] v),w,w1,w2,w3)).bind λ(x5,x6,x7,x8,x9) =>
    cond (x5) (
     rec ((wr .i64 (v+1)),x6,x7,x8,x9,w4,(Col.mk w5.name v w5.notNull w5.unique w5.ref))) (
     rec ((wr .i64 (v+1)),x6,x7,x8,x9,w4,w5))) (
    rec ((wr .i64 (v+1)),w,w1,w2,w3,w4,w5))
   cond (p1) (
   j (decide (w5.kind=0))) (
   j false)
  cond (decide (2<=v)) (
   j1 (!w2)) (
   j1 false))) (
  kx (.exit 0) (v,w,w1,w2,w3,w4,w5))
def A75(R:Type)(k:Nat):Px R:=pxO [(120,Am Gn Gt Az),(117,Am Dz D3 Au),(127,Am H4 H6 Ch),(119,Am Ee D7 Ai)] [] [(3,Ao k Asd (G7))] []
def Ae8(k:Nat)(x:Bgl):Option (Aum):=match x with
 |(l,n,b,p) =>
 (Az (l,n,b,p)).bind λ(x,x1,x2,x3,x4) =>
  Ak (λrec=>G7 rec (λe vz=>match vz with|(_,v2,v3,v4,v5,_,v7)=>match e with
  |.exit 0 =>
   let j6:=λ(h:List Tok) (i:Int) (d:Bool) (j:Int) =>
   let j2:=λ(m:List Tok) (o:Int) (q:Bool) (r:Int) (a:Col) =>
    let j5:=λ(s:List Tok) (t:Int) (f:Bool) (u:Int) =>
    let j4:=λ(v:List Tok) (w:Int) (g:Bool) (y:Int) (c:Col) =>
     let j3:=λ(p8:Bool) (z:List Tok) (a0:Int) (a1:Bool) (a2:Int) =>
     cond (p8) (
      (Az (z,a0,a1,a2)).bind λ(a3,a4,a5,a6,a7) =>
      some ((Col.mk c.name c.kind c.notNull c.unique a3),a4,a5,a6,a7)) (
      some (c,z,a0,a1,a2))
     cond (!g) (
     (Au ([82,69,70,69,82,69,78,67,69,83],v,w,g,y)).bind λ(a8,a9,aa,ab,ac) =>j3 a8 a9 aa ab ac) (
     j3 false v w g y)
    cond (!f) (
     (Au ([85,78,73,81,85,69],s,t,f,u)).bind λ(ad,ae,af,ag,ah) =>
     j4 ae af ag ah (Col.mk a.name a.kind a.notNull ad a.ref)) (
     j4 s t f u (Col.mk a.name a.kind a.notNull false a.ref))
    cond (a.notNull) (
    (Ai ([[78,85,76,76]],m,o,q,r)).bind λ(ai,aj,ak,al) =>j5 ai aj ak al) (
    j5 m o q r)
   cond (!d) (
    (Au ([78,79,84],h,i,d,j)).bind λ(am,an,ao,ap,aq) =>
    j2 an ao ap aq (Col.mk v7.name v7.kind am v7.unique v7.ref)) (
    j2 h i d j (Col.mk v7.name v7.kind false v7.unique v7.ref))
   cond (decide (v7.kind=0)) (
   (Ch (v2,v3,v4,v5)).bind λ(ar,au,av,aw) =>j6 ar au av aw) (
   j6 v2 v3 v4 v5)
  |_=>none)) k (0,x1,x2,x3,x4,(Col.mk [] 0 false false []),(Col.mk x 0 false false []))
theorem Bga(k:Nat):FM 183 Aji Ai1 (Ae8 k):=fRL (px:=A75 _ k) (n:=1) Tryz.func183 rfl (λcx H=>by have h0:Lv cx (A75 (Aum) k):=lv H (l1 H I1 (l1 H Fa (l1 H Lk (l1 H Gm Ah)))) Ae Ab;have hlpcol_0:=lO H h0 (b:=lp Tryz.f183 0) (k:=k) (n:=0) (s:=Asd) (step:=G7) (λ_ _ _ (_,_,_,_,_,_,_)=>by kernel_rfl) Aj;exact⟨h0,(Bh Aj hlpcol_0)⟩) λ(_,_,_,_)=>by kernel_rfl
def Km:Bgl->Option Aum:=λx=>Ae8 (10) x
theorem Bm8:FM 183 Aji Ai1 (Km):=FnLn.fin (ι:=Nat) (sg:=Aji) (so:=Ai1) 0 (F:=λk=>Ae8 k) (λk=>Bga k) λ_ _ _ hx=>⟨10,hx⟩
def Wg:Sig:=⟨2,[],[(0,.ptr 0 0),(1,.ptr 1 0)],[(0,.cells [.sl .tok false,.int .i64,.bool,.int .i64]),(1,.cells [.int .i64,.str,.str,.sl .col true,.sl .str false,.sl .expr true,.sl .exprs true,.sl .set true,.bool,.int .i64,.int .i64,.int .i64,.str,.str,.sl .expr false,.sl .str true,.sl .bool true,.int .i64])],2,2,0,[],[]⟩
def Vm:Sig:=⟨0,[],[],[(0,.cells [.sl .tok false,.int .i64,.bool,.int .i64]),(1,.cells [.int .i64,.str,.str,.sl .col true,.sl .str false,.sl .expr true,.sl .exprs true,.sl .set true,.bool,.int .i64,.int .i64,.int .i64,.str,.str,.sl .expr false,.sl .str true,.sl .bool true,.int .i64])],2,2,0,[],[]⟩
abbrev A1k:=List Tok×Int×Bool×Int×Int×Str×Str×List Col×List Str×List Xpr×List (List Xpr)×List SetE×Bool×Int×Int×Int×Str×Str×List Xpr×List Str×List Bool×Int
abbrev Mo:=List Tok×Int×Bool×Int×Int×Str×Str×List Col×List Str×List Xpr×List (List Xpr)×List SetE×Bool×Int×Int×Int×Str×Str×List Xpr×List Str×List Bool×Int
def Agy:Sig:=⟨95,[],[(0,.ptr 0 0),(1,.ptr 1 0)],[(0,.cells [.sl .tok false,.int .i64,.bool,.int .i64]),(1,.cells [.int .i64,.str,.str,.sl .col true,.sl .str true,.sl .expr true,.sl .exprs true,.sl .set true,.bool,.int .i64,.int .i64,.int .i64,.str,.str,.sl .expr false,.sl .str true,.sl .bool true,.int .i64])],2,2,0,[],[]⟩
abbrev Du:=List Tok×Int×Bool×Int×Int×Str×Str×List Col×List Str×List Xpr×List (List Xpr)×List SetE×Bool×Int×Int×Int×Str×Str×List Xpr×List Str×List Bool×Int
def Cr{R:Type}(rec:Du->Option R)(kx:Ex->Du->Option R)(v:Du):Option R:=match v with
 |(t,u,b,w,c,d,e,f,g,a,h,i,j,k,l,m,n,o,p,q,r,s) =>
 cond (!b) (
  (Au ([44],t,u,b,w)).bind λ(a1,x,y,z,a0) =>
  cond (a1) (
   (Ai ([[67,72,69,67,75],[40]],x,y,z,a0)).bind λ(a2,a3,a4,a5) =>
   (Ft (a2,a3,a4,a5)).bind λ(a6,a7,a8,a9,aa) =>
    chk (decide (a.length+1<=Al)&&decide ((a.length:Int)=(a.length:Int))) (
    (Ai ([[41]],a7,a8,a9,aa)).bind λ(ab,ac,ad,ae) =>rec (ab,ac,ad,ae,c,d,e,f,g,(a++[a6]),h,i,j,k,l,m,n,o,p,q,r,s))) (
   kx (.exit 2) (x,y,z,a0,c,d,e,f,g,a,h,i,j,k,l,m,n,o,p,q,r,s))) (
  kx (.exit 2) (t,u,b,w,c,d,e,f,g,a,h,i,j,k,l,m,n,o,p,q,r,s))
def Ahu:Sig:=⟨95,[],[(0,.ptr 0 0),(1,.ptr 1 0)],[(0,.cells [.sl .tok false,.int .i64,.bool,.int .i64]),(1,.cells [.int .i64,.str,.str,.sl .col true,.sl .str false,.sl .expr true,.sl .exprs true,.sl .set true,.bool,.int .i64,.int .i64,.int .i64,.str,.str,.sl .expr false,.sl .str true,.sl .bool true,.int .i64])],2,2,0,[],[]⟩
abbrev Dv:=List Tok×Int×Bool×Int×Int×Str×Str×List Col×List Str×List Xpr×List (List Xpr)×List SetE×Bool×Int×Int×Int×Str×Str×List Xpr×List Str×List Bool×Int
def Ea{R:Type}(rec:Dv->Option R)(kx:Ex->Dv->Option R)(v:Dv):Option R:=match v with
 |(w,w1,w2,w3,w4,w5,w6,w7,w8,w9,a,b,c,d,e,f,g,h,i,j,k,l) =>
 cond (!w2) (
  (Au ([80,82,73,77,65,82,89],w,w1,w2,w3)).bind λ(q,m,n,o,p) =>
  cond (!q) (
   (Km (m,n,o,p)).bind λ(r,s,t,u,x) =>
   chk (decide (w7.length+1<=Al)) (
    (Ai ([[44]],s,t,u,x)).bind λ(y,z,a0,a1) =>
    rec (y,z,a0,a1,w4,w5,w6,(w7++[r]),w8,w9,a,b,c,d,e,f,g,h,i,j,k,l))) (
   kx (.exit 0) (m,n,o,p,w4,w5,w6,w7,w8,w9,a,b,c,d,e,f,g,h,i,j,k,l))) (
  kx (.exit 0) (w,w1,w2,w3,w4,w5,w6,w7,w8,w9,a,b,c,d,e,f,g,h,i,j,k,l))
def Aro(R:Type)(k:Nat):Px R:=pxO [(120,Am Gn Gt Az),(119,Am Ee D7 Ai),(117,Am Dz D3 Au),(161,Am Oz Oe Dq)] [] [(4,Ao k Ahu (Ea)),(9,Ao k Agy (Cr))] [(183,Dw Aji Ai1 Km),(90,Dw Cu Cv Ft)]
def Ur(k:Nat)(x:A1k):Option (Mo):=match x with
 |(l,n,b,p,_,_,so,sc,ss,sl,sr,st,sh,wk,vk,vn,vs,wn,wl,sd,se,sm) =>
 (Az (l,n,b,p)).bind λ(x,x1,x2,x3,x4) =>
  (Ai ([[40]],x1,x2,x3,x4)).bind λ(x5,x6,x7,x8) =>
  (Km (x5,x6,x7,x8)).bind λ(x9,a,c,d,f) =>
   chk (decide (sc.length+1<=Al)) (
   (Ai ([[44]],a,c,d,f)).bind λ(g,h,i,j) =>
    Ak (λrec=>Ea rec (λe vz=>match vz with|(v,v1,v2,v3,v4,v5,v6,v7,_,v9,m,o,q,r,s,t,u,w,y,z,a0,a1)=>match e with
    |.exit 0 =>
     (Ai ([[75,69,89]],v,v1,v2,v3)).bind λ(a2,a3,a4,a5) =>
     (Dq (a2,a3,a4,a5)).bind λ(a6,a7,a8,a9,aa) =>
      Ak (λrec=>Cr rec (λe vz=>match vz with|(ab,ac,ad,ae,af,ag,ah,ai,aj,ak,al,am,an,ao,ap,aq,ar,au,av,aw,ax,ay)=>match e with
      |.exit 2 =>
       (Ai ([[41]],ab,ac,ad,ae)).bind λ(az,b0,b1,b2) =>
       some (az,b0,b1,b2,af,ag,ah,ai,aj,ak,al,am,an,ao,ap,aq,ar,au,av,aw,ax,ay)
      |_=>none)) k (a7,a8,a9,aa,v4,v5,v6,v7,a6,v9,m,o,q,r,s,t,u,w,y,z,a0,a1)
    |_=>none)) k (g,h,i,j,1,x,so,(sc++[x9]),ss,sl,sr,st,sh,wk,vk,vn,vs,wn,wl,sd,se,sm))
theorem A3g(k:Nat):FM 160 Wg Vm (Ur k):=fRL (px:=Aro _ k) (n:=2) Tryz.func160 rfl (λcx H=>by have h0:Lv cx (Aro (Mo) k):=lv H (l1 H I1 (l1 H Gm (l1 H Fa (l1 H Apa Ah)))) Ae (w1 H Bm8 (w1 H Aom Ab));have hlptable_0:=lO H h0 (b:=lp Tryz.f160 0) (k:=k) (n:=0) (s:=Ahu) (step:=Ea) (λ_ _ _ (_,_,_,_,_,_,_,_,_,_,_,_,_,_,_,_,_,_,_,_,_,_)=>by kernel_rfl) Aj;have hlptable_1:=lO H h0 (b:=lp Tryz.f160 1) (k:=k) (n:=0) (s:=Agy) (step:=Cr) (λ_ _ _ (_,_,_,_,_,_,_,_,_,_,_,_,_,_,_,_,_,_,_,_,_,_)=>by kernel_rfl) Aj;exact⟨h0,(Bh (Bh Aj hlptable_0) hlptable_1)⟩) λ(_,_,_,_,_,_,_,_,_,_,_,_,_,_,_,_,_,_,_,_,_,_)=>by kernel_rfl
def Ip:A1k->Option Mo:=λx=>Ur ((x.1.length+3)) x
theorem Bbd:FM 160 Wg Vm (Ip):=FnLn.fin (ι:=Nat) (sg:=Wg) (so:=Vm) 0 (F:=λk=>Ur k) (λk=>A3g k) λx _ _ hx=>⟨(x.1.length+3),hx⟩
def Zy:Sig:=⟨2,[],[(0,.ptr 0 0),(1,.ptr 1 0)],[(0,.cells [.sl .tok false,.int .i64,.bool,.int .i64]),(1,.cells [.int .i64,.str,.str,.sl .col true,.sl .str false,.sl .expr true,.sl .exprs true,.sl .set true,.bool,.int .i64,.int .i64,.int .i64,.str,.str,.sl .expr false,.sl .str true,.sl .bool true,.int .i64])],2,2,0,[],[]⟩
def Zd:Sig:=⟨0,[],[],[(0,.cells [.sl .tok false,.int .i64,.bool,.int .i64]),(1,.cells [.int .i64,.str,.str,.sl .col true,.sl .str false,.sl .expr true,.sl .exprs true,.sl .set true,.bool,.int .i64,.int .i64,.int .i64,.str,.str,.sl .expr false,.sl .str true,.sl .bool true,.int .i64])],2,2,0,[],[]⟩
abbrev Ap9:=List Tok×Int×Bool×Int×Int×Str×Str×List Col×List Str×List Xpr×List (List Xpr)×List SetE×Bool×Int×Int×Int×Str×Str×List Xpr×List Str×List Bool×Int
abbrev Aq1:=List Tok×Int×Bool×Int×Int×Str×Str×List Col×List Str×List Xpr×List (List Xpr)×List SetE×Bool×Int×Int×Int×Str×Str×List Xpr×List Str×List Bool×Int
def A14(R:Type):Px R:=pxO [(117,Am Dz D3 Au),(160,Am Wg Vm Ip),(119,Am Ee D7 Ai),(120,Am Gn Gt Az),(161,Am Oz Oe Dq)] [] [] []
def Aa7(x:Ap9):Option (Aq1):=match x with
 |(l,n,b,p,sk,sn,so,sc,ss,sl,sr,st,sh,wk,vk,vn,vs,wn,wl,sd,se,sm) =>
 (Au ([84,65,66,76,69],l,n,b,p)).bind λ(x,x1,x2,x3,x4) =>
  cond (x) (
  (Ip (x1,x2,x3,x4,sk,sn,so,sc,ss,sl,sr,st,sh,wk,vk,vn,vs,wn,wl,sd,se,sm)).bind λ(x5,x6,x7,x8,x9,a,c,d,e,f,g,h,i,j,k,m,o,q,r,s,t,u) =>some (x5,x6,x7,x8,x9,a,c,d,e,f,g,h,i,j,k,m,o,q,r,s,t,u)) (
  (Ai ([[73,78,68,69,88]],x1,x2,x3,x4)).bind λ(v,w,y,z) =>
   (Az (v,w,y,z)).bind λ(a0,a1,a2,a3,a4) =>
   (Ai ([[79,78]],a1,a2,a3,a4)).bind λ(a5,a6,a7,a8) =>
    (Az (a5,a6,a7,a8)).bind λ(a9,aa,ab,ac,ad) =>
    (Dq (aa,ab,ac,ad)).bind λ(ae,af,ag,ah,ai) =>some (af,ag,ah,ai,3,a0,a9,sc,ae,sl,sr,st,sh,wk,vk,vn,vs,wn,wl,sd,se,sm))
theorem A0b:FM 118 Zy Zd (Aa7):=fRL (px:=A14 _) (n:=0) Tryz.func118 rfl (λ_ H=>⟨lv H (l1 H Fa (l1 H Bbd (l1 H Gm (l1 H I1 (l1 H Apa Ah))))) Ae Ab,Aj⟩) λ(_,_,_,_,_,_,_,_,_,_,_,_,_,_,_,_,_,_,_,_,_,_)=>by kernel_rfl
def Pu:Ap9->Option Aq1:=λx=>Aa7 x
theorem A3s:FM 118 Zy Zd (Pu):=A0b
def Po:Sig:=⟨2,[],[(0,.ptr 0 0),(1,.ptr 1 0)],[(0,.cells [.sl .tok false,.int .i64,.bool,.int .i64]),(1,.cells [.int .i64,.str,.str,.sl .col true,.sl .str false,.sl .expr true,.sl .exprs true,.sl .set true,.bool,.int .i64,.int .i64,.int .i64,.str,.str,.sl .expr false,.sl .str true,.sl .bool true,.int .i64])],2,2,0,[],[]⟩
def Pt:Sig:=⟨0,[],[],[(0,.cells [.sl .tok false,.int .i64,.bool,.int .i64]),(1,.cells [.int .i64,.str,.str,.sl .col true,.sl .str false,.sl .expr true,.sl .exprs true,.sl .set true,.bool,.int .i64,.int .i64,.int .i64,.str,.str,.sl .expr false,.sl .str true,.sl .bool true,.int .i64])],2,2,0,[],[]⟩
abbrev Ay3:=List Tok×Int×Bool×Int×Int×Str×Str×List Col×List Str×List Xpr×List (List Xpr)×List SetE×Bool×Int×Int×Int×Str×Str×List Xpr×List Str×List Bool×Int
abbrev Azr:=List Tok×Int×Bool×Int×Int×Str×Str×List Col×List Str×List Xpr×List (List Xpr)×List SetE×Bool×Int×Int×Int×Str×Str×List Xpr×List Str×List Bool×Int
def Bcv(R:Type):Px R:=pxO [(117,Am Dz D3 Au),(90,Am Cu Cv Ft)] [] [] []
def M4(x:Ay3):Option (Azr):=match x with
 |(l,n,b,p,sk,sn,so,sc,ss,sl,sr,st,sh,wk,vk,vn,vs,wn,wl,sd,se,sm) =>
 let j:=λ(p2:Bool) (q4:List Tok) (q5:Int) (q6:Bool) (q7:Int) =>
  cond (p2) (
  (Ft (q4,q5,q6,q7)).bind λ(x5,x6,x7,x8,x9) =>some (x6,x7,x8,x9,sk,sn,so,sc,ss,sl,sr,st,true,x5.kind,x5.v.kind,x5.v.n,x5.v.s,x5.name,x5.l,sd,se,sm)) (
  some (q4,q5,q6,q7,sk,sn,so,sc,ss,sl,sr,st,sh,wk,vk,vn,vs,wn,wl,sd,se,sm))
 cond (!b) (
  (Au ([87,72,69,82,69],l,n,b,p)).bind λ(x,x1,x2,x3,x4) =>
  j x x1 x2 x3 x4) (
  j false l n b p)
theorem A4q:FM 125 Po Pt (M4):=fRL (px:=Bcv _) (n:=0) Tryz.func125 rfl (λ_ H=>⟨lv H (l1 H Fa (l1 H Aom Ah)) Ae Ab,Aj⟩) λ(_,_,_,_,_,_,_,_,_,_,_,_,_,_,_,_,_,_,_,_,_,_)=>by kernel_rfl
def Ce:Ay3->Option Azr:=λx=>M4 x
theorem Afv:FM 125 Po Pt (Ce):=A4q
def Sa:Sig:=⟨2,[],[(0,.ptr 0 0),(1,.ptr 1 0)],[(0,.cells [.sl .tok false,.int .i64,.bool,.int .i64]),(1,.cells [.int .i64,.str,.str,.sl .col true,.sl .str false,.sl .expr true,.sl .exprs true,.sl .set true,.bool,.int .i64,.int .i64,.int .i64,.str,.str,.sl .expr false,.sl .str true,.sl .bool true,.int .i64])],2,2,0,[],[]⟩
def Sb:Sig:=⟨0,[],[],[(0,.cells [.sl .tok false,.int .i64,.bool,.int .i64]),(1,.cells [.int .i64,.str,.str,.sl .col true,.sl .str false,.sl .expr true,.sl .exprs true,.sl .set true,.bool,.int .i64,.int .i64,.int .i64,.str,.str,.sl .expr false,.sl .str true,.sl .bool true,.int .i64])],2,2,0,[],[]⟩
abbrev Arw:=List Tok×Int×Bool×Int×Int×Str×Str×List Col×List Str×List Xpr×List (List Xpr)×List SetE×Bool×Int×Int×Int×Str×Str×List Xpr×List Str×List Bool×Int
abbrev Jj:=List Tok×Int×Bool×Int×Int×Str×Str×List Col×List Str×List Xpr×List (List Xpr)×List SetE×Bool×Int×Int×Int×Str×Str×List Xpr×List Str×List Bool×Int
def Aa3:Sig:=⟨19,[],[(0,.ptr 0 0),(1,.fn 163 [.ptr 2 0,.ptr 3 0])],[(0,.cells [.sl .tok false,.int .i64,.bool,.int .i64]),(1,.cells [.int .i64,.str,.str,.sl .col true,.sl .str false,.sl .expr true,.sl .exprs true,.sl .set true,.bool,.int .i64,.int .i64,.int .i64,.str,.str,.sl .expr false,.sl .str true,.sl .bool true,.int .i64]),(2,.fx [.ptr 0 0]),(3,.fx [.ptr 1 0])],80,80,400,[],[]⟩
abbrev Dl:=List Tok×Int×Bool×Int×Int×Str×Str×List Col×List Str×List Xpr×List (List Xpr)×List SetE×Bool×Int×Int×Int×Str×Str×List Xpr×List Str×List Bool×Int
def Dn{R:Type}(rec:Dl->Option R)(kx:Ex->Dl->Option R)(v:Dl):Option R:=match v with
 |(w,w1,w2,w3,w4,w5,w6,w7,w8,w9,b,a,c,d,e,f,g,h,i,j,k,l) =>
 cond (!w2) (
  (Au ([44],w,w1,w2,w3)).bind λ(q,m,n,o,p) =>
  cond (q) (
   (Az (m,n,o,p)).bind λ(r,s,t,u,x) =>
   (Ai ([[61]],s,t,u,x)).bind λ(y,z,a0,a1) =>
    (Ft (y,z,a0,a1)).bind λ(a2,a3,a4,a5,a6) =>
    chk (decide (a.length+1<=Al)) (
     rec (a3,a4,a5,a6,w4,w5,w6,w7,w8,w9,b,(a++[(SetE.mk r (Fb a2))]),c,d,e,f,g,h,i,j,k,l))) (
   kx (.exit 0) (m,n,o,p,w4,w5,w6,w7,w8,w9,b,a,c,d,e,f,g,h,i,j,k,l))) (
  kx (.exit 0) (w,w1,w2,w3,w4,w5,w6,w7,w8,w9,b,a,c,d,e,f,g,h,i,j,k,l))
def Uk(R:Type)(_k:Nat):Px R:=pxO [(120,Am Gn Gt Az),(119,Am Ee D7 Ai),(90,Am Cu Cv Ft)] [] [] []
noncomputable def Adn(R:Type)(k:Nat):Px R:=pxO [(117,Am Dz D3 Au),(163,Av 120 600 (Uk R k) Tryz.f163)] [] [(1,Ao k Aa3 (Dn))] []
noncomputable def Akd(R:Type)(k:Nat):Px R:=pxO [(119,Am Ee D7 Ai),(125,Am Po Pt Ce),(121,Av 80 400 (Adn R k) Tryz.f121)] [] [] [(120,Dw Gn Gt Az)]
def Q6(k:Nat)(x:Arw):Option (Jj):=match x with
 |(l,n,b,p,_,_,so,sc,ss,sl,sr,st,sh,wk,vk,vn,vs,wn,wl,sd,se,sm) =>
 (Az (l,n,b,p)).bind λ(x,x1,x2,x3,x4) =>
  (Ai ([[83,69,84]],x1,x2,x3,x4)).bind λ(x5,x6,x7,x8) =>
  (Az (x5,x6,x7,x8)).bind λ(x9,a,c,d,f) =>
   (Ai ([[61]],a,c,d,f)).bind λ(g,h,i,j) =>
   (Ft (g,h,i,j)).bind λ(m,o,q,r,s) =>
    chk (decide (st.length+1<=Al)) (
    Ak (λrec=>Dn rec (λe vz=>match vz with|(v,v1,v2,v3,v4,v5,v6,v7,v8,v9,t,u,w,y,z,a0,a1,a2,a3,a4,a5,a6)=>match e with
     |.exit 0 =>
     (Ce (v,v1,v2,v3,v4,v5,v6,v7,v8,v9,t,u,w,y,z,a0,a1,a2,a3,a4,a5,a6)).bind λ(a7,a8,a9,aa,ab,ac,ad,ae,af,ag,ah,ai,aj,ak,al,am,an,ao,ap,aq,ar,au) =>some (a7,a8,a9,aa,ab,ac,ad,ae,af,ag,ah,ai,aj,ak,al,am,an,ao,ap,aq,ar,au)
     |_=>none)) k (o,q,r,s,6,x,so,sc,ss,sl,sr,(st++[(SetE.mk x9 (Fb m))]),sh,wk,vk,vn,vs,wn,wl,sd,se,sm))
theorem Azm(k:Nat):FM 124 Sa Sb (Q6 k):=fRL (px:=Akd _ k) (n:=0) Tryz.func124 rfl (λcx H=>by have h2:Lv cx (Uk (Jj) k):=lv H (l1 H I1 (l1 H Gm (l1 H Aom Ah))) Ae Ab;have h1:Lv cx (Adn (Jj) k):=lv H (l1 H Fa (As (cR H h2 Tryz.func163 rfl (n:=0) (Aj)) Ah)) Ae Ab;have hlpupdate_0:=lO H h1 (b:=lp Tryz.f121 0) (k:=k) (n:=0) (s:=Aa3) (step:=Dn) (λ_ _ _ (_,_,_,_,_,_,_,_,_,_,_,_,_,_,_,_,_,_,_,_,_,_)=>by kernel_rfl) Aj;have h0:Lv cx (Akd (Jj) k):=lv H (l1 H Gm (l1 H Afv (As (cR H h1 Tryz.func121 rfl (n:=1) ((Bh Aj hlpupdate_0))) Ah))) Ae (w1 H I1 Ab);exact⟨h0,Aj⟩) λ(_,_,_,_,_,_,_,_,_,_,_,_,_,_,_,_,_,_,_,_,_,_)=>by kernel_rfl
def Jg:Arw->Option Jj:=λx=>Q6 ((x.1.length+3)) x
theorem A5k:FM 124 Sa Sb (Jg):=FnLn.fin (ι:=Nat) (sg:=Sa) (so:=Sb) 0 (F:=λk=>Q6 k) (λk=>Azm k) λx _ _ hx=>⟨(x.1.length+3),hx⟩
def M9:Sig:=⟨2,[],[(0,.ptr 0 0),(1,.ptr 1 0)],[(0,.cells [.sl .tok false,.int .i64,.bool,.int .i64]),(1,.cells [.int .i64,.str,.str,.sl .col true,.sl .str false,.sl .expr true,.sl .exprs true,.sl .set true,.bool,.int .i64,.int .i64,.int .i64,.str,.str,.sl .expr false,.sl .str true,.sl .bool true,.int .i64])],2,2,0,[],[]⟩
def Ni:Sig:=⟨0,[],[],[(0,.cells [.sl .tok false,.int .i64,.bool,.int .i64]),(1,.cells [.int .i64,.str,.str,.sl .col true,.sl .str false,.sl .expr true,.sl .exprs true,.sl .set true,.bool,.int .i64,.int .i64,.int .i64,.str,.str,.sl .expr false,.sl .str true,.sl .bool true,.int .i64])],2,2,0,[],[]⟩
abbrev Akj:=List Tok×Int×Bool×Int×Int×Str×Str×List Col×List Str×List Xpr×List (List Xpr)×List SetE×Bool×Int×Int×Int×Str×Str×List Xpr×List Str×List Bool×Int
abbrev Eh:=List Tok×Int×Bool×Int×Int×Str×Str×List Col×List Str×List Xpr×List (List Xpr)×List SetE×Bool×Int×Int×Int×Str×Str×List Xpr×List Str×List Bool×Int
def X2:Sig:=⟨19,[],[(0,.ptr 0 0),(1,.fn 164 [.ptr 3 0,.ptr 2 0])],[(0,.cells [.sl .tok false,.int .i64,.bool,.int .i64]),(1,.cells [.int .i64,.str,.str,.sl .col true,.sl .str false,.sl .expr true,.sl .exprs true,.sl .set true,.bool,.int .i64,.int .i64,.int .i64,.str,.str,.sl .expr false,.sl .str true,.sl .bool true,.int .i64]),(2,.fx [.ptr 0 0]),(3,.fx [.ptr 1 0])],80,80,400,[],[]⟩
abbrev Ci:=List Tok×Int×Bool×Int×Int×Str×Str×List Col×List Str×List Xpr×List (List Xpr)×List SetE×Bool×Int×Int×Int×Str×Str×List Xpr×List Str×List Bool×Int
def Bq{R:Type}(rec:Ci->Option R)(kx:Ex->Ci->Option R)(v:Ci):Option R:=match v with
 |(w,w1,w2,w3,w4,w5,w6,w7,w8,w9,c,d,e,f,g,h,i,j,k,b,a,l) =>
 cond (!w2) (
  (Au ([44],w,w1,w2,w3)).bind λ(a2,y,z,a0,a1) =>
  cond (a2) (
   (Az (y,z,a0,a1)).bind λ(m,q,r,n,s) =>
   chk (decide (b.length+1<=Al)) (
    cond (!n) (
    (Au ([68,69,83,67],q,r,n,s)).bind λ(o,t,u,p,x) =>
     cond (!p) (
     cond (!o) (
      (Au ([65,83,67],t,u,p,x)).bind λ(_,a3,a4,a5,a6) =>
      chk (decide (a.length+1<=Al)) (
       rec (a3,a4,a5,a6,w4,w5,w6,w7,w8,w9,c,d,e,f,g,h,i,j,k,(b++[m]),(a++[o]),l))) (
      chk (decide (a.length+1<=Al)) (
      rec (t,u,p,x,w4,w5,w6,w7,w8,w9,c,d,e,f,g,h,i,j,k,(b++[m]),(a++[o]),l)))) (
     chk (decide (a.length+1<=Al)) (
      rec (t,u,p,x,w4,w5,w6,w7,w8,w9,c,d,e,f,g,h,i,j,k,(b++[m]),(a++[o]),l)))) (
    cond (!n) (
     (Au ([65,83,67],q,r,n,s)).bind λ(_,a7,a8,a9,aa) =>
     chk (decide (a.length+1<=Al)) (
      rec (a7,a8,a9,aa,w4,w5,w6,w7,w8,w9,c,d,e,f,g,h,i,j,k,(b++[m]),(a++[false]),l))) (
     chk (decide (a.length+1<=Al)) (
     rec (q,r,n,s,w4,w5,w6,w7,w8,w9,c,d,e,f,g,h,i,j,k,(b++[m]),(a++[false]),l)))))) (
   kx (.exit 0) (y,z,a0,a1,w4,w5,w6,w7,w8,w9,c,d,e,f,g,h,i,j,k,b,a,l))) (
  kx (.exit 0) (w,w1,w2,w3,w4,w5,w6,w7,w8,w9,c,d,e,f,g,h,i,j,k,b,a,l))
def Sn(R:Type)(_k:Nat):Px R:=pxO [(117,Am Dz D3 Au)] [] [] [(120,Dw Gn Gt Az)]
noncomputable def Yq(R:Type)(k:Nat):Px R:=pxO [(117,Am Dz D3 Au),(164,Av 120 600 (Sn R k) Tryz.f164)] [] [(1,Ao k X2 (Bq))] []
noncomputable def Ahx(R:Type)(k:Nat):Px R:=pxO [(117,Am Dz D3 Au),(119,Am Ee D7 Ai),(125,Am Po Pt Ce),(158,Am Ka J5 D9),(127,Am H4 H6 Ch),(121,Av 80 400 (Yq R k) Tryz.f121)] [] [] [(123,Dw O3 Pw C6),(120,Dw Gn Gt Az),(159,Dw L1 Mi Cj)]
def N2(k:Nat)(x:Akj):Option (Eh):=match x with
 |(l,n,b,p,_,_,so,sc,ss,sl,sr,st,sh,wk,vk,vn,vs,wn,wl,sd,se,_) =>
 let j3:=λ(q:List Tok) (q1:Int) (q2:Bool) (q3:Int) (q4:List Xpr) =>
  (Ai ([[70,82,79,77]],q,q1,q2,q3)).bind λ(bd,be,bf,bg) =>
  (Az (bd,be,bf,bg)).bind λ(bh,bi,bj,bk,bl) =>
   (Ce (bi,bj,bk,bl,8,bh,so,sc,ss,q4,sr,st,sh,wk,vk,vn,vs,wn,wl,sd,se,(-1))).bind λ(au,av,a4,aw,a5,a6,a7,a8,a9,aa,ab,ac,ad,ae,af,ag,ah,ai,aj,d,a,ak) =>
   let j2:=λ(ax:List Tok) (ay:Int) (al:Bool) (az:Int) (f:Int) (g:Str) (h:Str) (i:List Col) (j:List Str) (m:List Xpr) (o:List (List Xpr)) (r:List SetE) (s:Bool) (t:Int) (u:Int) (v:Int) (w:Str) (y:Str) (z:List Xpr) (a0:List Str) (a1:List Bool) (b0:Int) =>
    cond (!al) (
    (Au ([76,73,77,73,84],ax,ay,al,az)).bind λ(bm,b1,b2,b3,b4) =>
     cond (bm) (
     (D9 (b1,b2,b3,b4)).bind λ(bn,b5,b6,b7,b8) =>
      cond (!decide (bn.kind=3)) (
      (Ch (b5,b6,b7,b8)).bind λ(bo,bp,bq,br) =>
       (Cj (bo,bp,bq,br)).bind λ(bs,bt,bu,bv,bw) =>
       some (bt,bu,bv,bw,f,g,h,i,j,m,o,r,s,t,u,v,w,y,z,a0,a1,bs.n)) (
      (Cj (b5,b6,b7,b8)).bind λ(bx,bz,c0,c1,c2) =>some (bz,c0,c1,c2,f,g,h,i,j,m,o,r,s,t,u,v,w,y,z,a0,a1,bx.n))) (
     some (b1,b2,b3,b4,f,g,h,i,j,m,o,r,s,t,u,v,w,y,z,a0,a1,b0))) (
    some (ax,ay,al,az,f,g,h,i,j,m,o,r,s,t,u,v,w,y,z,a0,a1,b0))
   cond (!a4) (
    (Au ([79,82,68,69,82],au,av,a4,aw)).bind λ(c3,b9,ba,bb,bc) =>
    cond (c3) (
     (Ai ([[66,89]],b9,ba,bb,bc)).bind λ(c4,c5,c6,c7) =>
     (Az (c4,c5,c6,c7)).bind λ(c8,am,an,c,ao) =>
      let j1:=λ(c9:List Tok) (ca:Int) (cb:Bool) (cc:Int) (cd:List Bool) =>
      Ak (λrec=>Bq rec (λe vz=>match vz with|(ce,cf,cg,ch,ci,cj,ck,cl,cm,cn,co,cp,cq,cr,cs,ct,cu,cv,cw,cx,cy,cz)=>match e with
       |.exit 0 =>
       j2 ce cf cg ch ci cj ck cl cm cn co cp cq cr cs ct cu cv cw cx cy cz
       |_=>none)) k (c9,ca,cb,cc,a5,a6,a7,a8,a9,aa,ab,ac,ad,ae,af,ag,ah,ai,aj,(d++[c8]),cd,ak)
      chk (decide (d.length+1<=Al)) (
      cond (!c) (
       (Au ([68,69,83,67],am,an,c,ao)).bind λ(a2,ap,aq,a3,ar) =>
       cond (!a3) (
        cond (!a2) (
        (Au ([65,83,67],ap,aq,a3,ar)).bind λ(_,d0,d1,d2,d3) =>
         chk (decide (a.length+1<=Al)) (
         j1 d0 d1 d2 d3 (a++[a2]))) (
        chk (decide (a.length+1<=Al)) (
         j1 ap aq a3 ar (a++[a2])))) (
        chk (decide (a.length+1<=Al)) (
        j1 ap aq a3 ar (a++[a2])))) (
       cond (!c) (
       (Au ([65,83,67],am,an,c,ao)).bind λ(_,d4,d5,d6,d7) =>
        chk (decide (a.length+1<=Al)) (
        j1 d4 d5 d6 d7 (a++[false]))) (
       chk (decide (a.length+1<=Al)) (
        j1 am an c ao (a++[false])))))) (
     j2 b9 ba bb bc a5 a6 a7 a8 a9 aa ab ac ad ae af ag ah ai aj d a ak)) (
    j2 au av a4 aw a5 a6 a7 a8 a9 aa ab ac ad ae af ag ah ai aj d a ak)
 (Au ([42],l,n,b,p)).bind λ(x,x1,x2,x3,x4) =>
  cond (!x) (
  (C6 (x1,x2,x3,x4)).bind λ(x5,x6,x7,x8,x9) =>j3 x6 x7 x8 x9 x5) (
  j3 x1 x2 x3 x4 sl)
theorem Av3(k:Nat):FM 126 M9 Ni (N2 k):=fRL (px:=Ahx _ k) (n:=0) Tryz.func126 rfl (λcx H=>by have h2:Lv cx (Sn (Eh) k):=lv H (l1 H Fa Ah) Ae (w1 H I1 Ab);have h1:Lv cx (Yq (Eh) k):=lv H (l1 H Fa (As (cR H h2 Tryz.func164 rfl (n:=0) (Aj)) Ah)) Ae Ab;have hlpselects_0:=lO H h1 (b:=lp Tryz.f121 0) (k:=k) (n:=0) (s:=X2) (step:=Bq) (λ_ _ _ (_,_,_,_,_,_,_,_,_,_,_,_,_,_,_,_,_,_,_,_,_,_)=>by kernel_rfl) Aj;have h0:Lv cx (Ahx (Eh) k):=lv H (l1 H Fa (l1 H Gm (l1 H Afv (l1 H O4 (l1 H Lk (As (cR H h1 Tryz.func121 rfl (n:=1) ((Bh Aj hlpselects_0))) Ah)))))) Ae (w1 H Ati (w1 H I1 (w1 H Va Ab)));exact⟨h0,Aj⟩) λ(_,_,_,_,_,_,_,_,_,_,_,_,_,_,_,_,_,_,_,_,_,_)=>by kernel_rfl
def H0:Akj->Option Eh:=λx=>N2 ((x.1.length+3)) x
theorem Azy:FM 126 M9 Ni (H0):=FnLn.fin (ι:=Nat) (sg:=M9) (so:=Ni) 0 (F:=λk=>N2 k) (λk=>Av3 k) λx _ _ hx=>⟨(x.1.length+3),hx⟩
def Ac6:Sig:=⟨1,[],[(0,.ptr 0 0)],[(0,.cells [.sl .tok false,.int .i64,.bool,.int .i64])],1,1,0,[],[]⟩
def Aar:Sig:=⟨1,[(0,.sv .stmt)],[],[(0,.cells [.sl .tok false,.int .i64,.bool,.int .i64])],1,1,0,[],[]⟩
abbrev A8t:=List Tok×Int×Bool×Int
abbrev Kw:=Stm×List Tok×Int×Bool×Int
def Alc:Sig:=⟨19,[],[(0,.ptr 0 0),(1,.fn 122 [.ptr 1 0,.ptr 3 0])],[(0,.cells [.sl .tok false,.int .i64,.bool,.int .i64]),(1,.fx [.ptr 0 0]),(2,.one (.sv .stmt)),(3,.cells [.int .i64,.str,.str,.sl .col true,.sl .str true,.sl .expr true,.sl .exprs true,.sl .set true,.bool,.int .i64,.int .i64,.int .i64,.str,.str,.sl .expr true,.sl .str true,.sl .bool true,.int .i64])],80,80,400,[],[]⟩
abbrev Gw:=List Tok×Int×Bool×Int×Stm×Int×Str×Str×List Col×List Str×List Xpr×List (List Xpr)×List SetE×Bool×Int×Int×Int×Str×Str×List Xpr×List Str×List Bool×Int
def Fz{R:Type}(rec:Gw->Option R)(kx:Ex->Gw->Option R)(v:Gw):Option R:=match v with
 |(w,w1,w2,w3,w4,w5,w6,w7,w8,w9,b,a,c,d,e,f,g,h,i,j,k,l,m) =>
 cond (!w2) (
  (Au ([44],w,w1,w2,w3)).bind λ(r,n,o,p,q) =>
  cond (r) (
   (Ai ([[40]],n,o,p,q)).bind λ(s,t,u,x) =>
   (C6 (s,t,u,x)).bind λ(y,z,a0,a1,a2) =>
    chk (decide (a.length+1<=Al)) (
    (Ai ([[41]],z,a0,a1,a2)).bind λ(a3,a4,a5,a6) =>rec (a3,a4,a5,a6,w4,w5,w6,w7,w8,w9,b,(a++[y]),c,d,e,f,g,h,i,j,k,l,m))) (
   kx (.exit 0) (n,o,p,q,w4,w5,w6,w7,w8,w9,b,a,c,d,e,f,g,h,i,j,k,l,m))) (
  kx (.exit 0) (w,w1,w2,w3,w4,w5,w6,w7,w8,w9,b,a,c,d,e,f,g,h,i,j,k,l,m))
def Ach(R:Type)(_k:Nat):Px R:=pxO [(119,Am Ee D7 Ai)] [] [] [(123,Dw O3 Pw C6)]
noncomputable def Ans(R:Type)(k:Nat):Px R:=pxO [(117,Am Dz D3 Au),(122,Av 120 600 (Ach R k) Tryz.f122)] [] [(1,Ao k Alc (Fz))] []
noncomputable def A01(R:Type)(k:Nat):Px R:=pxO [(117,Am Dz D3 Au),(118,Am Zy Zd Pu),(119,Am Ee D7 Ai),(120,Am Gn Gt Az),(124,Am Sa Sb Jg),(125,Am Po Pt Ce),(126,Am M9 Ni H0),(127,Am H4 H6 Ch),(121,Av 80 400 (Ans R k) Tryz.f121)] [] [] []
def Z1(k:Nat)(x:A8t):Option (Kw):=match x with
 |(l,n,b,p) =>
 (Au ([67,82,69,65,84,69],l,n,b,p)).bind λ(x,x1,x2,x3,x4) =>
  cond (x) (
  (Pu (x1,x2,x3,x4,0,[],[],[],[],[],[],[],false,0,0,0,[],[],[],[],[],0)).bind λ(x5,x6,x7,x8,x9,i,j,m,o,q,r,s,t,u,w,y,z,a0,a1,a2,a3,a4) =>
   cond (!x7) (
   (Au ([59],x5,x6,x7,x8)).bind λ(_,db,dc,dd,de) =>some ((Stm.mk x9 i j m o q r s t (Xpr.mk u ⟨w,y,z⟩ a0 a1) a2 a3 a4),db,dc,dd,de)) (
   some ((Stm.mk x9 i j m o q r s t (Xpr.mk u ⟨w,y,z⟩ a0 a1) a2 a3 a4),x5,x6,x7,x8))) (
  (Au ([68,82,79,80],x1,x2,x3,x4)).bind λ(df,a5,a6,a7,a8) =>
   cond (df) (
   (Au ([84,65,66,76,69],a5,a6,a7,a8)).bind λ(dg,a9,aa,ab,ac) =>
    cond (!dg) (
    (Ai ([[73,78,68,69,88]],a9,aa,ab,ac)).bind λ(dh,di,dj,dk) =>
     (Az (dh,di,dj,dk)).bind λ(ad,ae,af,a,ag) =>
     cond (!a) (
      (Au ([59],ae,af,a,ag)).bind λ(_,dl,dm,dn,dp) =>
      some ((Stm.mk 4 ad [] [] [] [] [] [] false (Xpr.mk 0 ⟨0,0,[]⟩ [] []) [] [] 0),dl,dm,dn,dp)) (
      some ((Stm.mk 4 ad [] [] [] [] [] [] false (Xpr.mk 0 ⟨0,0,[]⟩ [] []) [] [] 0),ae,af,a,ag))) (
    (Az (a9,aa,ab,ac)).bind λ(ah,ai,aj,c,ak) =>
     cond (!c) (
     (Au ([59],ai,aj,c,ak)).bind λ(_,dq,dr,ds,dt) =>some ((Stm.mk 2 ah [] [] [] [] [] [] false (Xpr.mk 0 ⟨0,0,[]⟩ [] []) [] [] 0),dq,dr,ds,dt)) (
     some ((Stm.mk 2 ah [] [] [] [] [] [] false (Xpr.mk 0 ⟨0,0,[]⟩ [] []) [] [] 0),ai,aj,c,ak)))) (
   (Au ([73,78,83,69,82,84],a5,a6,a7,a8)).bind λ(du,al,am,an,ao) =>
    cond (du) (
    (Ai ([[73,78,84,79]],al,am,an,ao)).bind λ(dv,dw,dx,dy) =>
     (Az (dv,dw,dx,dy)).bind λ(dz,e0,e1,e2,e3) =>
     (Ai ([[86,65,76,85,69,83]],e0,e1,e2,e3)).bind λ(e4,e5,e6,e7) =>
      (Ai ([[40]],e4,e5,e6,e7)).bind λ(e8,e9,ea,eb) =>
      (C6 (e8,e9,ea,eb)).bind λ(ec,ed,ee,ef,eg) =>
       (Ai ([[41]],ed,ee,ef,eg)).bind λ(eh,ei,ej,ek) =>
       Ak (λrec=>Fz rec (λe vz=>match vz with|(v,v1,v2,v3,_,v5,v6,v7,v8,v9,ap,aq,ar,au,av,aw,ax,ay,az,b0,b1,b2,b3)=>match e with
        |.exit 0 =>
        cond (!v2) (
         (Au ([59],v,v1,v2,v3)).bind λ(_,el,em,en,eo) =>
         some ((Stm.mk v5 v6 v7 v8 v9 ap aq ar au (Xpr.mk av ⟨aw,ax,ay⟩ az b0) b1 b2 b3),el,em,en,eo)) (
         some ((Stm.mk v5 v6 v7 v8 v9 ap aq ar au (Xpr.mk av ⟨aw,ax,ay⟩ az b0) b1 b2 b3),v,v1,v2,v3))
        |_=>none)) k (eh,ei,ej,ek,(Stm.mk 0 [] [] [] [] [] [] [] false (Xpr.mk 0 ⟨0,0,[]⟩ [] []) [] [] 0),5,dz,[],[],[],[],[ec],[],false,0,0,0,[],[],[],[],[],0)) (
    (Au ([85,80,68,65,84,69],al,am,an,ao)).bind λ(ep,b4,b5,b6,b7) =>
     cond (ep) (
     (Jg (b4,b5,b6,b7,0,[],[],[],[],[],[],[],false,0,0,0,[],[],[],[],[],0)).bind λ(b8,b9,d,ba,bb,bc,bd,be,bf,bg,bh,bi,bj,bk,bl,bm,bn,bo,bp,bq,br,bs) =>
      cond (!d) (
      (Au ([59],b8,b9,d,ba)).bind λ(_,er,es,et,eu) =>some ((Stm.mk bb bc bd be bf bg bh bi bj (Xpr.mk bk ⟨bl,bm,bn⟩ bo bp) bq br bs),er,es,et,eu)) (
      some ((Stm.mk bb bc bd be bf bg bh bi bj (Xpr.mk bk ⟨bl,bm,bn⟩ bo bp) bq br bs),b8,b9,d,ba))) (
     (Au ([68,69,76,69,84,69],b4,b5,b6,b7)).bind λ(ev,bt,bu,bv,bw) =>
      cond (ev) (
      (Ai ([[70,82,79,77]],bt,bu,bv,bw)).bind λ(ew,ex,ey,ez) =>
       (Az (ew,ex,ey,ez)).bind λ(f0,f1,f2,f3,f4) =>
       (Ce (f1,f2,f3,f4,7,f0,[],[],[],[],[],[],false,0,0,0,[],[],[],[],[],0)).bind λ(bx,bz,f,c0,c1,c2,c3,c4,c5,c6,c7,c8,c9,ca,cb,cc,cd,ce,cf,cg,ch,ci) =>
        cond (!f) (
        (Au ([59],bx,bz,f,c0)).bind λ(_,f5,f6,f7,f8) =>some ((Stm.mk c1 c2 c3 c4 c5 c6 c7 c8 c9 (Xpr.mk ca ⟨cb,cc,cd⟩ ce cf) cg ch ci),f5,f6,f7,f8)) (
        some ((Stm.mk c1 c2 c3 c4 c5 c6 c7 c8 c9 (Xpr.mk ca ⟨cb,cc,cd⟩ ce cf) cg ch ci),bx,bz,f,c0))) (
      (Au ([83,69,76,69,67,84],bt,bu,bv,bw)).bind λ(f9,cj,ck,cl,cm) =>
       cond (f9) (
       (H0 (cj,ck,cl,cm,0,[],[],[],[],[],[],[],false,0,0,0,[],[],[],[],[],0)).bind λ(cn,co,g,cp,cq,cr,cs,ct,cu,cv,cw,cx,cy,cz,d0,d1,d2,d3,d4,d5,d6,d7) =>
        cond (!g) (
        (Au ([59],cn,co,g,cp)).bind λ(_,fa,fb,fc,fd) =>some ((Stm.mk cq cr cs ct cu cv cw cx cy (Xpr.mk cz ⟨d0,d1,d2⟩ d3 d4) d5 d6 d7),fa,fb,fc,fd)) (
        some ((Stm.mk cq cr cs ct cu cv cw cx cy (Xpr.mk cz ⟨d0,d1,d2⟩ d3 d4) d5 d6 d7),cn,co,g,cp))) (
       (Ch (cj,ck,cl,cm)).bind λ(d8,d9,h,da) =>
        cond (!h) (
        (Au ([59],d8,d9,h,da)).bind λ(_,fe,ff,fg,fh) =>some ((Stm.mk 0 [] [] [] [] [] [] [] false (Xpr.mk 0 ⟨0,0,[]⟩ [] []) [] [] 0),fe,ff,fg,fh)) (
        some ((Stm.mk 0 [] [] [] [] [] [] [] false (Xpr.mk 0 ⟨0,0,[]⟩ [] []) [] [] 0),d8,d9,h,da))))))))
theorem Bdg(k:Nat):FM 85 Ac6 Aar (Z1 k):=fRL (px:=A01 _ k) (n:=0) Tryz.func85 rfl (λcx H=>by have h2:Lv cx (Ach (Kw) k):=lv H (l1 H Gm Ah) Ae (w1 H Ati Ab);have h1:Lv cx (Ans (Kw) k):=lv H (l1 H Fa (As (cR H h2 Tryz.func122 rfl (n:=0) (Aj)) Ah)) Ae Ab;have hlpstmt_0:=lO H h1 (b:=lp Tryz.f121 0) (k:=k) (n:=0) (s:=Alc) (step:=Fz) (λ_ _ _ (_,_,_,_,_,_,_,_,_,_,_,_,_,_,_,_,_,_,_,_,_,_,_)=>by kernel_rfl) Aj;have h0:Lv cx (A01 (Kw) k):=lv H (l1 H Fa (l1 H A3s (l1 H Gm (l1 H I1 (l1 H A5k (l1 H Afv (l1 H Azy (l1 H Lk (As (cR H h1 Tryz.func121 rfl (n:=1) ((Bh Aj hlpstmt_0))) Ah))))))))) Ae Ab;exact⟨h0,Aj⟩) λ(_,_,_,_)=>by kernel_rfl
def Jr:A8t->Option Kw:=λx=>Z1 ((x.1.length+3)) x
theorem Bkg:FM 85 Ac6 Aar (Jr):=FnLn.fin (ι:=Nat) (sg:=Ac6) (so:=Aar) 0 (F:=λk=>Z1 k) (λk=>Bdg k) λx _ _ hx=>⟨(x.1.length+3),hx⟩
def Ade:Sig:=⟨1,[],[(0,.ptr 0 0)],[(0,.cells [.sl .tok false,.int .i64,.bool,.int .i64])],1,1,0,[],[]⟩
def Aaj:Sig:=⟨1,[(0,.bool)],[],[(0,.cells [.sl .tok false,.int .i64,.bool,.int .i64])],1,1,0,[],[]⟩
abbrev A9f:=List Tok×Int×Bool×Int
abbrev A69:=Bool×List Tok×Int×Bool×Int
def Bhy(R:Type):Px R:=pxO [(127,Am H4 H6 Ch)] [] [] []
def Ro(x:A9f):Option (A69):=match x with
 |(l,n,b,p) =>
 cond (decide (0<(l.length:Int))) (
  (Ch (l,n,b,p)).bind λ(x,x1,x2,x3) =>
  some (!x2,x,x1,x2,x3)) (
  some (!b,l,n,b,p))
theorem Bdq:FM 86 Ade Aaj (Ro):=fRL (px:=Bhy _) (n:=0) Tryz.func86 rfl (λ_ H=>⟨lv H (l1 H Lk Ah) Ae Ab,Aj⟩) λ(_,_,_,_)=>by kernel_rfl
def Jv:A9f->Option A69:=λx=>Ro x
theorem A0h:FM 86 Ade Aaj (Jv):=Bdq
open Go.RowKit
def Ayc:List Nat:=[80,82]
abbrev Btk:TypeId:=80
theorem A65:(Tryz.prog.info? Btk).map (·.size)=some 2:=by kernel_rfl
theorem Bl4(T:TypeId)(h:T∈Ayc):liesAt Tryz.prog Tryz.prog.depth T (2 / Tryz.prog.cellsOf T) 0 Btk 1=true:=by simp only[Ayc,List.mem_cons,List.not_mem_nil,or_false] at h;rcases h with rfl|rfl<;>kernel_rfl
set_option maxRecDepth 100000 in
theorem Bpz(b:Nat)(w:World)(h0:w.cell? ⟨b,0,none⟩=some (.pointer (some ⟨b,0,none⟩))) :
  Calls Tryz.prog 152 #[.pointer (some ⟨b,0,none⟩)] w λe w'=>e = .returned (.tuple #[])/\w' = w:=by
 obtain⟨j,hj,_⟩:=Option.map_eq_some_iff.1 A65;have mixed:=follows;have t1:=Tryz.underlying77;have t2:=Tryz.underlying80;have u1:=run_underlying (P:=Tryz.prog) t1;have u2:=run_underlying (P:=Tryz.prog) t2
 go_enter Tryz.func152,Tryz.ntmps152
 go_wp2
 rw[Lib.run_neq_ptr_same w _ t1 hj]
 go_wp2
 go_end0
 exact⟨rfl,rfl⟩
set_option maxRecDepth 100000 in
theorem Bgj(b:Nat)(T:TypeId)(hT:T∈Ayc)(w:World)(h0:w.cell? ⟨b,0,none⟩=some (.pointer none))(hsh:w.shape? b=some (T,2))(hfz:w.frozen? ⟨b,0,none⟩=false) :
  Calls Tryz.prog 152 #[.pointer (some ⟨b,0,none⟩)] w λe w'=>e = .returned (.tuple #[])/\w' = w.setCell ⟨b,0,none⟩ (.pointer (some ⟨b,0,none⟩)):=by
 obtain⟨j,hj,hjs⟩:=Option.map_eq_some_iff.1 A65;have mixed:=follows;have t1:=Tryz.underlying77;have t2:=Tryz.underlying80;have t3:=Tryz.underlying205;have u1:=run_underlying (P:=Tryz.prog) t1;have u2:=run_underlying (P:=Tryz.prog) t2;have u3:=run_underlying (P:=Tryz.prog) t3
 go_enter Tryz.func152,Tryz.ntmps152
 go_wp2
 rw[Lib.run_to_unsafe w ⟨b,0,none⟩ t1 t3 hj (by rw[hjs];decide) hsh (Nat.zero_lt_succ 1)];simp only[Result.andThen];rw[Oper.upon_value]
 go_wp2
 rw[run_callFunc_extern Tryz.func172 (by kernel_rfl) (by kernel_rfl) (by kernel_rfl) (e:=Extern.AbiNoEscape.same) (by kernel_rfl)];rw[Lib.run_noEscape];simp only[Result.andThen];rw[Oper.upon_value]
 go_wp2
 rw[Lib.run_from_unsafe w ⟨b,0,none⟩ t3 t1 hj hsh (Bl4 T hT)];simp only[Result.andThen];rw[Oper.upon_value]
 go_wp2
 go_end0
 exact⟨rfl,rfl⟩
theorem A9u:Sx.Enters Tryz.prog 152:=Sx.enters_of Tryz.func152 rfl (by kernel_rfl)
theorem Btu:∀T,T∈Ayc->∀(b:Nat) (w:World) (a v:Value),w.heap[b]? = some (.cells #[a,v] T (0,0))->(a = .pointer none\/a = .pointer (some ⟨b,0,none⟩))->Calls Tryz.prog 152 #[.pointer (some ⟨b,0,none⟩)] w λe w'=>e = .returned (.tuple #[])/\(w' = w\/w' = w.setCell ⟨b,0,none⟩ (.pointer (some ⟨b,0,none⟩))):=by
 intro T hT b w a v hh ha;have c0:w.cell? ⟨b,0,none⟩=some a:=by simp[World.cell?,hh]
 rcases ha with rfl|rfl
 ·refine(Bgj b T hT w c0 (by simp[World.shape?,hh]) (by simp[World.frozen?,hh])).mono ?_;rintro e w' ⟨rfl,rfl⟩;exact⟨rfl,.inr rfl⟩
 ·refine(Bpz b w c0).mono ?_;rintro e w' ⟨rfl,rfl⟩;exact⟨rfl,.inl rfl⟩
theorem A3f(w:World)(g n k:Nat):Chg (λb i=>b=g/\k<=i) w (w.freeze ⟨g,0,none⟩ n):=by
 unfold World.freeze;split
 ·exact Chg.refl _ _
 ·have hne:∀(q:Nat),q≠g->∀F:Obj->Obj,(w.heap.modify g F)[q]? = w.heap[q]? :=λq hq F=>by rw[Array.getElem?_modify,if_neg (Ne.symm hq)]
  refine⟨rfl,rfl,rfl,by simp,λq _ hq2=>hne q (λe=>hq2 k ⟨e,Zn1 _⟩) _,λb i v hv _ =>?_,λb cs t f hb =>?_⟩
  ·by_cases hbg:b=g
   ·subst hbg;unfold World.cell? at hv ⊢;simp only[Array.getElem?_modify,if_true] at hv ⊢;cases hh:w.heap[b]? with
    |none=>rw[hh] at hv;cases hv
    |some o =>rw[hh] at hv;cases o with|cells c e f=>obtain⟨lo,hi⟩:=f;exact hv|_=>cases hv
   ·rw[World.cell?_of_block (a:=⟨b,i,none⟩) (hne b hbg _)];exact hv
  ·by_cases hbg:b=g
   ·subst hbg;obtain⟨lo,hi⟩:=f;exact⟨cs,_,by simp only[Array.getElem?_modify,if_true,hb];rfl,rfl⟩
   ·exact⟨cs,f,by rw[hne b hbg];exact hb,rfl⟩
theorem cellsByte:Tryz.prog.cellsOf 5=1:=by kernel_rfl
set_option maxHeartbeats 2000000 in
set_option maxRecDepth 100000 in
theorem Ayj(b g cap n:Nat)(w:World)(s:ByteArray)(hcap:cap≠0)(hc:w.cell? ⟨b,1,none⟩=some (.slice (some ⟨g,0,none⟩) n cap))(hUS:(Builtin.unsafeString_ #[148,3] 9 #[.pointer (some ⟨g,0,none⟩),.int .i64 n]).run Tryz.prog w.drew = .ok (.string s) (w.drew.freeze ⟨g,0,none⟩ n)) :
  Calls Tryz.prog 41 #[.pointer (some ⟨b,0,none⟩)] w λe w'=>e = .returned (.string s)/\w' = w.drew.freeze ⟨g,0,none⟩ n:=by
 have c1:w.drew.cell? ⟨b,1,none⟩=some (.slice (some ⟨g,0,none⟩) n cap):=hc;have hSD:(Builtin.unsafeSliceData_ #[78] 148 #[.slice (some ⟨g,0,none⟩) n cap]).run Tryz.prog w.drew = .ok (.pointer (some ⟨g,0,none⟩)) w.drew:=Lib.run_unsafeSliceData_row _ _ _ _ _ _ hcap;clear hcap;have mixed:=follows;have t1:=Tryz.underlying77;have t2:=Tryz.underlying80;have t3:=Tryz.underlying78;have t4:=Tryz.underlying148;have t5:=Tryz.underlying3;have t6:=Tryz.underlying9;have u1:=run_underlying (P:=Tryz.prog) t1;have u2:=run_underlying (P:=Tryz.prog) t2;have u3:=run_underlying (P:=Tryz.prog) t3;have u4:=run_underlying (P:=Tryz.prog) t4;have u5:=run_underlying (P:=Tryz.prog) t5;have u6:=run_underlying (P:=Tryz.prog) t6
 go_enter Tryz.func41,Tryz.ntmps41
 go_wp2
 go_region_o
 all_goals (go_wp2;go_ret;exact⟨rfl,rfl⟩)
theorem Auj(W:World)(q:Option Addr):(Builtin.unsafeString_ #[148,3] 9 #[.pointer q,.int .i64 0]).run Tryz.prog W = .ok (.string .empty) W:=Lib.run_unsafeString_none W _ _ _ q
set_option maxHeartbeats 2000000 in
set_option maxRecDepth 100000 in
theorem Bmf(b:Nat)(w:World)(hc:w.cell? ⟨b,1,none⟩=some (.slice none 0 0)) :
  Calls Tryz.prog 41 #[.pointer (some ⟨b,0,none⟩)] w λe w'=>e = .returned (.string ⟨#[]⟩)/\w' = w.drew:=by
 have hUS:=Auj;have c1:w.drew.cell? ⟨b,1,none⟩=some (.slice none 0 0):=hc;have hSD:(Builtin.unsafeSliceData_ #[78] 148 #[.slice none 0 0]).run Tryz.prog w.drew = .ok (.pointer none) w.drew:=rfl;have mixed:=follows;have t1:=Tryz.underlying77;have t2:=Tryz.underlying80;have t3:=Tryz.underlying78;have t4:=Tryz.underlying148;have t5:=Tryz.underlying3;have t6:=Tryz.underlying9;have u1:=run_underlying (P:=Tryz.prog) t1;have u2:=run_underlying (P:=Tryz.prog) t2;have u3:=run_underlying (P:=Tryz.prog) t3;have u4:=run_underlying (P:=Tryz.prog) t4;have u5:=run_underlying (P:=Tryz.prog) t5;have u6:=run_underlying (P:=Tryz.prog) t6
 go_enter Tryz.func41,Tryz.ntmps41
 go_wp2
 go_region_o
 all_goals (go_wp2;go_ret;exact⟨rfl,rfl⟩)
set_option maxHeartbeats 2000000 in
set_option maxRecDepth 100000 in
theorem A34(b g:Nat)(w:World)(cur:Array Value)(hlt:b<w.heap.size)(hc:w.cell? ⟨b,1,none⟩=some (.slice (some ⟨g,0,none⟩) 0 0))(hg:w.heap[g]? = some (.cells cur 5 (0,0))) :
  Calls Tryz.prog 41 #[.pointer (some ⟨b,0,none⟩)] w λe w'=>e = .returned (.string ⟨#[]⟩)/\Chg F2 w w':=by
 have hUS:=Auj;have c1:w.drew.cell? ⟨b,1,none⟩=some (.slice (some ⟨g,0,none⟩) 0 0):=hc;have t4:=Tryz.underlying148;have hSD:(Builtin.unsafeSliceData_ #[78] 148 #[.slice (some ⟨g,0,none⟩) 0 0]).run Tryz.prog w.drew = .ok (.pointer (some ⟨w.drew.heap.size,0,none⟩)) (w.drew.alloc (.view ⟨g,0,none⟩ 5)) :=Lib.run_unsafeSliceData_zero w.drew _ _ 5 t4 ⟨g,0,none⟩ 0 (5,cur.size) (by have hg':w.drew.heap[g]? = some (.cells cur 5 (0,0)):=hg;simp[World.shape?,hg'])
 have c2:(w.drew.alloc (.view ⟨g,0,none⟩ 5)).cell? ⟨b,1,none⟩=some (.slice (some ⟨g,0,none⟩) 0 0):=by rw[World.cell?_of_block (a:=⟨b,1,none⟩) (Below.heap_alloc w.drew _ _ hlt)];exact c1
 have c3:(w.alloc (.view ⟨g,0,none⟩ 5)).drew.cell? ⟨b,1,none⟩=some (.slice (some ⟨g,0,none⟩) 0 0):=c2;have c0:w.cell? ⟨b,1,none⟩=some (.slice (some ⟨g,0,none⟩) 0 0):=c1;have mixed:=follows;have t1:=Tryz.underlying77;have t2:=Tryz.underlying80;have t3:=Tryz.underlying78;have t5:=Tryz.underlying3;have t6:=Tryz.underlying9;have u1:=run_underlying (P:=Tryz.prog) t1;have u2:=run_underlying (P:=Tryz.prog) t2;have u3:=run_underlying (P:=Tryz.prog) t3;have u4:=run_underlying (P:=Tryz.prog) t4;have u5:=run_underlying (P:=Tryz.prog) t5;have u6:=run_underlying (P:=Tryz.prog) t6
 go_enter Tryz.func41,Tryz.ntmps41
 go_wp2
 go_region_o
 all_goals (go_wp2;go_ret;exact⟨rfl,(Chg.drew F2 w).trans (Chg.alloc F2 w.drew _)⟩)
theorem Bol{cx:Cx}{m:Mp}{a:Act}{rs:List Act}{st:St}{w w':World}(hr:Rel cx m a rs (fs st) w)(hch:Chg (Dt m (fs st)) w w'){d:D}{v:Value}(hd:Rep (vx cx m (fs { st with n:=1,env:=[(0,d)],bl:=[],tk:=[] }) w') d v):Rel cx m ⟨#[v],[]⟩ rs (fs { st with n:=1,env:=[(0,d)],bl:=[],tk:=[] }) w':=by
 have hnf:∀b i,¬Dt m (fs { st with n:=1,env:=[(0,d)],bl:=[],tk:=[] }) b i:=by
  rintro b i (⟨q,hq,_⟩|⟨t,o,h1,_,_⟩)
  ·exact hq rfl
  ·simp[fs] at h1
 have nx:Nx (vx cx m (fs st) w) (vx cx m (fs { st with n:=1,env:=[(0,d)],bl:=[],tk:=[] }) w'):=by
  refine⟨hch.mono λb i hi =>.inr hi,?_,rfl,λ_ _=>rfl,Zn1 _,Zn1 _,λt _ ha =>?_⟩
  ·rintro b i (h|h)
   ·exact .inl (.inl h)
   ·exact absurd h (hnf b i)
  ·simp[vx,fs] at ha
 have h1:Rel cx m a rs { fs st with bl:=λ_=>none,al:=λ_=>False } w':=by
  refine hr.step (s':={ fs st with bl:=λ_=>none,al:=λ_=>False }) rfl rfl rfl rfl rfl hch ?_ (λb k hk=>by cases hk) (λt ht=>ht.elim) (λb b' h=>absurd rfl h) (λt t' g o o' h=>h.elim) (λb t g o h=>absurd rfl h) (λb i hi =>?_)
  ·refine⟨hch.mono λb i hi =>.inr hi,?_,rfl,λ_ _=>rfl,Zn1 _,Zn1 _,λt _ ha=>ha.elim⟩;rintro b i (h|⟨q,hq,_⟩|⟨t,o,h1,_,_⟩)
   ·exact .inl (.inl h)
   ·exact absurd rfl hq
   ·exact h1.elim
  ·rcases hi with ⟨q,hq,_⟩|⟨t,o,h1,_,_⟩
   ·exact absurd rfl hq
   ·exact h1.elim
 have hal:(fs { st with n:=1,env:=[(0,d)],bl:=[],tk:=[] }).al=λ_=>False:=by funext t;simp[fs]
 have e:fs { st with n:=1,env:=[(0,d)],bl:=[],tk:=[] }={ (fs { st with n:=1,env:=[(0,d)],bl:=[],tk:=[] }) with al:=λ_=>False }:=by rw[<-hal]
 rw[e] at hd ⊢;refine⟨h1.chg,⟨rfl,rfl,λk d' hk =>?_⟩,h1.frs,h1.lb,h1.lt,h1.blks,h1.als,h1.inj,h1.injt,h1.injbt,h1.own,h1.away,h1.glb⟩;have hk:get [(0,d)] k=some d':=hk;rw[Cq] at hk;by_cases h0:k=0
 ·subst h0;simp only[if_true,Za1] at hk;subst hk;exact⟨v,rfl,hd⟩
 ·rw[if_neg h0] at hk;cases hk
abbrev wT:TypeId:=82
def bstr_si:Sig:=⟨1,[],[(0,.ptr 0 0)],[(0,.bld wT)],1,1,0,[],[]⟩
def Ajj:Sig:=⟨1,[(0,.str)],[],[],1,1,0,[],[]⟩
abbrev Brm:=List UInt8
abbrev Bsv:=Str
def Ir:Brm->Option Bsv:=λx=>some x
theorem A6g:FnLn Tryz.prog elT glT 41 bstr_si Ajj Ir:=by
 refine⟨Sx.enters_of Tryz.func41 rfl (by kernel_rfl),λ(l:List UInt8) r hx _ cx m vs af w h1 h2 h3 hr =>?_⟩;obtain rfl:l=r:=Option.some.inj hx;obtain⟨_,hb⟩:=hr.blks 0 (.bld wT (.sl .byte l (.id 0))) rfl;obtain⟨_,a,v,hh,ha,hrep⟩:=hb;obtain⟨u,hu,hup⟩:=hr.env.get 0 (.ptr 0 0) rfl;have hsz:vs.toArray.size=1:=hr.env.size;have hvs:vs=[u]:=by match vs,hsz,hu with|[y],_,hu=>simpa using hu
 subst hvs;simp only[Rep] at hup hrep;obtain⟨_,rfl⟩:=hup;obtain⟨hrf,_,htk⟩:=hrep;have htk:=htk (show(fs (Eu bstr_si [G3 bstr_si] l)).al 0 by simp[fs,Eu,bstr_si,Sig.sgs,Aot,Bo,Bs.sgs,Ao2]);have hh:w.heap[m.bl 0]? = some (.cells #[a,v] wT (0,0)):=hh;have hblt:m.bl 0<w.heap.size:=(Zh2.1 hh).1;have hlen:l.length<=maxLen:=hrf.here.len;have c1:w.cell? ⟨m.bl 0,1,none⟩=some v:=by simp[World.cell?,hh]
 have done:(Calls Tryz.prog 41 #[.pointer (some ⟨m.bl 0,0,none⟩)] w λe w'=>e = .returned (.string ⟨l.toArray⟩)/\Chg (Dt m (fs (Eu bstr_si [G3 bstr_si] l))) w w')->Calls Tryz.prog 41 ([.pointer (some ⟨m.bl 0,0,none⟩)]:List Value).toArray w λen w'=>∃us st' m',en = .returned (Sx.resv us)/\(∀k,(bstr_si.bl.map (·.1)).contains k=true->m'.bl k=m.bl k)/\Nh Ajj st' = some l/\Rel cx m' ⟨us.toArray,[]⟩ [af] (fs st') w':=λhc=>by refine hc.mono ?_;rintro e w' ⟨rfl,hch⟩;exact⟨[.string ⟨l.toArray⟩],{ Eu bstr_si [G3 bstr_si] l with n:=1,env:=[(0,.str l)],bl:=[],tk:=[] },m,rfl,λ_ _=>rfl,rfl,Bol hr hch (by simp only[Rep];exact⟨trivial,hlen⟩)⟩
 refine done ?_;rcases htk with ⟨rfl,_,rfl⟩|⟨g,cap,cur,rfl,ht,hg,hcs,hle,hcm⟩
 ·refine(Bmf (m.bl 0) w c1).mono ?_;rintro e w' ⟨rfl,rfl⟩;exact⟨rfl,Chg.drew _ w⟩
 ·have ht:m.tk 0=some (g,l.length*1):=ht;have hel:(vx cx m (fs (Eu bstr_si [G3 bstr_si] l)) w).el .byte=5:=by show cx.el .byte=_;rw[h2];rfl
  rw[hel] at hg;have hg:w.heap[g]? = some (.cells cur 5 (0,0)):=hg;have hcs:cur.size=cap*1:=hcs;by_cases hl0:l=[]
  ·subst hl0;by_cases hc0:cap=0
   ·subst hc0;refine(A34 (m.bl 0) g w cur hblt c1 hg).mono ?_;rintro e w' ⟨rfl,hch⟩;exact⟨rfl,hch.mono λ_ _ h=>h.elim⟩
   ·refine(Ayj (m.bl 0) g cap 0 w .empty hc0 c1 (Auj _ _)).mono ?_;rintro e w' ⟨rfl,rfl⟩;exact⟨rfl,Chg.drew _ w⟩
  ·have hcells:∀(j:Nat) x,l[j]? = some x->w.cell? ⟨g,j,none⟩=some (.int .u8 x.toNat):=λj x hj=>by
    obtain⟨a',cap',e1,h|⟨b0,o0,e2,_,h4⟩⟩:=hrf.here.slice
    ·exact absurd h hl0
    ·simp only[Value.slice.injEq] at e1;rw[e2] at e1;simp only[Za1,Addr.mk.injEq] at e1;obtain⟨⟨rfl,rfl,_⟩,_⟩:=e1;obtain⟨u,hu,hf⟩:=h4 j x hj 0 _ rfl;have e3 : 0+j*csz .byte+0=j:=by simp[csz]
     rw[e3] at hu;cases hf;exact hu
   have hn0:l.length≠0:=λe=>hl0 (List.eq_nil_of_length_eq_zero e);have hUS:=Lib.run_unsafeString_row w.drew 148 3 9 5 Tryz.underlying148 cellsByte g cur.size (by have hg':w.drew.heap[g]? = some (.cells cur 5 (0,0)):=hg;simp[World.shape?,hg']) l hl0 (by omega) (by unfold maxLen at hcm;omega) (λj x hj=>by
    have e:(⟨g,0,none⟩:Addr).add j=⟨g,j,none⟩:=by
     unfold Addr.add;by_cases hj0:j=0
     ·subst hj0;simp
     ·simp[hj0]
    rw[e];exact hcells j x hj)
   refine(Ayj (m.bl 0) g cap l.length w ⟨l.toArray⟩ (by omega) c1 hUS).mono ?_;rintro e w' ⟨rfl,rfl⟩;refine⟨rfl,(Chg.drew _ w).trans ((A3f w.drew g l.length (l.length*1)).mono λb i hi =>?_)⟩;obtain⟨rfl,hi⟩:=hi;exact .inr ⟨0,l.length*1,by simp[fs,Eu,bstr_si,Sig.sgs,Aot,Bo,Bs.sgs,Ao2],ht,hi⟩
def Af0:Sig:=⟨2,[(1,.str)],[(0,.ptr 0 0)],[(0,.bld 82)],1,1,0,[],[]⟩
def Aer:Sig:=⟨2,[],[],[(0,.bld 82)],1,1,0,[],[]⟩
abbrev A04:=Str×List UInt8
abbrev A0k:=List UInt8
def Baj(R:Type):Px R:=pxO [(152,A1v Ayc)] [] [] []
def Ahb(x:A04):Option (A0k):=match x with
 |(s,out) =>
 chk (decide (out.length+s.length<=Al)) (
  some (out++s))
theorem A1q:FM 104 Af0 Aer (Ahb):=fRL (px:=Baj _) (n:=0) Tryz.func104 rfl (λ_ H=>⟨lv H (As (Bum (by rw[H.p];exact A9u) (by rw[H.p];exact Btu)) Ah) Ae Ab,Aj⟩) λ(_,_)=>by kernel_rfl
def Awc(s out:Str):Option Str:=if out.length+s.length<=Al then some (out++s) else none
def U4:A04->Option A0k:=λx=>Awc x.1 x.2
theorem Bb6:FM 104 Af0 Aer U4 :=.fin0 A1q λ(s,out) r hb hx=>by
 simp only[U4,Awc] at hx;split at hx
 ·rename_i h;simp only[Ahb];rw[Ze1 h];exact hx
 ·cases hx
end Go.Proofs.YthndhaolemgbdaaGreatDoor
namespace Go.Proofs
open Go.Shelf
def Tryz.laysRJ_ren:Go.Shelf.Ren:=⟨λ|156=>105|165=>153|166=>104|169=>41|240=>152|241=>173|276=>172|277=>190|n=>n,λ|0=>0|3=>3|4=>4|5=>5|9=>9|20=>20|31=>34|37=>78|70=>77|72=>80|75=>153|76=>154|80=>84|127=>148|164=>205|n=>n,λn=>n⟩
theorem Tryz.laysRJ:Go.Proofs.Lays.n156 Tryz.prog Tryz.laysRJ_ren:={
 mixed:=by kernel_rfl
 f156:=Tryz.func105.trans (congrArg some (by kernel_rfl))
 f165:=Tryz.func153.trans (congrArg some (by kernel_rfl))
 f166:=Tryz.func104.trans (congrArg some (by kernel_rfl))
 f169:=Tryz.func41.trans (congrArg some (by kernel_rfl))
 f240:=Tryz.func152.trans (congrArg some (by kernel_rfl))
 f241:=Tryz.func173.trans (congrArg some (by kernel_rfl))
 f276:=Tryz.func172.trans (congrArg some (by kernel_rfl))
 f277:=Tryz.func190.trans (congrArg some (by kernel_rfl))
 t0:=Tryz.underlying0
 a0:=Tryz.isAgg0
 z0:=Tryz.sizeOf0
 v0:=Tryz.zeroValue0
 t3:=Tryz.underlying3
 a3:=Tryz.isAgg3
 z3:=Tryz.sizeOf3
 v3:=Tryz.zeroValue3
 t4:=Tryz.underlying4
 a4:=Tryz.isAgg4
 z4:=Tryz.sizeOf4
 v4:=Tryz.zeroValue4
 t9:=Tryz.underlying9
 a9:=Tryz.isAgg9
 z9:=Tryz.sizeOf9
 v9:=Tryz.zeroValue9
 t20:=Tryz.underlying20
 a20:=Tryz.isAgg20
 z20:=Tryz.sizeOf20
 v20:=Tryz.zeroValue20
 t31:=Tryz.underlying34
 a31:=Tryz.isAgg34
 z31:=Tryz.sizeOf34
 v31:=Tryz.zeroValue34
 t37:=Tryz.underlying78
 a37:=Tryz.isAgg78
 z37:=Tryz.sizeOf78
 v37:=Tryz.zeroValue78
 t70:=Tryz.underlying77
 a70:=Tryz.isAgg77
 z70:=Tryz.sizeOf77
 v70:=Tryz.zeroValue77
 t72:=Tryz.underlying80
 a72:=Tryz.isAgg80
 z72:=Tryz.sizeOf80
 v72:=Tryz.zeroValue80
 t75:=Tryz.underlying153
 a75:=Tryz.isAgg153
 z75:=Tryz.sizeOf153
 v75:=Tryz.zeroValue153
 t76:=Tryz.underlying154
 a76:=Tryz.isAgg154
 z76:=Tryz.sizeOf154
 v76:=Tryz.zeroValue154
 t127:=Tryz.underlying148
 a127:=Tryz.isAgg148
 z127:=Tryz.sizeOf148
 v127:=Tryz.zeroValue148
 t164:=Tryz.underlying205
 a164:=Tryz.isAgg205
 z164:=Tryz.sizeOf205
 v164:=Tryz.zeroValue205 }
theorem Tryz.extraRJ:Builder.Extra Tryz.prog Tryz.laysRJ_ren:={
 sizeBuilder:=by kernel_rfl
 liesBuilder:=by kernel_rfl
 t5:=Tryz.underlying5
 a5:=Tryz.isAgg5
 z5:=Tryz.sizeOf5
 v5:=Tryz.zeroValue5
 infoByte:=by kernel_rfl
 cellsByte:=by kernel_rfl
 sizeByte:=by kernel_rfl
 neB5:=by decide }
end Go.Proofs
namespace Go.Proofs.YthndhaolemgbdaaGreatDoor
open Go.Ax Go.RowKit
def A8w(l:List Str)(sep:Str):Option Str:=if l.length<=1000000/\(Lib.join l sep).length<=1000000000 then some (Lib.join l sep) else none
def Avt:FT [.sl .str false,.str] [.str]:=λx=>A8w x.1 x.2
theorem Bkd:FO 105 [.sl .str false,.str] [.str] Avt:=by
 refine⟨Sx.enters_of Tryz.func105 rfl (by kernel_rfl),λx r hx w M vs hM hgl hr =>?_⟩;obtain⟨l,sep⟩:=x;simp only[Avt,A8w] at hx;split at hx
 case isFalse=>cases hx
 rename_i hc;obtain⟨h1,h2⟩:=hc;obtain rfl:=Option.some.inj hx;simp only[Cp,Df,Reps,Rep] at hr;obtain⟨u,us,rfl,⟨hrf,_⟩,u2,us2,rfl,⟨rfl,_⟩,rfl⟩:=hr;have key:Calls Tryz.prog 105 #[u,.string ⟨sep.toArray⟩] w λe w'=>e = .returned (.string ⟨(Lib.join l sep).toArray⟩)/\Below w.heap.size w w':=by
  obtain⟨a,cap,rfl,h⟩:=hrf.here.slice;rcases h with rfl|⟨b,o,rfl,⟨hle,hcm⟩,hat⟩
  ·have c:=Any.strings_Join_none Tryz.laysRJ Tryz.extraRJ a cap ⟨sep.toArray⟩ w;refine Calls.mono (show Calls Tryz.prog 105 _ w _ from c) ?_;rintro e w' ⟨rfl,rfl⟩;exact⟨rfl,Below.refl _ _⟩
  ·by_cases hl:l=[]
   ·subst hl;have c:=Any.strings_Join_none Tryz.laysRJ Tryz.extraRJ (some ⟨b,o,none⟩) cap ⟨sep.toArray⟩ w;refine Calls.mono (show Calls Tryz.prog 105 _ w _ from c) ?_;rintro e w' ⟨rfl,rfl⟩;exact⟨rfl,Below.refl _ _⟩
   ·have hcell:∀(j:Nat) x,l[j]? = some x->w.cell? ⟨b,o+j,none⟩=some (.string ⟨x.toArray⟩):=λj x hj=>by
     obtain⟨u,hu,hf⟩:=hat j x hj 0 _ rfl;have e3:o+j*csz .str+0=o+j:=by simp[csz]
     rw[e3] at hu;cases hf;exact hu
    have hb:b<w.heap.size:=by cases l with|nil=>exact absurd rfl hl|cons x l=>exact Ajk (hcell 0 x rfl)
    have em:(l.map λs=>(⟨s.toArray⟩:ByteArray)).map (·.data.toList)=l:=by rw[List.map_map];simp[Function.comp_def]
    have es:(⟨sep.toArray⟩:ByteArray).data.toList=sep:=by simp
    have c:=Any.strings_Join Tryz.laysRJ Tryz.extraRJ b o cap (l.map λs=>⟨s.toArray⟩) ⟨sep.toArray⟩ w (λj x hj=>by rw[List.getElem?_map] at hj;obtain⟨y,hy,rfl⟩:=Option.map_eq_some_iff.1 hj;exact hcell j y hy) hb (by rw[List.length_map];omega) (by rw[List.length_map];exact hle) (by rw[em,es];omega)
    rw[em,es,List.length_map] at c;exact c
 refine key.mono ?_;rintro en w' ⟨rfl,hbel⟩;refine⟨_,⟨λ_=>0,λ_=>Option.none⟩,rfl,Chg.of_below hbel,λp g o hp=>(by simp[Bo] at hp),λp q g o o2 hp=>(by simp[Bo] at hp),?_⟩;simp only[My,Cp,Df,Rep];exact⟨trivial,by simp only[maxLen];omega⟩
end Go.Proofs.YthndhaolemgbdaaGreatDoor
namespace Go.Proofs.YthndhaolemgbdaaGreatDoor
open Go.Ax
def app(out t:Str):Option Str:=if out.length+t.length<=100000000000 then some (out++t) else none
theorem I5(out a b:Str):((app out a).bind λx=>app x b)=app out (a++b):=by
 simp only[app,Zh1];by_cases h1:out.length+a.length<=100000000000
 ·rw[if_pos h1,Zc1];simp only[Zh1,Zj1,Nat.add_assoc]
 ·rw[if_neg h1,if_neg (by omega)];rfl
theorem C4{R:Type}(out a b:Str)(c:Str->Option R):((app out a).bind λx=>(app x b).bind c)=(app out (a++b)).bind c:=by rw[<-I5,Option.bind_assoc]
theorem It{o:Option Str}:(o.bind λx=>some x)=o:=by cases o<;>rfl
theorem Aiz{out:Str}(h:out.length<=100000000000):app out []=some out:=by simp only[app,Zi1,Nat.add_zero,List.append_nil];rw[if_pos h]
theorem Awi{out t r:Str}(h:app out t=some r):r.length<=100000000000/\r=out++t:=by
 simp only[app] at h;split at h
 ·rename_i h1;obtain rfl:=Option.some.inj h;exact⟨by rw[Zh1];exact h1,rfl⟩
 ·cases h
theorem Boy{out t r:Str}(h:app out t=some r):out.length+t.length<=100000000000:=by
 simp only[app] at h;split at h
 ·rename_i h1;exact h1
 ·cases h
def Ke{α:Type}(f : α->Str):List α->Str
 |[]=>[]
 |x::l=>[44,32]++f x++Ke f l
def Cy{α:Type}(f : α->Str):List α->Str
 |[]=>[]
 |x::l=>f x++Ke f l
theorem Le{V R α:Type}{step:(V->Option R)->V->Option R}(l:List α)(f : α->Str)(st:Nat->Str->V)(c:Str->Option R)
  (hs:∀i (hi:i<l.length) (acc:Str) rec,step rec (st i acc)=(app acc ((if i=0 then [] else [44,32])++f l[i])).bind λx=>rec (st (i+1) x))
  (he:∀acc rec,step rec (st l.length acc)=c acc) (k:Nat) (hk:l.length<k) (out:Str) (ho:out.length<=100000000000):Ak step k (st 0 out)=(app out (Cy f l)).bind c:=by
 refine(J2 l.length st (λ_ acc=>acc.length<=100000000000) (λi acc=>(app acc (if i=0 then Cy f (l.drop i) else Ke f (l.drop i))).bind c) (λi hi acc ha rec hr =>?_) (λacc ha rec =>?_) k 0 out (Nat.zero_le _) (by omega) ho).trans (by rw[if_pos rfl,Zq1])
 ·rw[hs i hi acc rec];have hd:(if i=0 then Cy f (l.drop i) else Ke f (l.drop i))=((if i=0 then [] else [44,32])++f l[i])++Ke f (l.drop (i+1)):=by rw[An hi];split<;>simp[Cy,Ke]
  rw[hd,<-C4 acc ((if i=0 then [] else [44,32])++f l[i]) (Ke f (l.drop (i+1))) c];cases hx:app acc ((if i=0 then [] else [44,32])++f l[i]) with|none=>rfl|some x =>rw[Zc1,Zc1,hr x (Awi hx).1,if_neg (by omega)]
 ·rw[he];have:(if l.length=0 then Cy f (l.drop l.length) else Ke f (l.drop l.length))=[]:=by rw[Zc2];split<;>rfl
  rw[this,Aiz ha];rfl
def Ca:Sig:=⟨2,[(1,.sl .str false)],[(0,.ptr 0 0)],[(0,.bld 82)],1,1,0,[],[]⟩
def B8:Sig:=⟨0,[],[],[(0,.bld 82)],1,1,0,[],[]⟩
abbrev A1d:=List Str×List UInt8
abbrev Ake:=List UInt8
def Ahv:Sig:=⟨18,[(6,.sl .str false),(7,.int .i64),(8,.int .i64)],[(0,.ptr 0 0)],[(0,.bld 82)],1,1,0,[],[]⟩
abbrev Sk:=List Str×Int×Int×List UInt8
def O8{R:Type}(rec:Sk->Option R)(kx:Ex->Sk->Option R)(v:Sk):Option R:=match v with
 |(v,v1,v2,w) =>
 cond (decide (v2<v1)) (
  chk (inb v2 v.length) (
  (U4 ((at' .str v v2),w)).bind λx =>rec (v,v1,(wr .i64 (v2+1)),x))) (
  kx (.exit 0) (v,v1,v2,w))
def Asx(R:Type)(k:Nat):Px R:=pxO [(104,Am Af0 Aer U4)] [] [(1,Ao k Ahv (O8))] []
def A1f(k:Nat)(x:A1d):Option (Ake):=match x with
 |(l,out) =>
 Ak (λrec=>O8 rec (λe vz=>match vz with|(_,_,_,v6)=>match e with
  |.exit 0 =>
  some v6
  |_=>none)) k (l,(l.length:Int),0,out)
theorem A48(k:Nat):FM 49 Ca B8 (A1f k):=fRL (px:=Asx _ k) (n:=1) Tryz.func49 rfl (λcx H=>by have h0:Lv cx (Asx (Ake) k):=lv H (l1 H Bb6 Ah) Ae Ab;have hlwwords_0:=lO H h0 (b:=lp Tryz.f49 0) (k:=k) (n:=0) (s:=Ahv) (step:=O8) (λ_ _ _ (_,_,_,_)=>by kernel_rfl) Aj;exact⟨h0,(Bh Aj hlwwords_0)⟩) λ(_,_)=>by kernel_rfl
def Bri(l:List Str)(out:Str):Option Str:=app out l.flatten
def Aq:A1d->Option Ake:=λx=>Bri x.1 x.2
theorem Azj{R:Type}{kx:Ex->Sk->Option R}{l:List Str}{c:Str->Option R}(hn:ln l.length)(h2:∀i out,kx (.exit 0) (l,(l.length:Int),i,out)=c out)(k:Nat)(hk:l.length<k)(out:Str)(ho:out.length+l.flatten.length<=100000000000) :
  Ak (λrec=>O8 rec kx) k (l,(l.length:Int),0,out)=c (out++l.flatten):=by
 refine(J2 l.length (λi out=>(l,(l.length:Int),(i:Int),out)) (λi out=>List.length out+((l.drop i).flatten).length<=100000000000) (λi out=>c (out++(l.drop i).flatten)) (λi hi out ha rec hr =>?_) (λout _ rec =>?_) k 0 out (Nat.zero_le _) (by omega) (by rw[Zq1];exact ho)).trans (by rw[Zq1])
 ·rw[An hi] at ha ⊢;simp only[Zz1,Zh1] at ha;have hw:Awc l[i] out=some (out++l[i]):=by simp only[Awc];rw[if_pos (by simp only[Al];omega)]
  have hr:=hr (out++l[i]) (by rw[Zh1];omega);simp only[O8,E7 hi,Aa,A5 hi,chk,A8 (c :=.str) hi,U4,hw,Zc1,A1 hi hn,hr,Zz1,Zj1]
 ·simp only[O8,E8,Af,h2];rw[Zk1 (Zn1 _)];simp
theorem Cs:FM 49 Ca B8 Aq :=.fin 0 A48 λ(l,out) r hb hx=>⟨l.length+1,by have hx:app out l.flatten=some r:=hx;have hlen:=Boy hx;rw[(Awi hx).2];exact Azj (l:=l) (c:=some) hb.1.1 (λ_ _=>rfl) (l.length+1) (by omega) out hlen⟩
theorem ww(l:List Str)(out:Str):Aq (l,out)=app out l.flatten:=rfl
def sgn(k:Int):Str:=Rc signsL k
mutual
def etx:Xpr->Str
 |.mk k v n l=>if k=1 then Ds v else if k=2 then n else etxs k l
def etxs:Int->List Xpr->Str
 |_,[]=>[]
 |k,x::l=>if k=3 then [40]++[78,79,84,32]++etx x++[41] else if k=15 then [40]++[45]++etx x++[41] else if k=16 then [40]++etx x++[32,73,83,32,78,85,76,76]++[41] else [40]++etx x++([32]++(sgn k++[32]))++etx1 l++[41]
def etx1:List Xpr->Str
 |[]=>[]
 |y::_=>etx y
end
mutual
def okx:Xpr->Bool
 |.mk k _ _ l=>if k=1\/k=2 then true else okxs k l
def okxs:Int->List Xpr->Bool
 |_,[]=>false
 |k,x::l=>okx x&&(if k=3\/k=15\/k=16 then true else okx1 l)
def okx1:List Xpr->Bool
 |[]=>false
 |y::_=>okx y
end
theorem Bqy(e:Xpr):etx e=if e.kind=1 then Ds e.v else if e.kind=2 then e.name else etxs e.kind e.l:=by cases e;simp only[etx];rfl
theorem Brw(e:Xpr):okx e=if e.kind=1\/e.kind=2 then true else okxs e.kind e.l:=by cases e;simp only[okx];rfl
def Gp:Sig:=⟨2,[(1,.sv .expr)],[(0,.ptr 0 0)],[(0,.bld 82)],1,1,0,[],[]⟩
def F7:Sig:=⟨0,[],[],[(0,.bld 82)],1,1,0,[],[]⟩
abbrev Nk:=Xpr×List UInt8
abbrev M1:=List UInt8
def Bil(R:Type)(rf:Nk->Option M1):Px R:=pxO [(98,cA Aan),(49,Am Ca B8 Aq),(40,Am Gp F7 rf)] [] [] []
def Lt(rf:Nk->Option M1)(x:Nk):Option (M1):=match x with
 |(e,out) =>
 cond (decide (e.kind=1)) (
  (Aq ([(Ds e.v)],out)).bind λx =>
  some x) (
  cond (decide (e.kind=2)) (
  (Aq ([e.name],out)).bind λx1 =>some x1) (
  (Aq ([[40]],out)).bind λx2 =>
   cond (decide (e.kind=3)) (
   (Aq ([[78,79,84,32]],x2)).bind λx3 =>
    chk (inb 0 e.l.length) (
    (rf ((at' .expr e.l 0),x3)).bind λx4 =>
     (Aq ([[41]],x4)).bind λa =>
     some a)) (
   cond (decide (e.kind=15)) (
    (Aq ([[45]],x2)).bind λx5 =>
    chk (inb 0 e.l.length) (
     (rf ((at' .expr e.l 0),x5)).bind λx6 =>
     (Aq ([[41]],x6)).bind λb =>some b)) (
    cond (decide (e.kind=16)) (
    chk (inb 0 e.l.length) (
     (rf ((at' .expr e.l 0),x2)).bind λx7 =>
     (Aq ([[32,73,83,32,78,85,76,76]],x7)).bind λx8 =>
      (Aq ([[41]],x8)).bind λc =>
      some c)) (
    chk (inb 0 e.l.length) (
     (rf ((at' .expr e.l 0),x2)).bind λx9 =>
     (Aq ([[32],(Rc signsL e.kind),[32]],x9)).bind λd =>
      chk (inb 1 e.l.length) (
      (rf ((at' .expr e.l 1),d)).bind λf =>
       (Aq ([[41]],f)).bind λg =>
       some g)))))))
theorem Ba4(rf:Nk->Option M1)(hrf:FM 40 Gp F7 rf):FM 40 Gp F7 (Lt rf):=fRL (px:=Bil _ rf) (n:=0) Tryz.func40 rfl (λ_ H=>⟨lv H (c1 H Ash (l1 H Cs (l1 H hrf Ah))) Ae Ab,Aj⟩) λ(_,_)=>by kernel_rfl
def Btw(e:Xpr)(out:Str):Option Str:=cond (okx e) (app out (etx e)) none
def Fi:Nk->Option M1:=λx=>Btw x.1 x.2
theorem Ase:∀(n:Nat) (e:Xpr) (out:Str),BdExpr e->Bf e<=n->okx e=true->Ak (V:=Nk) (R:=M1) Lt n (e,out)=app out (etx e)
 |0,e,_,_,h,_=>by have:=Jm e;omega
 |n+1,e,out,hb,h,hok=>by
  obtain⟨hb4,hb5⟩:=Arb hb;rw[Gq] at h;have hrf:∀x,x∈e.l->okx x=true->∀out:Str,Ak (V:=Nk) (R:=M1) Lt n (x,out)=app out (etx x):=λx hx ho out=>Ase n x out (hb5 x hx) (by have:=E9 hx;omega) ho;rw[Aw,Bqy];rw[Brw] at hok;simp only[Lt,ww];by_cases h1:e.kind=1
  ·rw[Ze1 h1,if_pos h1,Aa,It];simp
  by_cases h2:e.kind=2
  ·rw[Zd1 h1,Ze1 h2,if_neg h1,if_pos h2,Af,Aa,It];simp
  rw[Zd1 h1,Zd1 h2,if_neg h1,if_neg h2,Af,Af];rw[if_neg (by omega)] at hok;cases hl:e.l with
  |nil=>rw[hl] at hok;cases hok
  |cons x l =>
   rw[hl] at hok hrf;simp only[okxs,Zb1] at hok;have hx:=hrf x Zr1 hok.1;have e0:at' .expr (x::l) 0=x:=rfl;have i0:inb 0 (x::l).length=true:=A5 (i:=0) (by simp);simp only[e0,i0,hx,chk,Aa,etxs];by_cases h3:e.kind=3
   ·rw[Ze1 h3,if_pos h3];simp only[Aa,C4,It,I5,Zz1,List.flatten_nil,List.append_nil,Zj1]
   by_cases h15:e.kind=15
   ·rw[Zd1 h3,Ze1 h15,if_neg h3,if_pos h15];simp only[Aa,Af,C4,It,I5,Zz1,List.flatten_nil,List.append_nil,Zj1]
   by_cases h16:e.kind=16
   ·rw[Zd1 h3,Zd1 h15,Ze1 h16,if_neg h3,if_neg h15,if_pos h16];simp only[Aa,Af,C4,It,I5,Zz1,List.flatten_nil,List.append_nil,Zj1]
   rw[Zd1 h3,Zd1 h15,Zd1 h16,if_neg h3,if_neg h15,if_neg h16];rw[if_neg (by omega)] at hok;cases l with|nil=>exact absurd hok.2 (by simp[okx1])|cons y l =>have hy:=hrf y (by simp) hok.2;have e1:at' .expr (x::y::l) 1=y:=rfl;have i1:inb 1 (x::y::l).length=true:=A5 (i:=1) (by simp);simp only[e1,i1,hy,Aa,Af,etx1];simp only[It,I5,Zz1,List.flatten_nil,List.append_nil,Zj1,sgn]
theorem Pv:FM 40 Gp F7 Fi:=by refine .fin (ι:=Nat) (sg:=Gp) (so:=F7) 0 (F:=λn=>Ak (V:=Nk) (R:=M1) Lt n) (λn=>FnLn.rec' (Sx.enters_of Tryz.func40 rfl rfl) (λrf hrf=>Ba4 rf hrf) n) λ(e,out) r hb hx=>⟨Bf e,?_⟩;have hx:cond (okx e) (app out (etx e)) none=some r:=hx;cases hok:okx e with|false=>rw[hok] at hx;cases hx|true =>rw[hok] at hx;exact(Ase (Bf e) e out hb.1 (Zn1 _) hok).trans hx
theorem we{e:Xpr}(h:okx e=true)(out:Str):Fi (e,out)=app out (etx e):=by show cond (okx e) _ _=_;rw[h];rfl
end Go.Proofs.YthndhaolemgbdaaGreatDoor
