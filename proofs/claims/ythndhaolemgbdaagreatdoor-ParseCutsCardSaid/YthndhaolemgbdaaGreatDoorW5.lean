/- Texts of the proof,one behind the other: Nc,Eb,Fc,Es,Ix,En,Ep,Ac,Ad,Bw,Shj,Sj,Wr,Ws,Vt,Nf,Uq,Us,Ya,Yb. -/
import Derived.Test.YthndhaolemgbdaaGreatDoorW4
import Derived.Lib.Walk
import Derived.Lib.Strings
import Derived.Lib.Slices
import Derived.Lib.Builder
import Derived.Lib.UnsafeStr
import Derived.Lib.FrozenHead
import Derived.Laws.Externs
import Derived.Shelf.RegionOpenPlain
import Derived.Shelf.Strings.OnBuilder
set_option linter.all false
namespace Go.Proofs.YthndhaolemgbdaaGreatDoor
open Go.Ax
abbrev hexL:Str:=[48,49,50,51,52,53,54,55,56,57,97,98,99,100,101,102]
def A98(n:Nat):Str:=[hexL.getD (n / 16) 0,hexL.getD (n % 16) 0]
def Nk(s:Str):Str:=s.flatMap λb=>A98 b.toNat
def Bq9(n:Nat):Bool:=inb (J7 .u8 (n:Int) 4) 16&&inb (Kk .u8 (n:Int) 15) 16&&decide ([(UInt8.ofNat ((bat hexL (J7 .u8 (n:Int) 4)):Int).toNat),(UInt8.ofNat ((bat hexL (Kk .u8 (n:Int) 15)):Int).toNat)]=A98 n)
theorem Bmv:((List.range 256).all Bq9)=true:=by kernel_rfl
theorem hx(b:UInt8):inb (J7 .u8 (b.toNat:Int) 4) 16=true/\inb (Kk .u8 (b.toNat:Int) 15) 16=true/\[(UInt8.ofNat ((bat hexL (J7 .u8 (b.toNat:Int) 4)):Int).toNat),(UInt8.ofNat ((bat hexL (Kk .u8 (b.toNat:Int) 15)):Int).toNat)]=A98 b.toNat:=by have h:=Zg2.1 Bmv b.toNat (List.mem_range.2 b.toNat_lt);simp only[Bq9,Zb1,Zg1] at h;exact⟨h.1.1,h.1.2,h.2⟩
theorem Ak0(s:Str):(Nk s).length=2*s.length:=by induction s with|nil=>rfl|cons b l ih=>simp only[Nk,List.flatMap_cons,A98,Zh1,Zf1,Zi1] at ih ⊢;omega
def Aoo:Sig:=⟨26,[(0,.str),(3,.sl .byte true),(6,.int .i64),(7,.int .i64)],[],[],0,0,0,[],[]⟩
abbrev Aan:=Str×List UInt8×Int×Int
def Acs{R:Type}(rec:Aan->Option R)(kx:Ex->Aan->Option R)(v:Aan):Option R:=match v with
 |(v,v1,v2,v3) =>
 cond (decide (v3<v2)) (
  chk (inb v3 v.length) (
  chk (inb (J7 .u8 (bat v v3) 4) 16) (
   chk (inb v3 v.length) (
   chk (inb (Kk .u8 (bat v v3) 15) 16) (
    chk (decide (v1.length+2<=Am)) (
    rec (v,(v1++[(UInt8.ofNat ((bat [48,49,50,51,52,53,54,55,56,57,97,98,99,100,101,102] (J7 .u8 (bat v v3) 4)):Int).toNat),(UInt8.ofNat ((bat [48,49,50,51,52,53,54,55,56,57,97,98,99,100,101,102] (Kk .u8 (bat v v3) 15)):Int).toNat)]),v2,(wr .i64 (v3+1))))))))) (
  kx (.exit 0) (v,v1,v2,v3))
def A5b(R:Type)(k:Nat):Px R:=pxO [] [] [(3,Aq k Aoo (Acs))] []
def An4(k:Nat)(x:HV [.str]):Option (HV [.str]):=match x with
 |s =>
 Al (λrec=>Acs rec (λe vz=>match vz with|(_,v5,_,_)=>match e with
  |.exit 0 =>
  some v5
  |_=>none)) k (s,[],(s.length:Int),0)
theorem Bf0(k:Nat):FO 151 [.str] [.str] (An4 k):=fR (px:=A5b _ k) (n:=1) Tryz.func151 rfl (λcx H=>by have h0:Lv cx (A5b (HV [.str]) k):=lv H Af Ab Aa;have hlvhex_0:=lO H h0 (b:=lp Tryz.f151 0) (k:=k) (n:=0) (s:=Aoo) (step:=Acs) (λ_ _ _ (_,_,_,_)=>by kernel_rfl) Ak;exact⟨h0,(Bq Ak hlvhex_0)⟩) λ_=>by kernel_rfl
def Bcb(s:Str):Option Str:=cond (decide (s.length<=3000)) (some (Nk s)) none
def A0t:FT [.str] [.str]:=λx=>Bcb x
theorem Ap5{R:Type}{kx:Ex->Aan->Option R}{s:Str}{b:Str->Option R}(hs:s.length<=3000)(h2:∀out j,kx (.exit 0) (s,out,(s.length:Int),j)=b out):∀(k i:Nat) (out:Str),i<=s.length->s.length-i<k->out.length<=2*i->Al (λrec=>Acs rec kx) k (s,out,(s.length:Int),(i:Int))=b (out++Nk (s.drop i))
 |0,i,_,_,h,_=>absurd h (Zm1 _)
 |k+1,i,out,hi,h,ho=>by
  rw[A3];by_cases hl:i<s.length
  ·obtain⟨h3,h4,h5⟩:=hx (s[i]'hl);have hn:ln s.length:=by simp only[ln];omega
   have ih:=Ap5 hs h2 k (i+1) (out++A98 (s[i]'hl).toNat) (by omega) (by omega) (by simp only[Zh1,A98,Zf1,Zi1];omega);simp only[Acs,A0 hl hn,Cg hl,A7 hl,h3,h4,h5,ih,h2];rw[Ze1 (show(i:Int)<(s.length:Int) by omega),Ze1 (show out.length+2<=Am by simp only[Am];omega),As hl];simp only[chk,Ae,Nk,List.flatMap_cons,Zj1]
  ·simp only[Acs,h2];rw[Zd1 (show ¬(i:Int)<(s.length:Int) by omega),Zk1 (by omega)];simp[Nk]
theorem Blg:FO 151 [.str] [.str] A0t :=.fin 0 Bf0 λs r hb hx=>⟨3001,by
 simp only[A0t,Bcb] at hx;by_cases hs:s.length<=3000
 ·rw[Ze1 hs] at hx;simp only[An4];exact(Ap5 (b:=some) hs (λ_ _=>rfl) 3001 0 [] (Nat.zero_le _) (by omega) (by simp)).trans hx
 ·rw[Zd1 hs] at hx;cases hx⟩
def dch(d:Int):UInt8:=UInt8.ofNat (48+d).toNat
def txt(l:List Int):Str:=(l.map dch).reverse
def Axp(n:Int):Str:=let t:=if n=0 then [48] else txt (Kr n.natAbs)
 if n<0 then 45::t else t
theorem Tg(d:Int)(l:List Int):txt (d::l)=txt l++[dch d]:=by simp[txt]
theorem Blz{d:Int}(h : 0<=d/\d<=9):UInt8.ofNat ((wr .u8 (wr .u64 (48+d))):Int).toNat=dch d:=by
 have e:wr .u8 (wr .u64 (48+d))=48+d:=by rw[Ka (by omega)];simp only[wr,IntKind.wrap,IntKind.bits,IntKind.signed];simp;omega
 rw[e];rfl
theorem A4q(l:List Int):(txt l).length=l.length:=by simp[txt]
theorem Beu(n:Int):txt (Kr (n.natAbs / 10))++[dch ((n.natAbs % 10:Nat):Int)]=if n=0 then [48] else txt (Kr n.natAbs):=by
 by_cases h0:n=0
 ·subst h0;rw[if_pos rfl,show(0:Int).natAbs / 10=0 from rfl,Ja];rfl
 ·rw[if_neg h0,Oy (n:=n.natAbs) (by omega),Tg]
def Abk:Sig:=⟨32,[(0,.int .i64),(3,.sl .byte true),(4,.int .u64)],[],[],0,0,0,[],[]⟩
abbrev M1:=Int×List UInt8×Int
def K8{R:Type}(rec:M1->Option R)(kx:Ex->M1->Option R)(v:M1):Option R:=match v with
 |(v,v1,v2) =>
 cond (decide (0<v2)) (
  chk (decide (1+v1.length<=Am)) (
  rec (v,([(UInt8.ofNat ((wr .u8 (wr .u64 (48+(Int.tmod v2 10)))):Int).toNat)]++v1),(wr .u64 (Int.tdiv v2 10))))) (
  kx (.exit 0) (v,v1,v2))
def Akb(R:Type)(k:Nat):Px R:=pxO [(170,cA Ark)] [] [(3,Aq k Abk (K8))] []
def Aae(k:Nat)(x:HV [.int .i64]):Option (HV [.str]):=match x with
 |n =>
 Al (λrec=>K8 rec (λe vz=>match vz with|(v3,v4,_)=>match e with
  |.exit 0 =>
  cond (decide (v3<0)) (
   chk (decide ([45].length+v4.length<=C0)) (
   some ([45]++v4))) (
   some v4)
  |_=>none)) k (n,[(UInt8.ofNat ((wr .u8 (wr .u64 (48+(Int.tmod (Fe n) 10)))):Int).toNat)],(wr .u64 (Int.tdiv (Fe n) 10)))
theorem Aug(k:Nat):FO 149 [.int .i64] [.str] (Aae k):=fR (px:=Akb _ k) (n:=1) Tryz.func149 rfl (λcx H=>by have h0:Lv cx (Akb (HV [.str]) k):=lv H (c1 H Awa Af) Ab Aa;have hlvdigits_0:=lO H h0 (b:=lp Tryz.f149 0) (k:=k) (n:=0) (s:=Abk) (step:=K8) (λ_ _ _ (_,_,_)=>by kernel_rfl) Ak;exact⟨h0,(Bq Ak hlvdigits_0)⟩) λ_=>by kernel_rfl
abbrev Atd(n:Int):Str:=Axp n
def Acv:FT [.int .i64] [.str]:=λx=>some (Atd x)
theorem Brk{n:Int}(h:inI n):Fe n=(n.natAbs:Int):=by rw[Ase h];simp only[Np];split<;>omega
theorem Z1{R:Type}{kx:Ex->M1->Option R}{n:Int}{b:Str->Option R}(h2:∀out x,kx (.exit 0) (n,out,x)=b out):∀(k a:Nat) (out:Str),(a:Int)<=18446744073709551615->(Kr a).length<k->out.length+(Kr a).length<=1000->Al (λrec=>K8 rec kx) k (n,out,(a:Int))=b (txt (Kr a)++out)
 |0,a,out,_,h,_=>absurd h (Zm1 _)
 |k+1,a,out,ha,h,ho=>by
  rw[A3];by_cases h0:a=0
  ·subst h0;simp only[K8,h2];rw[Zd1 (by omega),Ja];rfl
  ·have hd:=Oy h0;rw[hd,Zf1] at h ho;have e1:Int.tmod (a:Int) 10=((a % 10:Nat):Int):=rfl;have e2:wr .u64 (Int.tdiv (a:Int) 10)=((a / 10:Nat):Int):=by have:Int.tdiv (a:Int) 10=((a / 10:Nat):Int):=rfl;rw[this,Ka (by omega)]
   have ih:=Z1 h2 k (a / 10) ([dch ((a % 10:Nat):Int)]++out) (by omega) (by omega) (by simp only[Zh1,Zf1,Zi1];omega);simp only[K8,e1,e2,Blz (show 0<=((a % 10:Nat):Int)/\((a % 10:Nat):Int)<=9 by omega),ih];rw[Ze1 (show(0:Int)<(a:Int) by omega),Ze1 (show 1+out.length<=Am by simp only[Am];omega),hd,Tg];simp[chk]
theorem Ay2:FO 149 [.int .i64] [.str] Acv :=.fin 0 Aug λn r hb hx=>⟨30,by
 have hb:=C8 hb;simp only[Acv,Za1] at hx;subst hx;have hl:(Kr (n.natAbs / 10)).length<=20:=Akc 20 _ (by
  simp only[inI] at hb;have:pw 20=100000000000000000000:=by kernel_rfl
  omega)
 have e1:Int.tmod (n.natAbs:Int) 10=((n.natAbs % 10:Nat):Int):=rfl;have e2:wr .u64 (Int.tdiv (n.natAbs:Int) 10)=((n.natAbs / 10:Nat):Int):=by have:Int.tdiv (n.natAbs:Int) 10=((n.natAbs / 10:Nat):Int):=rfl;simp only[inI] at hb;rw[this,Ka (by omega)]
 simp only[Aae,Brk hb,e1,e2,Blz (show 0<=((n.natAbs % 10:Nat):Int)/\((n.natAbs % 10:Nat):Int)<=9 by omega)];refine(Z1 (b:=λout=>cond (decide (n<0)) (chk (decide ([45].length+out.length<=C0)) (some ([45]++out))) (some out)) (λ_ _=>rfl) 30 (n.natAbs / 10) [dch ((n.natAbs % 10:Nat):Int)] (by simp only[inI] at hb;omega) (by omega) (by simp only[Zf1,Zi1];omega)).trans ?_;have et:=Beu n;have hlen:(txt (Kr (n.natAbs / 10))++[dch ((n.natAbs % 10:Nat):Int)]).length<=21:=by rw[Zh1,A4q];simp only[Zf1,Zi1];omega
 have hc:decide ([45].length+(txt (Kr (n.natAbs / 10))++[dch ((n.natAbs % 10:Nat):Int)]).length<=C0)=true:=Ze1 (by simp only[Zf1,Zi1,C0];omega);simp only[hc,chk,Ae];rw[et];simp only[Atd,Axp];by_cases h:n<0
 ·rw[Ze1 h,if_pos h];rfl
 ·rw[Zd1 h,if_neg h];rfl⟩
def quo:Str->Str
 |[]=>[]
 |b::l=>if b=39 then 39::39::quo l else b::quo l
theorem Aq2(s:Str):(quo s).length<=2*s.length:=by induction s with|nil=>simp[quo]|cons b l ih =>simp only[quo];split<;>simp only[Zf1]<;>omega
theorem Am3:∀s:Str,(Lib.index s [39] = -1/\quo s=s)\/∃i:Nat,Lib.index s [39]=(i:Int)/\i<s.length/\quo s=s.take i++[39,39]++quo (s.drop (i+1))
 |[] =>.inl ⟨rfl,rfl⟩
 |b::l=>by
  by_cases h:b=39
  ·subst h;refine .inr ⟨0,rfl,by simp,by simp[quo]⟩
  ·have hp:List.isPrefixOf [39] (b::l)=false:=by simp only[List.isPrefixOf,Bool.and_true];exact beq_eq_false_iff_ne.2 (Ne.symm h)
   rcases Am3 l with ⟨h1,h2⟩|⟨i,h1,h2,h3⟩
   ·left;refine⟨?_,by simp only[quo,if_neg h,h2]⟩;unfold Lib.index;rw[hp,h1];rfl
   ·right;refine⟨i+1,?_,by simpa using h2,?_⟩
    ·unfold Lib.index;rw[hp,h1];have:((i:Int) == -1)=false:=beq_eq_false_iff_ne.2 (by omega);simp[this]
    ·simp only[quo,if_neg h,h3,List.take_succ_cons,List.drop_succ_cons,Zb2]
theorem An7:∀(f:Nat) (s:Str),s.length<f->Lib.replaceK [39] [39,39] (Lib.countFrom [39] f s) s=quo s
 |0,s,h=>absurd h (Zm1 _)
 |f+1,s,h=>by
  rcases Am3 s with ⟨h1,h2⟩|⟨i,h1,h2,h3⟩
  ·simp only[Lib.countFrom,h1];exact h2.symm
  ·have hn:((i:Int) == -1)=false:=beq_eq_false_iff_ne.2 (by omega);have ih:=An7 f (s.drop (i+1)) (by rw[Za2];omega);have e:Lib.countFrom [39] (f+1) s=Lib.countFrom [39] f (s.drop (i+1))+1:=by simp only[Lib.countFrom,h1,hn,Int.toNat_natCast,Zf1,Zi1];simp[Nat.add_comm]
   rw[e,Lib.replaceK_hit _ _ _ _ i h1];simp only[Zf1,Zi1,Nat.zero_add];rw[ih,h3]
theorem Blq(s:Str):Lib.replaceAll s [39] [39,39]=quo s:=by
 have e:Lib.replaceNum s [39] (-1)=Lib.countFrom [39] (s.length+1) s:=by unfold Lib.replaceNum;rw[if_pos (.inl (by decide))];rfl
 have hc:=An7 (s.length+1) s (by omega);rw[<-e] at hc;exact hc
theorem Ayd{s:Str}(h:s.length<=3000):Ah0 s [39] [39,39]=some (quo s):=by have h1:=Lib.countB_mul_le ⟨#[39]⟩ (by decide) s.length ⟨s.toArray⟩ (Zn1 _);have h2:Lib.count s [39]*1<=s.length:=h1;have h3:=Aq2 s;simp only[Ah0,Blq];rw[Ze1 (show s.length<4294967281 by omega),Ze1 (show 1<=([39]:Str).length by decide),Ze1 (show s.length+Lib.count s [39]*([39,39]:Str).length<=140737488355328 by simp only[Zf1,Zi1];omega),Ze1 (show(quo s).length<=maxLen by simp only[maxLen];omega)];rfl
def A8i(R:Type):Px R:=pxO [(147,cA Aio),(149,cA Acv),(150,cA Ajp),(151,cA A0t)] [] [] []
def Af0(x:HV [.sv .val]):Option (HV [.str]):=match x with
 |v =>
 cond (!(B7 v)) (
  some []) (
  cond (decide (v.kind=2)) (
  chk (inb v.n 2) (
   some (at' .str [[70,65,76,83,69],[84,82,85,69]] v.n))) (
  cond (decide (v.kind=3)) (
   some (Atd v.n)) (
   cond (decide (v.kind=4)) (
   (Ah0 v.s [39] [39,39]).bind λx =>
    chk (decide ([39].length+x.length<=C0)) (
    chk (decide (([39]++x).length+[39].length<=C0)) (
     some (([39]++x)++[39])))) (
   cond (decide (v.kind=5)) (
    (Bcb v.s).bind λx1 =>
    chk (decide ([120,39].length+x1.length<=C0)) (
     chk (decide (([120,39]++x1).length+[39].length<=C0)) (
     some (([120,39]++x1)++[39])))) (
    some [78,85,76,76])))))
theorem A12:FO 98 [.sv .val] [.str] (Af0):=fR (px:=A8i _) (n:=0) Tryz.func98 rfl (λ_ H=>⟨lv H (c1 H Aoq (c1 H Ay2 (c1 H Bae (c1 H Blg Af)))) Ab Aa,Ak⟩) λ_=>by kernel_rfl
def Bo(v:Val):Str:=cond (B7 v) (if v.kind=2 then(if v.n=0 then [70,65,76,83,69] else [84,82,85,69]) else if v.kind=3 then Axp v.n else if v.kind=4 then 39::(quo v.s++[39]) else if v.kind=5 then 120::39::(Nk v.s++[39]) else [78,85,76,76]) []
def Aam:FT [.sv .val] [.str]:=λx=>some (Bo x)
theorem N7{v:Val}(h:B7 v=true)(hk:v.kind=4\/v.kind=5):v.s.length<=1000:=by
 rcases hk with h4|h5
 ·simp[B7,h4] at h;omega
 ·simp[B7,h5] at h;omega
theorem Ayb{v:Val}(h:B7 v=true)(hk:v.kind=2):v.n=0\/v.n=1:=by
 by_cases h0:v.n=0
 ·exact .inl h0
 ·by_cases h1:v.n=1
  ·exact .inr h1
  ·simp[B7,hk,h0,h1] at h
theorem Aoa:FO 98 [.sv .val] [.str] Aam :=.fin0 A12 λv r _ hx=>by
 simp only[Aam,Za1] at hx;subst hx;simp only[Af0,Bo];cases hr:B7 v with
 |false=>rfl
 |true =>
  simp only[Zt1,Ah,Ae];by_cases k2:v.kind=2
  ·rw[Ze1 k2,if_pos k2];rcases Ayb hr k2 with h|h<;>rw[h]<;>rfl
  ·rw[Zd1 k2,if_neg k2];by_cases k3:v.kind=3
   ·rw[Ze1 k3,if_pos k3];rfl
   ·rw[Zd1 k3,if_neg k3];by_cases k4:v.kind=4
    ·have hl:=N7 hr (.inl k4);have hq:=Aq2 v.s;rw[Ze1 k4,if_pos k4];simp only[Ae,Ah,Ayd (show v.s.length<=3000 by omega),Zc1];refine(A4x (Ze1 ?_)).trans ((A4x (Ze1 ?_)).trans rfl)
     ·simp only[Zf1,Zi1,C0];omega
     ·simp only[Zh1,Zf1,Zi1,C0];omega
    ·rw[Zd1 k4,if_neg k4];by_cases k5:v.kind=5
     ·have hl:=N7 hr (.inr k5);have hh:=Ak0 v.s;have hv:Bcb v.s=some (Nk v.s):=by simp only[Bcb];rw[Ze1 (by omega)];rfl
      rw[Ze1 k5,if_pos k5];simp only[Ae,Ah,hv,Zc1];refine(A4x (Ze1 ?_)).trans ((A4x (Ze1 ?_)).trans rfl)
      ·simp only[Zf1,Zi1,C0];omega
      ·simp only[Zh1,Zf1,Zi1,C0];omega
     ·rw[Zd1 k5,if_neg k5];rfl
def Bh2(R:Type):Px R:=pxO [] [] [] []
def Xq(x:HV [.int .i64]):Option (HV [.int .i64]):=match x with
 |kind =>
 let j1:=λ(p1:Bool) =>
  cond (p1) (
  some 0) (
  let j:=λ(p5:Bool) =>
   cond (p5) (
   some 1) (
   cond (!decide ((Q7 signsL kind)=[])) (
    some 2) (
    some (-1)))
  cond (decide (kind=3)) (
   j true) (
   cond (decide (kind=15)) (
   j true) (
   j (decide (kind=16)))))
 cond (decide (kind=1)) (
  j1 true) (
  j1 (decide (kind=2)))
theorem A7i:FO 94 [.int .i64] [.int .i64] (Xq):=fR (px:=Bh2 _) (n:=0) Tryz.func94 rfl (λ_ H=>⟨lv H Af Ab Aa,Ak⟩) λ_=>by kernel_rfl
def Ib(kind:Int):Int :=
 let j1:=λ(p1:Bool) =>
  cond (p1) (
  0) (
  let j:=λ(p5:Bool) =>
   cond (p5) (
   1) (
   cond (!decide ((Q7 signsL kind)=[])) (
    2) (
    (-1)))
  cond (decide (kind=3)) (
   j true) (
   cond (decide (kind=15)) (
   j true) (
   j (decide (kind=16)))))
 cond (decide (kind=1)) (
  j1 true) (
  j1 (decide (kind=2)))
theorem A94(x:HV [.int .i64]):Xq x=some (Ib x):=by
 first
  |exact rfl
  |simp only[Xq,Ib,Bm]
def Arr:FT [.int .i64] [.int .i64]:=λx=>some (Ib x)
theorem Avy:FO 94 [.int .i64] [.int .i64] Arr :=.fin0 A7i λx _ _ hx=>(A94 x).trans hx
mutual
def Bf:Xpr->Nat
 |.mk _ _ _ l=>1+esizes l
def esizes:List Xpr->Nat
 |[]=>0
 |x::l=>1+Bf x+esizes l
end
theorem Fl:∀{l:List Xpr}{x:Xpr},x∈l->Bf x<esizes l
 |y::l,x,h=>by
  simp only[List.mem_cons] at h;simp only[esizes];rcases h with rfl|h
  ·omega
  ·have:=Fl h;omega
theorem Rp:∀(l:List Xpr),l.length<=esizes l
 |[]=>by simp
 |x::l=>by have:=Rp l;simp only[esizes,Zf1];omega
theorem F4(e:Xpr) : 0<Bf e:=by cases e;simp only[Bf];omega
theorem Iy(e:Xpr):Bf e=1+esizes e.l:=by cases e;simp only[Bf,Xpr.l]
theorem Am9{e:Xpr}(h:BdExpr e):ln e.l.length/\∀x,x∈e.l->BdExpr x:=by obtain⟨_,_,_,_,_,_,_,h4,h5⟩:=h;exact⟨h4,h5⟩
theorem Bqk{e:Xpr}(h:BdExpr e):A5u e.v/\inI e.kind/\ln e.name.length:=by obtain⟨_,_,_,_,h1,h2,h3,_,_⟩:=h;exact⟨h2,h1,h3⟩
def Afx:Sig:=⟨19,[(0,.sl .expr false),(4,.int .i64),(7,.int .i64),(8,.int .i64)],[(1,.fn 97 [.ptr 1 0])],[(1,.cells [.int .i64])],80,80,400,[],[]⟩
abbrev Q5:=List Xpr×Int×Int×Int×Int
def Pp{R:Type}(rf:FT [.sv .expr,.int .i64] [.bool])(rec:Q5->Option R)(kx:Ex->Q5->Option R)(v:Q5):Option R:=match v with
 |(v,v1,v2,v3,w) =>
 cond (decide (v3<v2)) (
  chk (inb v3 v.length) (
  (rf ((at' .expr v v3),(wr .i64 (w-1)))).bind λx =>
   cond (!x) (
   kx .ret (v,v3,v2,v3,w)) (
   rec (v,v1,v2,(wr .i64 (v3+1)),w)))) (
  kx (.exit 0) (v,v1,v2,v3,w))
def Sd(R:Type)(_k:Nat)(rf:FT [.sv .expr,.int .i64] [.bool]):Px R:=pxO [(39,cA rf)] [] [] []
noncomputable def W3(R:Type)(k:Nat)(rf:FT [.sv .expr,.int .i64] [.bool]):Px R:=pxO [(97,Az 120 600 (Sd R k rf) Tryz.f97)] [] [(2,Aq k Afx (Pp rf))] []
noncomputable def Ad7(R:Type)(k:Nat)(rf:FT [.sv .expr,.int .i64] [.bool]):Px R:=pxO [(148,Az 80 400 (W3 R k rf) Tryz.f148)] [] [] []
noncomputable def Ant(R:Type)(k:Nat)(rf:FT [.sv .expr,.int .i64] [.bool]):Px R:=pxO [(95,cA Ajv),(63,cA Ri),(96,Az 40 200 (Ad7 R k rf) Tryz.f96)] [(94,qA Arr)] [] []
def H8(k:Nat)(rf:FT [.sv .expr,.int .i64] [.bool])(x:HV [.sv .expr,.int .i64]):Option (HV [.bool]):=match x with
 |(e,most) =>
 cond (decide (most=0)) (
  some false) (
  cond (!decide ((e.l.length:Int)=(Ib e.kind))) (
  some false) (
  let j2:=λ(_:Unit) =>
   let j1:=λ(_:Unit) =>
   Al (λrec=>Pp rf rec (λe vz=>match vz with|(_,v5,_,_,_)=>match e with
    |.ret =>
    some (!(decide (0<=v5)))
    |.exit 0 =>
    some true
    |_=>none)) k (e.l,0,(e.l.length:Int),0,most)
   let j:=λ(p5:Bool) =>
   cond (p5) (
    some false) (
    cond (!decide (e.kind=2)) (
    cond (!decide (e.name=[])) (
     some false) (
     j1 ())) (
    j1 ()))
   cond (decide (e.kind=2)) (
   j (!(Be e.name))) (
   j false)
  cond (decide (e.kind=1)) (
   cond (!decide ((Jf e.v)=0)) (
   some false) (
   cond (decide (e.v.kind=3)) (
    cond (decide (e.v.n<0)) (
    some false) (
    j2 ())) (
    j2 ()))) (
   cond (!decide (e.v=(Val.mk 0 0 []))) (
   some false) (
   j2 ()))))
theorem Ayp(k:Nat)(rf:FT [.sv .expr,.int .i64] [.bool])(hrf:FO 39 [.sv .expr,.int .i64] [.bool] rf):FO 39 [.sv .expr,.int .i64] [.bool] (H8 k rf):=fR (px:=Ant _ k rf) (n:=0) Tryz.func39 rfl (λcx H=>by have h3:Lv cx (Sd (HV [.bool]) k rf):=lv H (c1 H hrf Af) Ab Aa;have h2:Lv cx (W3 (HV [.bool]) k rf):=lv H (Au (cR H h3 Tryz.func97 rfl (n:=0) (Ak)) Af) Ab Aa;have hleright_0:=lO H h2 (b:=lp Tryz.f148 0) (k:=k) (n:=0) (s:=Afx) (step:=Pp rf) (λ_ _ _ (_,_,_,_,_)=>by kernel_rfl) Ak;have h1:Lv cx (Ad7 (HV [.bool]) k rf):=lv H (Au (cR H h2 Tryz.func148 rfl (n:=1) ((Bq Ak hleright_0))) Af) Ab Aa;have h0:Lv cx (Ant (HV [.bool]) k rf):=lv H (c1 H Apa (c1 H Sp (Au (cR H h1 Tryz.func96 rfl (n:=0) (Ak)) Af))) (q1 H Avy Ab) Aa;exact⟨h0,Ak⟩) λ(_,_)=>by kernel_rfl
def eok(k:Int)(v:Val)(nm:Str):Bool:=cond (decide (k=1)) (decide (Jf v=0) && !(decide (v.kind=3)&&decide (v.n<0))) (decide (v=⟨0,0,[]⟩))&&cond (decide (k=2)) (Be nm) (decide (nm=[]))
mutual
def Bc:Xpr->Int->Bool
 |.mk k v nm l,m => !decide (m=0)&&decide ((l.length:Int)=Ib k)&&eok k v nm&&erights l (wr .i64 (m-1))
def erights:List Xpr->Int->Bool
 |[],_=>true
 |x::l,m=>Bc x m&&erights l m
end
def Pd:FT [.sv .expr,.int .i64] [.bool]:=λx=>some (Bc x.1 x.2)
theorem Af6{R:Type}{rf:FT [.sv .expr,.int .i64] [.bool]}{kx:Ex->Q5->Option R}{l:List Xpr}{m:Int}{a b:Option R}(hn:ln l.length)(hrf:∀x,x∈l->rf (x,wr .i64 (m-1))=some (Bc x (wr .i64 (m-1))))(h1:∀(j:Nat),kx .ret (l,(j:Int),(l.length:Int),(j:Int),m)=a)(h2:∀q j,kx (.exit 0) (l,q,(l.length:Int),j,m)=b):∀(k i:Nat) q,i<=l.length->l.length-i<k->Al (λrec=>Pp rf rec kx) k (l,q,(l.length:Int),(i:Int),m)=cond (erights (l.drop i) (wr .i64 (m-1))) b a
 |0,i,q,_,h=>by omega
 |k+1,i,q,hi,h=>by
  rw[A3];by_cases hl:i<l.length
  ·have ih:=Af6 hn hrf h1 h2 k (i+1) q (by omega) (by omega);simp only[Pp,A0 hl hn,ih,h1,As hl,Bb (c :=.expr) hl,A7 hl,chk,Ae,Bool.cond_decide,erights,hrf _ (List.getElem_mem hl),Zc1];rw[if_pos (by omega)];cases Bc l[i] (wr .i64 (m-1))<;>rfl
  ·simp only[Pp,h2,Bool.cond_decide];rw[if_neg (by omega),Zk1 (by omega)];rfl
theorem Anc(e:Xpr)(m:Int):Bc e m=(!decide (m=0)&&decide ((e.l.length:Int)=Ib e.kind)&&eok e.kind e.v e.name&&erights e.l (wr .i64 (m-1))):=by cases e;simp only[Bc];rfl
theorem Aiy(k:Nat):∀(n:Nat) (e:Xpr) (m:Int),BdExpr e->Bf e<=n->Bf e<=k->Al (H8 k) n (e,m)=some (Bc e m)
 |0,e,m,_,h,_=>by have:=F4 e;omega
 |n+1,e,m,hb,h,hk=>by
  obtain⟨hb4,hb5⟩:=Am9 hb;rw[Iy] at h hk;have hl:=Rp e.l;have hrf:∀x,x∈e.l->∀m,Al (H8 k) n (x,m)=some (Bc x m):=λx hx m=>Aiy k n x m (hb5 x hx) (by have:=Fl hx;omega) (by have:=Fl hx;omega);have hloop:=Af6 (R:=Bool) (rf:=Al (H8 k) n) (l:=e.l) (m:=m) (a:=some false) (b:=some true) (kx:=λe v=>match v with
   |(_,v5,_,_,_)=>match e with
    |.ret=>some (!(decide (0<=v5)))
    |.exit 0=>some true
    |_=>none) hb4 (λx hx=>hrf x hx _) (λj=>by simp) (λ_ _=>rfl) k 0 0 (Nat.zero_le _) (by omega)
  have e0:((0:Nat):Int)=0:=rfl;rw[e0] at hloop;rw[A3,Anc];simp only[H8] at hloop ⊢;rw[hloop];simp only[Zq1,eok];by_cases hm:m=0
  ·simp[hm]
  ·rw[Zd1 hm];simp only[Ah,Zs1,Bool.true_and];by_cases hp:(e.l.length:Int)=Ib e.kind
   ·rw[Ze1 hp];by_cases h1:e.kind=1
    ·have h2:¬e.kind=2:=by omega
     rw[Ze1 h1,Zd1 h2];simp only[Ae,Ah,Zs1,Zt1,Bool.true_and];cases decide (Jf e.v=0)<;>cases decide (e.v.kind=3)<;>cases decide (e.v.n<0)<;>cases decide (e.name=[])<;>cases erights e.l (wr .i64 (m-1))<;>rfl
    ·rw[Zd1 h1];simp only[Ah,Zt1,Bool.true_and];cases decide (e.v=Val.mk 0 0 [])<;>cases decide (e.kind=2)<;>cases decide (e.name=[])<;>cases Be e.name<;>cases erights e.l (wr .i64 (m-1))<;>rfl
   ·rw[Zd1 hp];rfl
theorem N1:FO 39 [.sv .expr,.int .i64] [.bool] Pd:=by refine .fin (ι:=Nat) 0 (F:=λn=>Al (H8 n) n) (λn=>FnOk.rec' (Sx.enters_of Tryz.func39 rfl rfl) (λrf hrf=>Ayp n rf hrf) n) λ(e,m) r hb hx=>⟨Bf e,?_⟩;exact(Aiy (Bf e) (Bf e) e m hb.1 (Zn1 _) (Zn1 _)).trans hx
def Bdg(R:Type):Px R:=pxO [(39,cA Pd)] [] [] []
def Y0(x:HV [.sv .expr]):Option (HV [.int .i64]):=match x with
 |e =>
 cond (!(Bc e 30)) (
  some 2) (
  some 0)
theorem A7l:FO 18 [.sv .expr] [.int .i64] (Y0):=fR (px:=Bdg _) (n:=0) Tryz.func18 rfl (λ_ H=>⟨lv H (c1 H N1 Af) Ab Aa,Ak⟩) λ_=>by kernel_rfl
def Axi(e:Xpr):Int :=
 cond (!(Bc e 30)) (
  2) (
  0)
theorem A72(x:HV [.sv .expr]):Y0 x=some (Axi x):=by
 first
  |exact rfl
  |simp only[Y0,Axi,Bm]
def A4o:FT [.sv .expr] [.int .i64]:=λx=>some (Axi x)
theorem Bgt:FO 18 [.sv .expr] [.int .i64] A4o :=.fin0 A7l λx _ _ hx=>(A72 x).trans hx
def Ai5:Sig:=⟨41,[(1,.int .i64),(5,.int .i64),(6,.int .i64)],[(2,.ptr 0 0)],[(0,.one (.sv .expr))],1,0,0,[],[]⟩
abbrev U5:=Int×Int×Int×Xpr
def V5{R:Type}(rf:FT [.sv .expr,.int .i64] [.int .i64])(rec:U5->Option R)(kx:Ex->U5->Option R)(v:U5):Option R:=match v with
 |(v,v1,v2,w) =>
 cond (decide (v2<(w.l.length:Int))) (
  cond (decide (v1<v)) (
  chk (inb v2 w.l.length) (
   (rf ((at' .expr w.l v2),(wr .i64 (v-v1)))).bind λx =>
   rec (v,(wr .i64 (v1+x)),(wr .i64 (v2+1)),w))) (
  kx (.exit 0) (v,v1,v2,w))) (
  kx (.exit 0) (v,v1,v2,w))
def Av9(R:Type)(k:Nat)(rf:FT [.sv .expr,.int .i64] [.int .i64]):Px R:=pxO [(12,cA rf)] [] [(3,Aq k Ai5 (V5 rf))] []
def L3(k:Nat)(rf:FT [.sv .expr,.int .i64] [.int .i64])(x:HV [.sv .expr,.int .i64]):Option (HV [.int .i64]):=match x with
 |(e,most) =>
 Al (λrec=>V5 rf rec (λe vz=>match vz with|(_,v4,_,_)=>match e with
  |.exit 0 =>
  some v4
  |_=>none)) k (most,(wr .i64 (1+(wr .i64 (Int.tdiv (wr .i64 ((e.v.s.length:Int)+(e.name.length:Int))) 30)))),0,e)
theorem Bab(k:Nat)(rf:FT [.sv .expr,.int .i64] [.int .i64])(hrf:FO 12 [.sv .expr,.int .i64] [.int .i64] rf):FO 12 [.sv .expr,.int .i64] [.int .i64] (L3 k rf):=fR (px:=Av9 _ k rf) (n:=1) Tryz.func12 rfl (λcx H=>by have h0:Lv cx (Av9 (HV [.int .i64]) k rf):=lv H (c1 H hrf Af) Ab Aa;have hlmuch1_0:=lO H h0 (b:=lp Tryz.f12 0) (k:=k) (n:=0) (s:=Ai5) (step:=V5 rf) (λ_ _ _ (_,_,_,_)=>by kernel_rfl) Ak;exact⟨h0,(Bq Ak hlmuch1_0)⟩) λ(_,_)=>by kernel_rfl
mutual
def Cq:Xpr->Int->Int
 |.mk _ v nm l,most=>muchL l most (wr .i64 (1+wr .i64 (Int.tdiv (wr .i64 ((v.s.length:Int)+(nm.length:Int))) 30)))
def muchL:List Xpr->Int->Int->Int
 |[],_,n=>n
 |x::l,most,n=>cond (decide (n<most)) (muchL l most (wr .i64 (n+Cq x (wr .i64 (most-n))))) n
end
def Asq:FT [.sv .expr,.int .i64] [.int .i64]:=λx=>some (Cq x.1 x.2)
theorem Ain{R:Type}{rf:FT [.sv .expr,.int .i64] [.int .i64]}{kx:Ex->U5->Option R}{e:Xpr}{most:Int}{g:Int->Option R}(hn:ln e.l.length)(hrf:∀x,x∈e.l->∀m,rf (x,m)=some (Cq x m))(h2:∀n j,kx (.exit 0) (most,n,j,e)=g n):∀(k i:Nat) n,i<=e.l.length->e.l.length-i<k->Al (λrec=>V5 rf rec kx) k (most,n,(i:Int),e)=g (muchL (e.l.drop i) most n)
 |0,i,n,_,h=>by omega
 |k+1,i,n,hi,h=>by
  rw[A3];by_cases hl:i<e.l.length
  ·have ih:=λn=>Ain hn hrf h2 k (i+1) n (by omega) (by omega);simp only[V5,A0 hl hn,ih,h2,As hl,Bb (c :=.expr) hl,A7 hl,chk,Ae,Bool.cond_decide,muchL,hrf _ (List.getElem_mem hl),Zc1];rw[if_pos (by omega)];split<;>rfl
  ·simp only[V5,h2,Bool.cond_decide];rw[if_neg (by omega),Zk1 (by omega)];rfl
theorem Aoj(k:Nat):∀(n:Nat) (e:Xpr) (m:Int),BdExpr e->Bf e<=n->Bf e<=k->Al (L3 k) n (e,m)=some (Cq e m)
 |0,e,m,_,h,_=>by have:=F4 e;omega
 |n+1,.mk kd v nm l,m,hb,h,hk=>by
  obtain⟨_,_,_,_,hb1,hb2,hb3,hb4,hb5⟩:=hb;simp only[Bf] at h hk;have hl:=Rp l;have hrf:∀x,x∈l->∀m,Al (L3 k) n (x,m)=some (Cq x m):=λx hx m=>Aoj k n x m (hb5 x hx) (by have:=Fl hx;omega) (by have:=Fl hx;omega);rw[A3];simp only[L3];refine(Ain (e :=.mk kd v nm l) (g:=some) hb4 hrf ?_ k 0 _ (Nat.zero_le _) (by simp only[Xpr.l];omega)).trans ?_
  ·exactλ_ _=>rfl
  ·simp only[Cq,Xpr.l,Zq1,Xpr.v,Xpr.name]
theorem Aw9:FO 12 [.sv .expr,.int .i64] [.int .i64] Asq:=by refine .fin (ι:=Nat) 0 (F:=λn=>Al (L3 n) n) (λn=>FnOk.rec' (Sx.enters_of Tryz.func12 rfl rfl) (λrf hrf=>Bab n rf hrf) n) λ(e,m) r hb hx=>⟨Bf e,?_⟩;exact(Aoj (Bf e) (Bf e) e m hb.1 (Zn1 _) (Zn1 _)).trans hx
mutual
def Mx:Xpr->Xpr->Bool
 |.mk k v n l,.mk k' v' n' l'=>decide (k=k')&&decide (v=v')&&decide (n=n')&&xsames l l'
def xsames:List Xpr->List Xpr->Bool
 |[],[]=>true
 |x::l,y::m=>Mx x y&&xsames l m
 |_,_=>false
end
mutual
theorem Ach:∀a b:Xpr,Mx a b=true↔a=b
 |.mk k v n l,.mk k' v' n' l'=>by
  simp only[Mx,Zb1,Zg1,xsames_iff l l',Xpr.mk.injEq];constructor
  ·rintro⟨⟨⟨h1,h2⟩,h3⟩,h4⟩;exact⟨h1,h2,h3,h4⟩
  ·rintro⟨h1,h2,h3,h4⟩;exact⟨⟨⟨h1,h2⟩,h3⟩,h4⟩
theorem xsames_iff:∀a b:List Xpr,xsames a b=true↔a=b
 |[],[]=>by simp[xsames]
 |x::l,y::m=>by simp only[xsames,Zb1,Ach x y,xsames_iff l m,Ze2]
 |[],_::_=>by simp[xsames]
 |_::_,[]=>by simp[xsames]
end
instance:DecidableEq Xpr:=λa b=>decidable_of_iff (Mx a b=true) (Ach a b)
theorem N4(a b:Xpr):Mx a b=decide (a=b):=by rw[Bool.eq_iff_iff,Ach,Zg1]
theorem A0j{a b:List Xpr}(h:xsames a b=true):a.length=b.length:=by rw[(xsames_iff a b).1 h]
theorem Bb4(a b:Xpr):Mx a b=(decide (a.kind=b.kind)&&decide (a.v=b.v)&&decide (a.name=b.name)&&xsames a.l b.l):=by cases a;cases b;simp only[Mx];rfl
def Alk:Sig:=⟨32,[(1,.sl .expr false),(6,.bool),(15,.sl .expr false),(16,.int .i64),(17,.int .i64)],[(2,.fn 20 [])],[],40,40,200,[],[]⟩
abbrev Wh:=List Xpr×Bool×List Xpr×Int×Int
def Vh{R:Type}(rf:FT [.sv .expr,.sv .expr] [.bool])(rec:Wh->Option R)(kx:Ex->Wh->Option R)(v:Wh):Option R:=match v with
 |(v,v1,v2,v3,v4) =>
 cond (decide (v4<v3)) (
  chk (inb v4 v2.length) (
  chk (inb v4 v.length) (
   (rf ((at' .expr v2 v4),(at' .expr v v4))).bind λx =>
   cond (!x) (
    kx .ret (v,false,v2,v3,v4)) (
    rec (v,v1,v2,v3,(wr .i64 (v4+1))))))) (
  kx (.exit 0) (v,v1,v2,v3,v4))
def Ajb(R:Type)(k:Nat)(rf:FT [.sv .expr,.sv .expr] [.bool]):Px R:=pxO [(20,cA rf)] [] [(4,Aq k Alk (Vh rf))] []
noncomputable def Avw(R:Type)(k:Nat)(rf:FT [.sv .expr,.sv .expr] [.bool]):Px R:=pxO [(47,Az 40 200 (Ajb R k rf) Tryz.f47)] [] [] []
def Jc(k:Nat)(rf:FT [.sv .expr,.sv .expr] [.bool])(x:HV [.sv .expr,.sv .expr]):Option (HV [.bool]):=match x with
 |(a,b) =>
 let j1:=λ(p:Bool) =>
  let j:=λ(p1:Bool) =>
  cond (p1) (
   cond (!decide ((a.l.length:Int)=(b.l.length:Int))) (
   some false) (
   Al (λrec=>Vh rf rec (λe vz=>match vz with|(_,v6,_,_,_)=>match e with
    |.ret =>
    some v6
    |.exit 0 =>
    some true
    |_=>none)) k (b.l,false,a.l,(a.l.length:Int),0))) (
   some false)
  cond (p) (
  j (decide (a.name=b.name))) (
  j false)
 cond (decide (a.kind=b.kind)) (
  j1 (decide (a.v=b.v))) (
  j1 false)
theorem A7g(k:Nat)(rf:FT [.sv .expr,.sv .expr] [.bool])(hrf:FO 20 [.sv .expr,.sv .expr] [.bool] rf):FO 20 [.sv .expr,.sv .expr] [.bool] (Jc k rf):=fR (px:=Avw _ k rf) (n:=0) Tryz.func20 rfl (λcx H=>by have h1:Lv cx (Ajb (HV [.bool]) k rf):=lv H (c1 H hrf Af) Ab Aa;have hlasame_0:=lO H h1 (b:=lp Tryz.f47 0) (k:=k) (n:=0) (s:=Alk) (step:=Vh rf) (λ_ _ _ (_,_,_,_,_)=>by kernel_rfl) Ak;have h0:Lv cx (Avw (HV [.bool]) k rf):=lv H (Au (cR H h1 Tryz.func47 rfl (n:=1) ((Bq Ak hlasame_0))) Af) Ab Aa;exact⟨h0,Ak⟩) λ(_,_)=>by kernel_rfl
def Tf(a b:Xpr):Bool:=Mx a b
def V1:FT [.sv .expr,.sv .expr] [.bool]:=λx=>some (Tf x.1 x.2)
theorem A0u{R:Type}{rf:FT [.sv .expr,.sv .expr] [.bool]}{kx:Ex->Wh->Option R}{l m:List Xpr}{c:Bool->Option R}(hn:ln l.length)(hm:l.length=m.length)(hrf:∀x,x∈l->∀y,y∈m->rf (x,y)=some (Mx x y))
  (h1:∀i,kx .ret (m,false,l,(l.length:Int),i)=c false) (h2:∀q i,kx (.exit 0) (m,q,l,(l.length:Int),i)=c true) (k:Nat) (hk:l.length<k):Al (λrec=>Vh rf rec kx) k (m,false,l,(l.length:Int),0)=c (xsames l m):=by
 refine(Dz l.length (λi=>(m,false,l,(l.length:Int),(i:Int))) (λi=>c (xsames (l.drop i) (m.drop i))) (λi hi rec hr =>?_) (λrec =>?_) k 0 (Nat.zero_le _) (by omega)).trans (by rw[Zq1,Zq1])
 ·have hi2:i<m.length:=by omega
  simp only[Vh,He hi,Ae,A7 hi,A7 hi2,chk,Bb (c :=.expr) hi,Bb (c :=.expr) hi2,hrf _ (List.getElem_mem hi) _ (List.getElem_mem hi2),Zc1,A0 hi hn,hr,h1,As hi,As hi2,xsames];cases Mx l[i] m[i]<;>rfl
 ·simp only[Vh,G7,Ah,h2];rw[Zk1 (Zn1 _),Zk1 (by omega)];rfl
theorem Apd(k:Nat):∀(n:Nat) (a b:Xpr),BdExpr a->BdExpr b->Bf a<=n->Bf a<=k->Al (Jc k) n (a,b)=some (Mx a b)
 |0,a,b,_,_,h,_=>by have:=F4 a;omega
 |n+1,a,b,ha,hb,h,hk=>by
  obtain⟨hb4,hb5⟩:=Am9 ha;obtain⟨hc4,hc5⟩:=Am9 hb;rw[Iy] at h hk;have hl:=Rp a.l;have hrf:∀x,x∈a.l->∀y,y∈b.l->Al (Jc k) n (x,y)=some (Mx x y):=λx hx y hy=>Apd k n x y (hb5 x hx) (hc5 y hy) (by have:=Fl hx;omega) (by have:=Fl hx;omega);rw[A3,Bb4];simp only[Jc];by_cases hlen:a.l.length=b.l.length
  ·have hloop:=A0u (R:=Bool) (rf:=Al (Jc k) n) (l:=a.l) (m:=b.l) (c:=some) (kx:=λe v=>match v with
    |(_,v6,_,_,_)=>match e with
     |.ret=>some v6
     |.exit 0=>some true
     |_=>none) hb4 hlen hrf (λ_=>rfl) (λ_ _=>rfl) k (by omega)
   rw[hloop,Ze1 (show(a.l.length:Int)=(b.l.length:Int) by omega)];cases decide (a.kind=b.kind)<;>cases decide (a.v=b.v)<;>cases decide (a.name=b.name)<;>cases xsames a.l b.l<;>rfl
  ·have hno:xsames a.l b.l=false:=by cases hs:xsames a.l b.l with|false=>rfl|true=>exact absurd (A0j hs) hlen
   rw[hno,Zd1 (show ¬(a.l.length:Int)=(b.l.length:Int) by omega)];cases decide (a.kind=b.kind)<;>cases decide (a.v=b.v)<;>cases decide (a.name=b.name)<;>rfl
theorem Tp:FO 20 [.sv .expr,.sv .expr] [.bool] V1:=by refine .fin (ι:=Nat) 0 (F:=λn=>Al (Jc n) n) (λn=>FnOk.rec' (Sx.enters_of Tryz.func20 rfl rfl) (λrf hrf=>A7g n rf hrf) n) λ(a,b) r hb hx=>⟨Bf a,?_⟩;exact(Apd (Bf a) (Bf a) a b hb.1 hb.2 (Zn1 _) (Zn1 _)).trans hx
def Am1:Sig:=⟨19,[(0,.sl .str false),(1,.str),(4,.int .i64),(7,.int .i64),(8,.int .i64)],[],[],0,0,0,[],[]⟩
abbrev Aba:=List Str×Str×Int×Int×Int
def Adf{R:Type}(rec:Aba->Option R)(kx:Ex->Aba->Option R)(v:Aba):Option R:=match v with
 |(v,v1,v2,v3,v4) =>
 cond (decide (v4<v3)) (
  chk (inb v4 v.length) (
  cond (decide (v1=(at' .str v v4))) (
   kx .ret (v,v1,v4,v3,v4)) (
   rec (v,v1,v2,v3,(wr .i64 (v4+1)))))) (
  kx (.exit 0) (v,v1,v2,v3,v4))
def A2u(R:Type)(k:Nat):Px R:=pxO [] [] [(2,Aq k Am1 (Adf))] []
def Aou(k:Nat)(x:HV [.sl .str false,.str]):Option (HV [.int .i64]):=match x with
 |(l,s) =>
 Al (λrec=>Adf rec (λe vz=>match vz with|(_,_,v7,_,_)=>match e with
  |.ret =>
  some v7
  |.exit 0 =>
  some (-1)
  |_=>none)) k (l,s,0,(l.length:Int),0)
theorem Bfp(k:Nat):FO 100 [.sl .str false,.str] [.int .i64] (Aou k):=fR (px:=A2u _ k) (n:=1) Tryz.func100 rfl (λcx H=>by have h0:Lv cx (A2u (HV [.int .i64]) k):=lv H Af Ab Aa;have hlsidx_0:=lO H h0 (b:=lp Tryz.f100 0) (k:=k) (n:=0) (s:=Am1) (step:=Adf) (λ_ _ _ (_,_,_,_,_)=>by kernel_rfl) Ak;exact⟨h0,(Bq Ak hlsidx_0)⟩) λ(_,_)=>by kernel_rfl
def Bnt(l:List Str)(s:Str):Int:=Lp.idx s l 0
def Az1:FT [.sl .str false,.str] [.int .i64]:=λx=>some (Bnt x.1 x.2)
theorem Aoe{R:Type}{kx:Ex->Aba->Option R}{l:List Str}{s:Str}{c:Int->Option R}(hl:ln l.length)(h1:∀(r:Int) (i:Int),kx .ret (l,s,r,(l.length:Int),i)=c r)(h2:∀q:Int,kx (.exit 0) (l,s,q,(l.length:Int),(l.length:Int))=c (-1)) :
  ∀(k i:Nat) (q:Int),i<=l.length->l.length-i<k->Al (λrec=>Adf rec kx) k (l,s,q,(l.length:Int),(i:Int))=c (Lp.idx s (l.drop i) i)
 |0,i,_,_,h=>absurd h (Zm1 _)
 |k+1,i,q,hi,h=>by
  rw[A3];by_cases hlt:i<l.length
  ·have ih:=Aoe hl h1 h2 k (i+1) q (by omega) (by omega);have e1:decide ((i:Int)<(l.length:Int))=true:=Ze1 (by omega);have en:((i+1:Nat):Int)=(i:Int)+1:=by omega
   simp only[Adf,e1,Ae,A7 hlt,chk,Bb (c :=.str) hlt,A0 hlt hl,ih,h1];rw[As hlt,Lp.idx,en];by_cases hx:s=l[i]
   ·rw[Ze1 hx,if_pos hx,Ae]
   ·rw[Zd1 hx,if_neg hx,Ah]
  ·have hi:i=l.length:=by omega
   subst hi;simp only[Adf,Zd1 (show ¬((l.length:Nat):Int)<(l.length:Int) by omega),Ah,h2,Zc2,Lp.idx]
theorem Blh:FO 100 [.sl .str false,.str] [.int .i64] Az1 :=.fin 0 Bfp λ(l,s) r hb hx=>⟨l.length+1,by simp only[Az1,Za1] at hx;rw[<-hx];simp only[Aou];exact Aoe (c:=λq=>some q) hb.1.1 (λ_ _=>rfl) (λ_=>rfl) (l.length+1) 0 0 (Nat.zero_le _) (by omega)⟩
def Bku(R:Type):Px R:=pxO [(100,cA Az1)] [] [] []
def Ab4(x:HV [.sl .str false,.str]):Option (HV [.bool]):=match x with
 |(l,s) =>
 some (decide (0<=(Bnt l s)))
theorem Bei:FO 44 [.sl .str false,.str] [.bool] (Ab4):=fR (px:=Bku _) (n:=0) Tryz.func44 rfl (λ_ H=>⟨lv H (c1 H Blh Af) Ab Aa,Ak⟩) λ(_,_)=>by kernel_rfl
def Aud(l:List Str)(s:Str):Bool :=(decide (0<=(Bnt l s)))
theorem Bbz(x:HV [.sl .str false,.str]):Ab4 x=some (Aud x.1 x.2):=by
 first
  |exact rfl
  |simp only[Ab4,Aud,Bm]
def Ay5:FT [.sl .str false,.str] [.bool]:=λx=>some (Aud x.1 x.2)
theorem A4c:FO 44 [.sl .str false,.str] [.bool] Ay5 :=.fin0 Bei λx _ _ hx=>(Bbz x).trans hx
theorem A5m(l:List Str)(s:Str):Aud l s=l.contains s:=by have e:Aud l s=decide (0<=Lp.idx s l 0):=rfl;rw[e,Bool.eq_iff_iff,Zg1,Lp.idx_ge s l 0 (Int.le_refl 0)];simp
theorem Yy(k:Int):(Ib k=0/\(k=1\/k=2))\/(Ib k=1/\(k=3\/k=15\/k=16))\/(Ib k=2/\4<=k/\k<=14)\/Ib k = -1:=by
 by_cases h1:k=1
 ·subst h1;left;decide
 by_cases h2:k=2
 ·subst h2;left;decide
 by_cases h3:k=3
 ·subst h3;right;left;decide
 by_cases h15:k=15
 ·subst h15;right;left;decide
 by_cases h16:k=16
 ·subst h16;right;left;decide
 right;right;by_cases h : 4<=k/\k<=14
 ·left;refine⟨?_,h⟩;have:k=4\/k=5\/k=6\/k=7\/k=8\/k=9\/k=10\/k=11\/k=12\/k=13\/k=14:=by omega
  rcases this with rfl|rfl|rfl|rfl|rfl|rfl|rfl|rfl|rfl|rfl|rfl<;>decide
 ·right;have hm:Q7 signsL k=[]:=by simp only[signsL,Q7];rw[Zd1 (by omega),Zd1 (by omega),Zd1 (by omega),Zd1 (by omega),Zd1 (by omega),Zd1 (by omega),Zd1 (by omega),Zd1 (by omega),Zd1 (by omega),Zd1 (by omega),Zd1 (by omega)]
  simp[Ib,hm,h1,h2,h3,h15,h16]
theorem Gs{e:Xpr}{m:Int}(h:Bc e m=true):(e.l.length:Int)=Ib e.kind/\eok e.kind e.v e.name=true/\erights e.l (wr .i64 (m-1))=true:=by rw[Anc] at h;simp only[Zb1,Zg1] at h;exact⟨h.1.1.2,h.1.2,h.2⟩
def Apn:Sig:=⟨26,[(0,.sl .col false),(1,.sl .col false),(4,.bool),(12,.int .i64),(13,.int .i64)],[],[],0,0,0,[],[]⟩
abbrev Y7:=List Col×List Col×Bool×Int×Int
def Ab8{R:Type}(rec:Y7->Option R)(kx:Ex->Y7->Option R)(v:Y7):Option R:=match v with
 |(v,v1,v2,v3,v4) =>
 cond (decide (v4<v3)) (
  chk (inb v4 v.length) (
  chk (inb v4 v1.length) (
   cond (!decide ((at' .col v v4)=(at' .col v1 v4))) (
   kx .ret (v,v1,false,v3,v4)) (
   rec (v,v1,v2,v3,(wr .i64 (v4+1))))))) (
  kx (.exit 0) (v,v1,v2,v3,v4))
def A57(R:Type)(k:Nat):Px R:=pxO [] [] [(4,Aq k Apn (Ab8))] []
def Aqj(k:Nat)(x:HV [.sl .col false,.sl .col false]):Option (HV [.bool]):=match x with
 |(a,b) =>
 cond (!decide ((a.length:Int)=(b.length:Int))) (
  some false) (
  Al (λrec=>Ab8 rec (λe vz=>match vz with|(_,_,v7,_,_)=>match e with
  |.ret =>some v7
  |.exit 0 =>some true
  |_=>none)) k (a,b,false,(a.length:Int),0))
theorem Bgv(k:Nat):FO 75 [.sl .col false,.sl .col false] [.bool] (Aqj k):=fR (px:=A57 _ k) (n:=1) Tryz.func75 rfl (λcx H=>by have h0:Lv cx (A57 (HV [.bool]) k):=lv H Af Ab Aa;have hlaeqc_0:=lO H h0 (b:=lp Tryz.f75 0) (k:=k) (n:=0) (s:=Apn) (step:=Ab8) (λ_ _ _ (_,_,_,_,_)=>by kernel_rfl) Ak;exact⟨h0,(Bq Ak hlaeqc_0)⟩) λ(_,_)=>by kernel_rfl
def Bk5(a b:List Col):Bool:=decide (a=b)
def Az8:FT [.sl .col false,.sl .col false] [.bool]:=λx=>some (Bk5 x.1 x.2)
theorem A63{R:Type}{kx:Ex->Y7->Option R}{a b:List Col}{c:Bool->Option R}(hn:ln a.length)(he:a.length=b.length)(h1:∀i,kx .ret (a,b,false,(a.length:Int),i)=c false)(h2:∀q i,kx (.exit 0) (a,b,q,(a.length:Int),i)=c true)(k:Nat)(hk:a.length<k) :
  Al (λrec=>Ab8 rec kx) k (a,b,false,(a.length:Int),0)=c (decide (a=b)):=by
 refine(Dz a.length (λi=>(a,b,false,(a.length:Int),(i:Int))) (λi=>c (decide (a.drop i=b.drop i))) (λi hi rec hr =>?_) (λrec =>?_) k 0 (Nat.zero_le _) (by omega)).trans (by rw[Zq1,Zq1])
 ·have hi2:i<b.length:=by omega
  simp only[Ab8,He hi,Ae,A7 hi,A7 hi2,chk,Bb (c :=.col) hi,Bb (c :=.col) hi2,A0 hi hn,hr,h1,As hi,As hi2,Ze2];by_cases hx:a[i]=b[i]
  ·rw[Ze1 hx];simp[hx]
  ·rw[Zd1 hx];simp[hx]
 ·simp only[Ab8,G7,Ah,h2];rw[Zk1 (Zn1 _),Zk1 (by omega)];rfl
theorem Bll:FO 75 [.sl .col false,.sl .col false] [.bool] Az8 :=.fin 0 Bgv λ(a,b) r hb hx=>⟨a.length+1,by
 simp only[Az8,Za1] at hx;rw[<-hx];simp only[Aqj,Bk5];by_cases he:a.length=b.length
 ·rw[Ze1 (show(a.length:Int)=(b.length:Int) by omega),Zt1,Ah];exact A63 (c:=some) hb.1.1 he (λ_=>rfl) (λ_ _=>rfl) (a.length+1) (by omega)
 ·rw[Zd1 (show ¬(a.length:Int)=(b.length:Int) by omega),Zd1 (λh=>he (by rw[h]))];rfl⟩
def Am4:Sig:=⟨26,[(0,.sl .str false),(1,.sl .str false),(4,.bool),(12,.int .i64),(13,.int .i64)],[],[],0,0,0,[],[]⟩
abbrev Abq:=List Str×List Str×Bool×Int×Int
def Ac7{R:Type}(rec:Abq->Option R)(kx:Ex->Abq->Option R)(v:Abq):Option R:=match v with
 |(v,v1,v2,v3,v4) =>
 cond (decide (v4<v3)) (
  chk (inb v4 v.length) (
  chk (inb v4 v1.length) (
   cond (!decide ((at' .str v v4)=(at' .str v1 v4))) (
   kx .ret (v,v1,false,v3,v4)) (
   rec (v,v1,v2,v3,(wr .i64 (v4+1))))))) (
  kx (.exit 0) (v,v1,v2,v3,v4))
def A6c(R:Type)(k:Nat):Px R:=pxO [] [] [(4,Aq k Am4 (Ac7))] []
def Apy(k:Nat)(x:HV [.sl .str false,.sl .str false]):Option (HV [.bool]):=match x with
 |(a,b) =>
 cond (!decide ((a.length:Int)=(b.length:Int))) (
  some false) (
  Al (λrec=>Ac7 rec (λe vz=>match vz with|(_,_,v7,_,_)=>match e with
  |.ret =>some v7
  |.exit 0 =>some true
  |_=>none)) k (a,b,false,(a.length:Int),0))
theorem Bbl(k:Nat):FO 76 [.sl .str false,.sl .str false] [.bool] (Apy k):=fR (px:=A6c _ k) (n:=1) Tryz.func76 rfl (λcx H=>by have h0:Lv cx (A6c (HV [.bool]) k):=lv H Af Ab Aa;have hlaeqs_0:=lO H h0 (b:=lp Tryz.f76 0) (k:=k) (n:=0) (s:=Am4) (step:=Ac7) (λ_ _ _ (_,_,_,_,_)=>by kernel_rfl) Ak;exact⟨h0,(Bq Ak hlaeqs_0)⟩) λ(_,_)=>by kernel_rfl
def Beg(a b:List Str):Bool:=decide (a=b)
def A0i:FT [.sl .str false,.sl .str false] [.bool]:=λx=>some (Beg x.1 x.2)
theorem A6z{R:Type}{kx:Ex->Abq->Option R}{a b:List Str}{c:Bool->Option R}(hn:ln a.length)(he:a.length=b.length)(h1:∀i,kx .ret (a,b,false,(a.length:Int),i)=c false)(h2:∀q i,kx (.exit 0) (a,b,q,(a.length:Int),i)=c true)(k:Nat)(hk:a.length<k) :
  Al (λrec=>Ac7 rec kx) k (a,b,false,(a.length:Int),0)=c (decide (a=b)):=by
 refine(Dz a.length (λi=>(a,b,false,(a.length:Int),(i:Int))) (λi=>c (decide (a.drop i=b.drop i))) (λi hi rec hr =>?_) (λrec =>?_) k 0 (Nat.zero_le _) (by omega)).trans (by rw[Zq1,Zq1])
 ·have hi2:i<b.length:=by omega
  simp only[Ac7,He hi,Ae,A7 hi,A7 hi2,chk,Bb (c :=.str) hi,Bb (c :=.str) hi2,A0 hi hn,hr,h1,As hi,As hi2,Ze2];by_cases hx:a[i]=b[i]
  ·rw[Ze1 hx];simp[hx]
  ·rw[Zd1 hx];simp[hx]
 ·simp only[Ac7,G7,Ah,h2];rw[Zk1 (Zn1 _),Zk1 (by omega)];rfl
theorem Bh9:FO 76 [.sl .str false,.sl .str false] [.bool] A0i :=.fin 0 Bbl λ(a,b) r hb hx=>⟨a.length+1,by
 simp only[A0i,Za1] at hx;rw[<-hx];simp only[Apy,Beg];by_cases he:a.length=b.length
 ·rw[Ze1 (show(a.length:Int)=(b.length:Int) by omega),Zt1,Ah];exact A6z (c:=some) hb.1.1 he (λ_=>rfl) (λ_ _=>rfl) (a.length+1) (by omega)
 ·rw[Zd1 (show ¬(a.length:Int)=(b.length:Int) by omega),Zd1 (λh=>he (by rw[h]))];rfl⟩
def Ams:Sig:=⟨26,[(0,.sl .bool false),(1,.sl .bool false),(4,.bool),(12,.int .i64),(13,.int .i64)],[],[],0,0,0,[],[]⟩
abbrev Aau:=List Bool×List Bool×Bool×Int×Int
def Acr{R:Type}(rec:Aau->Option R)(kx:Ex->Aau->Option R)(v:Aau):Option R:=match v with
 |(v,v1,v2,v3,v4) =>
 cond (decide (v4<v3)) (
  chk (inb v4 v.length) (
  chk (inb v4 v1.length) (
   cond (!decide ((at' .bool v v4)=(at' .bool v1 v4))) (
   kx .ret (v,v1,false,v3,v4)) (
   rec (v,v1,v2,v3,(wr .i64 (v4+1))))))) (
  kx (.exit 0) (v,v1,v2,v3,v4))
def A3l(R:Type)(k:Nat):Px R:=pxO [] [] [(4,Aq k Ams (Acr))] []
def Anw(k:Nat)(x:HV [.sl .bool false,.sl .bool false]):Option (HV [.bool]):=match x with
 |(a,b) =>
 cond (!decide ((a.length:Int)=(b.length:Int))) (
  some false) (
  Al (λrec=>Acr rec (λe vz=>match vz with|(_,_,v7,_,_)=>match e with
  |.ret =>some v7
  |.exit 0 =>some true
  |_=>none)) k (a,b,false,(a.length:Int),0))
theorem Bbd(k:Nat):FO 77 [.sl .bool false,.sl .bool false] [.bool] (Anw k):=fR (px:=A3l _ k) (n:=1) Tryz.func77 rfl (λcx H=>by have h0:Lv cx (A3l (HV [.bool]) k):=lv H Af Ab Aa;have hlaeqb_0:=lO H h0 (b:=lp Tryz.f77 0) (k:=k) (n:=0) (s:=Ams) (step:=Acr) (λ_ _ _ (_,_,_,_,_)=>by kernel_rfl) Ak;exact⟨h0,(Bq Ak hlaeqb_0)⟩) λ(_,_)=>by kernel_rfl
def Bik(a b:List Bool):Bool:=decide (a=b)
def Az5:FT [.sl .bool false,.sl .bool false] [.bool]:=λx=>some (Bik x.1 x.2)
theorem A8d{R:Type}{kx:Ex->Aau->Option R}{a b:List Bool}{c:Bool->Option R}(hn:ln a.length)(he:a.length=b.length)(h1:∀i,kx .ret (a,b,false,(a.length:Int),i)=c false)(h2:∀q i,kx (.exit 0) (a,b,q,(a.length:Int),i)=c true)(k:Nat)(hk:a.length<k) :
  Al (λrec=>Acr rec kx) k (a,b,false,(a.length:Int),0)=c (decide (a=b)):=by
 refine(Dz a.length (λi=>(a,b,false,(a.length:Int),(i:Int))) (λi=>c (decide (a.drop i=b.drop i))) (λi hi rec hr =>?_) (λrec =>?_) k 0 (Nat.zero_le _) (by omega)).trans (by rw[Zq1,Zq1])
 ·have hi2:i<b.length:=by omega
  simp only[Acr,He hi,Ae,A7 hi,A7 hi2,chk,Bb (c :=.bool) hi,Bb (c :=.bool) hi2,A0 hi hn,hr,h1,As hi,As hi2,Ze2];by_cases hx:a[i]=b[i]
  ·rw[Ze1 hx];simp[hx]
  ·rw[Zd1 hx];simp[hx]
 ·simp only[Acr,G7,Ah,h2];rw[Zk1 (Zn1 _),Zk1 (by omega)];rfl
theorem Bkz:FO 77 [.sl .bool false,.sl .bool false] [.bool] Az5 :=.fin 0 Bbd λ(a,b) r hb hx=>⟨a.length+1,by
 simp only[Az5,Za1] at hx;rw[<-hx];simp only[Anw,Bik];by_cases he:a.length=b.length
 ·rw[Ze1 (show(a.length:Int)=(b.length:Int) by omega),Zt1,Ah];exact A8d (c:=some) hb.1.1 he (λ_=>rfl) (λ_ _=>rfl) (a.length+1) (by omega)
 ·rw[Zd1 (show ¬(a.length:Int)=(b.length:Int) by omega),Zd1 (λh=>he (by rw[h]))];rfl⟩
instance:DecidableEq SetE:=λa b=>decidable_of_iff (a.name=b.name/\a.e=b.e) (by cases a;cases b;simp)
def Arv(a b:SetE):Bool:=decide (a.name=b.name)&&Mx a.e b.e
theorem Av5(a b:SetE):Arv a b=decide (a=b):=by cases a;cases b;simp only[Arv,N4,SetE.mk.injEq,Bool.decide_and]
def Ajw(a b:Stm):Bool:=decide (a.kind=b.kind)&&decide (a.name=b.name)&&decide (a.on=b.on)&&decide (a.has=b.has)&&decide (a.most=b.most)&&decide (a.whr=b.whr)&&(decide (a.cols=b.cols)&&decide (a.names=b.names)&&decide (a.order=b.order)&&decide (a.desc=b.desc)&&decide (a.l=b.l))&&decide (a.rows=b.rows)&&decide (a.sets=b.sets)
theorem Ank(a b:Stm):Ajw a b=true↔a=b:=by
 cases a;cases b;simp only[Ajw,Zb1,Zg1,Stm.mk.injEq];constructor
 ·rintro⟨⟨⟨⟨⟨⟨⟨⟨h1,h2⟩,h3⟩,h4⟩,h5⟩,h6⟩,⟨⟨⟨h7,h8⟩,h9⟩,h10⟩,h11⟩,h12⟩,h13⟩;exact⟨h1,h2,h3,h7,h8,h11,h12,h13,h4,h6,h9,h10,h5⟩
 ·rintro⟨h1,h2,h3,h7,h8,h11,h12,h13,h4,h6,h9,h10,h5⟩;exact⟨⟨⟨⟨⟨⟨⟨⟨h1,h2⟩,h3⟩,h4⟩,h5⟩,h6⟩,⟨⟨⟨h7,h8⟩,h9⟩,h10⟩,h11⟩,h12⟩,h13⟩
def Aft:Sig:=⟨32,[(1,.sl .set false),(6,.bool),(15,.sl .set false),(16,.int .i64),(17,.int .i64)],[(2,.fn 81 [])],[],40,40,600,[],[]⟩
abbrev Py:=List SetE×Bool×List SetE×Int×Int
def N8{R:Type}(rec:Py->Option R)(kx:Ex->Py->Option R)(v:Py):Option R:=match v with
 |(b,f,c,d,a) =>
 cond (decide (a<d)) (
  chk (inb a c.length) (
  chk (inb a b.length) (
   cond (decide (((at' .set c a).name)=((at' .set b a).name))) (
   cond (!(Tf (Mf ((at' .set c a).e)) (Mf ((at' .set b a).e)))) (
    kx .ret (b,false,c,d,a)) (
    rec (b,f,c,d,(wr .i64 (a+1))))) (
   kx .ret (b,false,c,d,a))))) (
  kx (.exit 0) (b,f,c,d,a))
def Agf:Sig:=⟨32,[(1,.sl .expr false),(6,.bool),(15,.sl .expr false),(16,.int .i64),(17,.int .i64)],[(2,.fn 20 [])],[(0,.one (.sv .stmt)),(1,.one (.sv .stmt))],120,120,600,[],[]⟩
abbrev Rn:=List Xpr×Bool×List Xpr×Int×Int×Stm×Stm
def Og{R:Type}(rec:Rn->Option R)(kx:Ex->Rn->Option R)(v:Rn):Option R:=match v with
 |(b,e,c,d,a,w4,w5) =>
 cond (decide (a<d)) (
  chk (inb a c.length) (
  chk (inb a b.length) (
   cond (!(Tf (at' .expr c a) (at' .expr b a))) (
   kx .ret (b,false,c,d,a,w4,w5)) (
   rec (b,e,c,d,(wr .i64 (a+1)),w4,w5))))) (
  kx (.exit 0) (b,e,c,d,a,w4,w5))
def Aek:Sig:=⟨32,[(1,.sl .exprs false),(6,.bool),(15,.sl .exprs false),(16,.int .i64),(17,.int .i64)],[(2,.fn 79 [])],[(0,.one (.sv .stmt)),(1,.one (.sv .stmt))],40,40,400,[],[]⟩
abbrev Pw:=List (List Xpr)×Bool×List (List Xpr)×Int×Int×Stm×Stm
def Pr{R:Type}(k:Nat)(rec:Pw->Option R)(kx:Ex->Pw->Option R)(v:Pw):Option R:=match v with
 |(c,f,b,d,a,w2,w3) =>
 cond (decide (a<d)) (
  chk (inb a b.length) (
  chk (inb a c.length) (
   cond (!decide (((at' .exprs b a).length:Int)=((at' .exprs c a).length:Int))) (
   kx .ret (c,false,b,d,a,w2,w3)) (
   Al (λrc=>Og rc (λe vz=>match vz with|(_,i,_,_,_,g,h)=>match e with
    |.ret =>
    cond (!i) (
     kx .ret (c,false,b,d,a,g,h)) (
     rec (c,f,b,d,(wr .i64 (a+1)),g,h))
    |.exit 0 =>
    rec (c,f,b,d,(wr .i64 (a+1)),g,h)
    |_=>none)) k ((at' .exprs c a),false,(at' .exprs b a),((at' .exprs b a).length:Int),0,w2,w3))))) (
  kx (.exit 0) (c,f,b,d,a,w2,w3))
def Aex:Sig:=⟨32,[(1,.sl .expr false),(6,.bool),(15,.sl .expr false),(16,.int .i64),(17,.int .i64)],[(2,.fn 20 [])],[(0,.one (.sv .stmt)),(1,.one (.sv .stmt))],40,40,200,[],[]⟩
abbrev Q6:=List Xpr×Bool×List Xpr×Int×Int×Stm×Stm
def Ov{R:Type}(rec:Q6->Option R)(kx:Ex->Q6->Option R)(v:Q6):Option R:=match v with
 |(v,v1,v2,v3,v4,w,w1) =>
 cond (decide (v4<v3)) (
  chk (inb v4 v2.length) (
  chk (inb v4 v.length) (
   cond (!(Tf (at' .expr v2 v4) (at' .expr v v4))) (
   kx .ret (v,false,v2,v3,v4,w,w1)) (
   rec (v,v1,v2,v3,(wr .i64 (v4+1)),w,w1))))) (
  kx (.exit 0) (v,v1,v2,v3,v4,w,w1))
def Aeq(R:Type)(k:Nat):Px R:=pxO [(20,cA V1)] [] [(4,Aq k Aex (Ov))] []
def R8(R:Type)(k:Nat):Px R:=pxO [(20,cA V1)] [] [(4,Aq k Agf (Og))] []
noncomputable def Xd(R:Type)(k:Nat):Px R:=pxO [(47,Az 120 600 (R8 R k) Tryz.f47)] [] [] []
noncomputable def Ae4(R:Type)(k:Nat):Px R:=pxO [(79,Az 80 600 (Xd R k) Tryz.f79)] [] [(4,Aq k Aek (Pr k))] []
def Xh(R:Type)(_k:Nat):Px R:=pxO [(20,cA V1)] [] [] []
noncomputable def Af7(R:Type)(k:Nat):Px R:=pxO [(81,Az 80 800 (Xh R k) Tryz.f81)] [] [(4,Aq k Aft (N8))] []
noncomputable def An6(R:Type)(k:Nat):Px R:=pxO [(20,cA V1),(75,cA Az8),(76,cA A0i),(77,cA Az5),(47,Az 40 200 (Aeq R k) Tryz.f47),(78,Az 40 400 (Ae4 R k) Tryz.f78),(80,Az 40 600 (Af7 R k) Tryz.f80)] [] [] []
def Sn(k:Nat)(x:HV [.sv .stmt,.sv .stmt]):Option (HV [.bool]):=match x with
 |(a,b) =>
 let j9:=λ(p6:Bool) =>
  let j8:=λ(m:Bool) (q6:Stm) (q7:Stm) =>
  let j7:=λ(n:Bool) =>
   let j6:=λ(o:Bool) (c:Stm) (d:Stm) =>
   cond (o) (
    cond (!decide ((c.sets.length:Int)=(d.sets.length:Int))) (
    some false) (
    Al (λrec=>N8 rec (λe vz=>match vz with|(_,q,_,_,_)=>match e with
     |.ret =>
     some q
     |.exit 0 =>
     some true
     |_=>none)) k (d.sets,false,c.sets,(c.sets.length:Int),0))) (
    some false)
   cond (n) (
   cond (!decide ((q6.rows.length:Int)=(q7.rows.length:Int))) (
    j6 false q6 q7) (
    Al (λrec=>Pr k rec (λe vz=>match vz with|(_,r,_,_,_,f,g)=>match e with
    |.ret =>j6 r f g
    |.exit 0 =>j6 true f g
    |_=>none)) k (q7.rows,false,q6.rows,(q6.rows.length:Int),0,q6,q7))) (
   j6 false q6 q7)
  cond (p6) (
   j7 m) (
   j7 false)
  let j5:=λ(p7:Bool) =>
  let j4:=λ(p8:Bool) =>
   let j3:=λ(p9:Bool) =>
   cond (p9) (
    cond (!decide ((a.l.length:Int)=(b.l.length:Int))) (
    j8 false a b) (
    Al (λrec=>Ov rec (λe vz=>match vz with|(_,v6,_,_,_,h,i)=>match e with
     |.ret =>
     j8 v6 h i
     |.exit 0 =>
     j8 true h i
     |_=>none)) k (b.l,false,a.l,(a.l.length:Int),0,a,b))) (
    j8 false a b)
   cond (p8) (
   j3 (Bik a.desc b.desc)) (
   j3 false)
  cond (p7) (
   j4 (Beg a.order b.order)) (
   j4 false)
  cond ((Bk5 a.cols b.cols)) (
  j5 (Beg a.names b.names)) (
  j5 false)
 let j2:=λ(p:Bool) =>
  let j1:=λ(p1:Bool) =>
  let j:=λ(p2:Bool) =>
   cond (p2) (
   cond (decide (a.most=b.most)) (
    j9 (Tf (Mf a.whr) (Mf b.whr))) (
    j9 false)) (
   j9 false)
  cond (p1) (
   j (decide (a.has=b.has))) (
   j false)
  cond (p) (
  j1 (decide (a.on=b.on))) (
  j1 false)
 cond (decide (a.kind=b.kind)) (
  j2 (decide (a.name=b.name))) (
  j2 false)
theorem A1l(k:Nat):FO 27 [.sv .stmt,.sv .stmt] [.bool] (Sn k):=fR (px:=An6 _ k) (n:=0) Tryz.func27 rfl (λcx H=>by have h1:Lv cx (Aeq (HV [.bool]) k):=lv H (c1 H Tp Af) Ab Aa;have hlastmts_0:=lO H h1 (b:=lp Tryz.f47 0) (k:=k) (n:=0) (s:=Aex) (step:=Ov) (λ_ _ _ (_,_,_,_,_,_,_)=>by kernel_rfl) Ak;have h4:Lv cx (R8 (HV [.bool]) k):=lv H (c1 H Tp Af) Ab Aa;have hlastmts_2:=lO H h4 (b:=lp Tryz.f47 0) (k:=k) (n:=0) (s:=Agf) (step:=Og) (λ_ _ _ (_,_,_,_,_,_,_)=>by kernel_rfl) Ak;have h3:Lv cx (Xd (HV [.bool]) k):=lv H (Au (cR H h4 Tryz.func47 rfl (n:=1) ((Bq Ak hlastmts_2))) Af) Ab Aa;have h2:Lv cx (Ae4 (HV [.bool]) k):=lv H (Au (cR H h3 Tryz.func79 rfl (n:=0) (Ak)) Af) Ab Aa;have hlastmts_1:=lO H h2 (b:=lp Tryz.f78 0) (k:=k) (n:=0) (s:=Aek) (step:=Pr k) (λ_ _ _ (_,_,_,_,_,_,_)=>by kernel_rfl) Ak;have h6:Lv cx (Xh (HV [.bool]) k):=lv H (c1 H Tp Af) Ab Aa;have h5:Lv cx (Af7 (HV [.bool]) k):=lv H (Au (cR H h6 Tryz.func81 rfl (n:=0) (Ak)) Af) Ab Aa;have hlastmts_3:=lO H h5 (b:=lp Tryz.f80 0) (k:=k) (n:=0) (s:=Aft) (step:=N8) (λ_ _ _ (_,_,_,_,_)=>by kernel_rfl) Ak;have h0:Lv cx (An6 (HV [.bool]) k):=lv H (c1 H Tp (c1 H Bll (c1 H Bh9 (c1 H Bkz (Au (cR H h1 Tryz.func47 rfl (n:=1) ((Bq Ak hlastmts_0))) (Au (cR H h2 Tryz.func78 rfl (n:=1) ((Bq Ak hlastmts_1))) (Au (cR H h5 Tryz.func80 rfl (n:=1) ((Bq Ak hlastmts_3))) Af))))))) Ab Aa;exact⟨h0,Ak⟩) λ(_,_)=>by kernel_rfl
def A0s(a b:Stm):Bool:=Ajw a b
def Axh:FT [.sv .stmt,.sv .stmt] [.bool]:=λx=>some (A0s x.1 x.2)
theorem Abp{α:Type}[DecidableEq α](x y : α)(l m:List α):decide (x::l=y::m)=(decide (x=y)&&decide (l=m)):=by simp only[Ze2,Bool.decide_and]
theorem Al4{R:Type}{kx:Ex->Q6->Option R}{l m:List Xpr}{s t:Stm}{c:Bool->Option R}(hn:ln l.length)(hm:l.length=m.length)
  (h1:∀i,kx .ret (m,false,l,(l.length:Int),i,s,t)=c false) (h2:∀q i,kx (.exit 0) (m,q,l,(l.length:Int),i,s,t)=c true) (k:Nat) (hk:l.length<k):Al (λrec=>Ov rec kx) k (m,false,l,(l.length:Int),0,s,t)=c (decide (l=m)):=by
 refine(Dz l.length (λi=>(m,false,l,(l.length:Int),(i:Int),s,t)) (λi=>c (decide (l.drop i=m.drop i))) (λi hi rec hr =>?_) (λrec =>?_) k 0 (Nat.zero_le _) (by omega)).trans (by rw[Zq1,Zq1])
 ·have hi2:i<m.length:=by omega
  simp only[Ov,He hi,Ae,A7 hi,A7 hi2,chk,Bb (c :=.expr) hi,Bb (c :=.expr) hi2,A0 hi hn,hr,h1,As hi,As hi2,Abp,Tf,N4];cases decide (l[i]=m[i])<;>rfl
 ·simp only[Ov,G7,Ah,h2];rw[Zk1 (Zn1 _),Zk1 (by omega)];rfl
theorem Al7{R:Type}{kx:Ex->Rn->Option R}{l m:List Xpr}{s t:Stm}{c:Bool->Option R}(hn:ln l.length)(hm:l.length=m.length)
  (h1:∀i,kx .ret (m,false,l,(l.length:Int),i,s,t)=c false) (h2:∀q i,kx (.exit 0) (m,q,l,(l.length:Int),i,s,t)=c true) (k:Nat) (hk:l.length<k):Al (λrec=>Og rec kx) k (m,false,l,(l.length:Int),0,s,t)=c (decide (l=m)):=by
 refine(Dz l.length (λi=>(m,false,l,(l.length:Int),(i:Int),s,t)) (λi=>c (decide (l.drop i=m.drop i))) (λi hi rec hr =>?_) (λrec =>?_) k 0 (Nat.zero_le _) (by omega)).trans (by rw[Zq1,Zq1])
 ·have hi2:i<m.length:=by omega
  simp only[Og,He hi,Ae,A7 hi,A7 hi2,chk,Bb (c :=.expr) hi,Bb (c :=.expr) hi2,A0 hi hn,hr,h1,As hi,As hi2,Abp,Tf,N4];cases decide (l[i]=m[i])<;>rfl
 ·simp only[Og,G7,Ah,h2];rw[Zk1 (Zn1 _),Zk1 (by omega)];rfl
theorem Amb{R:Type}{kx:Ex->Pw->Option R}{l m:List (List Xpr)}{s t:Stm}{c:Bool->Option R}(hn:ln l.length)(hm:l.length=m.length)(hr0:∀x,x∈l->ln x.length)(k:Nat)(hkr:∀x,x∈l->List.length x<k)
  (h1:∀i,kx .ret (m,false,l,(l.length:Int),i,s,t)=c false) (h2:∀q i,kx (.exit 0) (m,q,l,(l.length:Int),i,s,t)=c true) (hk:l.length<k):Al (λrec=>Pr k rec kx) k (m,false,l,(l.length:Int),0,s,t)=c (decide (l=m)):=by
 refine(Dz l.length (λi=>(m,false,l,(l.length:Int),(i:Int),s,t)) (λi=>c (decide (l.drop i=m.drop i))) (λi hi rec hr =>?_) (λrec =>?_) k 0 (Nat.zero_le _) (by omega)).trans (by rw[Zq1,Zq1])
 ·have hi2:i<m.length:=by omega
  simp only[Pr,He hi,Ae,A7 hi,A7 hi2,chk,Bb (c :=.exprs) hi,Bb (c :=.exprs) hi2,A0 hi hn,As hi,As hi2,Abp];by_cases hlen:l[i].length=m[i].length
  ·rw[Ze1 (show(l[i].length:Int)=(m[i].length:Int) by omega),Zt1,Ah];rw[Al7 (c:=λb=>cond b (c (decide (l.drop (i+1)=m.drop (i+1)))) (c false)) (hr0 _ (List.getElem_mem hi)) hlen (λ_=>h1 _) (λ_ _=>hr) k (hkr _ (List.getElem_mem hi))];cases decide (l[i]=m[i])<;>rfl
  ·rw[Zd1 (show ¬(l[i].length:Int)=(m[i].length:Int) by omega),Zd1 (λh=>hlen (by rw[h])),h1];rfl
 ·simp only[Pr,G7,Ah,h2];rw[Zk1 (Zn1 _),Zk1 (by omega)];rfl
theorem Amc{R:Type}{kx:Ex->Py->Option R}{l m:List SetE}{c:Bool->Option R}(hn:ln l.length)(hm:l.length=m.length)
  (h1:∀i,kx .ret (m,false,l,(l.length:Int),i)=c false) (h2:∀q i,kx (.exit 0) (m,q,l,(l.length:Int),i)=c true) (k:Nat) (hk:l.length<k):Al (λrec=>N8 rec kx) k (m,false,l,(l.length:Int),0)=c (decide (l=m)):=by
 refine(Dz l.length (λi=>(m,false,l,(l.length:Int),(i:Int))) (λi=>c (decide (l.drop i=m.drop i))) (λi hi rec hr =>?_) (λrec =>?_) k 0 (Nat.zero_le _) (by omega)).trans (by rw[Zq1,Zq1])
 ·have hi2:i<m.length:=by omega
  simp only[N8,He hi,Ae,A7 hi,A7 hi2,chk,Bb (c :=.set) hi,Bb (c :=.set) hi2,A0 hi hn,hr,h1,As hi,As hi2,Abp,Tf,<-Av5,Arv,Jo];cases decide (l[i].name=m[i].name)<;>cases Mx l[i].e m[i].e<;>rfl
 ·simp only[N8,G7,Ah,h2];rw[Zk1 (Zn1 _),Zk1 (by omega)];rfl
theorem Aqp{α:Type}[DecidableEq α]{l m:List α}(h:¬l.length=m.length):decide (l=m)=false:=Zd1 λe=>h (by rw[e])
def Blu(s:Stm):Nat:=s.l.length+s.rows.length+s.sets.length+(s.rows.map List.length).sum
theorem A5t{l:List (List Xpr)}{x:List Xpr}(h:x∈l):x.length<=(l.map List.length).sum:=by
 induction l with
 |nil=>cases h
 |cons y l ih =>
  simp only[Zw1,List.sum_cons];rcases List.mem_cons.1 h with rfl|h
  ·omega
  ·have:=ih h;omega
theorem Bgh(k:Nat)(a b:Stm)(hb:BdStm a)(hk:Blu a<k):Sn k (a,b)=some (Ajw a b):=by
 have hk2:=hk;simp only[Blu] at hk2;simp -zeta only [Sn,Tf,N4,Jo,Bk5,Beg,Bik];extract_lets j6 j9 j j1 j2;have h6:∀q,j6 q a b=some (q&&decide (a.sets=b.sets)):=λq=>by
  simp -zeta only [j6];cases q with
  |false=>rfl
  |true =>
   rw[Ae,Bool.true_and];by_cases hs:a.sets.length=b.sets.length
   ·rw[Ze1 (show(a.sets.length:Int)=(b.sets.length:Int) by omega),Zt1,Ah];exact Amc (c:=some) hb.sets.1 hs (λ_=>rfl) (λ_ _=>rfl) k (by omega)
   ·rw[Zd1 (show ¬(a.sets.length:Int)=(b.sets.length:Int) by omega),Aqp hs];rfl
 have h9:∀p,j9 p=some (p&&(decide (a.cols=b.cols)&&decide (a.names=b.names)&&decide (a.order=b.order)&&decide (a.desc=b.desc)&&decide (a.l=b.l))&&decide (a.rows=b.rows)&&decide (a.sets=b.sets)):=λp=>by
  simp -zeta only [j9];extract_lets j8 j3 j4 j5;have h8:∀q,j8 q a b=some (p&&q&&decide (a.rows=b.rows)&&decide (a.sets=b.sets)):=λq=>by
   simp -zeta only [j8];extract_lets j7;have h7:∀q,j7 q=some (q&&decide (a.rows=b.rows)&&decide (a.sets=b.sets)):=λq=>by
    simp -zeta only [j7];cases q with
    |false=>exact(h6 false).trans rfl
    |true =>
     rw[Ae,Bool.true_and];by_cases hs:a.rows.length=b.rows.length
     ·rw[Ze1 (show(a.rows.length:Int)=(b.rows.length:Int) by omega),Zt1,Ah];refine(Amb (c:=λq=>j6 q a b) hb.rows.1 hs (λx hx=>(hb.rows.2 x hx).1) k (λx hx=>by have:=A5t hx;omega) (λ_=>rfl) (λ_ _=>rfl) (by omega)).trans (h6 _)
     ·rw[Zd1 (show ¬(a.rows.length:Int)=(b.rows.length:Int) by omega),Aqp hs];exact(h6 false).trans rfl
   cases p with|false=>exact(h7 false).trans rfl|true=>exact(h7 q).trans (by rw[Bool.true_and])
  have h3:∀q,j3 q=some (p&&(q&&decide (a.l=b.l))&&decide (a.rows=b.rows)&&decide (a.sets=b.sets)):=λq=>by
   simp -zeta only [j3];cases q with
   |false=>exact h8 false
   |true =>
    rw[Ae,Bool.true_and];by_cases hs:a.l.length=b.l.length
    ·rw[Ze1 (show(a.l.length:Int)=(b.l.length:Int) by omega),Zt1,Ah];exact(Al4 (c:=λq=>j8 q a b) hb.l.1 hs (λ_=>rfl) (λ_ _=>rfl) k (by omega)).trans (h8 _)
    ·rw[Zd1 (show ¬(a.l.length:Int)=(b.l.length:Int) by omega),Aqp hs];exact h8 false
  have h4:∀q,j4 q=some (p&&(q&&decide (a.desc=b.desc)&&decide (a.l=b.l))&&decide (a.rows=b.rows)&&decide (a.sets=b.sets)):=λq=>by simp -zeta only [j4];cases q with|false=>exact h3 false|true=>exact(h3 _).trans (by rw[Bool.true_and])
  have h5:∀q,j5 q=some (p&&(q&&decide (a.order=b.order)&&decide (a.desc=b.desc)&&decide (a.l=b.l))&&decide (a.rows=b.rows)&&decide (a.sets=b.sets)):=λq=>by simp -zeta only [j5];cases q with|false=>exact h4 false|true=>exact(h4 _).trans (by rw[Bool.true_and])
  cases decide (a.cols=b.cols) with|false=>exact h5 false|true=>exact(h5 _).trans (by simp only[Bool.true_and])
 simp -zeta only [j2,j1,j,Ajw];cases decide (a.kind=b.kind) with
 |false=>exact(h9 false).trans rfl
 |true =>
  cases decide (a.name=b.name) with
  |false=>exact(h9 false).trans rfl
  |true =>
   cases decide (a.on=b.on) with
   |false=>exact(h9 false).trans rfl
   |true =>
    cases decide (a.has=b.has) with
    |false=>exact(h9 false).trans rfl
    |true =>cases decide (a.most=b.most) with|false=>exact(h9 false).trans rfl|true=>exact(h9 _).trans (by simp only[Bool.true_and])
theorem A9c:FO 27 [.sv .stmt,.sv .stmt] [.bool] Axh :=.fin 0 A1l λ(a,b) r hb hx=>⟨Blu a+1,(Bgh (Blu a+1) a b hb.1 (by omega)).trans hx⟩
instance:DecidableEq Stm:=λa b=>decidable_of_iff (Ajw a b=true) (Ank a b)
theorem A64(a b:Stm):Ajw a b=decide (a=b):=by rw[Bool.eq_iff_iff,Ank,Zg1]
def Bhn(R:Type):Px R:=pxO [] [] [] []
def Yr(x:HV [.int .i64]):Option (HV [.bool]):=match x with
 |n =>
 cond (decide (1<=n)) (
  some (decide (n<=100))) (
  some false)
theorem A70:FO 66 [.int .i64] [.bool] (Yr):=fR (px:=Bhn _) (n:=0) Tryz.func66 rfl (λ_ H=>⟨lv H Af Ab Aa,Ak⟩) λ_=>by kernel_rfl
def De(n:Int):Bool :=
 cond (decide (1<=n)) (
  (decide (n<=100))) (
  false)
theorem A88(x:HV [.int .i64]):Yr x=some (De x):=by
 first
  |exact rfl
  |simp only[Yr,De,Bm]
def Zm:FT [.int .i64] [.bool]:=λx=>some (De x)
theorem Y3:FO 66 [.int .i64] [.bool] Zm :=.fin0 A70 λx _ _ hx=>(A88 x).trans hx
theorem Bgb(n:Nat):De (n:Int)=(decide (1<=n)&&decide (n<=100)):=by simp only[De];rw[show decide ((1:Int)<=(n:Int))=decide (1<=n) from Zy1.2 (by omega),show decide ((n:Int)<=100)=decide (n<=100) from Zy1.2 (by omega)];cases decide (1<=n)<;>rfl
def Ahy:Sig:=⟨26,[(0,.sl .str false),(2,.bool),(5,.sl .str false),(6,.int .i64),(7,.int .i64)],[],[],0,0,0,[],[]⟩
abbrev U8:=List Str×Bool×List Str×Int×Int
def Wb{R:Type}(rec:U8->Option R)(kx:Ex->U8->Option R)(v:U8):Option R:=match v with
 |(v,v1,v2,v3,v4) =>
 cond (decide (v4<v3)) (
  chk (inb v4 v2.length) (
  cond (!(Be (at' .str v2 v4))) (
   kx .ret (v,false,v2,v3,v4)) (
   chk (Di 0 v4 v.length) (
   cond ((Aud (v.take (v4:Int).toNat) (at' .str v2 v4))) (
    kx .ret (v,false,v2,v3,v4)) (
    rec (v,v1,v2,v3,(wr .i64 (v4+1)))))))) (
  kx (.exit 0) (v,v1,v2,v3,v4))
def Avu(R:Type)(k:Nat):Px R:=pxO [(63,cA Ri),(44,cA Ay5)] [] [(2,Aq k Ahy (Wb))] []
def Ai8(k:Nat)(x:HV [.sl .str false]):Option (HV [.bool]):=match x with
 |l =>
 Al (λrec=>Wb rec (λe vz=>match vz with|(v5,v6,_,_,_)=>match e with
  |.ret =>
  some v6
  |.exit 0 =>
  some (decide ((v5.length:Int)<=100))
  |_=>none)) k (l,false,l,(l.length:Int),0)
theorem A9v(k:Nat):FO 67 [.sl .str false] [.bool] (Ai8 k):=fR (px:=Avu _ k) (n:=1) Tryz.func67 rfl (λcx H=>by have h0:Lv cx (Avu (HV [.bool]) k):=lv H (c1 H Sp (c1 H A4c Af)) Ab Aa;have hlaonce_0:=lO H h0 (b:=lp Tryz.f67 0) (k:=k) (n:=0) (s:=Ahy) (step:=Wb) (λ_ _ _ (_,_,_,_,_)=>by kernel_rfl) Ak;exact⟨h0,(Bq Ak hlaonce_0)⟩) λ_=>by kernel_rfl
def Abu:List Str->List Str->Bool
 |_,[]=>true
 |seen,s::r=>Be s && !seen.contains s&&Abu (seen++[s]) r
def E9(l:List Str):Bool:=Abu [] l&&decide (l.length<=100)
def Ab2:FT [.sl .str false] [.bool]:=λx=>some (E9 x)
theorem A2p{l:List Str}{i:Nat}(hi:i<l.length):l.take (i+1)=l.take i++[l[i]]:=by rw[List.take_add_one,Zo1 hi];rfl
theorem A2a{R:Type}{kx:Ex->U8->Option R}{l:List Str}{c:Bool->Option R}(hn:ln l.length)(h1:∀i,kx .ret (l,false,l,(l.length:Int),i)=c false)(h2:∀q i,kx (.exit 0) (l,q,l,(l.length:Int),i)=c true)(k:Nat)(hk:l.length<k) :
  Al (λrec=>Wb rec kx) k (l,false,l,(l.length:Int),0)=c (Abu [] l):=by
 refine(Dz l.length (λi=>(l,false,l,(l.length:Int),(i:Int))) (λi=>c (Abu (l.take i) (l.drop i))) (λi hi rec hr =>?_) (λrec =>?_) k 0 (Nat.zero_le _) (by omega)).trans (by rw[Zq1,List.take_zero])
 ·have hu:Di 0 (i:Int) l.length=true:=by simp[Di];omega
  simp only[Wb,He hi,Ae,A7 hi,chk,Bb (c :=.str) hi,A0 hi hn,hr,h1,As hi,Abu,hu,Int.toNat_natCast,A5m,A2p hi];cases Be l[i]<;>cases (l.take i).contains l[i]<;>rfl
 ·simp only[Wb,G7,Ah,h2];rw[Zk1 (Zn1 _)];rfl
theorem Ak7:FO 67 [.sl .str false] [.bool] Ab2 :=.fin 0 A9v λl r hb hx=>⟨l.length+1,by simp only[Ab2,Za1] at hx;rw[<-hx];simp only[Ai8];refine(A2a (l:=l) (c:=λb=>cond b (some (decide ((l.length:Int)<=100))) (some false)) hb.1 (λ_=>rfl) (λ_ _=>rfl) (l.length+1) (by omega)).trans ?_;rw[show decide ((l.length:Int)<=100)=decide (l.length<=100) from Zy1.2 (by omega),E9];cases Abu [] l<;>rfl⟩
theorem Aph:∀(l seen:List Str),Abu seen l=true↔(∀s,s∈l->Be s=true)/\l.Nodup/\∀s,s∈l->s∉seen
 |[],seen=>by simp[Abu]
 |x::l,seen=>by
  simp only[Abu,Zb1,Bool.not_eq_true',Aph l (seen++[x]),List.mem_cons,List.nodup_cons,List.mem_append,List.not_mem_nil,or_false,not_or];rw[<-Bool.not_eq_true,List.contains_iff_mem];constructor
  ·rintro⟨⟨h1,h2⟩,h3,h4,h5⟩;exact⟨λs hs=>hs.elim (λe=>by rw[e];exact h1) (h3 s),⟨λhx=>(h5 x hx).2 rfl,h4⟩,λs hs=>hs.elim (λe=>by rw[e];exact h2) (λh=>(h5 s h).1)⟩
  ·rintro⟨h1,⟨h2,h3⟩,h4⟩;exact⟨⟨h1 x (.inl rfl),h4 x (.inl rfl)⟩,λs hs=>h1 s (.inr hs),h3,λs hs=>⟨h4 s (.inr hs),λe=>h2 (by rw[<-e];exact hs)⟩⟩
def Ae9:Sig:=⟨19,[(0,.sl .expr false),(4,.int .i64),(7,.int .i64),(8,.int .i64)],[(1,.fn 112 [])],[],80,80,400,[],[]⟩
abbrev Re:=List Xpr×Int×Int×Int
def Oj{R:Type}(rec:Re->Option R)(kx:Ex->Re->Option R)(v:Re):Option R:=match v with
 |(v,v1,v2,v3) =>
 cond (decide (v3<v2)) (
  chk (inb v3 v.length) (
  cond (!(Bc (at' .expr v v3) 30)) (
   kx .ret (v,v3,v2,v3)) (
   rec (v,v1,v2,(wr .i64 (v3+1)))))) (
  kx (.exit 0) (v,v1,v2,v3))
def R6(R:Type)(_k:Nat):Px R:=pxO [(39,cA Pd)] [] [] []
noncomputable def W0(R:Type)(k:Nat):Px R:=pxO [(112,Az 120 600 (R6 R k) Tryz.f112)] [] [(2,Aq k Ae9 (Oj))] []
noncomputable def Aed(R:Type)(k:Nat):Px R:=pxO [(148,Az 80 400 (W0 R k) Tryz.f148)] [] [] []
noncomputable def Am6(R:Type)(k:Nat):Px R:=pxO [(96,Az 40 200 (Aed R k) Tryz.f96)] [] [] []
def Afl(k:Nat)(x:HV [.sl .expr false]):Option (HV [.bool]):=match x with
 |l =>
 cond (decide ((l.length:Int)<=100)) (
  Al (λrec=>Oj rec (λe vz=>match vz with|(_,v5,_,_)=>match e with
  |.ret =>some (!(decide (0<=v5)))
  |.exit 0 =>some true
  |_=>none)) k (l,0,(l.length:Int),0)) (
  some false)
theorem A0q(k:Nat):FO 68 [.sl .expr false] [.bool] (Afl k):=fR (px:=Am6 _ k) (n:=0) Tryz.func68 rfl (λcx H=>by have h3:Lv cx (R6 (HV [.bool]) k):=lv H (c1 H N1 Af) Ab Aa;have h2:Lv cx (W0 (HV [.bool]) k):=lv H (Au (cR H h3 Tryz.func112 rfl (n:=0) (Ak)) Af) Ab Aa;have hlaexprs_0:=lO H h2 (b:=lp Tryz.f148 0) (k:=k) (n:=0) (s:=Ae9) (step:=Oj) (λ_ _ _ (_,_,_,_)=>by kernel_rfl) Ak;have h1:Lv cx (Aed (HV [.bool]) k):=lv H (Au (cR H h2 Tryz.func148 rfl (n:=1) ((Bq Ak hlaexprs_0))) Af) Ab Aa;have h0:Lv cx (Am6 (HV [.bool]) k):=lv H (Au (cR H h1 Tryz.func96 rfl (n:=0) (Ak)) Af) Ab Aa;exact⟨h0,Ak⟩) λ_=>by kernel_rfl
def Hw(l:List Xpr):Bool:=decide (l.length<=100)&&l.all λe=>Bc e 30
def Aas:FT [.sl .expr false] [.bool]:=λx=>some (Hw x)
theorem Awz{R:Type}{kx:Ex->Re->Option R}{l:List Xpr}{c:Bool->Option R}(hn:ln l.length)(h1:∀i:Nat,kx .ret (l,(i:Int),(l.length:Int),(i:Int))=c false)(h2:∀q i,kx (.exit 0) (l,q,(l.length:Int),i)=c true)(k:Nat)(hk:l.length<k) :
  Al (λrec=>Oj rec kx) k (l,0,(l.length:Int),0)=c (l.all λe=>Bc e 30):=by
 refine(Dz l.length (λi=>(l,(0:Int),(l.length:Int),(i:Int))) (λi=>c ((l.drop i).all λe=>Bc e 30)) (λi hi rec hr =>?_) (λrec =>?_) k 0 (Nat.zero_le _) (by omega)).trans (by rw[Zq1])
 ·simp only[Oj,He hi,Ae,A7 hi,chk,Bb (c :=.expr) hi,A0 hi hn,hr,h1,As hi,Zv1];cases Bc l[i] 30<;>rfl
 ·simp only[Oj,G7,Ah,h2];rw[Zk1 (Zn1 _)];rfl
theorem Apm:FO 68 [.sl .expr false] [.bool] Aas :=.fin 0 A0q λl r hb hx=>⟨l.length+1,by
 simp only[Aas,Za1] at hx;rw[<-hx];simp only[Afl,Hw];rw[show decide ((l.length:Int)<=100)=decide (l.length<=100) from Zy1.2 (by omega)];cases decide (l.length<=100) with
 |false=>rfl
 |true =>rw[Ae,Bool.true_and];exact Awz (l:=l) (c:=some) hb.1 (λi=>by simp) (λ_ _=>rfl) (l.length+1) (by omega)⟩
def Ak9:Sig:=⟨19,[(0,.sl .exprs false),(4,.int .i64),(7,.int .i64),(8,.int .i64)],[(1,.fn 114 [])],[],80,80,400,[],[]⟩
abbrev Vq:=List (List Xpr)×Int×Int×Int
def Wp{R:Type}(rec:Vq->Option R)(kx:Ex->Vq->Option R)(v:Vq):Option R:=match v with
 |(v,v1,v2,v3) =>
 cond (decide (v3<v2)) (
  chk (inb v3 v.length) (
  cond (decide (((at' .exprs v v3).length:Int)=0)) (
   kx .ret (v,v3,v2,v3)) (
   cond (!(Hw (at' .exprs v v3))) (
   kx .ret (v,v3,v2,v3)) (
   rec (v,v1,v2,(wr .i64 (v3+1))))))) (
  kx (.exit 0) (v,v1,v2,v3))
def Uk(R:Type)(_k:Nat):Px R:=pxO [(68,cA Aas)] [] [] []
noncomputable def Zg(R:Type)(k:Nat):Px R:=pxO [(114,Az 120 600 (Uk R k) Tryz.f114)] [] [(2,Aq k Ak9 (Wp))] []
noncomputable def Aif(R:Type)(k:Nat):Px R:=pxO [(155,Az 80 400 (Zg R k) Tryz.f155)] [] [] []
noncomputable def Axs(R:Type)(k:Nat):Px R:=pxO [(66,cA Zm),(113,Az 40 200 (Aif R k) Tryz.f113)] [] [] []
def Alf(k:Nat)(x:HV [.sl .exprs false]):Option (HV [.bool]):=match x with
 |l =>
 cond ((De (l.length:Int))) (
  Al (λrec=>Wp rec (λe vz=>match vz with|(_,v5,_,_)=>match e with
  |.ret =>some (!(decide (0<=v5)))
  |.exit 0 =>some true
  |_=>none)) k (l,0,(l.length:Int),0)) (
  some false)
theorem Bao(k:Nat):FO 69 [.sl .exprs false] [.bool] (Alf k):=fR (px:=Axs _ k) (n:=0) Tryz.func69 rfl (λcx H=>by have h3:Lv cx (Uk (HV [.bool]) k):=lv H (c1 H Apm Af) Ab Aa;have h2:Lv cx (Zg (HV [.bool]) k):=lv H (Au (cR H h3 Tryz.func114 rfl (n:=0) (Ak)) Af) Ab Aa;have hlarows_0:=lO H h2 (b:=lp Tryz.f155 0) (k:=k) (n:=0) (s:=Ak9) (step:=Wp) (λ_ _ _ (_,_,_,_)=>by kernel_rfl) Ak;have h1:Lv cx (Aif (HV [.bool]) k):=lv H (Au (cR H h2 Tryz.func155 rfl (n:=1) ((Bq Ak hlarows_0))) Af) Ab Aa;have h0:Lv cx (Axs (HV [.bool]) k):=lv H (c1 H Y3 (Au (cR H h1 Tryz.func113 rfl (n:=0) (Ak)) Af)) Ab Aa;exact⟨h0,Ak⟩) λ_=>by kernel_rfl
def Auv(r:List Xpr):Bool := !decide (r.length=0)&&Hw r
def Ao5(l:List (List Xpr)):Bool:=De (l.length:Int)&&l.all Auv
def Arp:FT [.sl .exprs false] [.bool]:=λx=>some (Ao5 x)
theorem A1p{R:Type}{kx:Ex->Vq->Option R}{l:List (List Xpr)}{c:Bool->Option R}(hn:ln l.length)(h1:∀i:Nat,kx .ret (l,(i:Int),(l.length:Int),(i:Int))=c false)(h2:∀q i,kx (.exit 0) (l,q,(l.length:Int),i)=c true)(k:Nat)(hk:l.length<k) :
  Al (λrec=>Wp rec kx) k (l,0,(l.length:Int),0)=c (l.all Auv):=by
 refine(Dz l.length (λi=>(l,(0:Int),(l.length:Int),(i:Int))) (λi=>c ((l.drop i).all Auv)) (λi hi rec hr =>?_) (λrec =>?_) k 0 (Nat.zero_le _) (by omega)).trans (by rw[Zq1])
 ·simp only[Wp,He hi,Ae,A7 hi,chk,Bb (c :=.exprs) hi,A0 hi hn,hr,h1,As hi,Zv1,Auv];rw[show decide ((l[i].length:Int)=0)=decide (l[i].length=0) from Zy1.2 (by omega)];cases decide (l[i].length=0)<;>cases Hw l[i]<;>rfl
 ·simp only[Wp,G7,Ah,h2];rw[Zk1 (Zn1 _)];rfl
theorem Beq:FO 69 [.sl .exprs false] [.bool] Arp :=.fin 0 Bao λl r hb hx=>⟨l.length+1,by
 simp only[Arp,Za1] at hx;rw[<-hx];simp only[Alf,Ao5];cases De (l.length:Int) with
 |false=>rfl
 |true =>rw[Ae,Bool.true_and];exact A1p (l:=l) (c:=some) hb.1 (λi=>by simp) (λ_ _=>rfl) (l.length+1) (by omega)⟩
def Bfh(R:Type):Px R:=pxO [(20,cA V1)] [] [] []
def Yw(x:HV [.sv .expr]):Option (HV [.bool]):=match x with
 |e =>
 some (Tf e (Xpr.mk 0 ⟨0,0,[]⟩ [] []))
theorem A9g:FO 115 [.sv .expr] [.bool] (Yw):=fR (px:=Bfh _) (n:=0) Tryz.func115 rfl (λ_ H=>⟨lv H (c1 H Tp Af) Ab Aa,Ak⟩) λ_=>by kernel_rfl
def Aof(e:Xpr):Bool :=(Tf e (Xpr.mk 0 ⟨0,0,[]⟩ [] []))
theorem A8j(x:HV [.sv .expr]):Yw x=some (Aof x):=by
 first
  |exact rfl
  |simp only[Yw,Aof,Bm]
def A5i:FT [.sv .expr] [.bool]:=λx=>some (Aof x)
theorem Ba9:FO 115 [.sv .expr] [.bool] A5i :=.fin0 A9g λx _ _ hx=>(A8j x).trans hx
theorem Bd3(e:Xpr):Aof e=decide (e = .mk 0 ⟨0,0,[]⟩ [] []):=N4 e _
def A71(R:Type):Px R:=pxO [(115,cA A5i),(39,cA Pd)] [] [] []
def Tq(x:HV [.sv .stmt]):Option (HV [.bool]):=match x with
 |s =>
 cond (!s.has) (
  some (Aof (Mf s.whr))) (
  some (Bc (Mf s.whr) 30))
theorem Azn:FO 71 [.sv .stmt] [.bool] (Tq):=fR (px:=A71 _) (n:=0) Tryz.func71 rfl (λ_ H=>⟨lv H (c1 H Ba9 (c1 H N1 Af)) Ab Aa,Ak⟩) λ_=>by kernel_rfl
def G6(s:Stm):Bool :=
 cond (!s.has) (
  (Aof (Mf s.whr))) (
  (Bc (Mf s.whr) 30))
theorem Ayw(x:HV [.sv .stmt]):Tq x=some (G6 x):=by
 first
  |exact rfl
  |simp only[Tq,G6,Bm]
def Atx:FT [.sv .stmt] [.bool]:=λx=>some (G6 x)
theorem A8k:FO 71 [.sv .stmt] [.bool] Atx :=.fin0 Azn λx _ _ hx=>(Ayw x).trans hx
theorem An3(s:Stm):G6 s=cond s.has (Bc s.whr 30) (decide (s.whr = .mk 0 ⟨0,0,[]⟩ [] [])):=by simp only[G6,Jo,Bd3];cases s.has<;>rfl
def Ahx:Sig:=⟨44,[(0,.sl .col false),(2,.bool),(3,.sl .str true),(6,.sl .col false),(7,.int .i64),(8,.int .i64)],[],[],0,0,0,[],[]⟩
abbrev Vo:=List Col×Bool×List Str×List Col×Int×Int
def Wl{R:Type}(rec:Vo->Option R)(kx:Ex->Vo->Option R)(v:Vo):Option R:=match v with
 |(v,v1,v2,v3,v4,v5) =>
 cond (decide (v5<v4)) (
  chk (inb v5 v3.length) (
  let j:=λ(p:Bool) =>
   cond (p) (
   kx .ret (v,false,v2,v3,v4,v5)) (
   cond (!decide (((at' .col v3 v5).ref)=[])) (
    cond (!(Be ((at' .col v3 v5).ref))) (
    kx .ret (v,false,v2,v3,v4,v5)) (
    chk (decide (v2.length+1<=Am)) (
     rec (v,v1,(v2++[((at' .col v3 v5).name)]),v3,v4,(wr .i64 (v5+1)))))) (
    chk (decide (v2.length+1<=Am)) (
    rec (v,v1,(v2++[((at' .col v3 v5).name)]),v3,v4,(wr .i64 (v5+1))))))
  cond (decide ((at' .col v3 v5).kind<2)) (
   j true) (
   j (decide (5<(at' .col v3 v5).kind))))) (
  kx (.exit 0) (v,v1,v2,v3,v4,v5))
def Axz(R:Type)(k:Nat):Px R:=pxO [(63,cA Ri),(66,cA Zm),(67,cA Ab2)] [] [(3,Aq k Ahx (Wl))] []
def Ai4(k:Nat)(x:HV [.sl .col false]):Option (HV [.bool]):=match x with
 |l =>
 Al (λrec=>Wl rec (λe vz=>match vz with|(v6,v7,v8,_,_,_)=>match e with
  |.ret =>
  some v7
  |.exit 0 =>
  cond ((De (v6.length:Int))) (
   some (E9 v8)) (
   some false)
  |_=>none)) k (l,false,[],l,(l.length:Int),0)
theorem A8r(k:Nat):FO 65 [.sl .col false] [.bool] (Ai4 k):=fR (px:=Axz _ k) (n:=1) Tryz.func65 rfl (λcx H=>by have h0:Lv cx (Axz (HV [.bool]) k):=lv H (c1 H Sp (c1 H Y3 (c1 H Ak7 Af))) Ab Aa;have hlacols_0:=lO H h0 (b:=lp Tryz.f65 0) (k:=k) (n:=0) (s:=Ahx) (step:=Wl) (λ_ _ _ (_,_,_,_,_,_)=>by kernel_rfl) Ak;exact⟨h0,(Bq Ak hlacols_0)⟩) λ_=>by kernel_rfl
def Td(c:Col):Bool:=decide (2<=c.kind)&&decide (c.kind<=5)&&(decide (c.ref=[])||Be c.ref)
def A42(l:List Col):Option Bool:=if l.length<=1000000 then some (l.all Td&&De (l.length:Int)&&E9 (l.map (·.name))) else none
def Aqn:FT [.sl .col false] [.bool]:=λx=>A42 x
theorem Ayy{R:Type}{kx:Ex->Vo->Option R}{l:List Col}{c:Bool->Option R}(hn:l.length<=1000000)(h1:∀o i,kx .ret (l,false,o,l,(l.length:Int),i)=c false)(h2:∀q o i,kx (.exit 0) (l,q,o,l,(l.length:Int),i)=cond (De (l.length:Int)) (c (E9 o)) (c false))(k:Nat)(hk:l.length<k) :
  Al (λrec=>Wl rec kx) k (l,false,[],l,(l.length:Int),0)=c (l.all Td&&De (l.length:Int)&&E9 (l.map (·.name))):=by
 have hl:ln l.length:=by simp only[ln];omega
 refine(Dz l.length (λi=>(l,false,(l.take i).map (·.name),l,(l.length:Int),(i:Int))) (λi=>c ((l.drop i).all Td&&De (l.length:Int)&&E9 (l.map (·.name)))) (λi hi rec hr =>?_) (λrec =>?_) k 0 (Nat.zero_le _) (by omega)).trans (by rw[Zq1])
 ·have ht:(l.take (i+1)).map (·.name)=(l.take i).map (·.name)++[l[i].name]:=by rw[List.take_add_one,Zo1 hi,List.map_append];rfl
  have hlen:((l.take i).map (·.name)).length+1<=Am:=by simp only[List.length_map,List.length_take,Am];omega
  rw[ht] at hr;simp only[Wl,He hi,Ae,A7 hi,chk,Bb (c :=.col) hi,A0 hi hl,hr,h1,As hi,Zv1,Td,Ze1 hlen];by_cases ha:l[i].kind<2
  ·rw[Ze1 ha,Zd1 (show ¬ 2<=l[i].kind by omega)];rfl
  ·rw[Zd1 ha,Ze1 (show 2<=l[i].kind by omega)];by_cases hb : 5<l[i].kind
   ·rw[Ze1 hb,Zd1 (show ¬l[i].kind<=5 by omega)];rfl
   ·rw[Zd1 hb,Ze1 (show l[i].kind<=5 by omega)];cases decide (l[i].ref=[])<;>cases Be l[i].ref<;>rfl
 ·simp only[Wl,G7,Ah,h2];rw[Zk1 (Zn1 _),List.take_length];cases De (l.length:Int)<;>rfl
theorem Bgk:FO 65 [.sl .col false] [.bool] Aqn :=.fin 0 A8r λl r hb hx=>⟨l.length+1,by
 simp only[Aqn,A42] at hx;split at hx
 ·rename_i h;rw[<-hx];simp only[Ai4];refine Ayy (l:=l) (c:=some) h (λ_ _=>rfl) (λ_ _ _ =>?_) (l.length+1) (by omega);cases De (l.length:Int)<;>rfl
 ·cases hx⟩
def Ak5:Sig:=⟨29,[(0,.sl .set false),(2,.bool),(3,.sl .str true),(6,.sl .set false),(7,.int .i64),(8,.int .i64)],[],[],0,0,0,[],[]⟩
abbrev Vg:=List SetE×Bool×List Str×List SetE×Int×Int
def U3{R:Type}(rec:Vg->Option R)(kx:Ex->Vg->Option R)(v:Vg):Option R:=match v with
 |(v,v1,v2,v3,v4,v5) =>
 cond (decide (v5<v4)) (
  chk (inb v5 v3.length) (
  cond (!(Bc (Mf ((at' .set v3 v5).e)) 30)) (
   kx .ret (v,false,v2,v3,v4,v5)) (
   chk (decide (v2.length+1<=Am)) (
   rec (v,v1,(v2++[((at' .set v3 v5).name)]),v3,v4,(wr .i64 (v5+1))))))) (
  kx (.exit 0) (v,v1,v2,v3,v4,v5))
def Axl(R:Type)(k:Nat):Px R:=pxO [(39,cA Pd),(66,cA Zm),(67,cA Ab2)] [] [(3,Aq k Ak5 (U3))] []
def Alv(k:Nat)(x:HV [.sl .set false]):Option (HV [.bool]):=match x with
 |l =>
 Al (λrec=>U3 rec (λe vz=>match vz with|(v6,v7,v8,_,_,_)=>match e with
  |.ret =>
  some v7
  |.exit 0 =>
  cond ((De (v6.length:Int))) (
   some (E9 v8)) (
   some false)
  |_=>none)) k (l,false,[],l,(l.length:Int),0)
theorem A9j(k:Nat):FO 70 [.sl .set false] [.bool] (Alv k):=fR (px:=Axl _ k) (n:=1) Tryz.func70 rfl (λcx H=>by have h0:Lv cx (Axl (HV [.bool]) k):=lv H (c1 H N1 (c1 H Y3 (c1 H Ak7 Af))) Ab Aa;have hlasets_0:=lO H h0 (b:=lp Tryz.f70 0) (k:=k) (n:=0) (s:=Ak5) (step:=U3) (λ_ _ _ (_,_,_,_,_,_)=>by kernel_rfl) Ak;exact⟨h0,(Bq Ak hlasets_0)⟩) λ_=>by kernel_rfl
def A6m(l:List SetE):Option Bool:=if l.length<=1000000 then some (l.all (λx=>Bc x.e 30)&&De (l.length:Int)&&E9 (l.map (·.name))) else none
def As2:FT [.sl .set false] [.bool]:=λx=>A6m x
theorem A2b{R:Type}{kx:Ex->Vg->Option R}{l:List SetE}{c:Bool->Option R}(hn:l.length<=1000000)(h1:∀o i,kx .ret (l,false,o,l,(l.length:Int),i)=c false)(h2:∀q o i,kx (.exit 0) (l,q,o,l,(l.length:Int),i)=cond (De (l.length:Int)) (c (E9 o)) (c false))(k:Nat)(hk:l.length<k) :
  Al (λrec=>U3 rec kx) k (l,false,[],l,(l.length:Int),0)=c (l.all (λx=>Bc x.e 30)&&De (l.length:Int)&&E9 (l.map (·.name))):=by
 have hl:ln l.length:=by simp only[ln];omega
 refine(Dz l.length (λi=>(l,false,(l.take i).map (·.name),l,(l.length:Int),(i:Int))) (λi=>c ((l.drop i).all (λx=>Bc x.e 30)&&De (l.length:Int)&&E9 (l.map (·.name)))) (λi hi rec hr =>?_) (λrec =>?_) k 0 (Nat.zero_le _) (by omega)).trans (by rw[Zq1])
 ·have ht:(l.take (i+1)).map (·.name)=(l.take i).map (·.name)++[l[i].name]:=by rw[List.take_add_one,Zo1 hi,List.map_append];rfl
  have hlen:((l.take i).map (·.name)).length+1<=Am:=by simp only[List.length_map,List.length_take,Am];omega
  rw[ht] at hr;simp only[U3,He hi,Ae,A7 hi,chk,Bb (c :=.set) hi,A0 hi hl,hr,h1,As hi,Zv1,Ze1 hlen,Jo];cases Bc l[i].e 30<;>rfl
 ·simp only[U3,G7,Ah,h2];rw[Zk1 (Zn1 _),List.take_length];cases De (l.length:Int)<;>rfl
theorem Bdm:FO 70 [.sl .set false] [.bool] As2 :=.fin 0 A9j λl r hb hx=>⟨l.length+1,by
 simp only[As2,A6m] at hx;split at hx
 ·rename_i h;rw[<-hx];simp only[Alv];refine A2b (l:=l) (c:=some) h (λ_ _=>rfl) (λ_ _ _ =>?_) (l.length+1) (by omega);cases De (l.length:Int)<;>rfl
 ·cases hx⟩
def noX:Xpr :=.mk 0 ⟨0,0,[]⟩ [] []
def noS:Stm:=⟨0,[],[],[],[],[],[],[],false,noX,[],[],0⟩
def Bfd(R:Type):Px R:=pxO [] [] [] []
def Alm(x:HV [.sv .stmt]):Option (HV [.sv .stmt]):=match x with
 |s =>
 cond (decide (s.kind=1)) (
  some (Stm.mk 0 [] s.on [] [] [] s.rows s.sets s.has (Mf s.whr) s.order s.desc s.most)) (
  cond (decide (s.kind=3)) (
  some (Stm.mk 0 [] [] s.cols [] s.l s.rows s.sets s.has (Mf s.whr) s.order s.desc s.most)) (
  cond (decide (s.kind=5)) (
   some (Stm.mk 0 [] s.on s.cols s.names s.l [] s.sets s.has (Mf s.whr) s.order s.desc s.most)) (
   cond (decide (s.kind=6)) (
   some (Stm.mk 0 [] s.on s.cols s.names s.l s.rows [] false (Xpr.mk 0 ⟨0,0,[]⟩ [] []) s.order s.desc s.most)) (
   cond (decide (s.kind=7)) (
    some (Stm.mk 0 [] s.on s.cols s.names s.l s.rows s.sets false (Xpr.mk 0 ⟨0,0,[]⟩ [] []) s.order s.desc s.most)) (
    cond (decide (s.kind=8)) (
    some (Stm.mk 0 [] s.on s.cols s.names [] s.rows s.sets false (Xpr.mk 0 ⟨0,0,[]⟩ [] []) [] [] 0)) (
    some (Stm.mk 0 [] s.on s.cols s.names s.l s.rows s.sets s.has (Mf s.whr) s.order s.desc s.most)))))))
theorem A93:FO 64 [.sv .stmt] [.sv .stmt] (Alm):=fR (px:=Bfd _) (n:=0) Tryz.func64 rfl (λ_ H=>⟨lv H Af Ab Aa,Ak⟩) λ_=>by kernel_rfl
def Gh(s:Stm):Stm :=
 if s.kind=1 then { s with kind:=0,name:=[],cols:=[],names:=[],l:=[] }
 else if s.kind=3 then { s with kind:=0,name:=[],on:=[],names:=[] }
 else if s.kind=5 then { s with kind:=0,name:=[],rows:=[] }
 else if s.kind=6 then { s with kind:=0,name:=[],sets:=[],has:=false,whr:=noX }
 else if s.kind=7 then { s with kind:=0,name:=[],has:=false,whr:=noX }
 else if s.kind=8 then { s with kind:=0,name:=[],l:=[],has:=false,whr:=noX,order:=[],desc:=[],most:=0 }
 else { s with kind:=0,name:=[] }
def As7:FT [.sv .stmt] [.sv .stmt]:=λx=>some (Gh x)
theorem Bd8:FO 64 [.sv .stmt] [.sv .stmt] As7 :=.fin0 A93 λs r hb hx=>by
 simp only[As7,Za1] at hx;rw[<-hx];simp only[Alm,Gh,Jo,Bool.cond_decide];split; · rfl
 split; · rfl
 split; · rfl
 split; · rfl
 split; · rfl
 split<;>rfl
def A96(R:Type):Px R:=pxO [(63,cA Ri),(64,cA As7),(27,cA Axh),(65,cA Aqn),(66,cA Zm),(67,cA Ab2),(68,cA Aas),(69,cA Arp),(70,cA As2),(71,cA Atx)] [] [] []
def Agb(x:HV [.sv .stmt]):Option (HV [.int .i64]):=match x with
 |s =>
 let j7:=λ(p1:Bool) =>
  cond (decide (s.kind=1)) (
  let j1:=λ(p2:Bool) =>
   let j:=λ(p3:Bool) =>
   cond (p3) (
    cond ((E9 s.names)) (
    cond (!(Hw s.l)) (
     some 2) (
     some 0)) (
    some 2)) (
    some 2)
   cond (p2) (
   j (De (s.names.length:Int))) (
   j false)
  cond (p1) (
   (A42 s.cols).bind λx =>
   j1 x) (
   j1 false)) (
  cond (decide (s.kind=3)) (
   let j2:=λ(p7:Bool) =>
   cond (p7) (
    cond ((De (s.names.length:Int))) (
    cond (!(E9 s.names)) (
     some 2) (
     some 0)) (
    some 2)) (
    some 2)
   cond (p1) (
   j2 (Be s.on)) (
   j2 false)) (
   let j6:=λ(a:Bool) =>
   cond (a) (
    cond (!p1) (
    some 2) (
    some 0)) (
    cond (decide (s.kind=5)) (
    cond (p1) (
     cond (!(Ao5 s.rows)) (
     some 2) (
     some 0)) (
     some 2)) (
    cond (decide (s.kind=6)) (
     cond (p1) (
     (A6m s.sets).bind λx1 =>
      cond (x1) (
      cond (!(G6 s)) (
       some 2) (
       some 0)) (
      some 2)) (
     some 2)) (
     cond (decide (s.kind=7)) (
     cond (p1) (
      cond (!(G6 s)) (
      some 2) (
      some 0)) (
      some 2)) (
     cond (decide (s.kind=8)) (
      let j5:=λ(b:Bool) =>
      let j4:=λ(c:Bool) =>
       let j3:=λ(d:Bool) =>
       cond (d) (
        cond (decide ((s.desc.length:Int)=(s.order.length:Int))) (
        cond (!(decide ((-1)<=s.most))) (
         some 2) (
         some 0)) (
        some 2)) (
        some 2)
       cond (c) (
       j3 (E9 s.order)) (
       j3 false)
      cond (b) (
       j4 (G6 s)) (
       j4 false)
      cond (p1) (
      j5 (Hw s.l)) (
      j5 false)) (
      some 2)))))
   cond (decide (s.kind=2)) (
   j6 (decide (s.kind=2))) (
   j6 (decide (s.kind=4)))))
 cond ((Be s.name)) (
  j7 (A0s (Gh s) (Stm.mk 0 [] [] [] [] [] [] [] false (Xpr.mk 0 ⟨0,0,[]⟩ [] []) [] [] 0))) (
  j7 false)
theorem A0w:FO 25 [.sv .stmt] [.int .i64] (Agb):=fR (px:=A96 _) (n:=0) Tryz.func25 rfl (λ_ H=>⟨lv H (c1 H Sp (c1 H Bd8 (c1 H A9c (c1 H Bgk (c1 H Y3 (c1 H Ak7 (c1 H Apm (c1 H Beq (c1 H Bdm (c1 H A8k Af)))))))))) Ab Aa,Ak⟩) λ_=>by kernel_rfl
def G3(s:Stm):Bool:=Be s.name&&decide (Gh s=noS)&&(
 if s.kind=1 then s.cols.all Td&&De (s.cols.length:Int)&&E9 (s.cols.map (·.name))&&De (s.names.length:Int)&&E9 s.names&&Hw s.l
 else if s.kind=3 then Be s.on&&De (s.names.length:Int)&&E9 s.names
 else if s.kind=2\/s.kind=4 then true
 else if s.kind=5 then Ao5 s.rows
 else if s.kind=6 then s.sets.all (λx=>Bc x.e 30)&&De (s.sets.length:Int)&&E9 (s.sets.map (·.name))&&G6 s
 else if s.kind=7 then G6 s
 else if s.kind=8 then Hw s.l&&G6 s&&E9 s.order&&decide (s.desc.length=s.order.length)&&decide (-1<=s.most)
 else false)
def Nn(s:Stm):Option Int:=if s.cols.length<=1000000/\s.sets.length<=1000000 then some (cond (G3 s) 0 2) else none
def Aa2:FT [.sv .stmt] [.int .i64]:=λx=>Nn x
theorem Amu:FO 25 [.sv .stmt] [.int .i64] Aa2 :=.fin0 A0w λs r hb hx=>by
 simp only[Aa2,Nn] at hx;split at hx
 case isFalse=>cases hx
 rename_i h;rw[<-hx];have e1:A42 s.cols=some (s.cols.all Td&&De (s.cols.length:Int)&&E9 (s.cols.map (·.name))):=if_pos h.1;have e2:A6m s.sets=some (s.sets.all (λx=>Bc x.e 30)&&De (s.sets.length:Int)&&E9 (s.sets.map (·.name))):=if_pos h.2;have e3:A0s (Gh s) (Stm.mk 0 [] [] [] [] [] [] [] false (Xpr.mk 0 ⟨0,0,[]⟩ [] []) [] [] 0)=decide (Gh s=noS):=A64 _ _;have e4:decide ((s.desc.length:Int)=(s.order.length:Int))=decide (s.desc.length=s.order.length):=Zy1.2 (by omega);simp only[Agb,G3,e1,e2,e3,e4,Zc1];generalize Be s.name=A;generalize decide (Gh s=noS)=B;generalize (s.cols.all Td&&De (s.cols.length:Int)&&E9 (s.cols.map (·.name)))=C;generalize De (s.names.length:Int)=D;generalize E9 s.names=E;generalize Hw s.l=F;generalize Be s.on=G;generalize Ao5 s.rows=H;generalize (s.sets.all (λx=>Bc x.e 30)&&De (s.sets.length:Int)&&E9 (s.sets.map (·.name)))=I;generalize G6 s=J;generalize E9 s.order=K;generalize decide (s.desc.length=s.order.length)=L;generalize decide (-1<=s.most)=M;by_cases h1:s.kind=1
 ·rw[Ze1 h1,if_pos h1];cases A<;>cases B<;>cases C<;>cases D<;>cases E<;>cases F<;>rfl
 rw[Zd1 h1,if_neg h1];by_cases h3:s.kind=3
 ·rw[Ze1 h3,if_pos h3];cases A<;>cases B<;>cases G<;>cases D<;>cases E<;>rfl
 rw[Zd1 h3,if_neg h3];by_cases h24:s.kind=2\/s.kind=4
 ·rw[if_pos h24];rcases h24 with h2|h2
  ·rw[Ze1 h2];cases A<;>cases B<;>rfl
  ·rw[Ze1 h2,Zd1 (show ¬s.kind=2 by omega)];cases A<;>cases B<;>rfl
 rw[if_neg h24,Zd1 (show ¬s.kind=2 by omega),Zd1 (show ¬s.kind=4 by omega)];by_cases h5:s.kind=5
 ·rw[Ze1 h5,if_pos h5];cases A<;>cases B<;>cases H<;>rfl
 rw[Zd1 h5,if_neg h5];by_cases h6:s.kind=6
 ·rw[Ze1 h6,if_pos h6];cases A<;>cases B<;>cases I<;>cases J<;>rfl
 rw[Zd1 h6,if_neg h6];by_cases h7:s.kind=7
 ·rw[Ze1 h7,if_pos h7];cases A<;>cases B<;>cases J<;>rfl
 rw[Zd1 h7,if_neg h7];by_cases h8:s.kind=8
 ·rw[Ze1 h8,if_pos h8];cases A<;>cases B<;>cases F<;>cases J<;>cases K<;>cases L<;>cases M<;>rfl
 rw[Zd1 h8,if_neg h8];cases A<;>cases B<;>rfl
open Go.RowKit
def Ax0:List Nat:=[80,82]
abbrev Bp7:TypeId:=80
theorem A5d:(Tryz.prog.info? Bp7).map (·.size)=some 2:=by kernel_rfl
theorem Bkb(T:TypeId)(h:T∈Ax0):liesAt Tryz.prog Tryz.prog.depth T (2 / Tryz.prog.cellsOf T) 0 Bp7 1=true:=by simp only[Ax0,List.mem_cons,List.not_mem_nil,or_false] at h;rcases h with rfl|rfl<;>kernel_rfl
set_option maxRecDepth 100000 in
theorem Bkm(b:Nat)(w:World)(h0:w.cell? ⟨b,0,none⟩=some (.pointer (some ⟨b,0,none⟩))) :
  Calls Tryz.prog 152 #[.pointer (some ⟨b,0,none⟩)] w λe w'=>e = .returned (.tuple #[])/\w' = w:=by
 obtain⟨j,hj,_⟩:=Option.map_eq_some_iff.1 A5d;have mixed:=follows;have t1:=Tryz.underlying77;have t2:=Tryz.underlying80;have u1:=run_underlying (P:=Tryz.prog) t1;have u2:=run_underlying (P:=Tryz.prog) t2
 go_enter Tryz.func152,Tryz.ntmps152
 go_wp2
 rw[Lib.run_neq_ptr_same w _ t1 hj]
 go_wp2
 go_end0
 exact⟨rfl,rfl⟩
set_option maxRecDepth 100000 in
theorem Bcw(b:Nat)(T:TypeId)(hT:T∈Ax0)(w:World)(h0:w.cell? ⟨b,0,none⟩=some (.pointer none))(hsh:w.shape? b=some (T,2))(hfz:w.frozen? ⟨b,0,none⟩=false) :
  Calls Tryz.prog 152 #[.pointer (some ⟨b,0,none⟩)] w λe w'=>e = .returned (.tuple #[])/\w' = w.setCell ⟨b,0,none⟩ (.pointer (some ⟨b,0,none⟩)):=by
 obtain⟨j,hj,hjs⟩:=Option.map_eq_some_iff.1 A5d;have mixed:=follows;have t1:=Tryz.underlying77;have t2:=Tryz.underlying80;have t3:=Tryz.underlying205;have u1:=run_underlying (P:=Tryz.prog) t1;have u2:=run_underlying (P:=Tryz.prog) t2;have u3:=run_underlying (P:=Tryz.prog) t3
 go_enter Tryz.func152,Tryz.ntmps152
 go_wp2
 rw[Lib.run_to_unsafe w ⟨b,0,none⟩ t1 t3 hj (by rw[hjs];decide) hsh (Nat.zero_lt_succ 1)];simp only[Result.andThen];rw[Oper.upon_value]
 go_wp2
 rw[run_callFunc_extern Tryz.func172 (by kernel_rfl) (by kernel_rfl) (by kernel_rfl) (e:=Extern.AbiNoEscape.same) (by kernel_rfl)];rw[Lib.run_noEscape];simp only[Result.andThen];rw[Oper.upon_value]
 go_wp2
 rw[Lib.run_from_unsafe w ⟨b,0,none⟩ t3 t1 hj hsh (Bkb T hT)];simp only[Result.andThen];rw[Oper.upon_value]
 go_wp2
 go_end0
 exact⟨rfl,rfl⟩
theorem A9h:Sx.Enters Tryz.prog 152:=Sx.enters_of Tryz.func152 rfl (by kernel_rfl)
theorem Bpc:∀T,T∈Ax0->∀(b:Nat) (w:World) (a v:Value),w.heap[b]? = some (.cells #[a,v] T (0,0))->(a = .pointer none\/a = .pointer (some ⟨b,0,none⟩))->Calls Tryz.prog 152 #[.pointer (some ⟨b,0,none⟩)] w λe w'=>e = .returned (.tuple #[])/\(w' = w\/w' = w.setCell ⟨b,0,none⟩ (.pointer (some ⟨b,0,none⟩))):=by
 intro T hT b w a v hh ha;have c0:w.cell? ⟨b,0,none⟩=some a:=by simp[World.cell?,hh]
 rcases ha with rfl|rfl
 ·refine(Bcw b T hT w c0 (by simp[World.shape?,hh]) (by simp[World.frozen?,hh])).mono ?_;rintro e w' ⟨rfl,rfl⟩;exact⟨rfl,.inr rfl⟩
 ·refine(Bkm b w c0).mono ?_;rintro e w' ⟨rfl,rfl⟩;exact⟨rfl,.inl rfl⟩
theorem A0h(w:World)(g n k:Nat):Chg (λb i=>b=g/\k<=i) w (w.freeze ⟨g,0,none⟩ n):=by
 unfold World.freeze;split
 ·exact Chg.refl _ _
 ·have hne:∀(q:Nat),q≠g->∀F:Obj->Obj,(w.heap.modify g F)[q]? = w.heap[q]? :=λq hq F=>by rw[Array.getElem?_modify,if_neg (Ne.symm hq)]
  refine⟨rfl,rfl,rfl,by simp,λq _ hq2=>hne q (λe=>hq2 k ⟨e,Zn1 _⟩) _,λb i v hv _ =>?_,λb cs t f hb =>?_⟩
  ·by_cases hbg:b=g
   ·subst hbg;unfold World.cell? at hv ⊢;simp only[Array.getElem?_modify,if_true] at hv ⊢;cases hh:w.heap[b]? with
    |none=>rw[hh] at hv;cases hv
    |some o =>rw[hh] at hv;cases o with|cells c e f=>obtain⟨lo,hi⟩:=f;exact hv|_=>cases hv
   ·rw[World.cell?_of_block (a:=⟨b,i,none⟩) (hne b hbg _)];exact hv
  ·by_cases hbg:b=g
   ·subst hbg;obtain⟨lo,hi⟩:=f;exact⟨cs,_,by simp only[Array.getElem?_modify,if_true,hb];rfl,rfl⟩
   ·exact⟨cs,f,by rw[hne b hbg];exact hb,rfl⟩
theorem cellsByte:Tryz.prog.cellsOf 5=1:=by kernel_rfl
set_option maxHeartbeats 2000000 in
set_option maxRecDepth 100000 in
theorem Awe(b g cap n:Nat)(w:World)(s:ByteArray)(hcap:cap≠0)(hc:w.cell? ⟨b,1,none⟩=some (.slice (some ⟨g,0,none⟩) n cap))(hUS:(Builtin.unsafeString_ #[148,3] 9 #[.pointer (some ⟨g,0,none⟩),.int .i64 n]).run Tryz.prog w.drew = .ok (.string s) (w.drew.freeze ⟨g,0,none⟩ n)) :
  Calls Tryz.prog 41 #[.pointer (some ⟨b,0,none⟩)] w λe w'=>e = .returned (.string s)/\w' = w.drew.freeze ⟨g,0,none⟩ n:=by
 have c1:w.drew.cell? ⟨b,1,none⟩=some (.slice (some ⟨g,0,none⟩) n cap):=hc;have hSD:(Builtin.unsafeSliceData_ #[78] 148 #[.slice (some ⟨g,0,none⟩) n cap]).run Tryz.prog w.drew = .ok (.pointer (some ⟨g,0,none⟩)) w.drew:=Lib.run_unsafeSliceData_row _ _ _ _ _ _ hcap;clear hcap;have mixed:=follows;have t1:=Tryz.underlying77;have t2:=Tryz.underlying80;have t3:=Tryz.underlying78;have t4:=Tryz.underlying148;have t5:=Tryz.underlying3;have t6:=Tryz.underlying9;have u1:=run_underlying (P:=Tryz.prog) t1;have u2:=run_underlying (P:=Tryz.prog) t2;have u3:=run_underlying (P:=Tryz.prog) t3;have u4:=run_underlying (P:=Tryz.prog) t4;have u5:=run_underlying (P:=Tryz.prog) t5;have u6:=run_underlying (P:=Tryz.prog) t6
 go_enter Tryz.func41,Tryz.ntmps41
 go_wp2
 go_region_o
 all_goals (go_wp2;go_ret;exact⟨rfl,rfl⟩)
theorem As6(W:World)(q:Option Addr):(Builtin.unsafeString_ #[148,3] 9 #[.pointer q,.int .i64 0]).run Tryz.prog W = .ok (.string .empty) W:=Lib.run_unsafeString_none W _ _ _ q
set_option maxHeartbeats 2000000 in
set_option maxRecDepth 100000 in
theorem Bkt(b:Nat)(w:World)(hc:w.cell? ⟨b,1,none⟩=some (.slice none 0 0)) :
  Calls Tryz.prog 41 #[.pointer (some ⟨b,0,none⟩)] w λe w'=>e = .returned (.string ⟨#[]⟩)/\w' = w.drew:=by
 have hUS:=As6;have c1:w.drew.cell? ⟨b,1,none⟩=some (.slice none 0 0):=hc;have hSD:(Builtin.unsafeSliceData_ #[78] 148 #[.slice none 0 0]).run Tryz.prog w.drew = .ok (.pointer none) w.drew:=rfl;have mixed:=follows;have t1:=Tryz.underlying77;have t2:=Tryz.underlying80;have t3:=Tryz.underlying78;have t4:=Tryz.underlying148;have t5:=Tryz.underlying3;have t6:=Tryz.underlying9;have u1:=run_underlying (P:=Tryz.prog) t1;have u2:=run_underlying (P:=Tryz.prog) t2;have u3:=run_underlying (P:=Tryz.prog) t3;have u4:=run_underlying (P:=Tryz.prog) t4;have u5:=run_underlying (P:=Tryz.prog) t5;have u6:=run_underlying (P:=Tryz.prog) t6
 go_enter Tryz.func41,Tryz.ntmps41
 go_wp2
 go_region_o
 all_goals (go_wp2;go_ret;exact⟨rfl,rfl⟩)
set_option maxHeartbeats 2000000 in
set_option maxRecDepth 100000 in
theorem Ayx(b g:Nat)(w:World)(cur:Array Value)(hlt:b<w.heap.size)(hc:w.cell? ⟨b,1,none⟩=some (.slice (some ⟨g,0,none⟩) 0 0))(hg:w.heap[g]? = some (.cells cur 5 (0,0))) :
  Calls Tryz.prog 41 #[.pointer (some ⟨b,0,none⟩)] w λe w'=>e = .returned (.string ⟨#[]⟩)/\Chg Ga w w':=by
 have hUS:=As6;have c1:w.drew.cell? ⟨b,1,none⟩=some (.slice (some ⟨g,0,none⟩) 0 0):=hc;have t4:=Tryz.underlying148;have hSD:(Builtin.unsafeSliceData_ #[78] 148 #[.slice (some ⟨g,0,none⟩) 0 0]).run Tryz.prog w.drew = .ok (.pointer (some ⟨w.drew.heap.size,0,none⟩)) (w.drew.alloc (.view ⟨g,0,none⟩ 5)) :=Lib.run_unsafeSliceData_zero w.drew _ _ 5 t4 ⟨g,0,none⟩ 0 (5,cur.size) (by have hg':w.drew.heap[g]? = some (.cells cur 5 (0,0)):=hg;simp[World.shape?,hg'])
 have c2:(w.drew.alloc (.view ⟨g,0,none⟩ 5)).cell? ⟨b,1,none⟩=some (.slice (some ⟨g,0,none⟩) 0 0):=by rw[World.cell?_of_block (a:=⟨b,1,none⟩) (Below.heap_alloc w.drew _ _ hlt)];exact c1
 have c3:(w.alloc (.view ⟨g,0,none⟩ 5)).drew.cell? ⟨b,1,none⟩=some (.slice (some ⟨g,0,none⟩) 0 0):=c2;have c0:w.cell? ⟨b,1,none⟩=some (.slice (some ⟨g,0,none⟩) 0 0):=c1;have mixed:=follows;have t1:=Tryz.underlying77;have t2:=Tryz.underlying80;have t3:=Tryz.underlying78;have t5:=Tryz.underlying3;have t6:=Tryz.underlying9;have u1:=run_underlying (P:=Tryz.prog) t1;have u2:=run_underlying (P:=Tryz.prog) t2;have u3:=run_underlying (P:=Tryz.prog) t3;have u4:=run_underlying (P:=Tryz.prog) t4;have u5:=run_underlying (P:=Tryz.prog) t5;have u6:=run_underlying (P:=Tryz.prog) t6
 go_enter Tryz.func41,Tryz.ntmps41
 go_wp2
 go_region_o
 all_goals (go_wp2;go_ret;exact⟨rfl,(Chg.drew Ga w).trans (Chg.alloc Ga w.drew _)⟩)
theorem Bj5{cx:Cx}{m:Mp}{a:Act}{rs:List Act}{st:St}{w w':World}(hr:Rel cx m a rs (fs st) w)(hch:Chg (D5 m (fs st)) w w'){d:D}{v:Value}(hd:Rep (vx cx m (fs { st with n:=1,env:=[(0,d)],bl:=[],tk:=[] }) w') d v):Rel cx m ⟨#[v],[]⟩ rs (fs { st with n:=1,env:=[(0,d)],bl:=[],tk:=[] }) w':=by
 have hnf:∀b i,¬D5 m (fs { st with n:=1,env:=[(0,d)],bl:=[],tk:=[] }) b i:=by
  rintro b i (⟨q,hq,_⟩|⟨t,o,h1,_,_⟩)
  ·exact hq rfl
  ·simp[fs] at h1
 have nx:Nx (vx cx m (fs st) w) (vx cx m (fs { st with n:=1,env:=[(0,d)],bl:=[],tk:=[] }) w'):=by
  refine⟨hch.mono λb i hi =>.inr hi,?_,rfl,λ_ _=>rfl,Zn1 _,Zn1 _,λt _ ha =>?_⟩
  ·rintro b i (h|h)
   ·exact .inl (.inl h)
   ·exact absurd h (hnf b i)
  ·simp[vx,fs] at ha
 have h1:Rel cx m a rs { fs st with bl:=λ_=>none,al:=λ_=>False } w':=by
  refine hr.step (s':={ fs st with bl:=λ_=>none,al:=λ_=>False }) rfl rfl rfl rfl rfl hch ?_ (λb k hk=>by cases hk) (λt ht=>ht.elim) (λb b' h=>absurd rfl h) (λt t' g o o' h=>h.elim) (λb t g o h=>absurd rfl h) (λb i hi =>?_)
  ·refine⟨hch.mono λb i hi =>.inr hi,?_,rfl,λ_ _=>rfl,Zn1 _,Zn1 _,λt _ ha=>ha.elim⟩;rintro b i (h|⟨q,hq,_⟩|⟨t,o,h1,_,_⟩)
   ·exact .inl (.inl h)
   ·exact absurd rfl hq
   ·exact h1.elim
  ·rcases hi with ⟨q,hq,_⟩|⟨t,o,h1,_,_⟩
   ·exact absurd rfl hq
   ·exact h1.elim
 have hal:(fs { st with n:=1,env:=[(0,d)],bl:=[],tk:=[] }).al=λ_=>False:=by funext t;simp[fs]
 have e:fs { st with n:=1,env:=[(0,d)],bl:=[],tk:=[] }={ (fs { st with n:=1,env:=[(0,d)],bl:=[],tk:=[] }) with al:=λ_=>False }:=by rw[<-hal]
 rw[e] at hd ⊢;refine⟨h1.chg,⟨rfl,rfl,λk d' hk =>?_⟩,h1.frs,h1.lb,h1.lt,h1.blks,h1.als,h1.inj,h1.injt,h1.injbt,h1.own,h1.away,h1.glb⟩;have hk:get [(0,d)] k=some d':=hk;rw[Cv] at hk;by_cases h0:k=0
 ·subst h0;simp only[if_true,Za1] at hk;subst hk;exact⟨v,rfl,hd⟩
 ·rw[if_neg h0] at hk;cases hk
abbrev wT:TypeId:=82
def bstr_si:Sig:=⟨1,[],[(0,.ptr 0 0)],[(0,.bld wT)],1,1,0,[],[]⟩
def Agp:Sig:=⟨1,[(0,.str)],[],[],1,1,0,[],[]⟩
abbrev Bo1:=List UInt8
abbrev Bmq:=Str
def Iw:Bo1->Option Bmq:=λx=>some x
theorem A5c:FnLn Tryz.prog elT glT 41 bstr_si Agp Iw:=by
 refine⟨Sx.enters_of Tryz.func41 rfl (by kernel_rfl),λ(l:List UInt8) r hx _ cx m vs af w h1 h2 h3 hr =>?_⟩;obtain rfl:l=r:=Option.some.inj hx;obtain⟨_,hb⟩:=hr.blks 0 (.bld wT (.sl .byte l (.id 0))) rfl;obtain⟨_,a,v,hh,ha,hrep⟩:=hb;obtain⟨u,hu,hup⟩:=hr.env.get 0 (.ptr 0 0) rfl;have hsz:vs.toArray.size=1:=hr.env.size;have hvs:vs=[u]:=by match vs,hsz,hu with|[y],_,hu=>simpa using hu
 subst hvs;simp only[Rep] at hup hrep;obtain⟨_,rfl⟩:=hup;obtain⟨hrf,_,htk⟩:=hrep;have htk:=htk (show(fs (Fb bstr_si [Gz bstr_si] l)).al 0 by simp[fs,Fb,bstr_si,Sig.sgs,Al3,Bl,Bs.sgs,Amg]);have hh:w.heap[m.bl 0]? = some (.cells #[a,v] wT (0,0)):=hh;have hblt:m.bl 0<w.heap.size:=(Zh2.1 hh).1;have hlen:l.length<=maxLen:=hrf.here.len;have c1:w.cell? ⟨m.bl 0,1,none⟩=some v:=by simp[World.cell?,hh]
 have done:(Calls Tryz.prog 41 #[.pointer (some ⟨m.bl 0,0,none⟩)] w λe w'=>e = .returned (.string ⟨l.toArray⟩)/\Chg (D5 m (fs (Fb bstr_si [Gz bstr_si] l))) w w')->Calls Tryz.prog 41 ([.pointer (some ⟨m.bl 0,0,none⟩)]:List Value).toArray w λen w'=>∃us st' m',en = .returned (Sx.resv us)/\(∀k,(bstr_si.bl.map (·.1)).contains k=true->m'.bl k=m.bl k)/\M5 Agp st' = some l/\Rel cx m' ⟨us.toArray,[]⟩ [af] (fs st') w':=λhc=>by refine hc.mono ?_;rintro e w' ⟨rfl,hch⟩;exact⟨[.string ⟨l.toArray⟩],{ Fb bstr_si [Gz bstr_si] l with n:=1,env:=[(0,.str l)],bl:=[],tk:=[] },m,rfl,λ_ _=>rfl,rfl,Bj5 hr hch (by simp only[Rep];exact⟨trivial,hlen⟩)⟩
 refine done ?_;rcases htk with ⟨rfl,_,rfl⟩|⟨g,cap,cur,rfl,ht,hg,hcs,hle,hcm⟩
 ·refine(Bkt (m.bl 0) w c1).mono ?_;rintro e w' ⟨rfl,rfl⟩;exact⟨rfl,Chg.drew _ w⟩
 ·have ht:m.tk 0=some (g,l.length*1):=ht;have hel:(vx cx m (fs (Fb bstr_si [Gz bstr_si] l)) w).el .byte=5:=by show cx.el .byte=_;rw[h2];rfl
  rw[hel] at hg;have hg:w.heap[g]? = some (.cells cur 5 (0,0)):=hg;have hcs:cur.size=cap*1:=hcs;by_cases hl0:l=[]
  ·subst hl0;by_cases hc0:cap=0
   ·subst hc0;refine(Ayx (m.bl 0) g w cur hblt c1 hg).mono ?_;rintro e w' ⟨rfl,hch⟩;exact⟨rfl,hch.mono λ_ _ h=>h.elim⟩
   ·refine(Awe (m.bl 0) g cap 0 w .empty hc0 c1 (As6 _ _)).mono ?_;rintro e w' ⟨rfl,rfl⟩;exact⟨rfl,Chg.drew _ w⟩
  ·have hcells:∀(j:Nat) x,l[j]? = some x->w.cell? ⟨g,j,none⟩=some (.int .u8 x.toNat):=λj x hj=>by
    obtain⟨a',cap',e1,h|⟨b0,o0,e2,_,h4⟩⟩:=hrf.here.slice
    ·exact absurd h hl0
    ·simp only[Value.slice.injEq] at e1;rw[e2] at e1;simp only[Za1,Addr.mk.injEq] at e1;obtain⟨⟨rfl,rfl,_⟩,_⟩:=e1;obtain⟨u,hu,hf⟩:=h4 j x hj 0 _ rfl;have e3 : 0+j*csz .byte+0=j:=by simp[csz]
     rw[e3] at hu;cases hf;exact hu
   have hn0:l.length≠0:=λe=>hl0 (List.eq_nil_of_length_eq_zero e);have hUS:=Lib.run_unsafeString_row w.drew 148 3 9 5 Tryz.underlying148 cellsByte g cur.size (by have hg':w.drew.heap[g]? = some (.cells cur 5 (0,0)):=hg;simp[World.shape?,hg']) l hl0 (by omega) (by unfold maxLen at hcm;omega) (λj x hj=>by
    have e:(⟨g,0,none⟩:Addr).add j=⟨g,j,none⟩:=by
     unfold Addr.add;by_cases hj0:j=0
     ·subst hj0;simp
     ·simp[hj0]
    rw[e];exact hcells j x hj)
   refine(Awe (m.bl 0) g cap l.length w ⟨l.toArray⟩ (by omega) c1 hUS).mono ?_;rintro e w' ⟨rfl,rfl⟩;refine⟨rfl,(Chg.drew _ w).trans ((A0h w.drew g l.length (l.length*1)).mono λb i hi =>?_)⟩;obtain⟨rfl,hi⟩:=hi;exact .inr ⟨0,l.length*1,by simp[fs,Fb,bstr_si,Sig.sgs,Al3,Bl,Bs.sgs,Amg],ht,hi⟩
def Aco:Sig:=⟨2,[(1,.str)],[(0,.ptr 0 0)],[(0,.bld 82)],1,1,0,[],[]⟩
def Ac0:Sig:=⟨2,[],[],[(0,.bld 82)],1,1,0,[],[]⟩
abbrev At5:=Str×List UInt8
abbrev Avc:=List UInt8
def A66(R:Type):Px R:=pxO [(152,A18 Ax0)] [] [] []
def Aew(x:At5):Option (Avc):=match x with
 |(s,out) =>
 chk (decide (out.length+s.length<=Am)) (
  some (out++s))
theorem Azq:FM 104 Aco Ac0 (Aew):=fRL (px:=A66 _) (n:=0) Tryz.func104 rfl (λ_ H=>⟨lv H (Au (Bpl (by rw[H.p];exact A9h) (by rw[H.p];exact Bpc)) Af) Ab Aa,Ak⟩) λ(_,_)=>by kernel_rfl
def Aru(s out:Str):Option Str:=if out.length+s.length<=Am then some (out++s) else none
def To:At5->Option Avc:=λx=>Aru x.1 x.2
theorem Ba4:FM 104 Aco Ac0 To :=.fin0 Azq λ(s,out) r hb hx=>by
 simp only[To,Aru] at hx;split at hx
 ·rename_i h;simp only[Aew];rw[Ze1 h];exact hx
 ·cases hx
end Go.Proofs.YthndhaolemgbdaaGreatDoor
namespace Go.Proofs
open Go.Shelf
def Tryz.laysRJ_ren:Go.Shelf.Ren:=⟨λ|156=>105|165=>153|166=>104|169=>41|240=>152|241=>173|276=>172|277=>190|n=>n,λ|0=>0|3=>3|4=>4|5=>5|9=>9|20=>20|31=>34|37=>78|70=>77|72=>80|75=>153|76=>154|80=>84|127=>148|164=>205|n=>n,λn=>n⟩
theorem Tryz.laysRJ:Go.Proofs.Lays.n156 Tryz.prog Tryz.laysRJ_ren:={
 mixed:=by kernel_rfl
 f156:=Tryz.func105.trans (congrArg some (by kernel_rfl))
 f165:=Tryz.func153.trans (congrArg some (by kernel_rfl))
 f166:=Tryz.func104.trans (congrArg some (by kernel_rfl))
 f169:=Tryz.func41.trans (congrArg some (by kernel_rfl))
 f240:=Tryz.func152.trans (congrArg some (by kernel_rfl))
 f241:=Tryz.func173.trans (congrArg some (by kernel_rfl))
 f276:=Tryz.func172.trans (congrArg some (by kernel_rfl))
 f277:=Tryz.func190.trans (congrArg some (by kernel_rfl))
 t0:=Tryz.underlying0
 a0:=Tryz.isAgg0
 z0:=Tryz.sizeOf0
 v0:=Tryz.zeroValue0
 t3:=Tryz.underlying3
 a3:=Tryz.isAgg3
 z3:=Tryz.sizeOf3
 v3:=Tryz.zeroValue3
 t4:=Tryz.underlying4
 a4:=Tryz.isAgg4
 z4:=Tryz.sizeOf4
 v4:=Tryz.zeroValue4
 t9:=Tryz.underlying9
 a9:=Tryz.isAgg9
 z9:=Tryz.sizeOf9
 v9:=Tryz.zeroValue9
 t20:=Tryz.underlying20
 a20:=Tryz.isAgg20
 z20:=Tryz.sizeOf20
 v20:=Tryz.zeroValue20
 t31:=Tryz.underlying34
 a31:=Tryz.isAgg34
 z31:=Tryz.sizeOf34
 v31:=Tryz.zeroValue34
 t37:=Tryz.underlying78
 a37:=Tryz.isAgg78
 z37:=Tryz.sizeOf78
 v37:=Tryz.zeroValue78
 t70:=Tryz.underlying77
 a70:=Tryz.isAgg77
 z70:=Tryz.sizeOf77
 v70:=Tryz.zeroValue77
 t72:=Tryz.underlying80
 a72:=Tryz.isAgg80
 z72:=Tryz.sizeOf80
 v72:=Tryz.zeroValue80
 t75:=Tryz.underlying153
 a75:=Tryz.isAgg153
 z75:=Tryz.sizeOf153
 v75:=Tryz.zeroValue153
 t76:=Tryz.underlying154
 a76:=Tryz.isAgg154
 z76:=Tryz.sizeOf154
 v76:=Tryz.zeroValue154
 t127:=Tryz.underlying148
 a127:=Tryz.isAgg148
 z127:=Tryz.sizeOf148
 v127:=Tryz.zeroValue148
 t164:=Tryz.underlying205
 a164:=Tryz.isAgg205
 z164:=Tryz.sizeOf205
 v164:=Tryz.zeroValue205 }
theorem Tryz.extraRJ:Builder.Extra Tryz.prog Tryz.laysRJ_ren:={
 sizeBuilder:=by kernel_rfl
 liesBuilder:=by kernel_rfl
 t5:=Tryz.underlying5
 a5:=Tryz.isAgg5
 z5:=Tryz.sizeOf5
 v5:=Tryz.zeroValue5
 infoByte:=by kernel_rfl
 cellsByte:=by kernel_rfl
 sizeByte:=by kernel_rfl
 neB5:=by decide }
end Go.Proofs
namespace Go.Proofs.YthndhaolemgbdaaGreatDoor
open Go.Ax Go.RowKit
def A37(l:List Str)(sep:Str):Option Str:=if l.length<=1000000/\(Lib.join l sep).length<=1000000000 then some (Lib.join l sep) else none
def Arl:FT [.sl .str false,.str] [.str]:=λx=>A37 x.1 x.2
theorem Bdw:FO 105 [.sl .str false,.str] [.str] Arl:=by
 refine⟨Sx.enters_of Tryz.func105 rfl (by kernel_rfl),λx r hx w M vs hM hgl hr =>?_⟩;obtain⟨l,sep⟩:=x;simp only[Arl,A37] at hx;split at hx
 case isFalse=>cases hx
 rename_i hc;obtain⟨h1,h2⟩:=hc;obtain rfl:=Option.some.inj hx;simp only[Cs,Dr,Reps,Rep] at hr;obtain⟨u,us,rfl,⟨hrf,_⟩,u2,us2,rfl,⟨rfl,_⟩,rfl⟩:=hr;have key:Calls Tryz.prog 105 #[u,.string ⟨sep.toArray⟩] w λe w'=>e = .returned (.string ⟨(Lib.join l sep).toArray⟩)/\Below w.heap.size w w':=by
  obtain⟨a,cap,rfl,h⟩:=hrf.here.slice;rcases h with rfl|⟨b,o,rfl,⟨hle,hcm⟩,hat⟩
  ·have c:=Any.strings_Join_none Tryz.laysRJ Tryz.extraRJ a cap ⟨sep.toArray⟩ w;refine Calls.mono (show Calls Tryz.prog 105 _ w _ from c) ?_;rintro e w' ⟨rfl,rfl⟩;exact⟨rfl,Below.refl _ _⟩
  ·by_cases hl:l=[]
   ·subst hl;have c:=Any.strings_Join_none Tryz.laysRJ Tryz.extraRJ (some ⟨b,o,none⟩) cap ⟨sep.toArray⟩ w;refine Calls.mono (show Calls Tryz.prog 105 _ w _ from c) ?_;rintro e w' ⟨rfl,rfl⟩;exact⟨rfl,Below.refl _ _⟩
   ·have hcell:∀(j:Nat) x,l[j]? = some x->w.cell? ⟨b,o+j,none⟩=some (.string ⟨x.toArray⟩):=λj x hj=>by
     obtain⟨u,hu,hf⟩:=hat j x hj 0 _ rfl;have e3:o+j*csz .str+0=o+j:=by simp[csz]
     rw[e3] at hu;cases hf;exact hu
    have hb:b<w.heap.size:=by cases l with|nil=>exact absurd rfl hl|cons x l=>exact Ahi (hcell 0 x rfl)
    have em:(l.map λs=>(⟨s.toArray⟩:ByteArray)).map (·.data.toList)=l:=by rw[List.map_map];simp[Function.comp_def]
    have es:(⟨sep.toArray⟩:ByteArray).data.toList=sep:=by simp
    have c:=Any.strings_Join Tryz.laysRJ Tryz.extraRJ b o cap (l.map λs=>⟨s.toArray⟩) ⟨sep.toArray⟩ w (λj x hj=>by rw[List.getElem?_map] at hj;obtain⟨y,hy,rfl⟩:=Option.map_eq_some_iff.1 hj;exact hcell j y hy) hb (by rw[List.length_map];omega) (by rw[List.length_map];exact hle) (by rw[em,es];omega)
    rw[em,es,List.length_map] at c;exact c
 refine key.mono ?_;rintro en w' ⟨rfl,hbel⟩;refine⟨_,⟨λ_=>0,λ_=>Option.none⟩,rfl,Chg.of_below hbel,λp g o hp=>(by simp[Bl] at hp),λp q g o o2 hp=>(by simp[Bl] at hp),?_⟩;simp only[Me,Cs,Dr,Rep];exact⟨trivial,by simp only[maxLen];omega⟩
end Go.Proofs.YthndhaolemgbdaaGreatDoor
namespace Go.Proofs.YthndhaolemgbdaaGreatDoor
open Go.Ax
def app(out t:Str):Option Str:=if out.length+t.length<=100000000000 then some (out++t) else none
theorem Ih(out a b:Str):((app out a).bind λx=>app x b)=app out (a++b):=by
 simp only[app,Zh1];by_cases h1:out.length+a.length<=100000000000
 ·rw[if_pos h1,Zc1];simp only[Zh1,Zj1,Nat.add_assoc]
 ·rw[if_neg h1,if_neg (by omega)];rfl
theorem Dc{R:Type}(out a b:Str)(c:Str->Option R):((app out a).bind λx=>(app x b).bind c)=(app out (a++b)).bind c:=by rw[<-Ih,Option.bind_assoc]
theorem Iu{o:Option Str}:(o.bind λx=>some x)=o:=by cases o<;>rfl
theorem Agn{out:Str}(h:out.length<=100000000000):app out []=some out:=by simp only[app,Zi1,Nat.add_zero,List.append_nil];rw[if_pos h]
theorem Asn{out t r:Str}(h:app out t=some r):r.length<=100000000000/\r=out++t:=by
 simp only[app] at h;split at h
 ·rename_i h1;obtain rfl:=Option.some.inj h;exact⟨by rw[Zh1];exact h1,rfl⟩
 ·cases h
theorem Bk3{out t r:Str}(h:app out t=some r):out.length+t.length<=100000000000:=by
 simp only[app] at h;split at h
 ·rename_i h1;exact h1
 ·cases h
theorem Bbn{out t:Str}(h:out.length+t.length<=100000000000):app out t=some (out++t):=if_pos h
def Fa{α:Type}(f : α->Str):List α->Str
 |[]=>[]
 |x::l=>[44,32]++f x++Fa f l
def Br{α:Type}(f : α->Str):List α->Str
 |[]=>[]
 |x::l=>f x++Fa f l
theorem K9{V R α:Type}{step:(V->Option R)->V->Option R}(l:List α)(f : α->Str)(st:Nat->Str->V)(c:Str->Option R)
  (hs:∀i (hi:i<l.length) (acc:Str) rec,step rec (st i acc)=(app acc ((if i=0 then [] else [44,32])++f l[i])).bind λx=>rec (st (i+1) x))
  (he:∀acc rec,step rec (st l.length acc)=c acc) (k:Nat) (hk:l.length<k) (out:Str) (ho:out.length<=100000000000):Al step k (st 0 out)=(app out (Br f l)).bind c:=by
 refine(J5 l.length st (λ_ acc=>acc.length<=100000000000) (λi acc=>(app acc (if i=0 then Br f (l.drop i) else Fa f (l.drop i))).bind c) (λi hi acc ha rec hr =>?_) (λacc ha rec =>?_) k 0 out (Nat.zero_le _) (by omega) ho).trans (by rw[if_pos rfl,Zq1])
 ·rw[hs i hi acc rec];have hd:(if i=0 then Br f (l.drop i) else Fa f (l.drop i))=((if i=0 then [] else [44,32])++f l[i])++Fa f (l.drop (i+1)):=by rw[As hi];split<;>simp[Br,Fa]
  rw[hd,<-Dc acc ((if i=0 then [] else [44,32])++f l[i]) (Fa f (l.drop (i+1))) c];cases hx:app acc ((if i=0 then [] else [44,32])++f l[i]) with|none=>rfl|some x =>rw[Zc1,Zc1,hr x (Asn hx).1,if_neg (by omega)]
 ·rw[he];have:(if l.length=0 then Br f (l.drop l.length) else Fa f (l.drop l.length))=[]:=by rw[Zc2];split<;>rfl
  rw[this,Agn ha];rfl
def B9:Sig:=⟨2,[(1,.sl .str false)],[(0,.ptr 0 0)],[(0,.bld 82)],1,1,0,[],[]⟩
def Cc:Sig:=⟨0,[],[],[(0,.bld 82)],1,1,0,[],[]⟩
abbrev Auw:=List Str×List UInt8
abbrev Ah1:=List UInt8
def Af5:Sig:=⟨18,[(6,.sl .str false),(7,.int .i64),(8,.int .i64)],[(0,.ptr 0 0)],[(0,.bld 82)],1,1,0,[],[]⟩
abbrev Ry:=List Str×Int×Int×List UInt8
def Nu{R:Type}(rec:Ry->Option R)(kx:Ex->Ry->Option R)(v:Ry):Option R:=match v with
 |(v,v1,v2,w) =>
 cond (decide (v2<v1)) (
  chk (inb v2 v.length) (
  (To ((at' .str v v2),w)).bind λx =>rec (v,v1,(wr .i64 (v2+1)),x))) (
  kx (.exit 0) (v,v1,v2,w))
def Ap2(R:Type)(k:Nat):Px R:=pxO [(104,Aj Aco Ac0 To)] [] [(1,Aq k Af5 (Nu))] []
def Au2(k:Nat)(x:Auw):Option (Ah1):=match x with
 |(l,out) =>
 Al (λrec=>Nu rec (λe vz=>match vz with|(_,_,_,v6)=>match e with
  |.exit 0 =>
  some v6
  |_=>none)) k (l,(l.length:Int),0,out)
theorem Ay4(k:Nat):FM 49 B9 Cc (Au2 k):=fRL (px:=Ap2 _ k) (n:=1) Tryz.func49 rfl (λcx H=>by have h0:Lv cx (Ap2 (Ah1) k):=lv H (l1 H Ba4 Af) Ab Aa;have hlwwords_0:=lO H h0 (b:=lp Tryz.f49 0) (k:=k) (n:=0) (s:=Af5) (step:=Nu) (λ_ _ _ (_,_,_,_)=>by kernel_rfl) Ak;exact⟨h0,(Bq Ak hlwwords_0)⟩) λ(_,_)=>by kernel_rfl
def Bo6(l:List Str)(out:Str):Option Str:=app out l.flatten
def An:Auw->Option Ah1:=λx=>Bo6 x.1 x.2
theorem Axc{R:Type}{kx:Ex->Ry->Option R}{l:List Str}{c:Str->Option R}(hn:ln l.length)(h2:∀i out,kx (.exit 0) (l,(l.length:Int),i,out)=c out)(k:Nat)(hk:l.length<k)(out:Str)(ho:out.length+l.flatten.length<=100000000000) :
  Al (λrec=>Nu rec kx) k (l,(l.length:Int),0,out)=c (out++l.flatten):=by
 refine(J5 l.length (λi out=>(l,(l.length:Int),(i:Int),out)) (λi out=>List.length out+((l.drop i).flatten).length<=100000000000) (λi out=>c (out++(l.drop i).flatten)) (λi hi out ha rec hr =>?_) (λout _ rec =>?_) k 0 out (Nat.zero_le _) (by omega) (by rw[Zq1];exact ho)).trans (by rw[Zq1])
 ·rw[As hi] at ha ⊢;simp only[Zz1,Zh1] at ha;have hw:Aru l[i] out=some (out++l[i]):=by simp only[Aru];rw[if_pos (by simp only[Am];omega)]
  have hr:=hr (out++l[i]) (by rw[Zh1];omega);simp only[Nu,He hi,Ae,A7 hi,chk,Bb (c :=.str) hi,To,hw,Zc1,A0 hi hn,hr,Zz1,Zj1]
 ·simp only[Nu,G7,Ah,h2];rw[Zk1 (Zn1 _)];simp
theorem C1:FM 49 B9 Cc An :=.fin 0 Ay4 λ(l,out) r hb hx=>⟨l.length+1,by have hx:app out l.flatten=some r:=hx;have hlen:=Bk3 hx;rw[(Asn hx).2];exact Axc (l:=l) (c:=some) hb.1.1 (λ_ _=>rfl) (l.length+1) (by omega) out hlen⟩
theorem ww(l:List Str)(out:Str):An (l,out)=app out l.flatten:=rfl
def sgn(k:Int):Str:=Q7 signsL k
mutual
def etx:Xpr->Str
 |.mk k v n l=>if k=1 then Bo v else if k=2 then n else etxs k l
def etxs:Int->List Xpr->Str
 |_,[]=>[]
 |k,x::l=>if k=3 then [40]++[78,79,84,32]++etx x++[41] else if k=15 then [40]++[45]++etx x++[41] else if k=16 then [40]++etx x++[32,73,83,32,78,85,76,76]++[41] else [40]++etx x++([32]++(sgn k++[32]))++etx1 l++[41]
def etx1:List Xpr->Str
 |[]=>[]
 |y::_=>etx y
end
mutual
def okx:Xpr->Bool
 |.mk k _ _ l=>if k=1\/k=2 then true else okxs k l
def okxs:Int->List Xpr->Bool
 |_,[]=>false
 |k,x::l=>okx x&&(if k=3\/k=15\/k=16 then true else okx1 l)
def okx1:List Xpr->Bool
 |[]=>false
 |y::_=>okx y
end
theorem Ayj(e:Xpr):etx e=if e.kind=1 then Bo e.v else if e.kind=2 then e.name else etxs e.kind e.l:=by cases e;simp only[etx];rfl
theorem Bbj(e:Xpr):okx e=if e.kind=1\/e.kind=2 then true else okxs e.kind e.l:=by cases e;simp only[okx];rfl
def Gk:Sig:=⟨2,[(1,.sv .expr)],[(0,.ptr 0 0)],[(0,.bld 82)],1,1,0,[],[]⟩
def Gm:Sig:=⟨0,[],[],[(0,.bld 82)],1,1,0,[],[]⟩
abbrev Mn:=Xpr×List UInt8
abbrev Ms:=List UInt8
def Bep(R:Type)(rf:Mn->Option Ms):Px R:=pxO [(98,cA Aam),(49,Aj B9 Cc An),(40,Aj Gk Gm rf)] [] [] []
def Li(rf:Mn->Option Ms)(x:Mn):Option (Ms):=match x with
 |(e,out) =>
 cond (decide (e.kind=1)) (
  (An ([(Bo e.v)],out)).bind λx =>
  some x) (
  cond (decide (e.kind=2)) (
  (An ([e.name],out)).bind λx1 =>some x1) (
  (An ([[40]],out)).bind λx2 =>
   cond (decide (e.kind=3)) (
   (An ([[78,79,84,32]],x2)).bind λx3 =>
    chk (inb 0 e.l.length) (
    (rf ((at' .expr e.l 0),x3)).bind λx4 =>
     (An ([[41]],x4)).bind λa =>
     some a)) (
   cond (decide (e.kind=15)) (
    (An ([[45]],x2)).bind λx5 =>
    chk (inb 0 e.l.length) (
     (rf ((at' .expr e.l 0),x5)).bind λx6 =>
     (An ([[41]],x6)).bind λb =>some b)) (
    cond (decide (e.kind=16)) (
    chk (inb 0 e.l.length) (
     (rf ((at' .expr e.l 0),x2)).bind λx7 =>
     (An ([[32,73,83,32,78,85,76,76]],x7)).bind λx8 =>
      (An ([[41]],x8)).bind λc =>
      some c)) (
    chk (inb 0 e.l.length) (
     (rf ((at' .expr e.l 0),x2)).bind λx9 =>
     (An ([[32],(Q7 signsL e.kind),[32]],x9)).bind λd =>
      chk (inb 1 e.l.length) (
      (rf ((at' .expr e.l 1),d)).bind λf =>
       (An ([[41]],f)).bind λg =>
       some g)))))))
theorem A75(rf:Mn->Option Ms)(hrf:FM 40 Gk Gm rf):FM 40 Gk Gm (Li rf):=fRL (px:=Bep _ rf) (n:=0) Tryz.func40 rfl (λ_ H=>⟨lv H (c1 H Aoa (l1 H C1 (l1 H hrf Af))) Ab Aa,Ak⟩) λ(_,_)=>by kernel_rfl
def Brb(e:Xpr)(out:Str):Option Str:=cond (okx e) (app out (etx e)) none
def Fu:Mn->Option Ms:=λx=>Brb x.1 x.2
theorem Am0:∀(n:Nat) (e:Xpr) (out:Str),BdExpr e->Bf e<=n->okx e=true->Al (V:=Mn) (R:=Ms) Li n (e,out)=app out (etx e)
 |0,e,_,_,h,_=>by have:=F4 e;omega
 |n+1,e,out,hb,h,hok=>by
  obtain⟨hb4,hb5⟩:=Am9 hb;rw[Iy] at h;have hrf:∀x,x∈e.l->okx x=true->∀out:Str,Al (V:=Mn) (R:=Ms) Li n (x,out)=app out (etx x):=λx hx ho out=>Am0 n x out (hb5 x hx) (by have:=Fl hx;omega) ho;rw[A3,Ayj];rw[Bbj] at hok;simp only[Li,ww];by_cases h1:e.kind=1
  ·rw[Ze1 h1,if_pos h1,Ae,Iu];simp
  by_cases h2:e.kind=2
  ·rw[Zd1 h1,Ze1 h2,if_neg h1,if_pos h2,Ah,Ae,Iu];simp
  rw[Zd1 h1,Zd1 h2,if_neg h1,if_neg h2,Ah,Ah];rw[if_neg (by omega)] at hok;cases hl:e.l with
  |nil=>rw[hl] at hok;cases hok
  |cons x l =>
   rw[hl] at hok hrf;simp only[okxs,Zb1] at hok;have hx:=hrf x Zr1 hok.1;have e0:at' .expr (x::l) 0=x:=rfl;have i0:inb 0 (x::l).length=true:=A7 (i:=0) (by simp);simp only[e0,i0,hx,chk,Ae,etxs];by_cases h3:e.kind=3
   ·rw[Ze1 h3,if_pos h3];simp only[Ae,Dc,Iu,Ih,Zz1,List.flatten_nil,List.append_nil,Zj1]
   by_cases h15:e.kind=15
   ·rw[Zd1 h3,Ze1 h15,if_neg h3,if_pos h15];simp only[Ae,Ah,Dc,Iu,Ih,Zz1,List.flatten_nil,List.append_nil,Zj1]
   by_cases h16:e.kind=16
   ·rw[Zd1 h3,Zd1 h15,Ze1 h16,if_neg h3,if_neg h15,if_pos h16];simp only[Ae,Ah,Dc,Iu,Ih,Zz1,List.flatten_nil,List.append_nil,Zj1]
   rw[Zd1 h3,Zd1 h15,Zd1 h16,if_neg h3,if_neg h15,if_neg h16];rw[if_neg (by omega)] at hok;cases l with|nil=>exact absurd hok.2 (by simp[okx1])|cons y l =>have hy:=hrf y (by simp) hok.2;have e1:at' .expr (x::y::l) 1=y:=rfl;have i1:inb 1 (x::y::l).length=true:=A7 (i:=1) (by simp);simp only[e1,i1,hy,Ae,Ah,etx1];simp only[Iu,Ih,Zz1,List.flatten_nil,List.append_nil,Zj1,sgn]
theorem Oe:FM 40 Gk Gm Fu:=by refine .fin (ι:=Nat) (sg:=Gk) (so:=Gm) 0 (F:=λn=>Al (V:=Mn) (R:=Ms) Li n) (λn=>FnLn.rec' (Sx.enters_of Tryz.func40 rfl rfl) (λrf hrf=>A75 rf hrf) n) λ(e,out) r hb hx=>⟨Bf e,?_⟩;have hx:cond (okx e) (app out (etx e)) none=some r:=hx;cases hok:okx e with|false=>rw[hok] at hx;cases hx|true =>rw[hok] at hx;exact(Am0 (Bf e) e out hb.1 (Zn1 _) hok).trans hx
theorem we{e:Xpr}(h:okx e=true)(out:Str):Fu (e,out)=app out (etx e):=by show cond (okx e) _ _=_;rw[h];rfl
theorem Dd{R:Type}{out t:Str}{f g:Str->Option R}(h:∀x:Str,x.length<=100000000000->f x=g x):(app out t).bind f=(app out t).bind g:=by cases hx:app out t with|none=>rfl|some x=>exact h x (Asn hx).1
theorem O2{R:Type}(i:Nat)(acc t:Str)(c:Str->Option R):cond (decide ((0:Int)<(i:Int))) ((app acc [44,32]).bind λx=>(app x t).bind c) ((app acc t).bind c)=(app acc ((if i=0 then [] else [44,32])++t)).bind c:=by
 by_cases h:i=0
 ·rw[Zd1 (by omega),if_pos h];rfl
 ·rw[Ze1 (by omega),if_neg h,Ae,Dc]
theorem fl1(a:Str):([a]:List Str).flatten=a:=by simp
theorem fl2(a b:Str):([a,b]:List Str).flatten=a++b:=by simp
theorem fl3(a b c:Str):([a,b,c]:List Str).flatten=a++(b++c):=by simp
theorem fl5(a b c d e:Str):([a,b,c,d,e]:List Str).flatten=a++(b++(c++(d++e))):=by simp
theorem Bfu{V R α:Type}{step:(V->Option R)->V->Option R}(l:List α)(f : α->Str)(st:Nat->Str->V)(c:Str->Option R)
  (hs:∀i (hi:i<l.length) (acc:Str) rec,step rec (st i acc)=(app acc (f l[i])).bind λx=>rec (st (i+1) x))
  (he:∀acc rec,step rec (st l.length acc)=c acc) (k:Nat) (hk:l.length<k) (out:Str) (ho:out.length<=100000000000):Al step k (st 0 out)=(app out (l.map f).flatten).bind c:=by
 refine(J5 l.length st (λ_ acc=>acc.length<=100000000000) (λi acc=>(app acc ((l.drop i).map f).flatten).bind c) (λi hi acc ha rec hr =>?_) (λacc ha rec =>?_) k 0 out (Nat.zero_le _) (by omega) ho).trans (by rw[Zq1])
 ·rw[hs i hi acc rec,As hi,Zw1,Zz1,<-Dc];exact Dd λx hx=>hr x hx
 ·rw[he,Zc2,List.map_nil,List.flatten_nil,Agn ha];rfl
theorem Bo8{out r:Str}(h:app out []=some r):some out=some r:=by have:=(Asn h).2;rw[List.append_nil] at this;rw[this]
def Bbr(R:Type):Px R:=pxO [(39,cA Pd),(40,Aj Gk Gm Fu),(41,Aj bstr_si Agp Iw)] [] [] []
def Ahk(x:HV [.sv .expr]):Option (HV [.str,.int .i64]):=match x with
 |e =>
 cond (!(Bc e 30)) (
  some ([],2)) (
  (Fu (e,[])).bind λx =>
  (Iw x).bind λx1 =>some (x1,0))
theorem A7b:FO 14 [.sv .expr] [.str,.int .i64] (Ahk):=fR (px:=Bbr _) (n:=0) Tryz.func14 rfl (λ_ H=>⟨lv H (c1 H N1 (l1 H Oe (l1 H A5c Af))) Ab Aa,Ak⟩) λ_=>by kernel_rfl
def Av0(e:Xpr):Option (Str×Int):=cond (Bc e 30) (cond (okx e) ((app [] (etx e)).bind λt=>some (t,0)) none) (some ([],2))
def A31:FT [.sv .expr] [.str,.int .i64]:=λx=>Av0 x
theorem Bhk:FO 14 [.sv .expr] [.str,.int .i64] A31 :=.fin0 A7b λe r hb hx=>by
 have hx:Av0 e=some r:=hx;rw[<-hx];simp only[Ahk,Av0];simp only[Av0] at hx;cases hr:Bc e 30 with
 |false=>rfl
 |true =>rw[hr] at hx;cases ho:okx e with|false=>rw[ho] at hx;cases hx|true =>simp only[we ho,Zt1,Ah,Ae];rfl
theorem Si:∀(l:List Xpr) (m:Int),erights l m=l.all λx=>Bc x m
 |[],_=>rfl
 |x::l,m=>by simp only[erights,Zv1,Si l m]
theorem Am2:∀(n:Nat) (e:Xpr) (m:Int),Bf e<=n->Bc e m=true->okx e=true
 |0,e,_,h,_=>by have:=F4 e;omega
 |n+1,e,m,h,hr=>by
  obtain⟨hp,_,hs⟩:=Gs hr;rw[Iy] at h;rw[Si] at hs;have ih:∀x,x∈e.l->okx x=true:=λx hx=>Am2 n x _ (by have:=Fl hx;omega) (Zg2.1 hs x hx);rw[Bbj];rcases Yy e.kind with ⟨h0,hk⟩|⟨h0,hk⟩|⟨h0,hk⟩|h0
  ·rw[if_pos hk]
  ·rw[if_neg (by omega)];rw[h0] at hp;match hl:e.l,hp with|[x],_=>rw[okxs,if_pos hk,ih x (by rw[hl];simp)];rfl
  ·rw[if_neg (by omega)];rw[h0] at hp;match hl:e.l,hp with|[x,y],_ =>rw[okxs,ih x (by rw[hl];simp),okx1,ih y (by rw[hl];simp)];split<;>rfl
  ·rw[h0] at hp;omega
theorem Ah8{e:Xpr}{m:Int}(h:Bc e m=true):okx e=true:=Am2 _ e m (Zn1 _) h
def Ah4(l:List Str):Bool:=decide (l.length<=1000000)&&decide ((Lib.join l [44,32]).length<=1000000000)
def nmT(l:List Str):Str:=[40]++(Lib.join l [44,32]++[41])
def U1:Sig:=⟨2,[(1,.sl .str false)],[(0,.ptr 0 0)],[(0,.bld 82)],1,1,0,[],[]⟩
def Uz:Sig:=⟨0,[],[],[(0,.bld 82)],1,1,0,[],[]⟩
abbrev Au0:=List Str×List UInt8
abbrev Awt:=List UInt8
def A65(R:Type):Px R:=pxO [(105,cA Arl),(49,Aj B9 Cc An)] [] [] []
def Te(x:Au0):Option (Awt):=match x with
 |(l,out) =>
 (A37 l [44,32]).bind λx =>
  (An ([[40],x,[41]],out)).bind λx1 =>
  some x1
theorem A2m:FM 50 U1 Uz (Te):=fRL (px:=A65 _) (n:=0) Tryz.func50 rfl (λ_ H=>⟨lv H (c1 H Bdw (l1 H C1 Af)) Ab Aa,Ak⟩) λ(_,_)=>by kernel_rfl
def Bnb(l:List Str)(out:Str):Option Str:=cond (Ah4 l) (app out (nmT l)) none
def Oa:Au0->Option Awt:=λx=>Bnb x.1 x.2
theorem Bh4(l:List Str)(out:Str)(h:Ah4 l=true):Te (l,out)=app out (nmT l):=by simp only[Ah4,Zb1,Zg1] at h;have hj:A37 l [44,32]=some (Lib.join l [44,32]):=if_pos h;simp only[Te,hj,ww,Zc1,Iu,fl3];rfl
theorem Aob:FM 50 U1 Uz Oa :=.fin0 A2m λ(l,out) r hb hx=>by have hx:cond (Ah4 l) (app out (nmT l)) none=some r:=hx;cases ho:Ah4 l with|false=>rw[ho] at hx;cases hx|true =>rw[ho] at hx;exact(Bh4 l out ho).trans hx
theorem wn{l:List Str}(h:Ah4 l=true)(out:Str):Oa (l,out)=app out (nmT l):=by show cond (Ah4 l) _ _=_;rw[h];rfl
def T6(c:Col):Str:=c.name++([32]++at' .str kindsL c.kind)++cond c.notNull [32,78,79,84,32,78,85,76,76] []++cond c.unique [32,85,78,73,81,85,69] []++cond (decide (c.ref=[])) [] ([32,82,69,70,69,82,69,78,67,69,83,32]++c.ref)
def Atj:Sig:=⟨2,[(1,.sv .col)],[(0,.ptr 0 0)],[(0,.bld 82)],1,1,0,[],[]⟩
def As3:Sig:=⟨0,[],[],[(0,.bld 82)],1,1,0,[],[]⟩
abbrev Bh6:=Col×List UInt8
abbrev Bgo:=List UInt8
def Bjw(R:Type):Px R:=pxO [(49,Aj B9 Cc An)] [] [] []
def Ad1(x:Bh6):Option (Bgo):=match x with
 |(c,out) =>
 chk (inb c.kind 6) (
  (An ([c.name,[32],(at' .str kindsL c.kind)],out)).bind λx =>
  let j1:=λ(q:List UInt8) =>
   let j:=λ(q1:List UInt8) =>
   cond (!decide (c.ref=[])) (
    (An ([[32,82,69,70,69,82,69,78,67,69,83,32],c.ref],q1)).bind λx3 =>
    some x3) (
    some q1)
   cond (c.unique) (
   (An ([[32,85,78,73,81,85,69]],q)).bind λx2 =>j x2) (
   j q)
  cond (c.notNull) (
   (An ([[32,78,79,84,32,78,85,76,76]],x)).bind λx1 =>
   j1 x1) (
   j1 x))
theorem Bfg:FM 103 Atj As3 (Ad1):=fRL (px:=Bjw _) (n:=0) Tryz.func103 rfl (λ_ H=>⟨lv H (l1 H C1 Af) Ab Aa,Ak⟩) λ(_,_)=>by kernel_rfl
def Brj(c:Col)(out:Str):Option Str:=cond (inb c.kind 6) (app out (T6 c)) none
def Aq7:Bh6->Option Bgo:=λx=>Brj x.1 x.2
theorem Bor(c:Col)(out:Str)(h:inb c.kind 6=true):Ad1 (c,out)=app out (T6 c):=by simp only[Ad1,h,chk,Ae,ww,fl1,fl2,fl3,T6];cases c.notNull<;>cases c.unique<;>cases decide (c.ref=[])<;>simp only[Ae,Ah,Zt1,Zs1,Iu,Ih,List.append_nil,Zj1]
theorem Bia:FM 103 Atj As3 Aq7 :=.fin0 Bfg λ(c,out) r hb hx=>by have hx:cond (inb c.kind 6) (app out (T6 c)) none=some r:=hx;cases ho:inb c.kind 6 with|false=>rw[ho] at hx;cases hx|true =>rw[ho] at hx;exact(Bor c out ho).trans hx
theorem wc{c:Col}(h:inb c.kind 6=true)(out:Str):Aq7 (c,out)=app out (T6 c):=by show cond (inb c.kind 6) _ _=_;rw[h];rfl
def whT(s:Stm):Str:=cond s.has ([32,87,72,69,82,69,32]++etx s.whr) []
def okW(s:Stm):Bool := !s.has||okx s.whr
def Vy:Sig:=⟨2,[(1,.sv .stmt)],[(0,.ptr 0 0)],[(0,.bld 82)],1,1,0,[],[]⟩
def Vv:Sig:=⟨0,[],[],[(0,.bld 82)],1,1,0,[],[]⟩
abbrev Avf:=Stm×List UInt8
abbrev Awo:=List UInt8
def Ba5(R:Type):Px R:=pxO [(49,Aj B9 Cc An),(40,Aj Gk Gm Fu)] [] [] []
def Un(x:Avf):Option (Awo):=match x with
 |(s,out) =>
 cond (s.has) (
  (An ([[32,87,72,69,82,69,32]],out)).bind λx =>
  (Fu ((Mf s.whr),x)).bind λx1 =>some x1) (
  some out)
theorem A2o:FM 55 Vy Vv (Un):=fRL (px:=Ba5 _) (n:=0) Tryz.func55 rfl (λ_ H=>⟨lv H (l1 H C1 (l1 H Oe Af)) Ab Aa,Ak⟩) λ(_,_)=>by kernel_rfl
def Bms(s:Stm)(out:Str):Option Str:=cond (okW s) (app out (whT s)) none
def Ii:Avf->Option Awo:=λx=>Bms x.1 x.2
theorem Bdf(s:Stm)(out r:Str)(h:okW s=true)(hr:app out (whT s)=some r):Un (s,out)=some r:=by simp only[okW] at h;simp only[whT] at hr;simp only[Un,Jo,ww,fl1];cases hs:s.has with|false =>rw[hs] at hr;exact Bo8 hr|true =>rw[hs] at h hr;simp only[we (show okx s.whr=true from h),Ae,Iu,Ih];exact hr
theorem Aqi:FM 55 Vy Vv Ii :=.fin0 A2o λ(s,out) r hb hx=>by have hx:cond (okW s) (app out (whT s)) none=some r:=hx;cases ho:okW s with|false=>rw[ho] at hx;cases hx|true =>rw[ho] at hx;exact Bdf s out r ho hx
theorem wh{s:Stm}(h:okW s=true)(out:Str):Ii (s,out)=app out (whT s):=by show cond (okW s) _ _=_;rw[h];rfl
def Ai2(e:Xpr):Str:=[44,32,67,72,69,67,75,32]++cond (decide (Ib e.kind=0)) ([40]++(etx e++[41])) (etx e)
def Nr(s:Stm):Str:=[67,82,69,65,84,69,32,84,65,66,76,69,32]++(s.name++[32,40])++Br T6 s.cols++[44,32,80,82,73,77,65,82,89,32,75,69,89,32]++nmT s.names++(s.l.map Ai2).flatten++[41]
def okT(s:Stm):Bool:=s.cols.all (λc=>inb c.kind 6)&&Ah4 s.names&&s.l.all okx
def Mj(s:Stm):Nat:=s.cols.length+s.l.length+s.order.length+s.rows.length+s.sets.length+(s.rows.map List.length).sum+1
def Adg:Sig:=⟨2,[(1,.sv .stmt)],[(0,.ptr 0 0)],[(0,.bld 82)],1,1,0,[],[]⟩
def Ac1:Sig:=⟨0,[],[],[(0,.bld 82)],1,1,0,[],[]⟩
abbrev Ats:=Stm×List UInt8
abbrev Sf:=List UInt8
def Aej:Sig:=⟨54,[(25,.sl .expr false),(26,.int .i64),(27,.int .i64)],[(2,.ptr 1 0)],[(0,.bld 82),(1,.fx [.ptr 0 0])],2,1,0,[],[]⟩
abbrev Xn:=List Xpr×Int×Int×List UInt8
def T7{R:Type}(rec:Xn->Option R)(kx:Ex->Xn->Option R)(v:Xn):Option R:=match v with
 |(v6,v7,v8,w2) =>
 cond (decide (v8<v7)) (
  chk (inb v8 v6.length) (
  (An ([[44,32,67,72,69,67,75,32]],w2)).bind λx5 =>
   cond (decide ((Ib ((at' .expr v6 v8).kind))=0)) (
   (An ([[40]],x5)).bind λx6 =>
    (Fu ((at' .expr v6 v8),x6)).bind λx7 =>
    (An ([[41]],x7)).bind λx8 =>rec (v6,v7,(wr .i64 (v8+1)),x8)) (
   (Fu ((at' .expr v6 v8),x5)).bind λx9 =>rec (v6,v7,(wr .i64 (v8+1)),x9)))) (
  kx (.exit 0) (v6,v7,v8,w2))
def Af2:Sig:=⟨20,[(7,.int .i64),(8,.int .i64)],[(0,.ptr 0 0),(2,.fn 102 [.ptr 1 0,.ptr 2 0])],[(0,.bld 82),(1,.fx [.ptr 0 0]),(2,.one (.sv .stmt))],80,80,400,[],[]⟩
abbrev Xr:=Int×Int×List UInt8×Stm
def S3{R:Type}(rec:Xr->Option R)(kx:Ex->Xr->Option R)(v:Xr):Option R:=match v with
 |(v,v1,w,w1) =>
 cond (decide (v1<v)) (
  let j:=λ(q:List UInt8) =>
  chk (inb v1 w1.cols.length) (
   (Aq7 ((at' .col w1.cols v1),q)).bind λx2 =>
   rec (v,(wr .i64 (v1+1)),x2,w1))
  cond (decide (0<v1)) (
  (An ([[44,32]],w)).bind λx1 =>j x1) (
  j w)) (
  kx (.exit 0) (v,v1,w,w1))
def Xf(R:Type)(_k:Nat):Px R:=pxO [(103,Aj Atj As3 Aq7)] [] [] []
noncomputable def Afr(R:Type)(k:Nat):Px R:=pxO [(49,Aj B9 Cc An),(102,Az 120 600 (Xf R k) Tryz.f102)] [] [(1,Aq k Af2 (S3))] []
noncomputable def Aqa(R:Type)(k:Nat):Px R:=pxO [(49,Aj B9 Cc An),(50,Aj U1 Uz Oa),(94,cA Arr),(40,Aj Gk Gm Fu),(51,Az 80 400 (Afr R k) Tryz.f51)] [] [(6,Aq k Aej (T7))] []
def Sz(k:Nat)(x:Ats):Option (Sf):=match x with
 |(s,out) =>
 (An ([[67,82,69,65,84,69,32,84,65,66,76,69,32],s.name,[32,40]],out)).bind λx =>
  Al (λrec=>S3 rec (λe vz=>match vz with|(_,_,v4,v5)=>match e with
  |.exit 0 =>
   (An ([[44,32,80,82,73,77,65,82,89,32,75,69,89,32]],v4)).bind λx3 =>
   (Oa (v5.names,x3)).bind λx4 =>
    Al (λrec=>T7 rec (λe vz=>match vz with|(_,_,_,a)=>match e with
    |.exit 0 =>
     (An ([[41]],a)).bind λb =>
     some b
    |_=>none)) k (v5.l,(v5.l.length:Int),0,x4)
  |_=>none)) k ((s.cols.length:Int),0,x,s)
theorem A1q(k:Nat):FM 48 Adg Ac1 (Sz k):=fRL (px:=Aqa _ k) (n:=1) Tryz.func48 rfl (λcx H=>by have h2:Lv cx (Xf (Sf) k):=lv H (l1 H Bia Af) Ab Aa;have h1:Lv cx (Afr (Sf) k):=lv H (l1 H C1 (Au (cR H h2 Tryz.func102 rfl (n:=0) (Ak)) Af)) Ab Aa;have hlwtable_0:=lO H h1 (b:=lp Tryz.f51 0) (k:=k) (n:=0) (s:=Af2) (step:=S3) (λ_ _ _ (_,_,_,_)=>by kernel_rfl) Ak;have h0:Lv cx (Aqa (Sf) k):=lv H (l1 H C1 (l1 H Aob (c1 H Avy (l1 H Oe (Au (cR H h1 Tryz.func51 rfl (n:=1) ((Bq Ak hlwtable_0))) Af))))) Ab Aa;have hlwtable_1:=lO H h0 (b:=lp Tryz.f48 0) (k:=k) (n:=0) (s:=Aej) (step:=T7) (λ_ _ _ (_,_,_,_)=>by kernel_rfl) Ak;exact⟨h0,(Bq Ak hlwtable_1)⟩) λ(_,_)=>by kernel_rfl
def Bna(s:Stm)(out:Str):Option Str:=cond (okT s) (app out (Nr s)) none
def Abm:Ats->Option Sf:=λx=>Bna x.1 x.2
theorem Bd1(k:Nat)(s:Stm)(out:Str)(hb:BdStm s)(h:okT s=true)(hk:Mj s<=k):Sz k (s,out)=app out (Nr s):=by
 simp only[okT,Zb1] at h;obtain⟨⟨h1,h2⟩,h3⟩:=h;simp only[Mj] at hk;have hc:=Zg2.1 h1;have hl:=Zg2.1 h3;simp only[Sz,ww,fl1,fl3];refine(Dd λx hx=>(K9 s.cols T6 (λi acc=>((s.cols.length:Int),(i:Int),acc,s)) (λacc=>(app acc ([44,32,80,82,73,77,65,82,89,32,75,69,89,32]++nmT s.names)).bind λx=>(app x (s.l.map Ai2).flatten).bind λx=>app x [41]) (λi hi acc rec =>?_) (λacc rec =>?_) k (by omega) x hx)).trans ?_
 ·simp only[S3,He hi,Ae,A7 hi,chk,Bb (c :=.col) hi,wc (hc _ (List.getElem_mem hi)),A0 hi hb.cols.1,ww,fl1];exact O2 i acc (T6 s.cols[i]) _
 ·simp only[S3,G7,Ah,ww,fl1,wn h2];rw[Dc];refine Dd λx hx=>Bfu s.l Ai2 (λi acc=>(s.l,(s.l.length:Int),(i:Int),acc)) (λacc=>app acc [41]) (λi hi acc rec =>?_) (λacc rec =>?_) k (by omega) x hx
  ·simp only[T7,He hi,Ae,A7 hi,chk,Bb (c :=.expr) hi,we (hl _ (List.getElem_mem hi)),A0 hi hb.l.1,ww,fl1,Ai2];cases decide (Ib s.l[i].kind=0) with|true=>simp only[Ae,Dc]|false=>simp only[Ah,Dc]
  ·simp only[T7,G7,Ah,ww,fl1,Iu]
 ·simp only[Ih,Nr,Zj1]
theorem A9o:FM 48 Adg Ac1 Abm :=.fin 0 A1q λ(s,out) r hb hx=>⟨Mj s,by
 have hx:cond (okT s) (app out (Nr s)) none=some r:=hx;cases ho:okT s with
 |false=>rw[ho] at hx;cases hx
 |true =>rw[ho] at hx;exact(Bd1 (Mj s) s out hb.1 ho (Zn1 _)).trans hx⟩
theorem wt{s:Stm}(h:okT s=true)(out:Str):Abm (s,out)=app out (Nr s):=by show cond (okT s) _ _=_;rw[h];rfl
def Ul(p:Str×Bool):Str:=p.1++cond p.2 [32,68,69,83,67] []
def Adj(s:Stm):Str:=cond (decide (0<=s.most)) ([32,76,73,77,73,84,32]++Bo ⟨3,s.most,[]⟩) []
def obT(s:Stm):Str:=cond (decide (0<(s.order.length:Int))) [32,79,82,68,69,82,32,66,89,32] []
def Arb(s:Stm):Str:=[83,69,76,69,67,84,32]++cond (decide ((s.l.length:Int)=0)) [42] []++Br etx s.l++([32,70,82,79,77,32]++s.name)++whT s++obT s++Br Ul (s.order.zip s.desc)++Adj s
def okS(s:Stm):Bool:=s.l.all okx&&okW s&&decide (s.desc.length=s.order.length)
def Ym:Sig:=⟨2,[(1,.sv .stmt)],[(0,.ptr 0 0)],[(0,.bld 82)],1,1,0,[],[]⟩
def X0:Sig:=⟨0,[],[],[(0,.bld 82)],1,1,0,[],[]⟩
abbrev Aqe:=Stm×List UInt8
abbrev Gq:=List UInt8
def Zo:Sig:=⟨20,[(7,.int .i64),(8,.int .i64)],[(0,.ptr 0 0),(2,.fn 107 [.ptr 1 0,.ptr 2 0])],[(0,.bld 82),(1,.fx [.ptr 0 0]),(2,.one (.sv .stmt))],80,80,600,[],[]⟩
abbrev M0:=Int×Int×List UInt8×Stm
def H5{R:Type}(rec:M0->Option R)(kx:Ex->M0->Option R)(v:M0):Option R:=match v with
 |(v6,v7,w2,w3) =>
 cond (decide (v7<v6)) (
  let j1:=λ(q3:List UInt8) =>
  chk (inb v7 w3.order.length) (
   (An ([(at' .str w3.order v7)],q3)).bind λx8 =>
   chk (inb v7 w3.desc.length) (
    cond ((at' .bool w3.desc v7)) (
    (An ([[32,68,69,83,67]],x8)).bind λx9 =>rec (v6,(wr .i64 (v7+1)),x9,w3)) (
    rec (v6,(wr .i64 (v7+1)),x8,w3))))
  cond (decide (0<v7)) (
  (An ([[44,32]],w2)).bind λx7 =>j1 x7) (
  j1 w2)) (
  kx (.exit 0) (v6,v7,w2,w3))
def Aal:Sig:=⟨20,[(7,.int .i64),(8,.int .i64)],[(0,.ptr 0 0),(2,.fn 106 [.ptr 1 0,.ptr 2 0])],[(0,.bld 82),(1,.fx [.ptr 0 0]),(2,.one (.sv .stmt))],80,80,400,[],[]⟩
abbrev M8:=Int×Int×List UInt8×Stm
def Ku{R:Type}(rec:M8->Option R)(kx:Ex->M8->Option R)(v:M8):Option R:=match v with
 |(v,v1,w,w1) =>
 cond (decide (v1<v)) (
  let j:=λ(q1:List UInt8) =>
  chk (inb v1 w1.l.length) (
   (Fu ((at' .expr w1.l v1),q1)).bind λx3 =>
   rec (v,(wr .i64 (v1+1)),x3,w1))
  cond (decide (0<v1)) (
  (An ([[44,32]],w)).bind λx2 =>j x2) (
  j w)) (
  kx (.exit 0) (v,v1,w,w1))
def T4(R:Type)(_k:Nat):Px R:=pxO [(40,Aj Gk Gm Fu)] [] [] []
noncomputable def Zb(R:Type)(k:Nat):Px R:=pxO [(49,Aj B9 Cc An),(106,Az 120 600 (T4 R k) Tryz.f106)] [] [(1,Aq k Aal (Ku))] []
def Sl(R:Type)(_k:Nat):Px R:=pxO [(49,Aj B9 Cc An)] [] [] []
noncomputable def Z8(R:Type)(k:Nat):Px R:=pxO [(49,Aj B9 Cc An),(107,Az 120 800 (Sl R k) Tryz.f107)] [] [(1,Aq k Zo (H5))] []
noncomputable def Ahq(R:Type)(k:Nat):Px R:=pxO [(49,Aj B9 Cc An),(55,Aj Vy Vv Ii),(51,Adv 80 400 (Zb R k) Tryz.f51 (Az 80 600 (Z8 R k) Tryz.f51))] [(98,qA Aam)] [] []
def Q8(k:Nat)(x:Aqe):Option (Gq):=match x with
 |(s,out) =>
 (An ([[83,69,76,69,67,84,32]],out)).bind λx =>
  let j3:=λ(q:List UInt8) =>
  Al (λrec=>Ku rec (λe vz=>match vz with|(_,_,v4,v5)=>match e with
   |.exit 0 =>
   (An ([[32,70,82,79,77,32],v5.name],v4)).bind λx4 =>
    (Ii (v5,x4)).bind λx5 =>
    let j2:=λ(q2:List UInt8) =>
     Al (λrec=>H5 rec (λe vz=>match vz with|(_,_,a,b)=>match e with
     |.exit 0 =>
      cond (decide (0<=b.most)) (
      (An ([[32,76,73,77,73,84,32],(Bo (Val.mk 3 b.most []))],a)).bind λc =>some c) (
      some a)
     |_=>none)) k ((v5.order.length:Int),0,q2,v5)
    cond (decide (0<(v5.order.length:Int))) (
     (An ([[32,79,82,68,69,82,32,66,89,32]],x5)).bind λx6 =>
     j2 x6) (
     j2 x5)
   |_=>none)) k ((s.l.length:Int),0,q,s)
  cond (decide ((s.l.length:Int)=0)) (
  (An ([[42]],x)).bind λx1 =>j3 x1) (
  j3 x)
theorem Ave(k:Nat):FM 56 Ym X0 (Q8 k):=fRL (px:=Ahq _ k) (n:=0) Tryz.func56 rfl (λcx H=>by have h2:Lv cx (T4 (Gq) k):=lv H (l1 H Oe Af) Ab Aa;have h1:Lv cx (Zb (Gq) k):=lv H (l1 H C1 (Au (cR H h2 Tryz.func106 rfl (n:=0) (Ak)) Af)) Ab Aa;have hlwchosen_0:=lO H h1 (b:=lp Tryz.f51 0) (k:=k) (n:=0) (s:=Aal) (step:=Ku) (λ_ _ _ (_,_,_,_)=>by kernel_rfl) Ak;have h4:Lv cx (Sl (Gq) k):=lv H (l1 H C1 Af) Ab Aa;have h3:Lv cx (Z8 (Gq) k):=lv H (l1 H C1 (Au (cR H h4 Tryz.func107 rfl (n:=0) (Ak)) Af)) Ab Aa;have hlwchosen_1:=lO H h3 (b:=lp Tryz.f51 0) (k:=k) (n:=0) (s:=Zo) (step:=H5) (λ_ _ _ (_,_,_,_)=>by kernel_rfl) Ak;have h0:Lv cx (Ahq (Gq) k):=lv H (l1 H C1 (l1 H Aqi (Au (Bbf (cR H h1 Tryz.func51 rfl (n:=1) ((Bq Ak hlwchosen_0))) (cR H h3 Tryz.func51 rfl (n:=1) ((Bq Ak hlwchosen_1)))) Af))) (q1 H Aoa Ab) Aa;exact⟨h0,Ak⟩) λ(_,_)=>by kernel_rfl
def Bls(s:Stm)(out:Str):Option Str:=cond (okS s) (app out (Arb s)) none
def Ux:Aqe->Option Gq:=λx=>Bls x.1 x.2
theorem Aiu{R:Type}{b:Bool}{out t:Str}{c:Str->Option R}(ho:out.length<=100000000000):cond b ((app out t).bind c) (c out)=(app out (cond b t [])).bind c:=by cases b with|true=>rfl|false=>rw[Ah,Ah,Agn ho];rfl
theorem A9z(k:Nat)(s:Stm)(out:Str)(hb:BdStm s)(h:okS s=true)(hk:Mj s<=k):Q8 k (s,out)=app out (Arb s):=by
 simp only[okS,Zb1,Zg1] at h;obtain⟨⟨h1,h2⟩,h3⟩:=h;simp only[Mj] at hk;have hl:=Zg2.1 h1;have hz:(s.order.zip s.desc).length=s.order.length:=by rw[List.length_zip];omega
 have hend:∀x:Str,x.length<=100000000000->cond (decide (0<=s.most)) (app x ([32,76,73,77,73,84,32]++Bo ⟨3,s.most,[]⟩)) (some x)=app x (Adj s):=λx hx=>by simp only[Adj];cases decide (0<=s.most) with|true=>rfl|false=>rw[Ah,Ah,Agn hx]
 have hord:∀(kx:Ex->M0->Option Gq),(∀acc,kx (.exit 0) ((s.order.length:Int),(s.order.length:Int),acc,s)=cond (decide (0<=s.most)) (app acc ([32,76,73,77,73,84,32]++Bo ⟨3,s.most,[]⟩)) (some acc))->∀x:Str,x.length<=100000000000 ->
   Al (λrec=>H5 rec kx) k ((s.order.length:Int),0,x,s)=(app x (Br Ul (s.order.zip s.desc))).bind λx=>app x (Adj s):=λkx hkx x hx=>by
  refine(K9 (s.order.zip s.desc) Ul (λi acc=>((s.order.length:Int),(i:Int),acc,s)) (λacc=>cond (decide (0<=s.most)) (app acc ([32,76,73,77,73,84,32]++Bo ⟨3,s.most,[]⟩)) (some acc)) (λi hi acc rec =>?_) (λacc rec =>?_) k (by omega) x hx).trans (Dd hend)
  ·have hi1:i<s.order.length:=by omega
   have hi2:i<s.desc.length:=by omega
   have hg:(s.order.zip s.desc)[i]=(s.order[i],s.desc[i]):=by simp
   simp only[H5,He hi1,Ae,A7 hi1,A7 hi2,chk,Bb (c :=.str) hi1,Bb (c :=.bool) hi2,A0 hi1 hb.order.1,ww,fl1,hg];have hitem:∀q:Str,((app q s.order[i]).bind λx8=>cond s.desc[i] ((app x8 [32,68,69,83,67]).bind λx9=>rec ((s.order.length:Int),((i+1:Nat):Int),x9,s)) (rec ((s.order.length:Int),((i+1:Nat):Int),x8,s)))=(app q (Ul (s.order[i],s.desc[i]))).bind λx=>rec ((s.order.length:Int),((i+1:Nat):Int),x,s):=λq=>by simp only[Ul];rw[<-Dc];exact Dd λx hx=>Aiu hx
   simp only[hitem];exact O2 i acc _ _
  ·rw[hz];simp only[H5,G7,Ah,hkx]
 simp only[Q8,ww,fl1,fl2];have hsel:∀(kx:Ex->M8->Option Gq),(∀acc:Str,acc.length<=100000000000->kx (.exit 0) ((s.l.length:Int),(s.l.length:Int),acc,s)=app acc (([32,70,82,79,77,32]++s.name)++whT s++obT s++Br Ul (s.order.zip s.desc)++Adj s))->∀x:Str,x.length<=100000000000 ->
   Al (λrec=>Ku rec kx) k ((s.l.length:Int),0,x,s)=app x (Br etx s.l++(([32,70,82,79,77,32]++s.name)++whT s++obT s++Br Ul (s.order.zip s.desc)++Adj s)):=λkx hkx x hx=>by
  refine(K9 s.l etx (λi acc=>((s.l.length:Int),(i:Int),acc,s)) (λacc=>kx (.exit 0) ((s.l.length:Int),(s.l.length:Int),acc,s)) (λi hi acc rec =>?_) (λacc rec =>?_) k (by omega) x hx).trans ((Dd hkx).trans (Ih _ _ _))
  ·simp only[Ku,He hi,Ae,A7 hi,chk,Bb (c :=.expr) hi,we (hl _ (List.getElem_mem hi)),A0 hi hb.l.1,ww,fl1];exact O2 i acc _ _
  ·simp only[Ku,G7,Ah]
 refine(Dd λx hx=>(Aiu hx).trans (Dd λq hq=>hsel _ (λacc ha =>?_) q hq)).trans ?_
 ·show((app acc ([32,70,82,79,77,32]++s.name)).bind λx4=>(Ii (s,x4)).bind λx5=>cond (decide (0<(s.order.length:Int))) ((app x5 [32,79,82,68,69,82,32,66,89,32]).bind λx6=>Al (λrec=>H5 rec _) k ((s.order.length:Int),0,x6,s)) (Al (λrec=>H5 rec _) k ((s.order.length:Int),0,x5,s)))=_;simp only[wh h2];rw[Dc];refine(Dd λx5 hx5=>(Aiu hx5).trans (Dd λy hy=>hord _ (λ_ =>?_) y hy)).trans ?_
  ·simp only[Iu,Bo]
  ·simp only[Ih,obT,Zj1]
 ·simp only[Ih,Arb,Zj1]
theorem Ax9:FM 56 Ym X0 Ux :=.fin 0 Ave λ(s,out) r hb hx=>⟨Mj s,by
 have hx:cond (okS s) (app out (Arb s)) none=some r:=hx;cases ho:okS s with
 |false=>rw[ho] at hx;cases hx
 |true =>rw[ho] at hx;exact(A9z (Mj s) s out hb.1 ho (Zn1 _)).trans hx⟩
theorem ws{s:Stm}(h:okS s=true)(out:Str):Ux (s,out)=app out (Arb s):=by show cond (okS s) _ _=_;rw[h];rfl
def Agm(r:List Xpr):Str:=[40]++(Br etx r++[41])
def Aiz(x:SetE):Str:=x.name++[32,61,32]++etx x.e
def B2(s:Stm):Str :=
 if s.kind=1 then Nr s
 else if s.kind=2 then [68,82,79,80,32,84,65,66,76,69,32]++s.name
 else if s.kind=3 then [67,82,69,65,84,69,32,73,78,68,69,88,32]++(s.name++([32,79,78,32]++(s.on++[32])))++nmT s.names
 else if s.kind=4 then [68,82,79,80,32,73,78,68,69,88,32]++s.name
 else if s.kind=5 then [73,78,83,69,82,84,32,73,78,84,79,32]++(s.name++[32,86,65,76,85,69,83,32])++Br Agm s.rows
 else if s.kind=6 then [85,80,68,65,84,69,32]++(s.name++[32,83,69,84,32])++Br Aiz s.sets++whT s
 else if s.kind=7 then [68,69,76,69,84,69,32,70,82,79,77,32]++s.name++whT s
 else Arb s
def okP(s:Stm):Bool :=
 if s.kind=1 then okT s
 else if s.kind=2\/s.kind=4 then true
 else if s.kind=3 then Ah4 s.names
 else if s.kind=5 then s.rows.all λr=>r.all okx
 else if s.kind=6 then s.sets.all (λx=>okx x.e)&&okW s
 else if s.kind=7 then okW s
 else decide (s.kind=8)&&okS s
def Ua:Sig:=⟨20,[(7,.int .i64),(8,.int .i64)],[(0,.ptr 1 0),(2,.fn 54 [.ptr 1 0,.ptr 0 0])],[(0,.one (.sv .stmt)),(1,.bld 82)],40,40,200,[],[]⟩
abbrev Ho:=Int×Int×Stm×List UInt8
def Lj{R:Type}(rec:Ho->Option R)(kx:Ex->Ho->Option R)(v:Ho):Option R:=match v with
 |(b,a,w5,w6) =>
 cond (decide (a<b)) (
  let j2:=λ(q2:List UInt8) =>
  chk (inb a w5.sets.length) (
   (An ([((at' .set w5.sets a).name),[32,61,32]],q2)).bind λc =>
   chk (inb a w5.sets.length) (
    (Fu ((Mf ((at' .set w5.sets a).e)),c)).bind λd =>
    rec (b,(wr .i64 (a+1)),w5,d)))
  cond (decide (0<a)) (
  (An ([[44,32]],w6)).bind λf =>j2 f) (
  j2 w6)) (
  kx (.exit 0) (b,a,w5,w6))
def Afg:Sig:=⟨20,[(7,.int .i64),(8,.int .i64)],[(0,.ptr 1 0),(2,.fn 53 [.ptr 1 0,.ptr 0 0,.ptr 80 0])],[(0,.one (.sv .stmt)),(1,.bld 82),(80,.cells [.int .i64])],120,120,600,[],[]⟩
abbrev R0:=Int×Int×Stm×List UInt8×Int
def L8{R:Type}(rec:R0->Option R)(kx:Ex->R0->Option R)(v:R0):Option R:=match v with
 |(v2,v3,w2,w3,w4) =>
 cond (decide (v3<v2)) (
  let j:=λ(q1:List UInt8) =>
  chk (inb w4 w2.rows.length) (
   chk (inb v3 ((at' .exprs w2.rows w4).length)) (
   (Fu ((at' .expr (at' .exprs w2.rows w4) v3),q1)).bind λa =>rec (v2,(wr .i64 (v3+1)),w2,a,w4)))
  cond (decide (0<v3)) (
  (An ([[44,32]],w3)).bind λx9 =>j x9) (
  j w3)) (
  kx (.exit 0) (v2,v3,w2,w3,w4))
def Ud:Sig:=⟨20,[(7,.int .i64),(8,.int .i64)],[(0,.ptr 1 0),(2,.fn 52 [.ptr 1 0,.ptr 0 0])],[(0,.one (.sv .stmt)),(1,.bld 82)],40,40,200,[],[]⟩
abbrev Hv:=Int×Int×Stm×List UInt8
def Lk{R:Type}(k:Nat)(rec:Hv->Option R)(kx:Ex->Hv->Option R)(v:Hv):Option R:=match v with
 |(v,v1,w,w1) =>
 cond (decide (v1<v)) (
  let j1:=λ(q:List UInt8) =>
  (An ([[40]],q)).bind λx8 =>
   chk (inb v1 w.rows.length) (
   Al (λrc=>L8 rc (λe vz=>match vz with|(_,_,v6,v7,_)=>match e with
    |.exit 0 =>
    (An ([[41]],v7)).bind λa =>rec (v,(wr .i64 (v1+1)),v6,a)
    |_=>none)) k (((at' .exprs w.rows v1).length:Int),0,w,x8,v1))
  cond (decide (0<v1)) (
  (An ([[44,32]],w1)).bind λx7 =>j1 x7) (
  j1 w1)) (
  kx (.exit 0) (v,v1,w,w1))
def M7(R:Type)(_k:Nat):Px R:=pxO [(40,Aj Gk Gm Fu)] [] [] []
noncomputable def R9(R:Type)(k:Nat):Px R:=pxO [(49,Aj B9 Cc An),(53,Az 160 800 (M7 R k) Tryz.f53)] [] [(1,Aq k Afg (L8))] []
noncomputable def W6(R:Type)(k:Nat):Px R:=pxO [(49,Aj B9 Cc An),(51,Az 120 600 (R9 R k) Tryz.f51)] [] [] []
def W2(R:Type)(_k:Nat):Px R:=pxO [(49,Aj B9 Cc An),(40,Aj Gk Gm Fu)] [] [] []
noncomputable def J6(R:Type)(k:Nat):Px R:=pxO [(49,Aj B9 Cc An),(52,Az 80 400 (W6 R k) Tryz.f52),(54,Az 80 400 (W2 R k) Tryz.f54)] [] [(1,Aag k Ud (Lk k) (Aq k Ua (Lj)))] []
noncomputable def Anb(R:Type)(k:Nat):Px R:=pxO [(25,cA Aa2),(48,Aj Adg Ac1 Abm),(49,Aj B9 Cc An),(50,Aj U1 Uz Oa),(55,Aj Vy Vv Ii),(56,Aj Ym X0 Ux),(41,Aj bstr_si Agp Iw),(51,Az 40 200 (J6 R k) Tryz.f51)] [] [] []
theorem Axk(R:Type)(k:Nat):∀(fr:List Fr) (rec:Hv->Option R) (kx:Ex->Hv->Option R) (v:Hv),Abd (J6 R k) Ud (lp Tryz.f51 0) fr rec kx v=Lk k rec kx v
 |fr,rec,kx,(v,v1,w,w1)=>by kernel_rfl
theorem Aw5(R:Type)(k:Nat):∀(fr:List Fr) (rec:Ho->Option R) (kx:Ex->Ho->Option R) (v:Ho),Abd (J6 R k) Ua (lp Tryz.f51 0) fr rec kx v=Lj rec kx v
 |fr,rec,kx,(a,b,w5,w6)=>by kernel_rfl
def Mr(k:Nat)(x:HV [.sv .stmt]):Option (HV [.str,.int .i64]):=match x with
 |s =>
 (Nn s).bind λx =>
  cond (!decide (x=0)) (
  some ([],x)) (
  cond (decide (s.kind=1)) (
   (Abm (s,[])).bind λx1 =>
   (Iw x1).bind λa =>some (a,0)) (
   cond (decide (s.kind=2)) (
   (An ([[68,82,79,80,32,84,65,66,76,69,32],s.name],[])).bind λx2 =>
    (Iw x2).bind λb =>
    some (b,0)) (
   cond (decide (s.kind=3)) (
    (An ([[67,82,69,65,84,69,32,73,78,68,69,88,32],s.name,[32,79,78,32],s.on,[32]],[])).bind λx3 =>
    (Oa (s.names,x3)).bind λx4 =>
     (Iw x4).bind λc =>
     some (c,0)) (
    cond (decide (s.kind=4)) (
    (An ([[68,82,79,80,32,73,78,68,69,88,32],s.name],[])).bind λx5 =>
     (Iw x5).bind λd =>
     some (d,0)) (
    cond (decide (s.kind=5)) (
     (An ([[73,78,83,69,82,84,32,73,78,84,79,32],s.name,[32,86,65,76,85,69,83,32]],[])).bind λx6 =>
     Al (λrec=>Lk k rec (λe vz=>match vz with|(_,_,_,f)=>match e with
      |.exit 0 =>
      (Iw f).bind λg =>some (g,0)
      |_=>none)) k ((s.rows.length:Int),0,s,x6)) (
     cond (decide (s.kind=6)) (
     (An ([[85,80,68,65,84,69,32],s.name,[32,83,69,84,32]],[])).bind λh =>
      Al (λrec=>Lj rec (λe vz=>match vz with|(_,_,i,j)=>match e with
      |.exit 0 =>
       (Ii (i,j)).bind λl =>
       (Iw l).bind λm =>some (m,0)
      |_=>none)) k ((s.sets.length:Int),0,s,h)) (
     cond (decide (s.kind=7)) (
      (An ([[68,69,76,69,84,69,32,70,82,79,77,32],s.name],[])).bind λn =>
      (Ii (s,n)).bind λo =>
       (Iw o).bind λp =>
       some (p,0)) (
      cond (decide (s.kind=8)) (
      (Ux (s,[])).bind λq =>
       (Iw q).bind λr =>
       some (r,0)) (
      (Iw []).bind λt =>some (t,0))))))))))
theorem A00(k:Nat):FO 23 [.sv .stmt] [.str,.int .i64] (Mr k):=fR (px:=Anb _ k) (n:=0) Tryz.func23 rfl (λcx H=>by have h4:Lv cx (M7 (HV [.str,.int .i64]) k):=lv H (l1 H Oe Af) Ab Aa;have h3:Lv cx (R9 (HV [.str,.int .i64]) k):=lv H (l1 H C1 (Au (cR H h4 Tryz.func53 rfl (n:=0) (Ak)) Af)) Ab Aa;have hlaprint_1:=lO H h3 (b:=lp Tryz.f51 0) (k:=k) (n:=0) (s:=Afg) (step:=L8) (λ_ _ _ (_,_,_,_,_)=>by kernel_rfl) Ak;have h2:Lv cx (W6 (HV [.str,.int .i64]) k):=lv H (l1 H C1 (Au (cR H h3 Tryz.func51 rfl (n:=1) ((Bq Ak hlaprint_1))) Af)) Ab Aa;have h5:Lv cx (W2 (HV [.str,.int .i64]) k):=lv H (l1 H C1 (l1 H Oe Af)) Ab Aa;have h1:Lv cx (J6 (HV [.str,.int .i64]) k):=lv H (l1 H C1 (Au (cR H h2 Tryz.func52 rfl (n:=0) (Ak)) (Au (cR H h5 Tryz.func54 rfl (n:=0) (Ak)) Af))) Ab Aa;have hlaprint_0:Dh cx (J6 (HV [.str,.int .i64]) k) (lp Tryz.f51 0):=A2y (λ_ _=>by kernel_rfl) (Ack (Ue h1.p h1.c h1.q (by rw[H.p];exact follows) (k:=k) (s:=Ud) (step:=Lk k) (by kernel_rfl) (Axk _ k) (Ob (n:=0) (by kernel_rfl) Ak)) (Ue h1.p h1.c h1.q (by rw[H.p];exact follows) (k:=k) (s:=Ua) (step:=Lj) (by kernel_rfl) (Aw5 _ k) (Ob (n:=0) (by kernel_rfl) Ak)));have h0:Lv cx (Anb (HV [.str,.int .i64]) k):=lv H (c1 H Amu (l1 H A9o (l1 H C1 (l1 H Aob (l1 H Aqi (l1 H Ax9 (l1 H A5c (Au (cR H h1 Tryz.func51 rfl (n:=1) ((Bq Ak hlaprint_0))) Af)))))))) Ab Aa;exact⟨h0,Ak⟩) λ_=>by kernel_rfl
def Rf(s:Stm):Option (Str×Int):=(Nn s).bind λx=>cond (!decide (x=0)) (some ([],x)) (cond (okP s) ((app [] (B2 s)).bind λt=>some (t,0)) none)
def Ale:FT [.sv .stmt] [.str,.int .i64]:=λx=>Rf x
theorem Amf{R:Type}{kx:Ex->R0->Option R}{s:Stm}{j:Nat}{c:Str->Option R}(hj:j<s.rows.length)(hn:ln s.rows[j].length)(hok:s.rows[j].all okx=true)(h2:∀acc,kx (.exit 0) ((s.rows[j].length:Int),(s.rows[j].length:Int),s,acc,(j:Int))=c acc)(k:Nat)(hk:s.rows[j].length<k)(out:Str)(ho:out.length<=100000000000) :
  Al (λrec=>L8 rec kx) k ((s.rows[j].length:Int),0,s,out,(j:Int))=(app out (Br etx s.rows[j])).bind c:=by
 have hl:=Zg2.1 hok;refine K9 s.rows[j] etx (λi acc=>((s.rows[j].length:Int),(i:Int),s,acc,(j:Int))) c (λi hi acc rec =>?_) (λacc rec =>?_) k hk out ho
 ·simp only[L8,He hi,Ae,A7 hi,A7 hj,chk,Bb (c :=.exprs) hj,Bb (c :=.expr) hi,we (hl _ (List.getElem_mem hi)),A0 hi hn,ww,fl1];exact O2 i acc _ _
 ·simp only[L8,G7,Ah,h2]
theorem Amh{R:Type}{kx:Ex->Hv->Option R}{s:Stm}{c:Str->Option R}(hb:BdStm s)(hok:(s.rows.all λr=>r.all okx)=true)(h2:∀acc,kx (.exit 0) ((s.rows.length:Int),(s.rows.length:Int),s,acc)=c acc)(k:Nat)(hk:Mj s<=k)(out:Str)(ho:out.length<=100000000000) :
  Al (λrec=>Lk k rec kx) k ((s.rows.length:Int),0,s,out)=(app out (Br Agm s.rows)).bind c:=by
 have hl:=Zg2.1 hok;simp only[Mj] at hk;refine K9 s.rows Agm (λi acc=>((s.rows.length:Int),(i:Int),s,acc)) c (λi hi acc rec =>?_) (λacc rec =>?_) k (by omega) out ho
 ·have hm:=A5t (List.getElem_mem hi);have hrow:∀q:Str,((app q [40]).bind λx8=>Al (λrc=>L8 rc (λe v=>match v with
    |(_,_,v6,v7,_)=>match e with
     |.exit 0=>(app v7 [41]).bind λa=>rec ((s.rows.length:Int),((i+1:Nat):Int),v6,a)
     |_=>none)) k ((s.rows[i].length:Int),0,s,x8,(i:Int)))=(app q (Agm s.rows[i])).bind λx=>rec ((s.rows.length:Int),((i+1:Nat):Int),s,x):=λq=>by
   refine(Dd λx hx=>Amf (c:=λacc=>(app acc [41]).bind λa=>rec ((s.rows.length:Int),((i+1:Nat):Int),s,a)) hi (hb.rows.2 _ (List.getElem_mem hi)).1 (hl _ (List.getElem_mem hi)) (λ_=>rfl) k (by omega) x hx).trans ?_;simp only[Dc,Agm]
  simp only[Lk,He hi,Ae,A7 hi,chk,Bb (c :=.exprs) hi,A0 hi hb.rows.1,ww,fl1];refine Eq.trans ?_ (O2 i acc _ _);have e:∀(b:Bool) (x y x' y':Option R),x=x'->y=y'->cond b x y=cond b x' y':=λ_ _ _ _ _ h1 h2=>by rw[h1,h2]
  exact e _ _ _ _ _ (Dd λx _=>hrow x) (hrow acc)
 ·simp only[Lk,G7,Ah,h2]
theorem Ama{R:Type}{kx:Ex->Ho->Option R}{s:Stm}{c:Str->Option R}(hb:BdStm s)(hok:(s.sets.all λx=>okx x.e)=true)(h2:∀acc,kx (.exit 0) ((s.sets.length:Int),(s.sets.length:Int),s,acc)=c acc)(k:Nat)(hk:s.sets.length<k)(out:Str)(ho:out.length<=100000000000) :
  Al (λrec=>Lj rec kx) k ((s.sets.length:Int),0,s,out)=(app out (Br Aiz s.sets)).bind c:=by
 have hl:=Zg2.1 hok;refine K9 s.sets Aiz (λi acc=>((s.sets.length:Int),(i:Int),s,acc)) c (λi hi acc rec =>?_) (λacc rec =>?_) k hk out ho
 ·simp only[Lj,He hi,Ae,A7 hi,chk,Bb (c :=.set) hi,Jo,we (hl _ (List.getElem_mem hi)),A0 hi hb.sets.1,ww,fl1,fl2];have hitem:∀q:Str,((app q (s.sets[i].name++[32,61,32])).bind λa=>(app a (etx s.sets[i].e)).bind λb=>rec ((s.sets.length:Int),((i+1:Nat):Int),s,b))=(app q (Aiz s.sets[i])).bind λx=>rec ((s.sets.length:Int),((i+1:Nat):Int),s,x):=λq=>by rw[Dc];rfl
  simp only[hitem];exact O2 i acc _ _
 ·simp only[Lj,G7,Ah,h2]
theorem bs(x:Str):((Iw x).bind λt=>some (t,(0:Int)))=some (x,0):=rfl
theorem Bfr(k:Nat)(s:Stm)(hb:BdStm s)(hk:Mj s<=k)(h:okP s=true)(hc:Nn s=some 0):Mr k s=((app [] (B2 s)).bind λt=>some (t,0)):=by
 have hk2:=hk;simp only[Mj] at hk2;simp only[Mr,hc,Zc1,bs,ww,fl2,fl3,fl5];simp only[okP] at h;simp only[B2];rw[decide_true,Zt1,Ah];by_cases h1:s.kind=1
 ·rw[if_pos h1] at h;rw[Ze1 h1,if_pos h1,Ae,wt h]
 rw[if_neg h1] at h;rw[Zd1 h1,if_neg h1,Ah];by_cases h2:s.kind=2
 ·rw[Ze1 h2,if_pos h2,Ae]
 rw[Zd1 h2,if_neg h2,Ah];by_cases h3:s.kind=3
 ·rw[if_neg (by omega),if_pos h3] at h;rw[Ze1 h3,if_pos h3,Ae];simp only[wn h,Dc]
 rw[Zd1 h3,if_neg h3,Ah];by_cases h4:s.kind=4
 ·rw[Ze1 h4,if_pos h4,Ae]
 rw[if_neg (by omega),if_neg h3] at h;rw[Zd1 h4,if_neg h4,Ah];by_cases h5:s.kind=5
 ·rw[if_pos h5] at h;rw[Ze1 h5,if_pos h5,Ae];refine(Dd λx hx=>Amh (c:=λt=>some (t,(0:Int))) hb h (λ_=>rfl) k hk x hx).trans ?_;rw[Dc]
 rw[if_neg h5] at h;rw[Zd1 h5,if_neg h5,Ah];by_cases h6:s.kind=6
 ·rw[if_pos h6,Zb1] at h;rw[Ze1 h6,if_pos h6,Ae];refine(Dd λx hx=>Ama (c:=λt=>(app t (whT s)).bind λt=>some (t,(0:Int))) hb h.1 (λacc =>?_) k (by omega) x hx).trans ?_
  ·show((Ii (s,acc)).bind λa=>some (a,(0:Int)))=_;rw[wh h.2]
  ·simp only[Dc,Zj1]
 rw[if_neg h6] at h;rw[Zd1 h6,if_neg h6,Ah];by_cases h7:s.kind=7
 ·rw[if_pos h7] at h;rw[Ze1 h7,if_pos h7,Ae];simp only[wh h,Dc]
 rw[if_neg h7,Zb1,Zg1] at h;rw[Zd1 h7,if_neg h7,Ah,Ze1 h.1,Ae,ws h.2]
theorem Ap8:FO 23 [.sv .stmt] [.str,.int .i64] Ale :=.fin 0 A00 λs r hb hx=>⟨Mj s,by
 have hx:Rf s=some r:=hx;simp only[Rf] at hx;cases hc:Nn s with
 |none=>rw[hc] at hx;cases hx
 |some x =>
  rw[hc,Zc1] at hx;by_cases h0:x=0
  ·subst h0;cases ho:okP s with|false=>rw[ho] at hx;cases hx|true =>rw[ho] at hx;exact(Bfr (Mj s) s hb (Zn1 _) ho hc).trans hx
  ·rw[Zd1 h0] at hx;rw[<-hx];simp only[Mr,hc,Zc1];rw[Zd1 h0];rfl⟩
open Lp (Ef tw isWd isUp isLo isDi isIn pre clsF rnameF wordF nq qS unGo hexD rnumF rnumGo checkF)
def dlm(r:Str):Prop:=∀c t,r=c::t->isWd (c.toNat:Int)=false/\c≠39
theorem Bjc:dlm []:=λ_ _ h=>by cases h
theorem Aqs{p q:UInt8->Bool}(h:∀b,p b=true->q b=true){w:Str}(hw:w.all p=true):w.all q=true:=Zg2.2 λb hb=>h b (Zg2.1 hw b hb)
theorem Aha{p:Int->Bool}{w r:Str}(hw:w.all (λb=>p b.toNat)=true)(hr:∀c t,r=c::t->p (c.toNat:Int)=false):tw p (w++r)=w:=by rw[Lp.tw_app r hr w];have h1:=(Lp.tw_full (p:=p) w).2 hw;have h2:=Lp.tw_take p w;rw[h1,List.take_length] at h2;exact h2.symm
theorem Bn7{m:Str}(h:∀a t,m=a::39::t->False):pre m [120,39]=false:=by match m,h with|[],_=>rfl|[a],_=>simp[pre]|a::b::t,h =>have hb:b≠39:=λe=>h a t (by rw[e]);simp[pre,hb]
theorem Bri:isWd 39=false:=by decide +kernel
theorem Akp{w r:Str}(hne:w≠[])(hw:w.all (λb=>isWd b.toNat)=true)(hr:dlm r):pre (w++r) [120,39]=false:=by refine Bn7 λa t h =>?_;match w,hne,hw,h with|[x],_,_,h =>simp only[Zb2,Zf2,Ze2] at h;exact(hr 39 t h.2).2 rfl|x::y::w,_,hw,h =>simp only[Zb2,Ze2] at h;obtain⟨_,rfl,_⟩:=h;simp only[Zv1,Zb1] at hw;have h2:=hw.2.1;have e:((39:UInt8).toNat:Int)=39:=rfl;rw[e,Bri] at h2;cases h2
theorem Bmr{c:Int}(h:isUp c=true):clsF c=1:=by simp[clsF,h]
theorem A19:∀n:Fin 256,isLo (n.val:Int)=true->clsF (n.val:Int)=2:=by decide +kernel
theorem Bnr{b:UInt8}(h:isLo b.toNat=true):clsF b.toNat=2:=Lp.of256 (p:=λc=>isLo c=true->clsF c=2) A19 b.toNat (Lp.u8_range b) h
theorem Acz{w r:Str}(h:wordF w=true)(hr:dlm r):Ef (w++r)=some (1,w,0,w.length):=by
 have hu:=Lp.word_up h;have hne:w≠[]:=by rintro rfl;exact absurd h (by decide +kernel)
 have hw:w.all (λb=>isWd b.toNat)=true:=Aqs (λb hb=>Lp.up_wd b hb) hu;have hp:=Akp hne hw hr;have ht:=Aha hw (λc t e=>(hr c t e).1);cases w with|nil=>exact absurd rfl hne|cons c t =>simp only[Zv1,Zb1] at hu;have hc:clsF (Sx.byt (c::t++r) 0)=1:=Bmr hu.1;unfold Ef;rw[hp,ht,if_neg (by simp),if_pos hc,if_pos h]
theorem A1c{w:Str}(h:rnameF w=true):∃c t,w=c::t/\isLo c.toNat=true/\w.all (λb=>isIn b.toNat)=true:=by cases w with|nil=>cases h|cons c t =>simp only[rnameF,Lp.okGo_zero,Zb1] at h;exact⟨c,t,rfl,h.1.1,by simp only[Zv1,Zb1];exact⟨Lp.lo_in h.1.1,h.1.2⟩⟩
theorem Ane{w r:Str}(h:rnameF w=true)(hr:dlm r):Ef (w++r)=some (2,w,0,w.length):=by obtain⟨c,t,rfl,h1,h2⟩:=A1c h;have hw:(c::t).all (λb=>isWd b.toNat)=true:=Aqs (λb hb=>Lp.in_wd b hb) h2;have hp:=Akp (by simp) hw hr;have ht:=Aha hw (λc t e=>(hr c t e).1);have hc:clsF (Sx.byt (c::t++r) 0)=2:=Bnr h1;unfold Ef;rw[hp,ht,if_neg (by simp),if_neg (by rw[hc];decide),if_pos hc,if_pos h]
theorem Alz:∀(a b:Str) (n:Int),rnumGo (a++b) n=(rnumGo a n).bind λm=>rnumGo b m
 |[],b,n=>rfl
 |c::a,b,n=>by
  simp only[Zb2,rnumGo];split
  ·rfl
  ·exact Alz a b _
theorem Aye{d:Int}(h : 0<=d/\d<=9):((dch d).toNat:Int)=48+d/\isDi ((dch d).toNat:Int)=true:=by
 have e:((dch d).toNat:Int)=48+d:=by simp only[dch,UInt8.toNat_ofNat'];omega
 refine⟨e,?_⟩;rw[e];simp only[isDi,Zb1,Zg1];omega
theorem Bfb:∀{l:List Int},dg l=true->(txt l).all (λb=>isDi b.toNat)=true
 |[],_=>rfl
 |d::l,h=>by have h:=Ahe.1 h;rw[Tg,List.all_append,Bfb h.2];simp[(Aye h.1).2]
theorem Axw:∀{l:List Int},dg l=true->rnumGo (txt l) 0=if val l<=9223372036854775807 then some (val l) else none
 |[],_=>rfl
 |d::l,h=>by
  have h:=Ahe.1 h;have hv:=Bci h.2;obtain⟨hd,hdi⟩:=Aye h.1;have hc:clsF (48+d)=3:=by rw[<-hd];exact Lp.cls_di hdi
  rw[Tg,Alz,Axw h.2,show val (d::l)=d+10*val l from rfl];by_cases h1:val l<=9223372036854775807
  ·rw[if_pos h1];simp only[Zc1,rnumGo,hd,hc];by_cases h2:d+10*val l<=9223372036854775807
   ·rw[if_pos h2,if_neg (by omega)];congr 1;omega
   ·rw[if_neg h2,if_pos (by omega)]
  ·rw[if_neg h1,if_neg (by omega)];rfl
theorem Alt:∀(k n:Nat),n<=k->n≠0->Sx.byt (txt (Kr n)) 0≠48/\txt (Kr n)≠[]
 |0,n,h,h0=>absurd (Nat.le_zero.1 h) h0
 |k+1,n,h,h0=>by
  rw[Oy h0,Tg];by_cases h1:n / 10=0
  ·rw[h1,Ja];have e:Sx.byt (txt []++[dch ((n % 10:Nat):Int)]) 0=((dch ((n % 10:Nat):Int)).toNat:Int):=rfl;rw[e,(Aye (by omega)).1];exact⟨by omega,by simp⟩
  ·obtain⟨h2,h3⟩:=Alt k (n / 10) (by omega) h1;rw[Lp.byt_app h3];exact⟨h2,by simp⟩
theorem A8p{n:Nat}(h0:n≠0):rnumF (txt (Kr n))=if(n:Int)<=9223372036854775807 then(n:Int) else -1:=by
 unfold rnumF;rw[Axw (A27 n),Bf4];by_cases h:(n:Int)<=9223372036854775807
 ·rw[if_pos h,if_pos h];simp only;rw[if_neg (λe=>(Alt n n (Zn1 _) h0).1 e.2)]
 ·rw[if_neg h,if_neg h]
def Nh(n:Nat):Str:=if n=0 then [48] else txt (Kr n)
theorem A4g(n:Nat):(Nh n).all (λb=>isDi b.toNat)=true:=by
 unfold Nh;split
 ·rfl
 ·exact Bfb (A27 n)
theorem A5w(n:Nat):Nh n≠[]:=by
 unfold Nh;split
 ·simp
 ·rename_i h;exact(Alt n n (Zn1 _) h).2
theorem A0c(n:Nat):rnumF (Nh n)=if(n:Int)<=9223372036854775807 then(n:Int) else -1:=by
 unfold Nh;split
 ·rename_i h;subst h;decide +kernel
 ·rename_i h;exact A8p h
theorem A5s(n:Nat):(Nh n).all (λb=>isWd b.toNat)=true:=Aqs (λb hb=>Lp.in_wd b (Lp.di_in b hb)) (A4g n)
theorem Aua{n:Nat}{r:Str}(hr:dlm r):Ef (Nh n++r)=if(n:Int)<=9223372036854775807 then some (3,Nh n,(n:Int),(Nh n).length) else none:=by
 have hp:=Akp (A5w n) (A5s n) hr;have ht:=Aha (A5s n) (λc t e=>(hr c t e).1);have hc:clsF (Sx.byt (Nh n++r) 0)=3:=by have h1:=A4g n;have h2:=A5w n;cases hw:Nh n with|nil=>exact absurd hw h2|cons c t =>rw[hw] at h1;simp only[Zv1,Zb1] at h1;exact Lp.cls_di h1.1
 unfold Ef;rw[hp,ht,if_neg (by simp),if_neg (by rw[hc];decide),if_neg (by rw[hc];decide),if_pos hc,A0c];by_cases h:(n:Int)<=9223372036854775807
 ·rw[if_pos h,if_pos h,if_pos (by omega)]
 ·rw[if_neg h,if_neg h,if_neg (by decide)]
theorem Au1{n:Int}(h : 0<=n):Axp n=Nh n.natAbs:=by
 unfold Axp Nh;rw[if_neg (by omega)];by_cases h0:n=0
 ·rw[if_pos h0,if_pos (by omega)]
 ·rw[if_neg h0,if_neg (by omega)]
theorem Ays{r:Str}(hr:∀t,r≠39::t):∀(s acc:Str),qS (quo s++39::r) acc=some (acc++s,(quo s).length+1)
 |[],acc=>by cases r with|nil=>simp[quo,qS]|cons d t =>have hd:d≠39:=λe=>hr t (by rw[e]);simp[quo,qS,hd]
 |b::s,acc=>by
  by_cases hb:b=39
  ·subst hb;simp only[quo,if_true,Zb2,qS];rw[Ays hr s (acc++[39])];simp
  ·have ih:=Ays hr s (acc++[b]);simp only[quo,if_neg hb,Zb2];cases hq:quo s++39::r with|nil=>simp at hq|cons d t =>rw[hq] at ih;rw[qS,if_neg hb,ih];simp
theorem Bap{s r:Str}(h:checkF 4 0 s=0)(hr:∀t,r≠39::t):Ef (39::(quo s++[39])++r)=some (4,s,0,(quo s).length+2):=by
 have hp:pre (39::(quo s++[39])++r) [120,39]=false:=by simp[pre]
 have hc:clsF (Sx.byt (39::(quo s++[39])++r) 0)=5:=by have e:Sx.byt (39::(quo s++[39])++r) 0=39:=rfl;rw[e];decide +kernel
 have hd:(39::(quo s++[39])++r).drop 1=quo s++39::r:=by simp
 unfold Ef;rw[hp,if_neg (by simp),if_neg (by rw[hc];decide),if_neg (by rw[hc];decide),if_neg (by rw[hc];decide),if_pos hc,hd,Ays hr s []];simp only[Zf2];rw[if_pos h]
theorem Be0:((List.range 256).all λn=>decide (hexD ((hexL.getD (n / 16) 0).toNat:Int)=some ((n / 16:Nat):Int))&&decide (hexD ((hexL.getD (n % 16) 0).toNat:Int)=some ((n % 16:Nat):Int))&&nq ((hexL.getD (n / 16) 0).toNat:Int)&&nq ((hexL.getD (n % 16) 0).toNat:Int))=true:=by kernel_rfl
theorem A2z(b:UInt8):hexD ((hexL.getD (b.toNat / 16) 0).toNat:Int)=some ((b.toNat / 16:Nat):Int)/\hexD ((hexL.getD (b.toNat % 16) 0).toNat:Int)=some ((b.toNat % 16:Nat):Int)/\nq ((hexL.getD (b.toNat / 16) 0).toNat:Int)=true/\nq ((hexL.getD (b.toNat % 16) 0).toNat:Int)=true:=by have h:=Zg2.1 Be0 b.toNat (List.mem_range.2 b.toNat_lt);simp only[Zb1,Zg1] at h;exact⟨h.1.1.1,h.1.1.2,h.1.2,h.2⟩
theorem Ajy(b:UInt8)(s:Str):Nk (b::s)=hexL.getD (b.toNat / 16) 0::hexL.getD (b.toNat % 16) 0::Nk s:=rfl
theorem Amx:∀(s acc:Str),unGo (Nk s) acc=some (acc++s)
 |[],acc=>by simp[Nk,unGo]
 |b::s,acc=>by
  obtain⟨h1,h2,_,_⟩:=A2z b;rw[Ajy,unGo,h1,h2];simp only;rw[Amx s];have e:(((b.toNat / 16:Nat):Int)*16+((b.toNat % 16:Nat):Int)).toNat=b.toNat:=by omega
  rw[e];simp
theorem A21:∀s:Str,(Nk s).all (λb=>nq b.toNat)=true
 |[]=>rfl
 |b::s=>by obtain⟨_,_,h1,h2⟩:=A2z b;rw[Ajy,Zv1,Zv1,h1,h2,A21 s];rfl
theorem A0a{s r:Str}(h:s.length<=1000):Ef (120::39::(Nk s++[39])++r)=some (5,s,0,(Nk s).length+3):=by
 have hp:pre (120::39::(Nk s++[39])++r) [120,39]=true:=by simp[pre]
 have hd:(120::39::(Nk s++[39])++r).drop 2=Nk s++39::r:=by simp
 have ht:tw nq (Nk s++39::r)=Nk s:=Aha (A21 s) (λc t e=>by cases e;decide +kernel);have hl:=Ak0 s;unfold Ef;rw[hp,if_pos rfl,hd,ht,if_neg (by simp only[Zh1,Zf1];omega),if_pos (by omega),Amx];simp only[Zf2];rw[if_neg (by omega)]
theorem A0f{v:Val}(h:B7 v=true)(hk:v.kind=1):v.n=0/\v.s=[]:=by
 simp[B7,hk] at h;by_cases h0:v.n=0
 ·simp[h0] at h;exact⟨h0,h⟩
 ·simp[h0] at h
theorem Aey{v:Val}(h:B7 v=true):v.kind=1\/v.kind=2\/v.kind=3\/v.kind=4\/v.kind=5:=by
 by_cases h1:v.kind=1; · exact .inl h1
 by_cases h2:v.kind=2; · exact .inr (.inl h2)
 by_cases h3:v.kind=3; · exact .inr (.inr (.inl h3))
 by_cases h4:v.kind=4; · exact .inr (.inr (.inr (.inl h4)))
 by_cases h5:v.kind=5; · exact .inr (.inr (.inr (.inr h5)))
 simp[B7,h1,h2,h3,h4,h5] at h
theorem A9r(x:Str):Gt x=Lp.visF x:=by
 have e:∀b:UInt8,vis b=Lp.vis (b.toNat:Int):=λb=>by simp only[vis,Lp.vis];rw[show decide (32<=b.toNat)=decide (32<=(b.toNat:Int)) from Zy1.2 (by omega),show decide (b.toNat<=126)=decide ((b.toNat:Int)<=126) from Zy1.2 (by omega)]
 simp only[Gt,Lp.visF];congr 1;funext b;exact e b
theorem Av4(x:Str):B7 (Val.mk 4 0 x)=Lp.rightF 4 0 x:=by show cond (decide ((x.length:Int)<=1000)) (Gt x) false=(decide ((x.length:Int)<=1000)&&Lp.visF x);rw[A9r];cases decide ((x.length:Int)<=1000)<;>rfl
theorem Afs{v:Val}(h:B7 v=true)(hk:v.kind=4):checkF 4 0 v.s=0/\v.n=0:=by
 have hn:v.n=0:=by
  by_cases h0:v.n=0
  ·exact h0
  ·simp[B7,hk,h0] at h
 have e:v=Val.mk 4 0 v.s:=by cases v;simp only at hk hn;subst hk hn;rfl
 have h2:=Av4 v.s;rw[<-e,h] at h2;refine⟨?_,hn⟩;unfold checkF;rw[if_pos h2.symm]
theorem Zj{v:Val}(h:B7 v=true)(hk:v.kind=5):v.s.length<=1000/\v.n=0:=by
 refine⟨N7 h (.inr hk),?_⟩;by_cases h0:v.n=0
 ·exact h0
 ·simp[B7,hk,h0] at h
def L9(v:Val):Int×Str×Int:=if v.kind=3 then(3,Nh v.n.natAbs,v.n) else if v.kind=4 then(4,v.s,0) else if v.kind=5 then(5,v.s,0) else(1,Bo v,0)
theorem Bde{v:Val}{r:Str}(h:B7 v=true)(hn:v.kind=3->0<=v.n/\v.n<=9223372036854775807)(hr:dlm r):Ef (Bo v++r)=some ((L9 v).1,(L9 v).2.1,(L9 v).2.2,(Bo v).length):=by
 have hr39:∀t,r≠39::t:=λt e=>(hr 39 t e).2 rfl;rcases Aey h with hk|hk|hk|hk|hk
 ·have e:Bo v=[78,85,76,76]:=by simp[Bo,h,hk]
  have e2:L9 v=(1,[78,85,76,76],0):=by simp[L9,hk,e]
  rw[e,e2];exact Acz (by decide +kernel) hr
 ·have e:Bo v=if v.n=0 then [70,65,76,83,69] else [84,82,85,69]:=by simp[Bo,h,hk]
  have e2:L9 v=(1,Bo v,0):=by simp[L9,hk]
  rw[e2];exact Acz (by rw[e];split<;>decide +kernel) hr
 ·obtain⟨h0,h1⟩:=hn hk;have e:Bo v=Nh v.n.natAbs:=by simp only[Bo,h,hk];rw[<-Au1 h0];rfl
  have e2:L9 v=(3,Nh v.n.natAbs,v.n):=by simp[L9,hk]
  rw[e,e2,Aua hr,if_pos (by omega)];have e3:((v.n.natAbs:Nat):Int)=v.n:=by omega
  rw[e3]
 ·have e:Bo v=39::(quo v.s++[39]):=by simp[Bo,h,hk]
  have e2:L9 v=(4,v.s,0):=by simp[L9,hk]
  rw[e,e2,Bap (Afs h hk).1 hr39];simp
 ·have e:Bo v=120::39::(Nk v.s++[39]):=by simp[Bo,h,hk]
  have e2:L9 v=(5,v.s,0):=by simp[L9,hk]
  rw[e,e2,A0a (Zj h hk).1];simp
end Go.Proofs.YthndhaolemgbdaaGreatDoor
namespace Go.Proofs.YthndhaolemgbdaaGreatDoor
open Go.Ax
open Lp (Ef)
def Dl(r:Str):Prop:=∀c t,r=c::t->c=32\/c=41\/c=44
theorem Ayh(t:Str):Dl (32::t):=λ_ _ e=>by cases e;exact .inl rfl
theorem Bqt(t:Str):Dl (41::t):=λ_ _ e=>by cases e;exact .inr (.inl rfl)
theorem Brg(t:Str):Dl (44::t):=λ_ _ e=>by cases e;exact .inr (.inr rfl)
theorem Ng{r:Str}(h:Dl r):dlm r:=λc t e=>by rcases h c t e with rfl|rfl|rfl<;>exact⟨by decide +kernel,by decide⟩
theorem A5g{e:Xpr}(h:eok e.kind e.v e.name=true)(hk:e.kind=1):B7 e.v=true/\(e.v.kind=3->0<=e.v.n)/\e.name=[]:=by
 simp only[eok] at h;rw[Ze1 hk,Zd1 (show ¬e.kind=2 by omega),Ae,Ah] at h;simp only[Zb1,Zg1,Bool.not_eq_true',Bool.and_eq_false_iff,decide_eq_false_iff_not] at h;obtain⟨⟨h1,h2⟩,h3⟩:=h;refine⟨?_,λh =>?_,h3⟩
 ·simp only[Jf] at h1;cases hv:B7 e.v with|true=>rfl|false=>rw[hv] at h1;simp at h1
 ·rcases h2 with h2|h2
  ·exact absurd h h2
  ·omega
theorem Awi{e:Xpr}(h:eok e.kind e.v e.name=true)(hk:e.kind=2):Be e.name=true/\e.v=⟨0,0,[]⟩:=by simp only[eok] at h;rw[Ze1 hk,Zd1 (show ¬e.kind=1 by omega),Ae,Ah] at h;simp only[Zb1,Zg1] at h;exact⟨h.2,h.1⟩
theorem Boj{e:Xpr}(h:eok e.kind e.v e.name=true)(h1:¬e.kind=1)(h2:¬e.kind=2):e.v=⟨0,0,[]⟩/\e.name=[]:=by simp only[eok] at h;rw[Zd1 h1,Zd1 h2,Ah,Ah] at h;simp only[Zb1,Zg1] at h;exact h
theorem Bju{a b:Xpr}(h1:a.kind=b.kind)(h2:a.v=b.v)(h3:a.name=b.name)(h4:a.l=b.l):a=b:=by cases a;cases b;simp only[Xpr.kind,Xpr.v,Xpr.name,Xpr.l] at h1 h2 h3 h4;rw[h1,h2,h3,h4]
theorem A6o{e:Xpr}{m:Int}(h:Bc e m=true)(hk:e.kind=1\/e.kind=2):e.l=[]:=by
 obtain⟨hp,_,_⟩:=Gs h;have:Ib e.kind=0:=by rcases hk with k|k<;>rw[k]<;>decide
 exact List.eq_nil_of_length_eq_zero (by omega)
def Ai6(k:Int):Prop:=4<=k/\k<=14
inductive Shape:Xpr->Prop where
 |atom (e:Xpr) (h:e.kind=1\/e.kind=2):Shape e
 |not (x:Xpr):Shape (.mk 3 ⟨0,0,[]⟩ [] [x])
 |neg (x:Xpr):Shape (.mk 15 ⟨0,0,[]⟩ [] [x])
 |isn (x:Xpr):Shape (.mk 16 ⟨0,0,[]⟩ [] [x])
 |op (k:Int) (x y:Xpr) (h:Ai6 k):Shape (.mk k ⟨0,0,[]⟩ [] [x,y])
theorem Aw0{e:Xpr}{m:Int}(h:Bc e m=true):Shape e:=by
 obtain⟨hp,ho,_⟩:=Gs h;by_cases hk:e.kind=1\/e.kind=2
 ·exact .atom e hk
 ·obtain⟨h1,h2⟩:=Boj ho (λh=>hk (.inl h)) (λh=>hk (.inr h));have ee:e = .mk e.kind ⟨0,0,[]⟩ [] e.l:=Bju rfl h1 h2 rfl;rcases Yy e.kind with ⟨p,q⟩|⟨p,q⟩|⟨p,q⟩|p
  ·exact absurd q hk
  ·obtain⟨x,hx⟩:∃x,e.l=[x]:=List.length_eq_one_iff.1 (by omega);rw[hx] at ee;rcases q with q|q|q<;>rw[q] at ee<;>rw[ee]
   ·exact .not x
   ·exact .neg x
   ·exact .isn x
  ·obtain⟨x,y,hx⟩:∃x y,e.l=[x,y]:=by match hq:e.l,(show e.l.length=2 by omega) with|[x,y],_=>exact⟨x,y,rfl⟩
   rw[hx] at ee;rw[ee];exact .op _ x y q
  ·omega
theorem A24(x:Xpr):etx (.mk 3 ⟨0,0,[]⟩ [] [x])=40::([78,79,84]++32::(etx x++[41])):=by simp[etx,etxs]
theorem A32(x:Xpr):etx (.mk 15 ⟨0,0,[]⟩ [] [x])=40::45::(etx x++[41]):=by simp[etx,etxs]
theorem A33(x:Xpr):etx (.mk 16 ⟨0,0,[]⟩ [] [x])=40::(etx x++32::73::83::32::78::85::76::76::[41]):=by simp[etx,etxs]
theorem Bc9{k:Int}(h:Ai6 k)(x y:Xpr):etx (.mk k ⟨0,0,[]⟩ [] [x,y])=40::(etx x++32::(sgn k++32::(etx y++[41]))):=by simp only[Ai6] at h;simp only[etx,etxs,etx1];rw[if_neg (by omega),if_neg (by omega),if_neg (by omega),if_neg (by omega),if_neg (by omega)];simp
def Bij(k:Int):Bool:=(sgn k).all (λc => !decide (c=32)) && !decide (sgn k=[]) && !decide ((sgn k).head? = some 73)
theorem Awm:Lp.wordF [78,79,84]=true:=by decide +kernel
theorem Apq{e x:Xpr}{m:Int}(h:Bc e m=true)(hx:x∈e.l):∃m',Bc x m' = true:=by obtain⟨_,_,hs⟩:=Gs h;rw[Si] at hs;exact⟨_,Zg2.1 hs x hx⟩
section
variable {α:Type}(f : α->Str) (P : α->Prop) (D:Str->Prop)
end
theorem Vs:∀l:List Str,Lib.join l [44,32]=Br (λx=>x) l
 |[]=>rfl
 |[x]=>by simp[Lib.join,Br,Fa]
 |x::y::l=>by
  have ih:=Vs (y::l);have e:Lib.join (x::y::l) [44,32]=x++([44,32]++Lib.join (y::l) [44,32]):=by simp[Lib.join,List.intercalate,List.intersperse]
  simp only[Br,Fa] at ih ⊢;rw[e,ih];simp only[Zj1]
def RX(e:Xpr):Prop:=Bc e 30=true/\BdExpr e
def Bac(c:Col):Str:=cond (decide (c.ref=[])) [] ([32,82,69,70,69,82,69,78,67,69,83,32]++c.ref)
def CX(c:Col):Prop:=Td c=true/\Be c.name=true
def ckT(e:Xpr):Str:=cond (decide (Ib e.kind=0)) ([40]++(etx e++[41])) (etx e)
theorem Bbt{k:Int}:Ib k=0↔(k=1\/k=2):=by
 rcases Yy k with ⟨p,h⟩|⟨p,h⟩|⟨p,h⟩|p
 ·exact⟨λ_=>h,λ_=>p⟩
 ·exact⟨λq=>by omega,λq=>by omega⟩
 ·exact⟨λq=>by omega,λq=>by omega⟩
 ·refine⟨λq=>by omega,λq =>?_⟩;rcases q with rfl|rfl<;>decide
theorem Adc{l:List Xpr}(h:Hw l=true)(hb:Iq BdExpr l):∀x,x∈l->RX x:=λx hx=>by simp only[Hw,Zb1] at h;exact⟨Zg2.1 h.2 x hx,hb.2 x hx⟩
theorem Uh{l:List Str}(h:E9 l=true):∀x,x∈l->Be x=true:=by simp only[E9,Zb1] at h;exact((Aph l []).1 h.1).1
theorem Aa1{α:Type}{l:List α}(h:De (l.length:Int)=true):l≠[]:=λe=>by rw[Bgb,e] at h;simp at h
def WX(s:Stm):Prop:=G6 s=true/\BdExpr s.whr
theorem Bea{s:Stm}(h:WX s)(hs:s.has=true):RX s.whr:=by have h1:=h.1;rw[An3,hs] at h1;exact⟨h1,h.2⟩
theorem Bqb{s:Stm}(h:WX s)(hs:s.has=false):s.whr=noX:=by have h1:=h.1;rw[An3,hs] at h1;exact of_decide_eq_true h1
theorem Bq2{s:Stm}(h:Gh s=noS)(hk:s.kind=1):s={ noS with kind:=1,name:=s.name,cols:=s.cols,names:=s.names,l:=s.l }:=by obtain⟨k,nm,on,cols,names,l,rows,sets,has,whr,order,desc,most⟩:=s;simp only at hk;subst hk;simp[Gh,noS] at h;simp[noS,h]
theorem Boe{s:Stm}(h:Gh s=noS)(hk:s.kind=2\/s.kind=4):s={ noS with kind:=s.kind,name:=s.name }:=by obtain⟨k,nm,on,cols,names,l,rows,sets,has,whr,order,desc,most⟩:=s;simp only at hk;rcases hk with rfl|rfl<;>simp[Gh,noS] at h<;>simp[noS,h]
theorem Bp6{s:Stm}(h:Gh s=noS)(hk:s.kind=3):s={ noS with kind:=3,name:=s.name,on:=s.on,names:=s.names }:=by obtain⟨k,nm,on,cols,names,l,rows,sets,has,whr,order,desc,most⟩:=s;simp only at hk;subst hk;simp[Gh,noS] at h;simp[noS,h]
theorem Bq0{s:Stm}(h:Gh s=noS)(hk:s.kind=5):s={ noS with kind:=5,name:=s.name,rows:=s.rows }:=by obtain⟨k,nm,on,cols,names,l,rows,sets,has,whr,order,desc,most⟩:=s;simp only at hk;subst hk;simp[Gh,noS] at h;simp[noS,h]
theorem Bqp{s:Stm}(h:Gh s=noS)(hk:s.kind=6):s={ noS with kind:=6,name:=s.name,sets:=s.sets,has:=s.has,whr:=s.whr }:=by obtain⟨k,nm,on,cols,names,l,rows,sets,has,whr,order,desc,most⟩:=s;simp only at hk;subst hk;simp[Gh,noS] at h;simp[noS,h]
theorem Bpw{s:Stm}(h:Gh s=noS)(hk:s.kind=7):s={ noS with kind:=7,name:=s.name,has:=s.has,whr:=s.whr }:=by obtain⟨k,nm,on,cols,names,l,rows,sets,has,whr,order,desc,most⟩:=s;simp only at hk;subst hk;simp[Gh,noS] at h;simp[noS,h]
theorem Bp1{s:Stm}(h:Gh s=noS)(hk:s.kind=8):s={ noS with kind:=8,name:=s.name,l:=s.l,has:=s.has,whr:=s.whr,order:=s.order,desc:=s.desc,most:=s.most }:=by obtain⟨k,nm,on,cols,names,l,rows,sets,has,whr,order,desc,most⟩:=s;simp only at hk;subst hk;simp[Gh,noS] at h;simp[noS,h]
theorem Alq{s:Stm}(h:G3 s=true):(Be s.name=true/\Gh s=noS)/\((s.kind=1/\(∀c,c∈s.cols->CX c)/\s.cols≠[]/\s.names≠[]/\(∀x,x∈s.names->Be x=true)/\Hw s.l=true)
  \/ (s.kind=2\/s.kind=4)\/(s.kind=3/\Be s.on=true/\s.names≠[]/\∀x,x∈s.names->Be x=true)\/(s.kind=5/\s.rows≠[]/\∀r,r∈s.rows->r≠[]/\Hw r=true)
  \/ (s.kind=6/\s.sets≠[]/\(∀x,x∈s.sets->Bc x.e 30=true/\Be x.name=true)/\G6 s=true)\/(s.kind=7/\G6 s=true)
  \/ (s.kind=8/\Hw s.l=true/\G6 s=true/\(∀x,x∈s.order->Be x=true)/\s.desc.length=s.order.length /\ -1<=s.most)):=by
 simp only[G3,Zb1,Zg1] at h;refine⟨h.1,?_⟩;have h:=h.2;by_cases h1:s.kind=1
 ·rw[if_pos h1] at h;simp only[Zb1] at h;obtain⟨⟨⟨⟨⟨a1,a2⟩,a3⟩,a4⟩,a5⟩,a6⟩:=h;refine .inl ⟨h1,λc hc=>⟨Zg2.1 a1 c hc,Uh a3 _ (List.mem_map.2 ⟨c,hc,rfl⟩)⟩,Aa1 a2,Aa1 a4,Uh a5,a6⟩
 rw[if_neg h1] at h;by_cases h3:s.kind=3
 ·rw[if_pos h3] at h;simp only[Zb1] at h;exact .inr (.inr (.inl ⟨h3,h.1.1,Aa1 h.1.2,Uh h.2⟩))
 rw[if_neg h3] at h;by_cases h24:s.kind=2\/s.kind=4
 ·exact .inr (.inl h24)
 rw[if_neg h24] at h;by_cases h5:s.kind=5
 ·rw[if_pos h5] at h;simp only[Ao5,Zb1] at h;refine .inr (.inr (.inr (.inl ⟨h5,Aa1 h.1,λr hr =>?_⟩)));have:=Zg2.1 h.2 r hr;simp only[Auv,Zb1,Bool.not_eq_true',decide_eq_false_iff_not] at this;exact⟨λe=>this.1 (by rw[e];rfl),this.2⟩
 rw[if_neg h5] at h;by_cases h6:s.kind=6
 ·rw[if_pos h6] at h;simp only[Zb1] at h;exact .inr (.inr (.inr (.inr (.inl ⟨h6,Aa1 h.1.1.2,λx hx=>⟨Zg2.1 h.1.1.1 x hx,Uh h.1.2 _ (List.mem_map.2 ⟨x,hx,rfl⟩)⟩,h.2⟩))))
 rw[if_neg h6] at h;by_cases h7:s.kind=7
 ·rw[if_pos h7] at h;exact .inr (.inr (.inr (.inr (.inr (.inl ⟨h7,h⟩)))))
 rw[if_neg h7] at h;by_cases h8:s.kind=8
 ·rw[if_pos h8] at h;simp only[Zb1,Zg1] at h;obtain⟨⟨⟨⟨a1,a2⟩,a3⟩,a4⟩,a5⟩:=h;exact .inr (.inr (.inr (.inr (.inr (.inr ⟨h8,a1,a2,Uh a3,a4,a5⟩)))))
 rw[if_neg h8] at h;cases h
theorem Bme{s:Stm}(h : 1<=s.kind/\s.kind<=8):(B2 s).take 6=if s.kind=1\/s.kind=3 then [67,82,69,65,84,69] else if s.kind=2 then [68,82,79,80,32,84] else if s.kind=4 then [68,82,79,80,32,73] else if s.kind=5 then [73,78,83,69,82,84] else if s.kind=6 then [85,80,68,65,84,69] else if s.kind=7 then [68,69,76,69,84,69] else [83,69,76,69,67,84]:=by
 have:s.kind=1\/s.kind=2\/s.kind=3\/s.kind=4\/s.kind=5\/s.kind=6\/s.kind=7\/s.kind=8:=by omega
 rcases this with h|h|h|h|h|h|h|h<;>simp[B2,Nr,Arb,h]
theorem Agu{s t:Stm}(hs : 1<=s.kind/\s.kind<=8)(ht : 1<=t.kind/\t.kind<=8)(h:B2 s=B2 t):s.kind=t.kind:=by
 have h6:=congrArg (List.take 6) h;rw[Bme hs,Bme ht] at h6;have e1:s.kind=1\/s.kind=2\/s.kind=3\/s.kind=4\/s.kind=5\/s.kind=6\/s.kind=7\/s.kind=8:=by omega
 have e2:t.kind=1\/t.kind=2\/t.kind=3\/t.kind=4\/t.kind=5\/t.kind=6\/t.kind=7\/t.kind=8:=by omega
 rcases e1 with k|k|k|k|k|k|k|k<;>rcases e2 with l|l|l|l|l|l|l|l<;>first
  |exact k.trans l.symm
  |(simp[k,l] at h6;done)
  |(simp[B2,Nr,k,l] at h)
end Go.Proofs.YthndhaolemgbdaaGreatDoor
namespace Go.Proofs.YthndhaolemgbdaaGreatDoor
open Go.Ax
open Lp (Ef Sc clsF)
theorem Bkx{m:Str}{x:Int×Str×Int×Nat}(h:Ef m=some x):clsF (Sx.byt m 0)≠6:=λh6=>by
 by_cases hp:Lp.pre m [120,39]=true
 ·have e:Sx.byt m 0=120:=by match m,hp with|[],hp=>cases hp|[a],hp=>simp[Lp.pre] at hp|a::b::t,hp =>simp[Lp.pre] at hp;rw[hp.1];rfl
  rw[e] at h6;exact absurd h6 (by decide +kernel)
 ·unfold Ef at h;rw[if_neg hp,h6] at h;simp at h
theorem Atb{w r:Str}{q k n:Int}{s:Str}{us:TL}(h:Ef (w++r)=some (k,s,n,w.length))(hr:Sc r (q+w.length) us):Sc (w++r) q (⟨k,q,s,n⟩::us) :=.tok (Bkx h) h (by rw[List.drop_left];exact hr)
theorem Av3:clsF ((32:UInt8).toNat:Int)=6:=by decide +kernel
def Lx(D:Str->Prop)(a:Str)(Q:TL->Prop):Prop:=∀r q us,D r->Sc r (q+a.length) us->∃ts,Sc (a++r) q (ts++us)/\Q ts
def Dj(_:Str):Prop:=True
theorem Lx.app{D1 D2:Str->Prop}{a b:Str}{Q1 Q2:TL->Prop}(ha:Lx D1 a Q1)(hb:Lx D2 b Q2)(hd:∀r,D2 r->D1 (b++r)):Lx D2 (a++b) λts=>∃t1 t2,ts=t1++t2/\Q1 t1/\Q2 t2:=λr q us hr hs=>by obtain⟨t2,h2,q2⟩:=hb r (q+a.length) us hr (by rw[Zh1] at hs;rw[show q+(a.length:Int)+(b.length:Int)=q+((a.length+b.length:Nat):Int) by omega];exact hs);obtain⟨t1,h1,q1⟩:=ha (b++r) q (t2++us) (hd r hr) h2;exact⟨t1++t2,by rw[Zj1,Zj1];exact h1,t1,t2,rfl,q1,q2⟩
theorem Lx.mono{D D':Str->Prop}{a:Str}{Q Q':TL->Prop}(h:Lx D a Q)(hd:∀r,D' r->D r)(hq:∀ts,Q ts->Q' ts):Lx D' a Q':=λr q us hr hs=>by obtain⟨ts,h1,h2⟩:=h r q us (hd r hr) hs;exact⟨ts,h1,hq ts h2⟩
theorem Lx.nil{D:Str->Prop}{Q:TL->Prop}(h:Q []):Lx D [] Q:=λr q us _ hs=>⟨[],by simpa using hs,h⟩
theorem Lx.sp{D:Str->Prop}{a:Str}{Q:TL->Prop}(h:Lx D a Q):Lx D (32::a) Q:=λr q us hr hs=>by obtain⟨ts,h1,h2⟩:=h r (q+1) us hr (by rw[Zf1] at hs;rw[show q+1+(a.length:Int)=q+((a.length+1:Nat):Int) by omega];exact hs);exact⟨ts,.blank Av3 h1,h2⟩
theorem Lx.spb{D:Str->Prop}{a:Str}{Q:TL->Prop}(h:Lx dlm a Q):Lx D (a++[32]) Q:=λr q us _ hs=>by have hd:dlm (32::r):=Ng (Ayh r);obtain⟨ts,h1,h2⟩:=h (32::r) q us hd (.blank Av3 (by rw[Zh1,Zf1,Zi1] at hs;rw[show q+(a.length:Int)+1=q+((a.length+(0+1):Nat):Int) by omega];exact hs));exact⟨ts,by rw[Zj1];exact h1,h2⟩
def Bpq(k:Int)(s:Str)(n:Int)(ts:TL):Prop:=∃t:Tok,ts=[t]/\t.kind=k/\t.s=s/\t.n=n
def IsW(s:Str)(ts:TL):Prop:=∃t:Tok,ts=[t]/\isT s [t]=true
theorem Lx.one{D:Str->Prop}{w s:Str}{k n:Int}(h:∀r,D r->Ef (w++r)=some (k,s,n,w.length)):Lx D w (Bpq k s n):=λr q _ hr hs =>⟨[⟨k,q,s,n⟩],Atb (h r hr) hs,_,rfl,rfl,rfl,rfl⟩
theorem Bif{k n:Int}{s:Str}(hk:k=1\/k=6){ts:TL}(h:Bpq k s n ts):IsW s ts:=by obtain⟨t,h1,h2,h3,_⟩:=h;refine⟨t,h1,?_⟩;simp only[isT,h2,h3,decide_true,Bool.and_true,Zd2,Zg1];exact hk
theorem Lx.word{w:Str}(h:Lp.wordF w=true):Lx dlm w (IsW w):=(Lx.one λ_ hr=>Acz h hr).mono (λ_ h=>h) (λ_ h=>Bif (.inl rfl) h)
theorem Bmb{c:UInt8}(hc:clsF (c.toNat:Int)=7):c≠120:=λh=>by subst h;exact absurd hc (by decide +kernel)
theorem N9{c:UInt8}{r:Str}(hc:clsF (c.toNat:Int)=7)(h2:Lp.twoS (c::r)=false):Ef ([c]++r)=some (6,[c],0,[c].length):=by
 have hp:Lp.pre (c::r) [120,39]=false:=by simp[Lp.pre,Bmb hc]
 have hc':clsF (Sx.byt (c::r) 0)=7:=hc;show Ef (c::r)=_;unfold Ef;rw[hp,if_neg (by simp),if_neg (by rw[hc'];decide),if_neg (by rw[hc'];decide),if_neg (by rw[hc'];decide),if_neg (by rw[hc'];decide),if_pos hc',h2];rfl
theorem A7t{c d:UInt8}{r:Str}(hc:clsF (c.toNat:Int)=7)(h2:Lp.twoS (c::d::r)=true):Ef ([c,d]++r)=some (6,[c,d],0,[c,d].length):=by
 have hp:Lp.pre (c::d::r) [120,39]=false:=by simp[Lp.pre,Bmb hc]
 have hc':clsF (Sx.byt (c::d::r) 0)=7:=hc;show Ef (c::d::r)=_;unfold Ef;rw[hp,if_neg (by simp),if_neg (by rw[hc'];decide),if_neg (by rw[hc'];decide),if_neg (by rw[hc'];decide),if_neg (by rw[hc'];decide),if_pos hc',h2];rfl
theorem Asm{c:UInt8}(h1:c≠60)(h2:c≠62)(r:Str):Lp.twoS (c::r)=false:=by simp[Lp.twoS,Lp.pre,h1,h2]
theorem Lx.sign{c:UInt8}(hc:clsF (c.toNat:Int)=7)(h1:c≠60)(h2:c≠62):Lx Dj [c] (IsW [c]):=(Lx.one λr _=>N9 hc (Asm h1 h2 r)).mono (λ_ h=>h) (λ_ h=>Bif (.inr rfl) h)
theorem lx40:Lx Dj [40] (IsW [40]):=Lx.sign (by decide +kernel) (by decide) (by decide)
theorem Auy:Lx Dj [41] (IsW [41]):=Lx.sign (by decide +kernel) (by decide) (by decide)
theorem lx44:Lx Dj [44] (IsW [44]):=Lx.sign (by decide +kernel) (by decide) (by decide)
theorem lx45:Lx Dj [45] (IsW [45]):=Lx.sign (by decide +kernel) (by decide) (by decide)
theorem lx42:Lx Dj [42] (IsW [42]):=Lx.sign (by decide +kernel) (by decide) (by decide)
theorem lx61:Lx Dj [61] (IsW [61]):=Lx.sign (by decide +kernel) (by decide) (by decide)
def blD(r:Str):Prop:=∃t,r=32::t
theorem Bm6{k:Int}(h:Ai6 k):Lx blD (sgn k) (IsW (sgn k)):=by
 simp only[Ai6] at h;have hk:k=4\/k=5\/k=6\/k=7\/k=8\/k=9\/k=10\/k=11\/k=12\/k=13\/k=14:=by omega
 have hd:∀r,blD r->dlm r:=λr hr=>by obtain⟨t,rfl⟩:=hr;exact Ng (Ayh t)
 have two:∀c d,clsF (c.toNat:Int)=7->(∀r,Lp.twoS (c::d::r)=true)->Lx blD [c,d] (IsW [c,d]):=λc d hc ht=>(Lx.one λr _=>A7t hc (ht r)).mono (λ_ h=>h) (λ_ h=>Bif (.inr rfl) h);have one:∀c,clsF (c.toNat:Int)=7->(∀r,Lp.twoS (c::32::r)=false)->Lx blD [c] (IsW [c]):=λc hc ht=>(Lx.one λr hr=>by obtain⟨t,rfl⟩:=hr;exact N9 hc (ht t)).mono (λ_ h=>h) (λ_ h=>Bif (.inr rfl) h)
 rcases hk with rfl|rfl|rfl|rfl|rfl|rfl|rfl|rfl|rfl|rfl|rfl
 ·exact(Lx.word (by decide +kernel)).mono hd (λ_ h=>h)
 ·exact(Lx.word (by decide +kernel)).mono hd (λ_ h=>h)
 ·exact one 61 (by decide +kernel) (λr=>by simp[Lp.twoS,Lp.pre])
 ·exact two 60 62 (by decide +kernel) (λr=>by simp[Lp.twoS,Lp.pre])
 ·exact one 60 (by decide +kernel) (λr=>by simp[Lp.twoS,Lp.pre])
 ·exact two 60 61 (by decide +kernel) (λr=>by simp[Lp.twoS,Lp.pre])
 ·exact one 62 (by decide +kernel) (λr=>by simp[Lp.twoS,Lp.pre])
 ·exact two 62 61 (by decide +kernel) (λr=>by simp[Lp.twoS,Lp.pre])
 ·exact one 43 (by decide +kernel) (λr=>by simp[Lp.twoS,Lp.pre])
 ·exact one 45 (by decide +kernel) (λr=>by simp[Lp.twoS,Lp.pre])
 ·exact one 42 (by decide +kernel) (λr=>by simp[Lp.twoS,Lp.pre])
structure isPE (ts:TL) (e:Xpr):Prop where
 ne:ts≠[]
 hn:isT Eg ts=false
 hm:isT [45] ts=false
 hs:isT [42] ts=false
 rd:∀us,Bg orW (ts++us) = .ok (e,us)
def Stop(us:TL):Prop:=Bh us=(0,0)/\isT sIS us=false
def isIn(ts:TL)(e:Xpr):Prop:=∀us,Stop us->orW (ts++us) = .ok (e,us)
def A0b(ts:TL)(e:Xpr):Prop:=∃o ti c:TL,ts=o++(ti++c)/\IsW [40] o/\IsW [41] c/\isIn ti e
theorem Nz{k h:Nat}{e:Xpr}{us:TL}(hs:Stop us):C6 VV k (e,h,us)=none:=K6 (λq=>by rw[hs.2] at q;cases q.1) (.inl (by rw[hs.1]))
theorem Bd5{s w:Str}{t:Tok}{r:TL}(h:isT s [t]=true)(hw:¬w=s):isT w (t::r)=false:=by simp only[isT,Zb1,Zg1] at h;simp only[isT,Bool.and_eq_false_iff,decide_eq_false_iff_not];exact .inr λe=>hw (e.symm.trans h.2)
theorem Acb{s w:Str}{o:TL}(h:IsW s o)(hw:¬w=s)(r:TL):isT w (o++r)=false:=by obtain⟨t,rfl,h⟩:=h;exact Bd5 h hw
theorem Dt{s:Str}{o:TL}(h:IsW s o)(r:TL):isT s (o++r)=true:=by obtain⟨t,rfl,h⟩:=h;exact h
theorem Dk{s:Str}{o:TL}(h:IsW s o)(r:TL):(o++r).tail=r:=by obtain⟨t,rfl,h⟩:=h;rfl
theorem Blf{s:Str}{o:TL}(h:IsW s o):o≠[]:=by obtain⟨t,rfl,h⟩:=h;simp
theorem A6i{s:Str}{o:TL}(h:IsW s o)(r:TL):Bh (o++r)=bindS s:=by obtain⟨t,rfl,h⟩:=h;simp only[isT,Zb1,Zg1] at h;show Bh (t::r)=_;simp only[Bh,h.1,h.2]
theorem Azu{s:Str}{o:TL}(h:IsW s o)(h1:bindS s=(0,0))(h2:¬sIS=s)(r:TL):Stop (o++r):=⟨by rw[A6i h,h1],Acb h h2 r⟩
theorem Uo{ts:TL}{e:Xpr}(h:isPE ts e){k:Nat}(h1 : 1<=k)(h7:k<=7){us:TL}(hs:Stop us):VV k (ts++us) = .ok (e,us):=by
 rw[<-Axb h1 h7];have hp:I6 VV k (ts++us) = .ok (e,7,us):=by simp only[I6,Bz h.ne,h.hn,h.hm,Bool.false_and,Nq,h.rd us]
 have hl:Cj VV k (us.length+1) (e,7,us) = .ok (e,7,us):=Ft (Nz hs);simp only[exB,exT,hp,Z5,hl]
theorem Bq3{t1 t2 o:TL}{a b:Xpr}{s:Str}{p:Nat}{k:Int}(h1:isPE t1 a)(h2:isPE t2 b)(ho:IsW s o)(hb:bindS s=(p,k))(hp : 1<=p)(hi:¬sIS=s):isIn (t1++(o++t2)) (mkX k [a,b]):=λus hs=>by
 have hle:p<=6:=by have:=(A5j s).1;rw[hb] at this;exact this
 rw[<-Nq,<-Axb (by omega) (by omega),Zj1,Zj1];have hpr:I6 VV 1 (t1++(o++(t2++us))) = .ok (a,7,o++(t2++us)):=by simp only[I6,Bz h1.ne,h1.hn,h1.hm,Bool.false_and,Nq,h1.rd]
 have hst:C6 VV 1 (a,7,o++(t2++us))=some (.ok (mkX k [a,b],p,us)):=by simp only[C6,A6i ho,hb,Acb ho hi,Dk ho,Uo h2 (show 1<=p+1 by omega) (show p+1<=7 by omega) hs];rw[if_neg (by simp),if_neg (by omega)]
 obtain⟨n,hn⟩:∃n,(o++(t2++us)).length=n+1:=⟨(o++(t2++us)).length-1,by have:=List.length_pos_iff.2 (Blf ho);simp only[Zh1];omega⟩
 have hl:Cj VV 1 ((o++(t2++us)).length+1) (a,7,o++(t2++us)) = .ok (mkX k [a,b],p,us):=by rw[hn];simp only[Cj,hst];exact Ft (Nz hs)
 simp only[exB,exT,hpr,Z5,hl]
theorem Bnl{t o:TL}{a:Xpr}(h:isPE t a)(ho:IsW Eg o):isIn (o++t) (mkX 3 [a]):=λus hs=>by
 rw[<-Nq,<-Axb (by omega) (by omega),Zj1];have hpr:I6 VV 1 (o++(t++us)) = .ok (mkX 3 [a],3,us):=by simp only[I6,Dt ho,Dk ho,Uo h (show 1<=3 by omega) (show 3<=7 by omega) hs];rfl
 have hl:Cj VV 1 (us.length+1) (mkX 3 [a],3,us) = .ok (mkX 3 [a],3,us):=Ft (Nz hs);simp only[exB,exT,hpr,Z5,hl]
theorem Bm1{t o:TL}{a:Xpr}(h:isPE t a)(ho:IsW [45] o):isIn (o++t) (mkX 15 [a]):=λus hs=>by
 rw[<-Nq,<-Axb (by omega) (by omega),Zj1];have hpr:I6 VV 1 (o++(t++us)) = .ok (mkX 15 [a],7,us):=by simp only[I6,Acb ho (show ¬Eg=[45] by decide),Bool.false_and,Dt ho,Dk ho,Uo h (show 1<=7 by omega) (show 7<=7 by omega) hs]
 have hl:Cj VV 1 (us.length+1) (mkX 15 [a],7,us) = .ok (mkX 15 [a],7,us):=Ft (Nz hs);simp only[exB,exT,hpr,Z5,hl]
theorem Bn6{t o p:TL}{a:Xpr}(h:isPE t a)(ho:IsW sIS o)(hp:IsW B5 p):isIn (t++(o++p)) (mkX 16 [a]):=λus hs=>by
 rw[<-Nq,<-Axb (by omega) (by omega),Zj1,Zj1];have hpr:I6 VV 1 (t++(o++(p++us))) = .ok (a,7,o++(p++us)):=by simp only[I6,Bz h.ne,h.hn,h.hm,Bool.false_and,Nq,h.rd]
 have hst:C6 VV 1 (a,7,o++(p++us))=some (.ok (mkX 16 [a],4,us)):=by simp only[C6,Dt ho,isP,Dk ho,Acb hp (show ¬Eg=B5 by decide),Dt hp,Dk hp];rfl
 obtain⟨n,hn⟩:∃n,(o++(p++us)).length=n+1:=⟨(o++(p++us)).length-1,by have:=List.length_pos_iff.2 (Blf ho);simp only[Zh1];omega⟩
 have hl:Cj VV 1 ((o++(p++us)).length+1) (a,7,o++(p++us)) = .ok (mkX 16 [a],4,us):=by rw[hn];simp only[Cj,hst];exact Ft (Nz hs)
 simp only[exB,exT,hpr,Z5,hl]
theorem A6h{ts:TL}{e:Xpr}(h:A0b ts e):isPE ts e:=by
 obtain⟨o,ti,c,rfl,ho,hc,hi⟩:=h;refine⟨λe=>Blf ho (List.append_eq_nil_iff.1 e).1,Acb ho (by decide) _,Acb ho (by decide) _,Acb ho (by decide) _,λus =>?_⟩;have h1:=hi (c++us) (Azu hc (by decide) (by decide) us);have hb:isT [41] (c++us)=true:=Dt hc us;have ht:(c++us).tail=us:=Dk hc us;obtain⟨t,rfl,h0⟩:=ho;have hs:t.s=[40]/\(t.kind=1\/t.kind=6):=by simp only[isT,Zb1,Zd2,Zg1] at h0;exact⟨h0.2,h0.1⟩
 have n:∀w:Str,¬w=[40]->¬(t.kind=1/\t.s=w):=λw hw q=>hw (q.2.symm.trans hs.1);show Bg orW (t::((ti++c)++us))=_;have h2:isT [40] (t::((ti++c)++us))=true:=h0;simp only[Bg];rw[if_neg (by omega),if_neg (by omega),if_neg (by omega),if_neg (by omega),if_neg (n _ (by decide)),if_neg (n _ (by decide)),if_neg (n _ (by decide)),if_pos h2,Zj1,h1];simp only[if_pos hb,ht]
theorem Uw{v:Val}{k n:Int}{s:Str}(h1:v.kind=k)(h2:v.n=n)(h3:v.s=s):v=⟨k,n,s⟩:=by cases v;simp only at h1 h2 h3;rw[h1,h2,h3]
theorem A1a{v:Val}(h:B7 v=true)(hk:v.kind=2):(v.n=0\/v.n=1)/\v.s=[]:=by
 simp[B7,hk] at h;by_cases h0:v.n=0
 ·simp[h0] at h;exact⟨.inl h0,h⟩
 ·by_cases h1:v.n=1
  ·simp[h1] at h;exact⟨.inr h1,h⟩
  ·simp[h0,h1] at h
theorem Blc{e:Xpr}{m:Int}(h:Bc e m=true)(hb:BdExpr e)(hk:e.kind=1\/e.kind=2):Lx dlm (etx e) (λts=>isPE ts e):=by
 obtain⟨_,ho,_⟩:=Gs h;have hl:=A6o h hk;rw[Ayj];rcases hk with k1|k2
 ·rw[if_pos k1];obtain⟨h1,h2,h3⟩:=A5g ho k1;have hn:=(Bqk hb).1.2.1;simp only[inI] at hn;refine(Lx.one λr hr=>Bde h1 (λhk=>⟨h2 hk,hn.2⟩) hr).mono (λ_ h=>h) (λts hts =>?_);obtain⟨t,rfl,a1,a2,a3⟩:=hts;have ee:e = .mk 1 e.v [] []:=by cases e;simp only[Xpr.kind,Xpr.name,Xpr.l] at k1 h3 hl;simp only[Xpr.v];rw[k1,h3,hl]
  have fin:∀(k n:Int) (s:Str),e.v=⟨k,n,s⟩->((t.kind=1/\(t.s=B5\/t.s=R7\/t.s=Kc))\/t.kind=3\/t.kind=4\/t.kind=5)->(∀us,Bg orW (t::us) = .ok (R1 k n s,us))->isPE [t] e:=λk n s hv hk hr=>by
   have no:∀w:Str,¬w=B5->¬w=R7->¬w=Kc->isT w [t]=false:=λw w1 w2 w3=>by
    simp only[isT,Bool.and_eq_false_iff,Bool.or_eq_false_iff,decide_eq_false_iff_not];rcases hk with ⟨_,q|q|q⟩|q
    ·exact .inr λe=>w1 (e.symm.trans q)
    ·exact .inr λe=>w2 (e.symm.trans q)
    ·exact .inr λe=>w3 (e.symm.trans q)
    ·exact .inl ⟨by omega,by omega⟩
   refine⟨by simp,no _ (by decide) (by decide) (by decide),no _ (by decide) (by decide) (by decide),no _ (by decide) (by decide) (by decide),λus =>?_⟩;rw[ee,hv];exact hr us
  rcases Aey h1 with hk|hk|hk|hk|hk
  ·obtain⟨b1,b2⟩:=A0f h1 hk;have e1:Bo e.v=B5:=by simp[Bo,h1,hk,B5]
   have e2:L9 e.v=(1,B5,0):=by simp[L9,hk,e1]
   rw[e2] at a1 a2;refine fin 1 0 [] (Uw hk b1 b2) (.inl ⟨a1,.inl a2⟩) (λus =>?_);simp only[Bg,a1,a2];rfl
  ·obtain⟨b1,b2⟩:=A1a h1 hk;have e2:L9 e.v=(1,Bo e.v,0):=by simp[L9,hk]
   have e1:Bo e.v=if e.v.n=0 then [70,65,76,83,69] else [84,82,85,69]:=by simp[Bo,h1,hk]
   rw[e2] at a1 a2;rcases b1 with b1|b1
   ·have e3:Bo e.v=Kc:=by rw[e1,if_pos b1];rfl
    rw[e3] at a2;refine fin 2 0 [] (Uw hk b1 b2) (.inl ⟨a1,.inr (.inr a2)⟩) (λus =>?_);simp only[Bg,a1,a2];rfl
   ·have e3:Bo e.v=R7:=by rw[e1,if_neg (by omega)];rfl
    rw[e3] at a2;refine fin 2 1 [] (Uw hk b1 b2) (.inl ⟨a1,.inr (.inl a2)⟩) (λus =>?_);simp only[Bg,a1,a2];rfl
  ·have b2:e.v.s=[]:=by simpa[B7,hk] using h1
   have e2:L9 e.v=(3,Nh e.v.n.natAbs,e.v.n):=by simp[L9,hk]
   rw[e2] at a1 a3;refine fin 3 e.v.n [] (Uw hk rfl b2) (.inr (.inl a1)) (λus =>?_);simp only[Bg,a1,a3];rfl
  ·have b1:=(Afs h1 hk).2;have e2:L9 e.v=(4,e.v.s,0):=by simp[L9,hk]
   rw[e2] at a1 a2;refine fin 4 0 e.v.s (Uw hk b1 rfl) (.inr (.inr (.inl a1))) (λus =>?_);simp only[Bg,a1,a2];rfl
  ·have b1:=(Zj h1 hk).2;have e2:L9 e.v=(5,e.v.s,0):=by simp[L9,hk]
   rw[e2] at a1 a2;refine fin 5 0 e.v.s (Uw hk b1 rfl) (.inr (.inr (.inr a1))) (λus =>?_);simp only[Bg,a1,a2];rfl
 ·rw[if_neg (by omega),if_pos k2];obtain⟨h1,h2⟩:=Awi ho k2;have h1':Lp.rnameF e.name=true:=by have h1:Lp.nameF e.name=true:=h1;rw[Lp.name_eq] at h1;exact h1
  refine(Lx.one λr hr=>Ane h1' hr).mono (λ_ h=>h) (λts hts =>?_);obtain⟨t,rfl,a1,a2,a3⟩:=hts;have no:∀w:Str,isT w [t]=false:=λw=>by simp only[isT,a1];rfl
  refine⟨by simp,no _,no _,no _,λus =>?_⟩;have ee:e = .mk 2 ⟨0,0,[]⟩ e.name []:=by cases e;simp only[Xpr.kind,Xpr.v,Xpr.l] at k2 h2 hl;simp only[Xpr.name];rw[k2,h2,hl]
  show Bg orW (t::us)=_;simp only[Bg,a1,a2];rw[ee];rfl
theorem Bah{k:Int}(h:Ai6 k):∃p,bindS (sgn k)=(p,k)/\1<=p:=by
 simp only[Ai6] at h;have hk:k=4\/k=5\/k=6\/k=7\/k=8\/k=9\/k=10\/k=11\/k=12\/k=13\/k=14:=by omega
 rcases hk with rfl|rfl|rfl|rfl|rfl|rfl|rfl|rfl|rfl|rfl|rfl<;>exact⟨_,rfl,by decide⟩
theorem Bnz{k:Int}(h:Ai6 k):¬sIS=sgn k:=by
 simp only[Ai6] at h;have hk:k=4\/k=5\/k=6\/k=7\/k=8\/k=9\/k=10\/k=11\/k=12\/k=13\/k=14:=by omega
 rcases hk with rfl|rfl|rfl|rfl|rfl|rfl|rfl|rfl|rfl|rfl|rfl<;>decide
theorem A0g:∀(n:Nat) (e:Xpr) (m:Int),Bf e<=n->Bc e m=true->BdExpr e->Lx dlm (etx e) (λts=>isPE ts e/\(e.kind=1\/e.kind=2\/A0b ts e))
 |0,e,_,h,_,_=>by have:=F4 e;omega
 |n+1,e,m,hn,he,hb=>by
  have ih:∀x,x∈e.l->Lx dlm (etx x) (λts=>isPE ts x):=λx hx=>by obtain⟨m1,h1⟩:=Apq he hx;refine(A0g n x m1 ?_ h1 ((Am9 hb).2 x hx)).mono (λ_ h=>h) (λ_ h=>h.1);have:=Fl hx;rw[Iy] at hn;omega
  have dm41:∀r,Dj r->dlm ([41]++r):=λr _=>Ng (Bqt r);have any:∀{D:Str->Prop}(r:Str),D r->Dj r:=λ_ _=>trivial;have sh:=Aw0 he;cases sh with|atom _ hk=>exact(Blc he hb hk).mono (λ_ h=>h) (λ_ h=>⟨h,hk.imp_right λq =>.inl q⟩)|not x =>rw[A24];have h:=lx40.app (((Lx.word (w:=Eg) Awm).app ((ih x Zr1).sp.app Auy dm41) (λr _=>Ng (Ayh _)))) (λr _=>trivial);refine(show Lx Dj _ _ from h).mono (λ_ _=>trivial) (λts hts =>?_);obtain⟨o,t1,rfl,ho,w,t2,rfl,hw,tx,c,rfl,hx,hc⟩:=hts;have hbr:A0b (o++(w++(tx++c))) (mkX 3 [x]):=⟨o,w++tx,c,by simp only[Zj1],ho,hc,Bnl hx hw⟩;exact⟨A6h hbr,.inr (.inr hbr)⟩|neg x =>rw[A32];have h:=lx40.app (lx45.app ((ih x Zr1).app Auy dm41) (λr _=>trivial)) (λr _=>trivial);refine(show Lx Dj _ _ from h).mono (λ_ _=>trivial) (λts hts =>?_);obtain⟨o,t1,rfl,ho,w,t2,rfl,hw,tx,c,rfl,hx,hc⟩:=hts;have hbr:A0b (o++(w++(tx++c))) (mkX 15 [x]):=⟨o,w++tx,c,by simp only[Zj1],ho,hc,Bm1 hx hw⟩;exact⟨A6h hbr,.inr (.inr hbr)⟩|isn x =>rw[A33];have h:=lx40.app ((ih x Zr1).app (((Lx.word (w:=sIS) (by decide +kernel)).app (((Lx.word (w:=B5) (by decide +kernel)).app Auy dm41).sp) (λr _=>Ng (Ayh _))).sp) (λr _=>Ng (Ayh _))) (λr _=>trivial);refine(show Lx Dj _ _ from h).mono (λ_ _=>trivial) (λts hts =>?_);obtain⟨o,t1,rfl,ho,tx,t2,rfl,hx,w,t3,rfl,hw,v,c,rfl,hv,hc⟩:=hts;have hbr:A0b (o++(tx++(w++(v++c)))) (mkX 16 [x]):=⟨o,tx++(w++v),c,by simp only[Zj1],ho,hc,Bn6 hx hw hv⟩;exact⟨A6h hbr,.inr (.inr hbr)⟩|op k x y hk =>rw[Bc9 hk];have h:=lx40.app ((ih x Zr1).app (((Bm6 hk).app (((ih y (Zu1 _ Zr1)).app Auy dm41).sp) (λr _=>⟨_,rfl⟩)).sp) (λr _=>Ng (Ayh _))) (λr _=>trivial);refine(show Lx Dj _ _ from h).mono (λ_ _=>trivial) (λts hts =>?_);obtain⟨o,t1,rfl,ho,tx,t2,rfl,hx,w,t3,rfl,hw,ty,c,rfl,hy,hc⟩:=hts;obtain⟨p,hp,hp1⟩:=Bah hk;have hbr:A0b (o++(tx++(w++(ty++c)))) (mkX k [x,y]):=⟨o,tx++(w++ty),c,by simp only[Zj1],ho,hc,Bq3 hx hy hw hp hp1 (Bnz hk)⟩;exact⟨A6h hbr,.inr (.inr hbr)⟩
def Rd{α:Type}(p:TL->PR α)(D:Str->Prop)(S T:TL->Prop)(a:Str)(x : α):Prop:=Lx D a λts=>∀vs,S vs->T (ts++vs)/\p (ts++vs) = .ok (x,vs)
def C2(_:TL):Prop:=True
section
variable {α β:Type}{p:TL->PR α}{D D1 D2:Str->Prop}{S S1 S2 T T1 T2:TL->Prop}{a b:Str}{x : α}{y : β}
theorem Rd.bind{f : α->TL->PR β}(h1:Rd p D1 S1 T1 a x)(h2:Rd (f x) D2 S2 T2 b y)(hd:∀r,D2 r->D1 (b++r))(hs:∀l,T2 l->S1 l):Rd (bP p f) D2 S2 T1 (a++b) y :=(Lx.app h1 h2 hd).mono (λ_ h=>h) λts ⟨t1,t2,e,q1,q2⟩ vs hv=>by subst e;obtain⟨a1,a2⟩:=q2 vs hv;obtain⟨b1,b2⟩:=q1 (t2++vs) (hs _ a1);rw[Zj1];refine⟨b1,?_⟩;simp only[bP,b2,a2]
theorem Rd.map{g : α->β}(h:Rd p D S T a x):Rd (bP p λx=>Bd (g x)) D S T a (g x) :=Lx.mono h (λ_ h=>h) λ_ q vs hv=>⟨(q vs hv).1,by simp only[bP,(q vs hv).2];rfl⟩
theorem Rd.mono(h:Rd p D1 S1 T1 a x)(hd:∀r,D2 r->D1 r)(hs:∀l,S2 l->S1 l)(ht:∀l,T1 l->T2 l):Rd p D2 S2 T2 a x :=Lx.mono h hd λ_ q vs hv=>⟨ht _ (q vs (hs vs hv)).1,(q vs (hs vs hv)).2⟩
end
def hdW(w:Str)(l:TL):Prop:=isT w l=true
def No(W:List Str)(l:TL):Prop:=∀w,w∈W->isT w l=false
theorem Ae2{w:Str}{W:List Str}(hw:¬w∈W){l:TL}(h:hdW w l):No W l:=λv hv=>by cases l with|nil=>rfl|cons t r =>simp only[hdW,isT,Zb1,Zg1] at h;simp only[isT,Bool.and_eq_false_iff,decide_eq_false_iff_not];exact .inr λe=>hw (by rw[<-h.2,e];exact hv)
theorem Ag6{w:Str}(h1:bindS w=(0,0))(h2:¬sIS=w){l:TL}(h:hdW w l):Stop l:=by cases l with|nil=>cases h|cons t r=>exact Azu (o:=[t]) ⟨t,rfl,h⟩ h1 h2 r
theorem V4{W V:List Str}(h:∀w,w∈V->w∈W){l:TL}(hl:No W l):No V l:=λw hw=>hl w (h w hw)
theorem Be3:Stop []:=⟨rfl,rfl⟩
theorem Bm5(W:List Str):No W []:=λ_ _=>rfl
theorem Ec{w a:Str}{D:Str->Prop}(h:Lx D a (IsW w)):Rd (A4 [w]) D C2 (hdW w) a () :=h.mono (λ_ h=>h) λts q vs _=>⟨Dt q vs,by simp only[A4,Dt q,Dk q]⟩
theorem Kl{α:Type}{w a b:Str}{D D':Str->Prop}{S T:TL->Prop}{p q:TL->PR α}{x : α}(h:Lx D a (IsW w))(hb:Rd p D' S T b x)(hd:∀r,D' r->D (b++r)):Rd (λl=>match isT w l with|true=>p l.tail|false=>q l) D' S (hdW w) (a++b) x :=(Lx.app h hb hd).mono (λ_ h=>h) λts ⟨t1,t2,e,q1,q2⟩ vs hv=>by subst e;rw[Zj1];exact⟨Dt q1 _,by simp only[Dt q1,Dk q1];exact(q2 vs hv).2⟩
theorem D9{α:Type}{w b:Str}{D:Str->Prop}{S T:TL->Prop}{p q:TL->PR α}{x : α}(hb:Rd q D S T b x)(hT:∀l,T l->isT w l=false):Rd (λl=>match isT w l with|true=>p l.tail|false=>q l) D S T b x :=Lx.mono hb (λ_ h=>h) λts q2 vs hv=>by obtain⟨h1,h2⟩:=q2 vs hv;exact⟨h1,by simp only[hT _ h1];exact h2⟩
def noW(l:TL):Prop:=∀w,isT w l=false
theorem F9{s:Str}(h:Be s=true):Rd Bj dlm C2 noW s s:=by
 have h1:Lp.nameF s=true:=h;rw[Lp.name_eq] at h1;refine(Lx.one λr hr=>Ane h1 hr).mono (λ_ h=>h) λts hts vs _ =>?_;obtain⟨t,rfl,a1,a2,_⟩:=hts;refine⟨λw =>?_,?_⟩
 ·show isT w (t::vs)=false;simp only[isT,a1];rfl
 ·show Bj (t::vs)=_;simp only[Bj,a1,a2,decide_true]
theorem Bhg{e:Xpr}(h:RX e):Rd orW dlm Stop (λl=>isT [42] l=false) (etx e) e :=(A0g (Bf e) e 30 (Zn1 _) h.1 h.2).mono (λ_ h=>h) λts q vs hv=>⟨(Bz q.1.ne _ _).trans q.1.hs,by rw[<-Nq];exact Uo q.1 (by omega) (by omega) hv⟩
theorem Asb{α:Type}{part:TL->PR α}{f : α->Str}{D:Str->Prop}{S T:TL->Prop}(hD:∀t,D (44::32::t))(hS:∀l,hdW [44] l->S l):∀l:List α,(∀x,x∈l->Rd part D S T (f x) x)->Lx D (Fa f l) λts=>∀vs,S vs/\isT [44] vs=false->S (ts++vs)/\∀k acc,(ts++vs).length<k->A5 part k acc (ts++vs) = .ok (acc++l,vs)
 |[],_=>Lx.nil λvs hv=>⟨hv.1,λk acc hk=>by obtain⟨k,rfl⟩:∃k',k=k'+1:=⟨k-1,by omega⟩;simp only[Zf2,A5,hv.2,List.append_nil]⟩
 |x::l,h=>by
  have hx:=h x Zr1;have ih:=Asb hD hS l λy hy=>h y (Zu1 _ hy);have hd:∀r,D r->D (Fa f l++r):=λr hr=>by cases l with|nil=>exact hr|cons y l=>exact hD _
  have e:Fa f (x::l)=[44]++(32::(f x++Fa f l)):=by simp[Fa]
  rw[e];refine(lx44.app (Lx.sp (Lx.app hx ih hd)) (λ_ _=>trivial)).mono (λ_ h=>h) λts hts vs hv =>?_;obtain⟨c,t1,rfl,hc,tx,tr,rfl,q1,q2⟩:=hts;obtain⟨r1,r2⟩:=q2 vs hv;obtain⟨_,p2⟩:=q1 (tr++vs) r1;refine⟨by rw[Zj1];exact hS _ (Dt hc _),λk acc hk =>?_⟩;obtain⟨k,rfl⟩:∃k',k=k'+1:=⟨k-1,by omega⟩;have hcl:=List.length_pos_iff.2 (Blf hc);simp only[Zh1] at hk;simp only[Zj1,A5,Dt hc,Dk hc,p2];rw[r2 k (acc++[x]) (by simp only[Zh1];omega)];simp
theorem Ze{α:Type}{part:TL->PR α}{f : α->Str}{D:Str->Prop}{S T:TL->Prop}(hD:∀t,D (44::32::t))(hS:∀l,hdW [44] l->S l){l:List α}(hl:l≠[])(h:∀x,x∈l->Rd part D S T (f x) x):Rd (F8 part) D (λl=>S l/\isT [44] l=false) T (Br f l) l:=by
 cases l with
 |nil=>exact absurd rfl hl
 |cons x l =>
  have hx:=h x Zr1;have ht:=Asb hD hS l λy hy=>h y (Zu1 _ hy);have hd:∀r,D r->D (Fa f l++r):=λr hr=>by cases l with|nil=>exact hr|cons y l=>exact hD _
  refine(Lx.app hx ht hd).mono (λ_ h=>h) λts hts vs hv =>?_;obtain⟨tx,tr,rfl,q1,q2⟩:=hts;obtain⟨r1,r2⟩:=q2 vs hv;obtain⟨p1,p2⟩:=q1 (tr++vs) r1;rw[Zj1];refine⟨p1,?_⟩;simp only[F8,p2];rw[r2 _ [x] (by omega)];rfl
theorem Eh{D:Str->Prop}:∀r,D r->Dj r:=λ_ _=>trivial
theorem B1{S:TL->Prop}:∀l,S l->C2 l:=λ_ _=>trivial
theorem Abh(t:Str):dlm (32::t):=Ng (Ayh t)
theorem dm41(t:Str):dlm (41::t):=Ng (Bqt t)
theorem Azb(t:Str):dlm (44::t):=Ng (Brg t)
theorem Auz{l:List Str}(hl:l≠[])(h:∀x,x∈l->Be x=true):Rd Ns Dj C2 (hdW [40]) (nmT l) l:=by unfold nmT;rw[Vs];refine(Ec lx40).bind (D2:=Dj) (T2:=noW) ?_ Eh B1;refine(Ze (S:=C2) (λ_=>Azb _) B1 hl λx hx=>F9 (h x hx)).bind (T2:=hdW [41]) ?_ (λr _=>dm41 _) (λl hl=>⟨trivial,Ae2 (W:=[[44]]) (by decide) hl _ (by simp)⟩);exact(Ec Auy).map
theorem Bbb{l:TL}(h:hdW [44] l):Stop l:=Ag6 (by decide) (by decide) h
theorem Boq{l:TL}(h:hdW [41] l):Stop l:=Ag6 (by decide) (by decide) h
theorem Bqw{w:Str}(hw:¬w=[44]){l:TL}(h:hdW w l):isT [44] l=false:=Ae2 (W:=[[44]]) (by simpa using hw) h _ (by simp)
theorem At6{l:List Xpr}(hl:l≠[])(h:∀x,x∈l->RX x):Rd P5 dlm (λl=>Stop l/\isT [44] l=false) (λl=>isT [42] l=false) (Br etx l) l :=Ze (λ_=>Azb _) (λ_ h=>Bbb h) hl λx hx=>Bhg (h x hx)
theorem Boi{l:List Xpr}(hl:l≠[])(h:∀x,x∈l->RX x):Rd Az0 Dj C2 (hdW [40]) (Agm l) l:=by unfold Agm;refine(Ec lx40).bind (D2:=Dj) (T2:=λl=>isT [42] l=false) ?_ Eh B1;refine(At6 hl h).bind (T2:=hdW [41]) ?_ (λr _=>dm41 _) (λl hl=>⟨Boq hl,Bqw (by decide) hl⟩);exact(Ec Auy).map
end Go.Proofs.YthndhaolemgbdaaGreatDoor
