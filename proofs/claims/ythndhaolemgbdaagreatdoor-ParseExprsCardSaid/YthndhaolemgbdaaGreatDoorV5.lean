/- Texts of the proof,one behind the other: Sr,Dg,Nc,Eb,Fc,Es,En,Ep,Ac,Ad,Pg,Ph,Pj,Bw,Shj,Sj,Wr. -/
import Derived.Test.YthndhaolemgbdaaGreatDoorV4
import Derived.Lib.Walk
import Derived.Lib.Strings
import Derived.Lib.Slices
import Derived.Lib.Builder
import Derived.Lib.UnsafeStr
import Derived.Lib.FrozenHead
import Derived.Laws.Externs
import Derived.Shelf.RegionOpenPlain
import Derived.Shelf.Strings.OnBuilder
set_option linter.all false
namespace Go.Proofs.YthndhaolemgbdaaGreatDoor
open Go.Ax
def Aep(s old new:Str):Option Str:=cond (decide (s.length<4294967281)&&decide (1≤old.length)&&decide (s.length+Lib.count s old*new.length≤140737488355328)&&decide ((Lib.replaceAll s old new).length≤maxLen)) (some (Lib.replaceAll s old new)) none
def Adv:FT [.str,.str,.str] [.str]:=fun x=>Aep x.1 x.2.1 x.2.2
theorem A1i:FO 150 [.str,.str,.str] [.str] Adv:=by
 refine⟨Sx.enters_of Tryz.func150 rfl (by kernel_rfl),fun x r hx w M vs hM hgl hr =>?_⟩
 obtain⟨s,old,new⟩:=x
 simp only [Adv,Aep] at hx
 cases hc:decide (s.length<4294967281)&&decide (1≤old.length)&&decide (s.length+Lib.count s old*new.length≤140737488355328)&&decide ((Lib.replaceAll s old new).length≤maxLen) with
 |false=>rw [hc] at hx;cases hx
 |true =>
  rw [hc] at hx
  have hx:some (Lib.replaceAll s old new)=some r:=hx
  simp only [Za1] at hx
  subst hx
  simp only [Zb1,Zg1] at hc
  obtain⟨⟨⟨h1,h2⟩,h3⟩,h4⟩:=hc
  simp only [B2,Cm,Reps,Rep] at hr
  obtain⟨u,us,rfl,⟨rfl,_⟩,u2,us2,rfl,⟨rfl,_⟩,u3,us3,rfl,⟨rfl,_⟩,rfl⟩:=hr
  obtain⟨m,hm⟩:=hgl.2.2 3 .i64 rfl
  have c:=Any.strings_ReplaceAll Tryz.laysRA Tryz.extraRA ⟨s.toArray⟩ ⟨old.toArray⟩ ⟨new.toArray⟩ m w (by simpa [ByteArray.size] using h1) (hm w (Chg.refl _ _)) (by simpa [ByteArray.size] using h2) (by simpa [ByteArray.size,Lib.countB] using h3)
  refine Calls.mono (show Calls Tryz.prog 150 _ w _ from c) ?_
  rintro en w' ⟨rfl,hb⟩
  refine⟨_,⟨fun _=>0,fun _=>Option.none⟩,rfl,Chg.of_below hb,fun p g o hp=>(by simp [Bd] at hp),fun p q g o o2 hp=>(by simp [Bd] at hp),?_⟩
  simp only [I9,B2,Cm,Rep]
  exact⟨by simp,h4⟩
end Go.Proofs.YthndhaolemgbdaaGreatDoor
namespace Go.Proofs.YthndhaolemgbdaaGreatDoor
open Go.Ax
def pw:Nat→Int
 |0=>1
 |n+1=>10*pw n
def val:List Int→Int
 |[]=>0
 |x::l=>x+10*val l
def dg(l:List Int):Bool:=l.all fun x=>decide (0≤x)&&decide (x≤9)
def Nu(n:Nat):List Int:=if h:n=0 then [] else((n % 10:Nat):Int)::Nu (n / 10)
termination_by n
decreasing_by omega
theorem H2:Nu 0=[]:=by rw [Nu];simp
theorem Vl{n:Nat}(h:¬n=0):Nu n=((n % 10:Nat):Int)::Nu (n / 10):=by rw [Nu];simp [h]
theorem Ar9:∀(k n:Nat),(n:Int)<pw k→(Nu n).length≤k
 |0,n,h=>by
  have:n=0:=by simp only [pw] at h;omega
  subst this;rw [H2];exact Zn1 _
 |k+1,n,h=>by
  by_cases h0:n=0
  ·subst h0;rw [H2];simp
  ·have:=Ar9 k (n / 10) (by simp only [pw] at h;omega)
   rw [Vl h0]
   simp only [Zf1]
   omega
end Go.Proofs.YthndhaolemgbdaaGreatDoor
namespace Go.Proofs.YthndhaolemgbdaaGreatDoor
open Go.Ax
abbrev hexL:Str:=[48,49,50,51,52,53,54,55,56,57,97,98,99,100,101,102]
def A3m(n:Nat):Str:=[hexL.getD (n / 16) 0,hexL.getD (n % 16) 0]
def Aoh(s:Str):Str:=s.flatMap fun b=>A3m b.toNat
def Bi2(n:Nat):Bool:=inb (Ha .u8 (n:Int) 4) 16&&inb (Ht .u8 (n:Int) 15) 16&&decide ([(UInt8.ofNat ((bat hexL (Ha .u8 (n:Int) 4)):Int).toNat),(UInt8.ofNat ((bat hexL (Ht .u8 (n:Int) 15)):Int).toNat)]=A3m n)
theorem Ben:((List.range 256).all Bi2)=true:=by kernel_rfl
theorem hx(b:UInt8):inb (Ha .u8 (b.toNat:Int) 4) 16=true∧inb (Ht .u8 (b.toNat:Int) 15) 16=true∧[(UInt8.ofNat ((bat hexL (Ha .u8 (b.toNat:Int) 4)):Int).toNat),(UInt8.ofNat ((bat hexL (Ht .u8 (b.toNat:Int) 15)):Int).toNat)]=A3m b.toNat:=by
 have h:=Zg2.1 Ben b.toNat (List.mem_range.2 b.toNat_lt)
 simp only [Bi2,Zb1,Zg1] at h
 exact⟨h.1.1,h.1.2,h.2⟩
theorem Ars(s:Str):(Aoh s).length=2*s.length:=by
 induction s with
 |nil=>rfl
 |cons b l ih=>simp only [Aoh,List.flatMap_cons,A3m,Zh1,Zf1,Zi1] at ih ⊢;omega
def Ai6:Sig:=⟨26,[(0,.str),(3,.sl .byte true),(6,.int .i64),(7,.int .i64)],[],[],0,0,0,[],[]⟩
abbrev Xs:=Str×List UInt8×Int×Int
def Zv{R:Type}(rec:Xs→Option R) (kx:Ex→Xs→Option R) (v:Xs):Option R:=match v with
 |(v,v1,v2,v3) =>
 cond (decide (v3<v2)) (
  chk (inb v3 v.length) (
  chk (inb (Ha .u8 (bat v v3) 4) 16) (
   chk (inb v3 v.length) (
   chk (inb (Ht .u8 (bat v v3) 15) 16) (
    chk (decide (v1.length+2≤Av)) (
    rec (v,(v1++[(UInt8.ofNat ((bat [48,49,50,51,52,53,54,55,56,57,97,98,99,100,101,102] (Ha .u8 (bat v v3) 4)):Int).toNat),(UInt8.ofNat ((bat [48,49,50,51,52,53,54,55,56,57,97,98,99,100,101,102] (Ht .u8 (bat v v3) 15)):Int).toNat)]),v2,(wr .i64 (v3+1))))))))) (
  kx (.exit 0) (v,v1,v2,v3))
def Ayx(R:Type) (k:Nat):Px R:=pxO [] [] [(3,Ao k Ai6 (Zv))] []
def Ajx(k:Nat) (x:HV [.str]):Option (HV [.str]):=match x with
 |s =>
 Al (fun rec=>Zv rec (fun e vz=>match vz with|(_,v5,_,_)=>match e with
  |.exit 0 =>
  some v5
  |_=>none)) k (s,[],(s.length:Int),0)
theorem A9u(k:Nat):FO 151 [.str] [.str] (Ajx k):=fR (px:=Ayx _ k) (n:=1) Tryz.func151 rfl (fun cx H=>by
 have h0:Lv cx (Ayx (HV [.str]) k):=lv H Ae Aa Ab
 have hlvhex_0:=lO H h0 (b:=lp Tryz.f151 0) (k:=k) (n:=0) (s:=Ai6) (step:=Zv) (fun _ _ _ (_,_,_,_)=>by kernel_rfl) Aj
 exact⟨h0,(Bf Aj hlvhex_0)⟩) fun _=>by kernel_rfl
def A7b(s:Str):Option Str:=cond (decide (s.length≤3000)) (some (Aoh s)) none
def Atz:FT [.str] [.str]:=fun x=>A7b x
theorem Aij{R:Type}{kx:Ex→Xs→Option R}{s:Str}{b:Str→Option R}(hs:s.length≤3000) (h2:∀out j,kx (.exit 0) (s,out,(s.length:Int),j)=b out):∀(k i:Nat) (out:Str),i≤s.length→s.length-i<k→out.length≤2*i→Al (fun rec=>Zv rec kx) k (s,out,(s.length:Int),(i:Int))=b (out++Aoh (s.drop i))
 |0,i,_,_,h,_=>absurd h (Zm1 _)
 |k+1,i,out,hi,h,ho=>by
  rw [A3]
  by_cases hl:i<s.length
  ·obtain⟨h3,h4,h5⟩:=hx (s[i]'hl)
   have hn:ln s.length:=by simp only [ln];omega
   have ih:=Aij hs h2 k (i+1) (out++A3m (s[i]'hl).toNat) (by omega) (by omega) (by simp only [Zh1,A3m,Zf1,Zi1];omega)
   simp only [Zv,Az hl hn,Bz hl,A4 hl,h3,h4,h5,ih,h2]
   rw [Ze1 (show(i:Int)<(s.length:Int) by omega),Ze1 (show out.length+2≤Av by simp only [Av];omega),Am hl]
   simp only [chk,Af,Aoh,List.flatMap_cons,Zj1]
  ·simp only [Zv,h2]
   rw [Zd1 (show ¬(i:Int)<(s.length:Int) by omega),Zk1 (by omega)]
   simp [Aoh]
theorem Bc7:FO 151 [.str] [.str] Atz :=.fin 0 A9u fun s r hb hx=>⟨3001,by
 simp only [Atz,A7b] at hx
 by_cases hs:s.length≤3000
 ·rw [Ze1 hs] at hx
  simp only [Ajx]
  exact(Aij (b:=some) hs (fun _ _=>rfl) 3001 0 [] (Nat.zero_le _) (by omega) (by simp)).trans hx
 ·rw [Zd1 hs] at hx
  cases hx⟩
def dch(d:Int):UInt8:=UInt8.ofNat (48+d).toNat
def txt(l:List Int):Str:=(l.map dch).reverse
def A84(n:Int):Str:=let t:=if n=0 then [48] else txt (Nu n.natAbs)
 if n<0 then 45::t else t
theorem Arm(d:Int) (l:List Int):txt (d::l)=txt l++[dch d]:=by simp [txt]
theorem Bd5{d:Int}(h : 0≤d∧d≤9):UInt8.ofNat ((wr .u8 (wr .u64 (48+d))):Int).toNat=dch d:=by
 have e:wr .u8 (wr .u64 (48+d))=48+d:=by
  rw [Hm (by omega)]
  simp only [wr,IntKind.wrap,IntKind.bits,IntKind.signed]
  simp
  omega
 rw [e];rfl
theorem Bcm(l:List Int):(txt l).length=l.length:=by simp [txt]
theorem A40(n:Int):txt (Nu (n.natAbs / 10))++[dch ((n.natAbs % 10:Nat):Int)]=if n=0 then [48] else txt (Nu n.natAbs):=by
 by_cases h0:n=0
 ·subst h0
  rw [if_pos rfl,show(0:Int).natAbs / 10=0 from rfl,H2]
  rfl
 ·rw [if_neg h0,Vl (n:=n.natAbs) (by omega),Arm]
def Xp:Sig:=⟨32,[(0,.int .i64),(3,.sl .byte true),(4,.int .u64)],[],[],0,0,0,[],[]⟩
abbrev Jz:=Int×List UInt8×Int
def H6{R:Type}(rec:Jz→Option R) (kx:Ex→Jz→Option R) (v:Jz):Option R:=match v with
 |(v,v1,v2) =>
 cond (decide (0<v2)) (
  chk (decide (1+v1.length≤Av)) (
  rec (v,([(UInt8.ofNat ((wr .u8 (wr .u64 (48+(Int.tmod v2 10)))):Int).toNat)]++v1),(wr .u64 (Int.tdiv v2 10))))) (
  kx (.exit 0) (v,v1,v2))
def Ad1(R:Type) (k:Nat):Px R:=pxO [(170,cA Anp)] [] [(3,Ao k Xp (H6))] []
def Wx(k:Nat) (x:HV [.int .i64]):Option (HV [.str]):=match x with
 |n =>
 Al (fun rec=>H6 rec (fun e vz=>match vz with|(v3,v4,_)=>match e with
  |.exit 0 =>
  cond (decide (v3<0)) (
   chk (decide ([45].length+v4.length≤C7)) (
   some ([45]++v4))) (
   some v4)
  |_=>none)) k (n,[(UInt8.ofNat ((wr .u8 (wr .u64 (48+(Int.tmod (De n) 10)))):Int).toNat)],(wr .u64 (Int.tdiv (De n) 10)))
theorem Aon(k:Nat):FO 149 [.int .i64] [.str] (Wx k):=fR (px:=Ad1 _ k) (n:=1) Tryz.func149 rfl (fun cx H=>by
 have h0:Lv cx (Ad1 (HV [.str]) k):=lv H (c1 H Arh Ae) Aa Ab
 have hlvdigits_0:=lO H h0 (b:=lp Tryz.f149 0) (k:=k) (n:=0) (s:=Xp) (step:=H6) (fun _ _ _ (_,_,_)=>by kernel_rfl) Aj
 exact⟨h0,(Bf Aj hlvdigits_0)⟩) fun _=>by kernel_rfl
abbrev Ame (n:Int):Str:=A84 n
def Zf:FT [.int .i64] [.str]:=fun x=>some (Ame x)
theorem Bjf{n:Int}(h:inI n):De n=(n.natAbs:Int):=by
 rw [Al7 h]
 simp only [J4]
 split<;>omega
theorem Wt{R:Type}{kx:Ex→Jz→Option R}{n:Int}{b:Str→Option R}(h2:∀out x,kx (.exit 0) (n,out,x)=b out):∀(k a:Nat) (out:Str),(a:Int)≤18446744073709551615→(Nu a).length<k→out.length+(Nu a).length≤1000→Al (fun rec=>H6 rec kx) k (n,out,(a:Int))=b (txt (Nu a)++out)
 |0,a,out,_,h,_=>absurd h (Zm1 _)
 |k+1,a,out,ha,h,ho=>by
  rw [A3]
  by_cases h0:a=0
  ·subst h0
   simp only [H6,h2]
   rw [Zd1 (by omega),H2]
   rfl
  ·have hd:=Vl h0
   rw [hd,Zf1] at h ho
   have e1:Int.tmod (a:Int) 10=((a % 10:Nat):Int):=rfl
   have e2:wr .u64 (Int.tdiv (a:Int) 10)=((a / 10:Nat):Int):=by
    have:Int.tdiv (a:Int) 10=((a / 10:Nat):Int):=rfl
    rw [this,Hm (by omega)]
   have ih:=Wt h2 k (a / 10) ([dch ((a % 10:Nat):Int)]++out) (by omega) (by omega) (by simp only [Zh1,Zf1,Zi1];omega)
   simp only [H6,e1,e2,Bd5 (show 0≤((a % 10:Nat):Int)∧((a % 10:Nat):Int)≤9 by omega),ih]
   rw [Ze1 (show(0:Int)<(a:Int) by omega),Ze1 (show 1+out.length≤Av by simp only [Av];omega),hd,Arm]
   simp [chk]
theorem Atf:FO 149 [.int .i64] [.str] Zf :=.fin 0 Aon fun n r hb hx=>⟨30,by
 have hb:=Cb hb
 simp only [Zf,Za1] at hx
 subst hx
 have hl:(Nu (n.natAbs / 10)).length≤20:=Ar9 20 _ (by
  simp only [inI] at hb
  have:pw 20=100000000000000000000:=by kernel_rfl
  omega)
 have e1:Int.tmod (n.natAbs:Int) 10=((n.natAbs % 10:Nat):Int):=rfl
 have e2:wr .u64 (Int.tdiv (n.natAbs:Int) 10)=((n.natAbs / 10:Nat):Int):=by
  have:Int.tdiv (n.natAbs:Int) 10=((n.natAbs / 10:Nat):Int):=rfl
  simp only [inI] at hb
  rw [this,Hm (by omega)]
 simp only [Wx,Bjf hb,e1,e2,Bd5 (show 0≤((n.natAbs % 10:Nat):Int)∧((n.natAbs % 10:Nat):Int)≤9 by omega)]
 refine(Wt (b:=fun out=>cond (decide (n<0)) (chk (decide ([45].length+out.length≤C7)) (some ([45]++out))) (some out)) (fun _ _=>rfl) 30 (n.natAbs / 10) [dch ((n.natAbs % 10:Nat):Int)] (by simp only [inI] at hb;omega) (by omega) (by simp only [Zf1,Zi1];omega)).trans ?_
 have et:=A40 n
 have hlen:(txt (Nu (n.natAbs / 10))++[dch ((n.natAbs % 10:Nat):Int)]).length≤21:=by
  rw [Zh1,Bcm];simp only [Zf1,Zi1];omega
 have hc:decide ([45].length+(txt (Nu (n.natAbs / 10))++[dch ((n.natAbs % 10:Nat):Int)]).length≤C7)=true:=Ze1 (by simp only [Zf1,Zi1,C7];omega)
 simp only [hc,chk,Af]
 rw [et]
 simp only [Ame,A84]
 by_cases h:n<0
 ·rw [Ze1 h,if_pos h];rfl
 ·rw [Zd1 h,if_neg h];rfl⟩
def quo:Str→Str
 |[]=>[]
 |b::l=>if b=39 then 39::39::quo l else b::quo l
theorem Ay5(s:Str):(quo s).length≤2*s.length:=by
 induction s with
 |nil=>simp [quo]
 |cons b l ih =>
  simp only [quo]
  split<;>simp only [Zf1]<;>omega
theorem Ak2:∀s:Str,(Lib.index s [39] = -1∧quo s=s)∨∃i:Nat,Lib.index s [39]=(i:Int)∧i<s.length∧quo s=s.take i++[39,39]++quo (s.drop (i+1))
 |[] =>.inl ⟨rfl,rfl⟩
 |b::l=>by
  by_cases h:b=39
  ·subst h
   refine .inr ⟨0,rfl,by simp,by simp [quo]⟩
  ·have hp:List.isPrefixOf [39] (b::l)=false:=by
    simp only [List.isPrefixOf,Bool.and_true]
    exact beq_eq_false_iff_ne.2 (Ne.symm h)
   rcases Ak2 l with ⟨h1,h2⟩|⟨i,h1,h2,h3⟩
   ·left
    refine⟨?_,by simp only [quo,if_neg h,h2]⟩
    unfold Lib.index
    rw [hp,h1]
    rfl
   ·right
    refine⟨i+1,?_,by simpa using h2,?_⟩
    ·unfold Lib.index
     rw [hp,h1]
     have:((i:Int) == -1)=false:=beq_eq_false_iff_ne.2 (by omega)
     simp [this]
    ·simp only [quo,if_neg h,h3,List.take_succ_cons,List.drop_succ_cons,Zb2]
theorem Akp:∀(f:Nat) (s:Str),s.length<f→Lib.replaceK [39] [39,39] (Lib.countFrom [39] f s) s=quo s
 |0,s,h=>absurd h (Zm1 _)
 |f+1,s,h=>by
  rcases Ak2 s with ⟨h1,h2⟩|⟨i,h1,h2,h3⟩
  ·simp only [Lib.countFrom,h1]
   exact h2.symm
  ·have hn:((i:Int) == -1)=false:=beq_eq_false_iff_ne.2 (by omega)
   have ih:=Akp f (s.drop (i+1)) (by rw [Za2];omega)
   have e:Lib.countFrom [39] (f+1) s=Lib.countFrom [39] f (s.drop (i+1))+1:=by
    simp only [Lib.countFrom,h1,hn,Int.toNat_natCast,Zf1,Zi1]
    simp [Nat.add_comm]
   rw [e,Lib.replaceK_hit _ _ _ _ i h1]
   simp only [Zf1,Zi1,Nat.zero_add]
   rw [ih,h3]
theorem Bbk(s:Str):Lib.replaceAll s [39] [39,39]=quo s:=by
 have e:Lib.replaceNum s [39] (-1)=Lib.countFrom [39] (s.length+1) s:=by
  unfold Lib.replaceNum
  rw [if_pos (.inl (by decide))]
  rfl
 have hc:=Akp (s.length+1) s (by omega)
 rw [←e] at hc
 exact hc
theorem Aun{s:Str}(h:s.length≤3000):Aep s [39] [39,39]=some (quo s):=by
 have h1:=Lib.countB_mul_le ⟨#[39]⟩ (by decide) s.length ⟨s.toArray⟩ (Zn1 _)
 have h2:Lib.count s [39]*1≤s.length:=h1
 have h3:=Ay5 s
 simp only [Aep,Bbk]
 rw [Ze1 (show s.length<4294967281 by omega),Ze1 (show 1≤([39]:Str).length by decide),Ze1 (show s.length+Lib.count s [39]*([39,39]:Str).length≤140737488355328 by simp only [Zf1,Zi1];omega),Ze1 (show(quo s).length≤maxLen by simp only [maxLen];omega)]
 rfl
def A27(R:Type):Px R:=pxO [(147,cA Aez),(149,cA Zf),(150,cA Adv),(151,cA Atz)] [] [] []
def Aaq(x:HV [.sv .val]):Option (HV [.str]):=match x with
 |v =>
 cond (!(Dv v)) (
  some []) (
  cond (decide (v.kind=2)) (
  chk (inb v.n 2) (
   some (at' .str [[70,65,76,83,69],[84,82,85,69]] v.n))) (
  cond (decide (v.kind=3)) (
   some (Ame v.n)) (
   cond (decide (v.kind=4)) (
   (Aep v.s [39] [39,39]).bind fun x =>
    chk (decide ([39].length+x.length≤C7)) (
    chk (decide (([39]++x).length+[39].length≤C7)) (
     some (([39]++x)++[39])))) (
   cond (decide (v.kind=5)) (
    (A7b v.s).bind fun x1 =>
    chk (decide ([120,39].length+x1.length≤C7)) (
     chk (decide (([120,39]++x1).length+[39].length≤C7)) (
     some (([120,39]++x1)++[39])))) (
    some [78,85,76,76])))))
theorem Auo:FO 98 [.sv .val] [.str] (Aaq):=fR (px:=A27 _) (n:=0) Tryz.func98 rfl (fun _ H=>⟨lv H (c1 H Ai3 (c1 H Atf (c1 H A1i (c1 H Bc7 Ae)))) Aa Ab,Aj⟩) fun _=>by kernel_rfl
def Dm(v:Val):Str:=cond (Dv v) (if v.kind=2 then(if v.n=0 then [70,65,76,83,69] else [84,82,85,69]) else if v.kind=3 then A84 v.n else if v.kind=4 then 39::(quo v.s++[39]) else if v.kind=5 then 120::39::(Aoh v.s++[39]) else [78,85,76,76]) []
def X9:FT [.sv .val] [.str]:=fun x=>some (Dm x)
theorem Aki{v:Val}(h:Dv v=true) (hk:v.kind=4∨v.kind=5):v.s.length≤1000:=by
 rcases hk with h4|h5
 ·simp [Dv,h4] at h
  omega
 ·simp [Dv,h5] at h
  omega
theorem Aul{v:Val}(h:Dv v=true) (hk:v.kind=2):v.n=0∨v.n=1:=by
 by_cases h0:v.n=0
 ·exact .inl h0
 ·by_cases h1:v.n=1
  ·exact .inr h1
  ·simp [Dv,hk,h0,h1] at h
theorem Ali:FO 98 [.sv .val] [.str] X9 :=.fin0 Auo fun v r _ hx=>by
 simp only [X9,Za1] at hx
 subst hx
 simp only [Aaq,Dm]
 cases hr:Dv v with
 |false=>rfl
 |true =>
  simp only [Zt1,Ah,Af]
  by_cases k2:v.kind=2
  ·rw [Ze1 k2,if_pos k2]
   rcases Aul hr k2 with h|h<;>rw [h]<;>rfl
  ·rw [Zd1 k2,if_neg k2]
   by_cases k3:v.kind=3
   ·rw [Ze1 k3,if_pos k3];rfl
   ·rw [Zd1 k3,if_neg k3]
    by_cases k4:v.kind=4
    ·have hl:=Aki hr (.inl k4)
     have hq:=Ay5 v.s
     rw [Ze1 k4,if_pos k4]
     simp only [Af,Ah,Aun (show v.s.length≤3000 by omega),Zc1]
     refine(Axl (Ze1 ?_)).trans ((Axl (Ze1 ?_)).trans rfl)
     ·simp only [Zf1,Zi1,C7];omega
     ·simp only [Zh1,Zf1,Zi1,C7];omega
    ·rw [Zd1 k4,if_neg k4]
     by_cases k5:v.kind=5
     ·have hl:=Aki hr (.inr k5)
      have hh:=Ars v.s
      have hv:A7b v.s=some (Aoh v.s):=by simp only [A7b];rw [Ze1 (by omega)];rfl
      rw [Ze1 k5,if_pos k5]
      simp only [Af,Ah,hv,Zc1]
      refine(Axl (Ze1 ?_)).trans ((Axl (Ze1 ?_)).trans rfl)
      ·simp only [Zf1,Zi1,C7];omega
      ·simp only [Zh1,Zf1,Zi1,C7];omega
     ·rw [Zd1 k5,if_neg k5];rfl
end Go.Proofs.YthndhaolemgbdaaGreatDoor
namespace Go.Proofs.YthndhaolemgbdaaGreatDoor
open Go.Ax
def A42(R:Type):Px R:=pxO [] [] [] []
def Tv(x:HV [.int .i64]):Option (HV [.int .i64]):=match x with
 |kind =>
 let j1:=fun(p1:Bool) =>
  cond (p1) (
  some 0) (
  let j:=fun(p5:Bool) =>
   cond (p5) (
   some 1) (
   cond (!decide ((Mv signsL kind)=[])) (
    some 2) (
    some (-1)))
  cond (decide (kind=3)) (
   j true) (
   cond (decide (kind=15)) (
   j true) (
   j (decide (kind=16)))))
 cond (decide (kind=1)) (
  j1 true) (
  j1 (decide (kind=2)))
theorem Az8:FO 94 [.int .i64] [.int .i64] (Tv):=fR (px:=A42 _) (n:=0) Tryz.func94 rfl (fun _ H=>⟨lv H Ae Aa Ab,Aj⟩) fun _=>by kernel_rfl
def Hn(kind:Int):Int :=
 let j1:=fun(p1:Bool) =>
  cond (p1) (
  0) (
  let j:=fun(p5:Bool) =>
   cond (p5) (
   1) (
   cond (!decide ((Mv signsL kind)=[])) (
    2) (
    (-1)))
  cond (decide (kind=3)) (
   j true) (
   cond (decide (kind=15)) (
   j true) (
   j (decide (kind=16)))))
 cond (decide (kind=1)) (
  j1 true) (
  j1 (decide (kind=2)))
theorem A0z(x:HV [.int .i64]):Tv x=some (Hn x):=by
 first
  |exact rfl
  |simp only [Tv,Hn,Bb]
def Anu:FT [.int .i64] [.int .i64]:=fun x=>some (Hn x)
theorem Aou:FO 94 [.int .i64] [.int .i64] Anu :=.fin0 Az8 fun x _ _ hx=>(A0z x).trans hx
end Go.Proofs.YthndhaolemgbdaaGreatDoor
namespace Go.Proofs.YthndhaolemgbdaaGreatDoor
open Go.Ax
mutual
def Bc:Xpr→Nat
 |.mk _ _ _ l=>1+esizes l
def esizes:List Xpr→Nat
 |[]=>0
 |x::l=>1+Bc x+esizes l
end
theorem Ei:∀{l:List Xpr}{x:Xpr},x∈l→Bc x<esizes l
 |y::l,x,h=>by
  simp only [List.mem_cons] at h
  simp only [esizes]
  rcases h with rfl|h
  ·omega
  ·have:=Ei h;omega
theorem Mj:∀(l:List Xpr),l.length≤esizes l
 |[]=>by simp
 |x::l=>by have:=Mj l;simp only [esizes,Zf1];omega
theorem Gr(e:Xpr) : 0<Bc e:=by cases e;simp only [Bc];omega
theorem D6(e:Xpr):Bc e=1+esizes e.l:=by cases e;simp only [Bc,Xpr.l]
theorem Akf{e:Xpr}(h:BdExpr e):ln e.l.length∧∀x,x∈e.l→BdExpr x:=by
 obtain⟨_,_,_,_,_,_,_,h4,h5⟩:=h
 exact⟨h4,h5⟩
def Abz:Sig:=⟨19,[(0,.sl .expr false),(4,.int .i64),(7,.int .i64),(8,.int .i64)],[(1,.fn 97 [.ptr 1 0])],[(1,.cells [.int .i64])],80,80,400,[],[]⟩
abbrev My:=List Xpr×Int×Int×Int×Int
def Kw{R:Type}(rf:FT [.sv .expr,.int .i64] [.bool]) (rec:My→Option R) (kx:Ex→My→Option R) (v:My):Option R:=match v with
 |(v,v1,v2,v3,w) =>
 cond (decide (v3<v2)) (
  chk (inb v3 v.length) (
  (rf ((at' .expr v v3),(wr .i64 (w-1)))).bind fun x =>
   cond (!x) (
   kx .ret (v,v3,v2,v3,w)) (
   rec (v,v1,v2,(wr .i64 (v3+1)),w)))) (
  kx (.exit 0) (v,v1,v2,v3,w))
def Nn(R:Type) (_k:Nat) (rf:FT [.sv .expr,.int .i64] [.bool]):Px R:=pxO [(39,cA rf)] [] [] []
noncomputable def S4 (R:Type) (k:Nat) (rf:FT [.sv .expr,.int .i64] [.bool]):Px R:=pxO [(97,As 120 600 (Nn R k rf) Tryz.f97)] [] [(2,Ao k Abz (Kw rf))] []
noncomputable def Abp (R:Type) (k:Nat) (rf:FT [.sv .expr,.int .i64] [.bool]):Px R:=pxO [(148,As 80 400 (S4 R k rf) Tryz.f148)] [] [] []
noncomputable def Akn (R:Type) (k:Nat) (rf:FT [.sv .expr,.int .i64] [.bool]):Px R:=pxO [(95,cA Aec),(63,cA Mx),(96,As 40 200 (Abp R k rf) Tryz.f96)] [(94,qA Anu)] [] []
def Fh(k:Nat) (rf:FT [.sv .expr,.int .i64] [.bool]) (x:HV [.sv .expr,.int .i64]):Option (HV [.bool]):=match x with
 |(e,most) =>
 cond (decide (most=0)) (
  some false) (
  cond (!decide ((e.l.length:Int)=(Hn e.kind))) (
  some false) (
  let j2:=fun(_:Unit) =>
   let j1:=fun(_:Unit) =>
   Al (fun rec=>Kw rf rec (fun e vz=>match vz with|(_,v5,_,_,_)=>match e with
    |.ret =>
    some (!(decide (0≤v5)))
    |.exit 0 =>
    some true
    |_=>none)) k (e.l,0,(e.l.length:Int),0,most)
   let j:=fun(p5:Bool) =>
   cond (p5) (
    some false) (
    cond (!decide (e.kind=2)) (
    cond (!decide (e.name=[])) (
     some false) (
     j1 ())) (
    j1 ()))
   cond (decide (e.kind=2)) (
   j (!(Dq e.name))) (
   j false)
  cond (decide (e.kind=1)) (
   cond (!decide ((Em e.v)=0)) (
   some false) (
   cond (decide (e.v.kind=3)) (
    cond (decide (e.v.n<0)) (
    some false) (
    j2 ())) (
    j2 ()))) (
   cond (!decide (e.v=(Val.mk 0 0 []))) (
   some false) (
   j2 ()))))
theorem Au8(k:Nat) (rf:FT [.sv .expr,.int .i64] [.bool]) (hrf:FO 39 [.sv .expr,.int .i64] [.bool] rf):FO 39 [.sv .expr,.int .i64] [.bool] (Fh k rf):=fR (px:=Akn _ k rf) (n:=0) Tryz.func39 rfl (fun cx H=>by
 have h3:Lv cx (Nn (HV [.bool]) k rf):=lv H (c1 H hrf Ae) Aa Ab
 have h2:Lv cx (S4 (HV [.bool]) k rf):=lv H (An (cR H h3 Tryz.func97 rfl (n:=0) (Aj)) Ae) Aa Ab
 have hleright_0:=lO H h2 (b:=lp Tryz.f148 0) (k:=k) (n:=0) (s:=Abz) (step:=Kw rf) (fun _ _ _ (_,_,_,_,_)=>by kernel_rfl) Aj
 have h1:Lv cx (Abp (HV [.bool]) k rf):=lv H (An (cR H h2 Tryz.func148 rfl (n:=1) ((Bf Aj hleright_0))) Ae) Aa Ab
 have h0:Lv cx (Akn (HV [.bool]) k rf):=lv H (c1 H Akw (c1 H Oz (An (cR H h1 Tryz.func96 rfl (n:=0) (Aj)) Ae))) (q1 H Aou Aa) Ab
 exact⟨h0,Aj⟩) fun(_,_)=>by kernel_rfl
def eok(k:Int) (v:Val) (nm:Str):Bool:=cond (decide (k=1)) (decide (Em v=0) && !(decide (v.kind=3)&&decide (v.n<0))) (decide (v=⟨0,0,[]⟩))&&cond (decide (k=2)) (Dq nm) (decide (nm=[]))
mutual
def A8:Xpr→Int→Bool
 |.mk k v nm l,m => !decide (m=0)&&decide ((l.length:Int)=Hn k)&&eok k v nm&&erights l (wr .i64 (m-1))
def erights:List Xpr→Int→Bool
 |[],_=>true
 |x::l,m=>A8 x m&&erights l m
end
def Lh:FT [.sv .expr,.int .i64] [.bool]:=fun x=>some (A8 x.1 x.2)
theorem Abs{R:Type}{rf:FT [.sv .expr,.int .i64] [.bool]}{kx:Ex→My→Option R}{l:List Xpr}{m:Int}{a b:Option R}(hn:ln l.length) (hrf:∀x,x∈l→rf (x,wr .i64 (m-1))=some (A8 x (wr .i64 (m-1)))) (h1:∀(j:Nat),kx .ret (l,(j:Int),(l.length:Int),(j:Int),m)=a) (h2:∀q j,kx (.exit 0) (l,q,(l.length:Int),j,m)=b):∀(k i:Nat) q,i≤l.length→l.length-i<k→Al (fun rec=>Kw rf rec kx) k (l,q,(l.length:Int),(i:Int),m)=cond (erights (l.drop i) (wr .i64 (m-1))) b a
 |0,i,q,_,h=>by omega
 |k+1,i,q,hi,h=>by
  rw [A3]
  by_cases hl:i<l.length
  ·have ih:=Abs hn hrf h1 h2 k (i+1) q (by omega) (by omega)
   simp only [Kw,Az hl hn,ih,h1,Am hl,A9 (c :=.expr) hl,A4 hl,chk,Af,Bool.cond_decide,erights,hrf _ (List.getElem_mem hl),Zc1]
   rw [if_pos (by omega)]
   cases A8 l[i] (wr .i64 (m-1))<;>rfl
  ·simp only [Kw,h2,Bool.cond_decide]
   rw [if_neg (by omega),Zk1 (by omega)]
   rfl
theorem Aii(e:Xpr) (m:Int):A8 e m=(!decide (m=0)&&decide ((e.l.length:Int)=Hn e.kind)&&eok e.kind e.v e.name&&erights e.l (wr .i64 (m-1))):=by
 cases e
 simp only [A8]
 rfl
theorem Ae3(k:Nat):∀(n:Nat) (e:Xpr) (m:Int),BdExpr e→Bc e≤n→Bc e≤k→Al (Fh k) n (e,m)=some (A8 e m)
 |0,e,m,_,h,_=>by have:=Gr e;omega
 |n+1,e,m,hb,h,hk=>by
  obtain⟨hb4,hb5⟩:=Akf hb
  rw [D6] at h hk
  have hl:=Mj e.l
  have hrf:∀x,x∈e.l→∀m,Al (Fh k) n (x,m)=some (A8 x m):=fun x hx m=>Ae3 k n x m (hb5 x hx) (by have:=Ei hx;omega) (by have:=Ei hx;omega)
  have hloop:=Abs (R:=Bool) (rf:=Al (Fh k) n) (l:=e.l) (m:=m) (a:=some false) (b:=some true) (kx:=fun e v=>match v with
   |(_,v5,_,_,_)=>match e with
    |.ret=>some (!(decide (0≤v5)))
    |.exit 0=>some true
    |_=>none) hb4 (fun x hx=>hrf x hx _) (fun j=>by simp) (fun _ _=>rfl) k 0 0 (Nat.zero_le _) (by omega)
  have e0:((0:Nat):Int)=0:=rfl
  rw [e0] at hloop
  rw [A3,Aii]
  simp only [Fh] at hloop ⊢
  rw [hloop]
  simp only [Zq1,eok]
  by_cases hm:m=0
  ·simp [hm]
  ·rw [Zd1 hm]
   simp only [Ah,Zs1,Bool.true_and]
   by_cases hp:(e.l.length:Int)=Hn e.kind
   ·rw [Ze1 hp]
    by_cases h1:e.kind=1
    ·have h2:¬e.kind=2:=by omega
     rw [Ze1 h1,Zd1 h2]
     simp only [Af,Ah,Zs1,Zt1,Bool.true_and]
     cases decide (Em e.v=0)<;>cases decide (e.v.kind=3)<;>cases decide (e.v.n<0)<;>cases decide (e.name=[])<;>cases erights e.l (wr .i64 (m-1))<;>rfl
    ·rw [Zd1 h1]
     simp only [Ah,Zt1,Bool.true_and]
     cases decide (e.v=Val.mk 0 0 [])<;>cases decide (e.kind=2)<;>cases decide (e.name=[])<;>cases Dq e.name<;>cases erights e.l (wr .i64 (m-1))<;>rfl
   ·rw [Zd1 hp];rfl
theorem Kn:FO 39 [.sv .expr,.int .i64] [.bool] Lh:=by
 refine .fin (ι:=Nat) 0 (F:=fun n=>Al (Fh n) n) (fun n=>FnOk.rec' (Sx.enters_of Tryz.func39 rfl rfl) (fun rf hrf=>Au8 n rf hrf) n) fun(e,m) r hb hx=>⟨Bc e,?_⟩
 exact(Ae3 (Bc e) (Bc e) e m hb.1 (Zn1 _) (Zn1 _)).trans hx
def A97(R:Type):Px R:=pxO [(39,cA Lh)] [] [] []
def Up(x:HV [.sv .expr]):Option (HV [.int .i64]):=match x with
 |e =>
 cond (!(A8 e 30)) (
  some 2) (
  some 0)
theorem A02:FO 18 [.sv .expr] [.int .i64] (Up):=fR (px:=A97 _) (n:=0) Tryz.func18 rfl (fun _ H=>⟨lv H (c1 H Kn Ae) Aa Ab,Aj⟩) fun _=>by kernel_rfl
def Tb(e:Xpr):Int :=
 cond (!(A8 e 30)) (
  2) (
  0)
theorem A21(x:HV [.sv .expr]):Up x=some (Tb x):=by
 first
  |exact rfl
  |simp only [Up,Tb,Bb]
def Aw9:FT [.sv .expr] [.int .i64]:=fun x=>some (Tb x)
theorem A6p:FO 18 [.sv .expr] [.int .i64] Aw9 :=.fin0 A02 fun x _ _ hx=>(A21 x).trans hx
mutual
def A4k:Xpr→Int→Int
 |.mk _ v nm l,most=>muchL l most (wr .i64 (1+wr .i64 (Int.tdiv (wr .i64 ((v.s.length:Int)+(nm.length:Int))) 30)))
def muchL:List Xpr→Int→Int→Int
 |[],_,n=>n
 |x::l,most,n=>cond (decide (n<most)) (muchL l most (wr .i64 (n+A4k x (wr .i64 (most-n))))) n
end
end Go.Proofs.YthndhaolemgbdaaGreatDoor
namespace Go.Proofs.YthndhaolemgbdaaGreatDoor
open Go.Ax
mutual
def F3:Xpr→Xpr→Bool
 |.mk k v n l,.mk k' v' n' l'=>decide (k=k')&&decide (v=v')&&decide (n=n')&&xsames l l'
def xsames:List Xpr→List Xpr→Bool
 |[],[]=>true
 |x::l,y::m=>F3 x y&&xsames l m
 |_,_=>false
end
mutual
theorem Z9:∀a b:Xpr,F3 a b=true↔a=b
 |.mk k v n l,.mk k' v' n' l'=>by
  simp only [F3,Zb1,Zg1,xsames_iff l l',Xpr.mk.injEq]
  constructor
  ·rintro⟨⟨⟨h1,h2⟩,h3⟩,h4⟩;exact⟨h1,h2,h3,h4⟩
  ·rintro⟨h1,h2,h3,h4⟩;exact⟨⟨⟨h1,h2⟩,h3⟩,h4⟩
theorem xsames_iff:∀a b:List Xpr,xsames a b=true↔a=b
 |[],[]=>by simp [xsames]
 |x::l,y::m=>by simp only [xsames,Zb1,Z9 x y,xsames_iff l m,Ze2]
 |[],_::_=>by simp [xsames]
 |_::_,[]=>by simp [xsames]
end
instance:DecidableEq Xpr:=fun a b=>decidable_of_iff (F3 a b=true) (Z9 a b)
theorem Kl(a b:Xpr):F3 a b=decide (a=b):=by
 rw [Bool.eq_iff_iff,Z9,Zg1]
theorem Aev{a b:List Xpr}(h:xsames a b=true):a.length=b.length:=by rw [(xsames_iff a b).1 h]
theorem Apy(a b:Xpr):F3 a b=(decide (a.kind=b.kind)&&decide (a.v=b.v)&&decide (a.name=b.name)&&xsames a.l b.l):=by
 cases a;cases b
 simp only [F3]
 rfl
def Afo:Sig:=⟨32,[(1,.sl .expr false),(6,.bool),(15,.sl .expr false),(16,.int .i64),(17,.int .i64)],[(2,.fn 20 [])],[],40,40,200,[],[]⟩
abbrev R6:=List Xpr×Bool×List Xpr×Int×Int
def Ro{R:Type}(rf:FT [.sv .expr,.sv .expr] [.bool]) (rec:R6→Option R) (kx:Ex→R6→Option R) (v:R6):Option R:=match v with
 |(v,v1,v2,v3,v4) =>
 cond (decide (v4<v3)) (
  chk (inb v4 v2.length) (
  chk (inb v4 v.length) (
   (rf ((at' .expr v2 v4),(at' .expr v v4))).bind fun x =>
   cond (!x) (
    kx .ret (v,false,v2,v3,v4)) (
    rec (v,v1,v2,v3,(wr .i64 (v4+1))))))) (
  kx (.exit 0) (v,v1,v2,v3,v4))
def Agk(R:Type) (k:Nat) (rf:FT [.sv .expr,.sv .expr] [.bool]):Px R:=pxO [(20,cA rf)] [] [(4,Ao k Afo (Ro rf))] []
noncomputable def Asb (R:Type) (k:Nat) (rf:FT [.sv .expr,.sv .expr] [.bool]):Px R:=pxO [(47,As 40 200 (Agk R k rf) Tryz.f47)] [] [] []
def Gn(k:Nat) (rf:FT [.sv .expr,.sv .expr] [.bool]) (x:HV [.sv .expr,.sv .expr]):Option (HV [.bool]):=match x with
 |(a,b) =>
 let j1:=fun(p:Bool) =>
  let j:=fun(p1:Bool) =>
  cond (p1) (
   cond (!decide ((a.l.length:Int)=(b.l.length:Int))) (
   some false) (
   Al (fun rec=>Ro rf rec (fun e vz=>match vz with|(_,v6,_,_,_)=>match e with
    |.ret =>
    some v6
    |.exit 0 =>
    some true
    |_=>none)) k (b.l,false,a.l,(a.l.length:Int),0))) (
   some false)
  cond (p) (
  j (decide (a.name=b.name))) (
  j false)
 cond (decide (a.kind=b.kind)) (
  j1 (decide (a.v=b.v))) (
  j1 false)
theorem A3e(k:Nat) (rf:FT [.sv .expr,.sv .expr] [.bool]) (hrf:FO 20 [.sv .expr,.sv .expr] [.bool] rf):FO 20 [.sv .expr,.sv .expr] [.bool] (Gn k rf):=fR (px:=Asb _ k rf) (n:=0) Tryz.func20 rfl (fun cx H=>by
 have h1:Lv cx (Agk (HV [.bool]) k rf):=lv H (c1 H hrf Ae) Aa Ab
 have hlasame_0:=lO H h1 (b:=lp Tryz.f47 0) (k:=k) (n:=0) (s:=Afo) (step:=Ro rf) (fun _ _ _ (_,_,_,_,_)=>by kernel_rfl) Aj
 have h0:Lv cx (Asb (HV [.bool]) k rf):=lv H (An (cR H h1 Tryz.func47 rfl (n:=1) ((Bf Aj hlasame_0))) Ae) Aa Ab
 exact⟨h0,Aj⟩) fun(_,_)=>by kernel_rfl
def Nw(a b:Xpr):Bool:=F3 a b
def Q8:FT [.sv .expr,.sv .expr] [.bool]:=fun x=>some (Nw x.1 x.2)
theorem Auy{R:Type}{rf:FT [.sv .expr,.sv .expr] [.bool]}{kx:Ex→R6→Option R}{l m:List Xpr}{c:Bool→Option R}(hn:ln l.length) (hm:l.length=m.length) (hrf:∀x,x∈l→∀y,y∈m→rf (x,y)=some (F3 x y))
  (h1:∀i,kx .ret (m,false,l,(l.length:Int),i)=c false) (h2:∀q i,kx (.exit 0) (m,q,l,(l.length:Int),i)=c true) (k:Nat) (hk:l.length<k):Al (fun rec=>Ro rf rec kx) k (m,false,l,(l.length:Int),0)=c (xsames l m):=by
 refine(Ce l.length (fun i=>(m,false,l,(l.length:Int),(i:Int))) (fun i=>c (xsames (l.drop i) (m.drop i))) (fun i hi rec hr =>?_) (fun rec =>?_) k 0 (Nat.zero_le _) (by omega)).trans (by rw [Zq1,Zq1])
 ·have hi2:i<m.length:=by omega
  simp only [Ro,Fw hi,Af,A4 hi,A4 hi2,chk,A9 (c :=.expr) hi,A9 (c :=.expr) hi2,hrf _ (List.getElem_mem hi) _ (List.getElem_mem hi2),Zc1,Az hi hn,hr,h1,Am hi,Am hi2,xsames]
  cases F3 l[i] m[i]<;>rfl
 ·simp only [Ro,Fx,Ah,h2]
  rw [Zk1 (Zn1 _),Zk1 (by omega)]
  rfl
theorem Aig(k:Nat):∀(n:Nat) (a b:Xpr),BdExpr a→BdExpr b→Bc a≤n→Bc a≤k→Al (Gn k) n (a,b)=some (F3 a b)
 |0,a,b,_,_,h,_=>by have:=Gr a;omega
 |n+1,a,b,ha,hb,h,hk=>by
  obtain⟨hb4,hb5⟩:=Akf ha
  obtain⟨hc4,hc5⟩:=Akf hb
  rw [D6] at h hk
  have hl:=Mj a.l
  have hrf:∀x,x∈a.l→∀y,y∈b.l→Al (Gn k) n (x,y)=some (F3 x y):=fun x hx y hy=>Aig k n x y (hb5 x hx) (hc5 y hy) (by have:=Ei hx;omega) (by have:=Ei hx;omega)
  rw [A3,Apy]
  simp only [Gn]
  by_cases hlen:a.l.length=b.l.length
  ·have hloop:=Auy (R:=Bool) (rf:=Al (Gn k) n) (l:=a.l) (m:=b.l) (c:=some) (kx:=fun e v=>match v with
    |(_,v6,_,_,_)=>match e with
     |.ret=>some v6
     |.exit 0=>some true
     |_=>none) hb4 hlen hrf (fun _=>rfl) (fun _ _=>rfl) k (by omega)
   rw [hloop,Ze1 (show(a.l.length:Int)=(b.l.length:Int) by omega)]
   cases decide (a.kind=b.kind)<;>cases decide (a.v=b.v)<;>cases decide (a.name=b.name)<;>cases xsames a.l b.l<;>rfl
  ·have hno:xsames a.l b.l=false:=by
    cases hs:xsames a.l b.l with
    |false=>rfl
    |true=>exact absurd (Aev hs) hlen
   rw [hno,Zd1 (show ¬(a.l.length:Int)=(b.l.length:Int) by omega)]
   cases decide (a.kind=b.kind)<;>cases decide (a.v=b.v)<;>cases decide (a.name=b.name)<;>rfl
theorem Pt:FO 20 [.sv .expr,.sv .expr] [.bool] Q8:=by
 refine .fin (ι:=Nat) 0 (F:=fun n=>Al (Gn n) n) (fun n=>FnOk.rec' (Sx.enters_of Tryz.func20 rfl rfl) (fun rf hrf=>A3e n rf hrf) n) fun(a,b) r hb hx=>⟨Bc a,?_⟩
 exact(Aig (Bc a) (Bc a) a b hb.1 hb.2 (Zn1 _) (Zn1 _)).trans hx
def Ag1:Sig:=⟨53,[(4,.bool),(5,.int .i64)],[(2,.ptr 0 0),(3,.ptr 1 0)],[(0,.one (.sv .expr)),(1,.one (.sv .expr))],2,0,0,[],[]⟩
abbrev R5:=Bool×Int×Xpr×Xpr
def P6{R:Type}(rf:FT [.sv .expr,.sv .expr] [.bool]) (rec:R5→Option R) (kx:Ex→R5→Option R) (v:R5):Option R:=match v with
 |(v,v1,w,w1) =>
 cond (decide (v1<(w.l.length:Int))) (
  chk (inb v1 w.l.length) (
  chk (inb v1 w1.l.length) (
   (rf ((at' .expr w.l v1),(at' .expr w1.l v1))).bind fun x =>
   cond (!x) (
    kx .ret (false,v1,w,w1)) (
    rec (v,(wr .i64 (v1+1)),w,w1))))) (
  kx (.exit 0) (v,v1,w,w1))
def Apx(R:Type) (k:Nat) (rf:FT [.sv .expr,.sv .expr] [.bool]):Px R:=pxO [(21,cA rf)] [] [(4,Ao k Ag1 (P6 rf))] []
def Gx(k:Nat) (rf:FT [.sv .expr,.sv .expr] [.bool]) (x:HV [.sv .expr,.sv .expr]):Option (HV [.bool]):=match x with
 |(a,b) =>
 let j:=fun(p:Bool) =>
  cond (p) (
  some false) (
  cond (!decide (a.name=b.name)) (
   some false) (
   cond (!decide ((a.l.length:Int)=(b.l.length:Int))) (
   some false) (
   Al (fun rec=>P6 rf rec (fun e vz=>match vz with|(v2,_,_,_)=>match e with
    |.ret =>
    some v2
    |.exit 0 =>
    some true
    |_=>none)) k (false,0,a,b))))
 cond (!decide (a.kind=b.kind)) (
  j true) (
  j (!decide (a.v=b.v)))
theorem A2v(k:Nat) (rf:FT [.sv .expr,.sv .expr] [.bool]) (hrf:FO 21 [.sv .expr,.sv .expr] [.bool] rf):FO 21 [.sv .expr,.sv .expr] [.bool] (Gx k rf):=fR (px:=Apx _ k rf) (n:=1) Tryz.func21 rfl (fun cx H=>by
 have h0:Lv cx (Apx (HV [.bool]) k rf):=lv H (c1 H hrf Ae) Aa Ab
 have hlrsame_0:=lO H h0 (b:=lp Tryz.f21 0) (k:=k) (n:=0) (s:=Ag1) (step:=P6 rf) (fun _ _ _ (_,_,_,_)=>by kernel_rfl) Aj
 exact⟨h0,(Bf Aj hlrsame_0)⟩) fun(_,_)=>by kernel_rfl
def Ayr(a b:Xpr):Bool:=F3 a b
def Awn:FT [.sv .expr,.sv .expr] [.bool]:=fun x=>some (Ayr x.1 x.2)
theorem As0{R:Type}{rf:FT [.sv .expr,.sv .expr] [.bool]}{kx:Ex→R5→Option R}{a b:Xpr}{c:Bool→Option R}(hn:ln a.l.length) (hm:a.l.length=b.l.length) (hrf:∀x,x∈a.l→∀y,y∈b.l→rf (x,y)=some (F3 x y))
  (h1:∀i,kx .ret (false,i,a,b)=c false) (h2:∀q i,kx (.exit 0) (q,i,a,b)=c true) (k:Nat) (hk:a.l.length<k):Al (fun rec=>P6 rf rec kx) k (false,0,a,b)=c (xsames a.l b.l):=by
 refine(Ce a.l.length (fun i=>(false,(i:Int),a,b)) (fun i=>c (xsames (a.l.drop i) (b.l.drop i))) (fun i hi rec hr =>?_) (fun rec =>?_) k 0 (Nat.zero_le _) (by omega)).trans (by rw [Zq1,Zq1])
 ·have hi2:i<b.l.length:=by omega
  simp only [P6,Fw hi,Af,A4 hi,A4 hi2,chk,A9 (c :=.expr) hi,A9 (c :=.expr) hi2,hrf _ (List.getElem_mem hi) _ (List.getElem_mem hi2),Zc1,Az hi hn,hr,h1,Am hi,Am hi2,xsames]
  cases F3 a.l[i] b.l[i]<;>rfl
 ·simp only [P6,Fx,Ah,h2]
  rw [Zk1 (Zn1 _),Zk1 (by omega)]
  rfl
theorem Ajs(k:Nat):∀(n:Nat) (a b:Xpr),BdExpr a→BdExpr b→Bc a≤n→Bc a≤k→Al (Gx k) n (a,b)=some (F3 a b)
 |0,a,b,_,_,h,_=>by have:=Gr a;omega
 |n+1,a,b,ha,hb,h,hk=>by
  obtain⟨hb4,hb5⟩:=Akf ha
  obtain⟨hc4,hc5⟩:=Akf hb
  rw [D6] at h hk
  have hl:=Mj a.l
  have hrf:∀x,x∈a.l→∀y,y∈b.l→Al (Gx k) n (x,y)=some (F3 x y):=fun x hx y hy=>Ajs k n x y (hb5 x hx) (hc5 y hy) (by have:=Ei hx;omega) (by have:=Ei hx;omega)
  rw [A3,Apy]
  simp only [Gx]
  by_cases hlen:a.l.length=b.l.length
  ·have hloop:=As0 (R:=Bool) (rf:=Al (Gx k) n) (a:=a) (b:=b) (c:=some) (kx:=fun e v=>match v with
    |(v2,_,_,_)=>match e with
     |.ret=>some v2
     |.exit 0=>some true
     |_=>none) hb4 hlen hrf (fun _=>rfl) (fun _ _=>rfl) k (by omega)
   rw [hloop,Ze1 (show(a.l.length:Int)=(b.l.length:Int) by omega)]
   cases decide (a.kind=b.kind)<;>cases decide (a.v=b.v)<;>cases decide (a.name=b.name)<;>cases xsames a.l b.l<;>rfl
  ·have hno:xsames a.l b.l=false:=by
    cases hs:xsames a.l b.l with
    |false=>rfl
    |true=>exact absurd (Aev hs) hlen
   rw [hno,Zd1 (show ¬(a.l.length:Int)=(b.l.length:Int) by omega)]
   cases decide (a.kind=b.kind)<;>cases decide (a.v=b.v)<;>cases decide (a.name=b.name)<;>rfl
theorem A81:FO 21 [.sv .expr,.sv .expr] [.bool] Awn:=by
 refine .fin (ι:=Nat) 0 (F:=fun n=>Al (Gx n) n) (fun n=>FnOk.rec' (Sx.enters_of Tryz.func21 rfl rfl) (fun rf hrf=>A2v n rf hrf) n) fun(a,b) r hb hx=>⟨Bc a,?_⟩
 exact(Ajs (Bc a) (Bc a) a b hb.1 hb.2 (Zn1 _) (Zn1 _)).trans hx
end Go.Proofs.YthndhaolemgbdaaGreatDoor
namespace Go.Proofs.YthndhaolemgbdaaGreatDoor
open Go.Ax
end Go.Proofs.YthndhaolemgbdaaGreatDoor
namespace Go.Proofs.YthndhaolemgbdaaGreatDoor
open Go.Ax
theorem At5(k:Int):(Hn k=0∧(k=1∨k=2))∨(Hn k=1∧(k=3∨k=15∨k=16))∨(Hn k=2∧4≤k∧k≤14)∨Hn k = -1:=by
 by_cases h1:k=1
 ·subst h1;left;decide
 by_cases h2:k=2
 ·subst h2;left;decide
 by_cases h3:k=3
 ·subst h3;right;left;decide
 by_cases h15:k=15
 ·subst h15;right;left;decide
 by_cases h16:k=16
 ·subst h16;right;left;decide
 right;right
 by_cases h : 4≤k∧k≤14
 ·left
  refine⟨?_,h⟩
  have:k=4∨k=5∨k=6∨k=7∨k=8∨k=9∨k=10∨k=11∨k=12∨k=13∨k=14:=by omega
  rcases this with rfl|rfl|rfl|rfl|rfl|rfl|rfl|rfl|rfl|rfl|rfl<;>decide
 ·right
  have hm:Mv signsL k=[]:=by
   simp only [signsL,Mv]
   rw [Zd1 (by omega),Zd1 (by omega),Zd1 (by omega),Zd1 (by omega),Zd1 (by omega),Zd1 (by omega),Zd1 (by omega),Zd1 (by omega),Zd1 (by omega),Zd1 (by omega),Zd1 (by omega)]
  simp [Hn,hm,h1,h2,h3,h15,h16]
end Go.Proofs.YthndhaolemgbdaaGreatDoor
namespace Go.Proofs.YthndhaolemgbdaaGreatDoor
open Go.Ax
def Ai1:Sig:=⟨26,[(0,.sl .col false),(1,.sl .col false),(4,.bool),(12,.int .i64),(13,.int .i64)],[],[],0,0,0,[],[]⟩
abbrev X5:=List Col×List Col×Bool×Int×Int
def Yt{R:Type}(rec:X5→Option R) (kx:Ex→X5→Option R) (v:X5):Option R:=match v with
 |(v,v1,v2,v3,v4) =>
 cond (decide (v4<v3)) (
  chk (inb v4 v.length) (
  chk (inb v4 v1.length) (
   cond (!decide ((at' .col v v4)=(at' .col v1 v4))) (
   kx .ret (v,v1,false,v3,v4)) (
   rec (v,v1,v2,v3,(wr .i64 (v4+1))))))) (
  kx (.exit 0) (v,v1,v2,v3,v4))
def Awi(R:Type) (k:Nat):Px R:=pxO [] [] [(4,Ao k Ai1 (Yt))] []
def Ajn(k:Nat) (x:HV [.sl .col false,.sl .col false]):Option (HV [.bool]):=match x with
 |(a,b) =>
 cond (!decide ((a.length:Int)=(b.length:Int))) (
  some false) (
  Al (fun rec=>Yt rec (fun e vz=>match vz with|(_,_,v7,_,_)=>match e with
  |.ret =>
   some v7
  |.exit 0 =>
   some true
  |_=>none)) k (a,b,false,(a.length:Int),0))
theorem A64(k:Nat):FO 75 [.sl .col false,.sl .col false] [.bool] (Ajn k):=fR (px:=Awi _ k) (n:=1) Tryz.func75 rfl (fun cx H=>by
 have h0:Lv cx (Awi (HV [.bool]) k):=lv H Ae Aa Ab
 have hlaeqc_0:=lO H h0 (b:=lp Tryz.f75 0) (k:=k) (n:=0) (s:=Ai1) (step:=Yt) (fun _ _ _ (_,_,_,_,_)=>by kernel_rfl) Aj
 exact⟨h0,(Bf Aj hlaeqc_0)⟩) fun(_,_)=>by kernel_rfl
def Bb4(a b:List Col):Bool:=decide (a=b)
def Avw:FT [.sl .col false,.sl .col false] [.bool]:=fun x=>some (Bb4 x.1 x.2)
theorem A18{R:Type}{kx:Ex→X5→Option R}{a b:List Col}{c:Bool→Option R}(hn:ln a.length) (he:a.length=b.length) (h1:∀i,kx .ret (a,b,false,(a.length:Int),i)=c false) (h2:∀q i,kx (.exit 0) (a,b,q,(a.length:Int),i)=c true) (k:Nat) (hk:a.length<k) :
  Al (fun rec=>Yt rec kx) k (a,b,false,(a.length:Int),0)=c (decide (a=b)):=by
 refine(Ce a.length (fun i=>(a,b,false,(a.length:Int),(i:Int))) (fun i=>c (decide (a.drop i=b.drop i))) (fun i hi rec hr =>?_) (fun rec =>?_) k 0 (Nat.zero_le _) (by omega)).trans (by rw [Zq1,Zq1])
 ·have hi2:i<b.length:=by omega
  simp only [Yt,Fw hi,Af,A4 hi,A4 hi2,chk,A9 (c :=.col) hi,A9 (c :=.col) hi2,Az hi hn,hr,h1,Am hi,Am hi2,Ze2]
  by_cases hx:a[i]=b[i]
  ·rw [Ze1 hx]
   simp [hx]
  ·rw [Zd1 hx]
   simp [hx]
 ·simp only [Yt,Fx,Ah,h2]
  rw [Zk1 (Zn1 _),Zk1 (by omega)]
  rfl
theorem Ba3:FO 75 [.sl .col false,.sl .col false] [.bool] Avw :=.fin 0 A64 fun(a,b) r hb hx=>⟨a.length+1,by
 simp only [Avw,Za1] at hx
 rw [←hx]
 simp only [Ajn,Bb4]
 by_cases he:a.length=b.length
 ·rw [Ze1 (show(a.length:Int)=(b.length:Int) by omega),Zt1,Ah]
  exact A18 (c:=some) hb.1.1 he (fun _=>rfl) (fun _ _=>rfl) (a.length+1) (by omega)
 ·rw [Zd1 (show ¬(a.length:Int)=(b.length:Int) by omega),Zd1 (fun h=>he (by rw [h]))]
  rfl⟩
def Ak7:Sig:=⟨26,[(0,.sl .str false),(1,.sl .str false),(4,.bool),(12,.int .i64),(13,.int .i64)],[],[],0,0,0,[],[]⟩
abbrev Ym:=List Str×List Str×Bool×Int×Int
def Zp{R:Type}(rec:Ym→Option R) (kx:Ex→Ym→Option R) (v:Ym):Option R:=match v with
 |(v,v1,v2,v3,v4) =>
 cond (decide (v4<v3)) (
  chk (inb v4 v.length) (
  chk (inb v4 v1.length) (
   cond (!decide ((at' .str v v4)=(at' .str v1 v4))) (
   kx .ret (v,v1,false,v3,v4)) (
   rec (v,v1,v2,v3,(wr .i64 (v4+1))))))) (
  kx (.exit 0) (v,v1,v2,v3,v4))
def Ayh(R:Type) (k:Nat):Px R:=pxO [] [] [(4,Ao k Ak7 (Zp))] []
def Ak5(k:Nat) (x:HV [.sl .str false,.sl .str false]):Option (HV [.bool]):=match x with
 |(a,b) =>
 cond (!decide ((a.length:Int)=(b.length:Int))) (
  some false) (
  Al (fun rec=>Zp rec (fun e vz=>match vz with|(_,_,v7,_,_)=>match e with
  |.ret =>
   some v7
  |.exit 0 =>
   some true
  |_=>none)) k (a,b,false,(a.length:Int),0))
theorem A5v(k:Nat):FO 76 [.sl .str false,.sl .str false] [.bool] (Ak5 k):=fR (px:=Ayh _ k) (n:=1) Tryz.func76 rfl (fun cx H=>by
 have h0:Lv cx (Ayh (HV [.bool]) k):=lv H Ae Aa Ab
 have hlaeqs_0:=lO H h0 (b:=lp Tryz.f76 0) (k:=k) (n:=0) (s:=Ak7) (step:=Zp) (fun _ _ _ (_,_,_,_,_)=>by kernel_rfl) Aj
 exact⟨h0,(Bf Aj hlaeqs_0)⟩) fun(_,_)=>by kernel_rfl
def A66(a b:List Str):Bool:=decide (a=b)
def Avc:FT [.sl .str false,.sl .str false] [.bool]:=fun x=>some (A66 x.1 x.2)
theorem A2d{R:Type}{kx:Ex→Ym→Option R}{a b:List Str}{c:Bool→Option R}(hn:ln a.length) (he:a.length=b.length) (h1:∀i,kx .ret (a,b,false,(a.length:Int),i)=c false) (h2:∀q i,kx (.exit 0) (a,b,q,(a.length:Int),i)=c true) (k:Nat) (hk:a.length<k) :
  Al (fun rec=>Zp rec kx) k (a,b,false,(a.length:Int),0)=c (decide (a=b)):=by
 refine(Ce a.length (fun i=>(a,b,false,(a.length:Int),(i:Int))) (fun i=>c (decide (a.drop i=b.drop i))) (fun i hi rec hr =>?_) (fun rec =>?_) k 0 (Nat.zero_le _) (by omega)).trans (by rw [Zq1,Zq1])
 ·have hi2:i<b.length:=by omega
  simp only [Zp,Fw hi,Af,A4 hi,A4 hi2,chk,A9 (c :=.str) hi,A9 (c :=.str) hi2,Az hi hn,hr,h1,Am hi,Am hi2,Ze2]
  by_cases hx:a[i]=b[i]
  ·rw [Ze1 hx]
   simp [hx]
  ·rw [Zd1 hx]
   simp [hx]
 ·simp only [Zp,Fx,Ah,h2]
  rw [Zk1 (Zn1 _),Zk1 (by omega)]
  rfl
theorem Bb8:FO 76 [.sl .str false,.sl .str false] [.bool] Avc :=.fin 0 A5v fun(a,b) r hb hx=>⟨a.length+1,by
 simp only [Avc,Za1] at hx
 rw [←hx]
 simp only [Ak5,A66]
 by_cases he:a.length=b.length
 ·rw [Ze1 (show(a.length:Int)=(b.length:Int) by omega),Zt1,Ah]
  exact A2d (c:=some) hb.1.1 he (fun _=>rfl) (fun _ _=>rfl) (a.length+1) (by omega)
 ·rw [Zd1 (show ¬(a.length:Int)=(b.length:Int) by omega),Zd1 (fun h=>he (by rw [h]))]
  rfl⟩
def Alb:Sig:=⟨26,[(0,.sl .bool false),(1,.sl .bool false),(4,.bool),(12,.int .i64),(13,.int .i64)],[],[],0,0,0,[],[]⟩
abbrev W6:=List Bool×List Bool×Bool×Int×Int
def Yp{R:Type}(rec:W6→Option R) (kx:Ex→W6→Option R) (v:W6):Option R:=match v with
 |(v,v1,v2,v3,v4) =>
 cond (decide (v4<v3)) (
  chk (inb v4 v.length) (
  chk (inb v4 v1.length) (
   cond (!decide ((at' .bool v v4)=(at' .bool v1 v4))) (
   kx .ret (v,v1,false,v3,v4)) (
   rec (v,v1,v2,v3,(wr .i64 (v4+1))))))) (
  kx (.exit 0) (v,v1,v2,v3,v4))
def Ay8(R:Type) (k:Nat):Px R:=pxO [] [] [(4,Ao k Alb (Yp))] []
def Alj(k:Nat) (x:HV [.sl .bool false,.sl .bool false]):Option (HV [.bool]):=match x with
 |(a,b) =>
 cond (!decide ((a.length:Int)=(b.length:Int))) (
  some false) (
  Al (fun rec=>Yp rec (fun e vz=>match vz with|(_,_,v7,_,_)=>match e with
  |.ret =>
   some v7
  |.exit 0 =>
   some true
  |_=>none)) k (a,b,false,(a.length:Int),0))
theorem A3y(k:Nat):FO 77 [.sl .bool false,.sl .bool false] [.bool] (Alj k):=fR (px:=Ay8 _ k) (n:=1) Tryz.func77 rfl (fun cx H=>by
 have h0:Lv cx (Ay8 (HV [.bool]) k):=lv H Ae Aa Ab
 have hlaeqb_0:=lO H h0 (b:=lp Tryz.f77 0) (k:=k) (n:=0) (s:=Alb) (step:=Yp) (fun _ _ _ (_,_,_,_,_)=>by kernel_rfl) Aj
 exact⟨h0,(Bf Aj hlaeqb_0)⟩) fun(_,_)=>by kernel_rfl
def Bb5(a b:List Bool):Bool:=decide (a=b)
def Av7:FT [.sl .bool false,.sl .bool false] [.bool]:=fun x=>some (Bb5 x.1 x.2)
theorem A25{R:Type}{kx:Ex→W6→Option R}{a b:List Bool}{c:Bool→Option R}(hn:ln a.length) (he:a.length=b.length) (h1:∀i,kx .ret (a,b,false,(a.length:Int),i)=c false) (h2:∀q i,kx (.exit 0) (a,b,q,(a.length:Int),i)=c true) (k:Nat) (hk:a.length<k) :
  Al (fun rec=>Yp rec kx) k (a,b,false,(a.length:Int),0)=c (decide (a=b)):=by
 refine(Ce a.length (fun i=>(a,b,false,(a.length:Int),(i:Int))) (fun i=>c (decide (a.drop i=b.drop i))) (fun i hi rec hr =>?_) (fun rec =>?_) k 0 (Nat.zero_le _) (by omega)).trans (by rw [Zq1,Zq1])
 ·have hi2:i<b.length:=by omega
  simp only [Yp,Fw hi,Af,A4 hi,A4 hi2,chk,A9 (c :=.bool) hi,A9 (c :=.bool) hi2,Az hi hn,hr,h1,Am hi,Am hi2,Ze2]
  by_cases hx:a[i]=b[i]
  ·rw [Ze1 hx]
   simp [hx]
  ·rw [Zd1 hx]
   simp [hx]
 ·simp only [Yp,Fx,Ah,h2]
  rw [Zk1 (Zn1 _),Zk1 (by omega)]
  rfl
theorem Bbq:FO 77 [.sl .bool false,.sl .bool false] [.bool] Av7 :=.fin 0 A3y fun(a,b) r hb hx=>⟨a.length+1,by
 simp only [Av7,Za1] at hx
 rw [←hx]
 simp only [Alj,Bb5]
 by_cases he:a.length=b.length
 ·rw [Ze1 (show(a.length:Int)=(b.length:Int) by omega),Zt1,Ah]
  exact A25 (c:=some) hb.1.1 he (fun _=>rfl) (fun _ _=>rfl) (a.length+1) (by omega)
 ·rw [Zd1 (show ¬(a.length:Int)=(b.length:Int) by omega),Zd1 (fun h=>he (by rw [h]))]
  rfl⟩
instance:DecidableEq SetE:=fun a b=>decidable_of_iff (a.name=b.name∧a.e=b.e) (by
 cases a;cases b
 simp)
def Am2(a b:SetE):Bool:=decide (a.name=b.name)&&F3 a.e b.e
theorem Ap4(a b:SetE):Am2 a b=decide (a=b):=by
 cases a;cases b
 simp only [Am2,Kl,SetE.mk.injEq,Bool.decide_and]
def Afh(a b:Stm):Bool:=decide (a.kind=b.kind)&&decide (a.name=b.name)&&decide (a.on=b.on)&&decide (a.has=b.has)&&decide (a.most=b.most)&&decide (a.whr=b.whr)&&(decide (a.cols=b.cols)&&decide (a.names=b.names)&&decide (a.order=b.order)&&decide (a.desc=b.desc)&&decide (a.l=b.l))&&decide (a.rows=b.rows)&&decide (a.sets=b.sets)
theorem Akj(a b:Stm):Afh a b=true↔a=b:=by
 cases a;cases b
 simp only [Afh,Zb1,Zg1,Stm.mk.injEq]
 constructor
 ·rintro⟨⟨⟨⟨⟨⟨⟨⟨h1,h2⟩,h3⟩,h4⟩,h5⟩,h6⟩,⟨⟨⟨h7,h8⟩,h9⟩,h10⟩,h11⟩,h12⟩,h13⟩
  exact⟨h1,h2,h3,h7,h8,h11,h12,h13,h4,h6,h9,h10,h5⟩
 ·rintro⟨h1,h2,h3,h7,h8,h11,h12,h13,h4,h6,h9,h10,h5⟩
  exact⟨⟨⟨⟨⟨⟨⟨⟨h1,h2⟩,h3⟩,h4⟩,h5⟩,h6⟩,⟨⟨⟨h7,h8⟩,h9⟩,h10⟩,h11⟩,h12⟩,h13⟩
def Abh:Sig:=⟨32,[(1,.sl .set false),(6,.bool),(15,.sl .set false),(16,.int .i64),(17,.int .i64)],[(2,.fn 81 [])],[],40,40,600,[],[]⟩
abbrev Mz:=List SetE×Bool×List SetE×Int×Int
def Lj{R:Type}(rec:Mz→Option R) (kx:Ex→Mz→Option R) (v:Mz):Option R:=match v with
 |(v36,v37,v38,v39,v40) =>
 cond (decide (v40<v39)) (
  chk (inb v40 v38.length) (
  chk (inb v40 v36.length) (
   cond (decide (((at' .set v38 v40).name)=((at' .set v36 v40).name))) (
   cond (!(Nw (Nr ((at' .set v38 v40).e)) (Nr ((at' .set v36 v40).e)))) (
    kx .ret (v36,false,v38,v39,v40)) (
    rec (v36,v37,v38,v39,(wr .i64 (v40+1))))) (
   kx .ret (v36,false,v38,v39,v40))))) (
  kx (.exit 0) (v36,v37,v38,v39,v40))
def Aaw:Sig:=⟨32,[(1,.sl .expr false),(6,.bool),(15,.sl .expr false),(16,.int .i64),(17,.int .i64)],[(2,.fn 20 [])],[(0,.one (.sv .stmt)),(1,.one (.sv .stmt))],120,120,600,[],[]⟩
abbrev M6:=List Xpr×Bool×List Xpr×Int×Int×Stm×Stm
def Lr{R:Type}(rec:M6→Option R) (kx:Ex→M6→Option R) (v:M6):Option R:=match v with
 |(v17,v18,v19,v20,v21,w4,w5) =>
 cond (decide (v21<v20)) (
  chk (inb v21 v19.length) (
  chk (inb v21 v17.length) (
   cond (!(Nw (at' .expr v19 v21) (at' .expr v17 v21))) (
   kx .ret (v17,false,v19,v20,v21,w4,w5)) (
   rec (v17,v18,v19,v20,(wr .i64 (v21+1)),w4,w5))))) (
  kx (.exit 0) (v17,v18,v19,v20,v21,w4,w5))
def Aa9:Sig:=⟨32,[(1,.sl .exprs false),(6,.bool),(15,.sl .exprs false),(16,.int .i64),(17,.int .i64)],[(2,.fn 79 [])],[(0,.one (.sv .stmt)),(1,.one (.sv .stmt))],40,40,400,[],[]⟩
abbrev M8:=List (List Xpr)×Bool×List (List Xpr)×Int×Int×Stm×Stm
def Ku{R:Type}(k:Nat) (rec:M8→Option R) (kx:Ex→M8→Option R) (v:M8):Option R:=match v with
 |(v12,v13,v14,v15,v16,w2,w3) =>
 cond (decide (v16<v15)) (
  chk (inb v16 v14.length) (
  chk (inb v16 v12.length) (
   cond (!decide (((at' .exprs v14 v16).length:Int)=((at' .exprs v12 v16).length:Int))) (
   kx .ret (v12,false,v14,v15,v16,w2,w3)) (
   Al (fun rc=>Lr rc (fun e vz=>match vz with|(_,v23,_,_,_,v27,v28)=>match e with
    |.ret =>
    cond (!v23) (
     kx .ret (v12,false,v14,v15,v16,v27,v28)) (
     rec (v12,v13,v14,v15,(wr .i64 (v16+1)),v27,v28))
    |.exit 0 =>
    rec (v12,v13,v14,v15,(wr .i64 (v16+1)),v27,v28)
    |_=>none)) k ((at' .exprs v12 v16),false,(at' .exprs v14 v16),((at' .exprs v14 v16).length:Int),0,w2,w3))))) (
  kx (.exit 0) (v12,v13,v14,v15,v16,w2,w3))
def Abt:Sig:=⟨32,[(1,.sl .expr false),(6,.bool),(15,.sl .expr false),(16,.int .i64),(17,.int .i64)],[(2,.fn 20 [])],[(0,.one (.sv .stmt)),(1,.one (.sv .stmt))],40,40,200,[],[]⟩
abbrev M7:=List Xpr×Bool×List Xpr×Int×Int×Stm×Stm
def Kt{R:Type}(rec:M7→Option R) (kx:Ex→M7→Option R) (v:M7):Option R:=match v with
 |(v,v1,v2,v3,v4,w,w1) =>
 cond (decide (v4<v3)) (
  chk (inb v4 v2.length) (
  chk (inb v4 v.length) (
   cond (!(Nw (at' .expr v2 v4) (at' .expr v v4))) (
   kx .ret (v,false,v2,v3,v4,w,w1)) (
   rec (v,v1,v2,v3,(wr .i64 (v4+1)),w,w1))))) (
  kx (.exit 0) (v,v1,v2,v3,v4,w,w1))
def Abd(R:Type) (k:Nat):Px R:=pxO [(20,cA Q8)] [] [(4,Ao k Abt (Kt))] []
def No(R:Type) (k:Nat):Px R:=pxO [(20,cA Q8)] [] [(4,Ao k Aaw (Lr))] []
noncomputable def Sw (R:Type) (k:Nat):Px R:=pxO [(47,As 120 600 (No R k) Tryz.f47)] [] [] []
noncomputable def Aby (R:Type) (k:Nat):Px R:=pxO [(79,As 80 600 (Sw R k) Tryz.f79)] [] [(4,Ao k Aa9 (Ku k))] []
def S6(R:Type) (_k:Nat):Px R:=pxO [(20,cA Q8)] [] [] []
noncomputable def Abn (R:Type) (k:Nat):Px R:=pxO [(81,As 80 800 (S6 R k) Tryz.f81)] [] [(4,Ao k Abh (Lj))] []
noncomputable def Ajl (R:Type) (k:Nat):Px R:=pxO [(20,cA Q8),(75,cA Avw),(76,cA Avc),(77,cA Av7),(47,As 40 200 (Abd R k) Tryz.f47),(78,As 40 400 (Aby R k) Tryz.f78),(80,As 40 600 (Abn R k) Tryz.f80)] [] [] []
def Oi(k:Nat) (x:HV [.sv .stmt,.sv .stmt]):Option (HV [.bool]):=match x with
 |(a,b) =>
 let j9:=fun(p6:Bool) =>
  let j8:=fun(p13:Bool) (q6:Stm) (q7:Stm) =>
  let j7:=fun(p14:Bool) =>
   let j6:=fun(p23:Bool) (q24:Stm) (q25:Stm) =>
   cond (p23) (
    cond (!decide ((q24.sets.length:Int)=(q25.sets.length:Int))) (
    some false) (
    Al (fun rec=>Lj rec (fun e vz=>match vz with|(_,v42,_,_,_)=>match e with
     |.ret =>
     some v42
     |.exit 0 =>
     some true
     |_=>none)) k (q25.sets,false,q24.sets,(q24.sets.length:Int),0))) (
    some false)
   cond (p14) (
   cond (!decide ((q6.rows.length:Int)=(q7.rows.length:Int))) (
    j6 false q6 q7) (
    Al (fun rec=>Ku k rec (fun e vz=>match vz with|(_,v30,_,_,_,v34,v35)=>match e with
    |.ret =>
     j6 v30 v34 v35
    |.exit 0 =>
     j6 true v34 v35
    |_=>none)) k (q7.rows,false,q6.rows,(q6.rows.length:Int),0,q6,q7))) (
   j6 false q6 q7)
  cond (p6) (
   j7 p13) (
   j7 false)
  let j5:=fun(p7:Bool) =>
  let j4:=fun(p8:Bool) =>
   let j3:=fun(p9:Bool) =>
   cond (p9) (
    cond (!decide ((a.l.length:Int)=(b.l.length:Int))) (
    j8 false a b) (
    Al (fun rec=>Kt rec (fun e vz=>match vz with|(_,v6,_,_,_,v10,v11)=>match e with
     |.ret =>
     j8 v6 v10 v11
     |.exit 0 =>
     j8 true v10 v11
     |_=>none)) k (b.l,false,a.l,(a.l.length:Int),0,a,b))) (
    j8 false a b)
   cond (p8) (
   j3 (Bb5 a.desc b.desc)) (
   j3 false)
  cond (p7) (
   j4 (A66 a.order b.order)) (
   j4 false)
  cond ((Bb4 a.cols b.cols)) (
  j5 (A66 a.names b.names)) (
  j5 false)
 let j2:=fun(p:Bool) =>
  let j1:=fun(p1:Bool) =>
  let j:=fun(p2:Bool) =>
   cond (p2) (
   cond (decide (a.most=b.most)) (
    j9 (Nw (Nr a.whr) (Nr b.whr))) (
    j9 false)) (
   j9 false)
  cond (p1) (
   j (decide (a.has=b.has))) (
   j false)
  cond (p) (
  j1 (decide (a.on=b.on))) (
  j1 false)
 cond (decide (a.kind=b.kind)) (
  j2 (decide (a.name=b.name))) (
  j2 false)
theorem Atr(k:Nat):FO 27 [.sv .stmt,.sv .stmt] [.bool] (Oi k):=fR (px:=Ajl _ k) (n:=0) Tryz.func27 rfl (fun cx H=>by
 have h1:Lv cx (Abd (HV [.bool]) k):=lv H (c1 H Pt Ae) Aa Ab
 have hlastmts_0:=lO H h1 (b:=lp Tryz.f47 0) (k:=k) (n:=0) (s:=Abt) (step:=Kt) (fun _ _ _ (_,_,_,_,_,_,_)=>by kernel_rfl) Aj
 have h4:Lv cx (No (HV [.bool]) k):=lv H (c1 H Pt Ae) Aa Ab
 have hlastmts_2:=lO H h4 (b:=lp Tryz.f47 0) (k:=k) (n:=0) (s:=Aaw) (step:=Lr) (fun _ _ _ (_,_,_,_,_,_,_)=>by kernel_rfl) Aj
 have h3:Lv cx (Sw (HV [.bool]) k):=lv H (An (cR H h4 Tryz.func47 rfl (n:=1) ((Bf Aj hlastmts_2))) Ae) Aa Ab
 have h2:Lv cx (Aby (HV [.bool]) k):=lv H (An (cR H h3 Tryz.func79 rfl (n:=0) (Aj)) Ae) Aa Ab
 have hlastmts_1:=lO H h2 (b:=lp Tryz.f78 0) (k:=k) (n:=0) (s:=Aa9) (step:=Ku k) (fun _ _ _ (_,_,_,_,_,_,_)=>by kernel_rfl) Aj
 have h6:Lv cx (S6 (HV [.bool]) k):=lv H (c1 H Pt Ae) Aa Ab
 have h5:Lv cx (Abn (HV [.bool]) k):=lv H (An (cR H h6 Tryz.func81 rfl (n:=0) (Aj)) Ae) Aa Ab
 have hlastmts_3:=lO H h5 (b:=lp Tryz.f80 0) (k:=k) (n:=0) (s:=Abh) (step:=Lj) (fun _ _ _ (_,_,_,_,_)=>by kernel_rfl) Aj
 have h0:Lv cx (Ajl (HV [.bool]) k):=lv H (c1 H Pt (c1 H Ba3 (c1 H Bb8 (c1 H Bbq (An (cR H h1 Tryz.func47 rfl (n:=1) ((Bf Aj hlastmts_0))) (An (cR H h2 Tryz.func78 rfl (n:=1) ((Bf Aj hlastmts_1))) (An (cR H h5 Tryz.func80 rfl (n:=1) ((Bf Aj hlastmts_3))) Ae))))))) Aa Ab
 exact⟨h0,Aj⟩) fun(_,_)=>by kernel_rfl
def Avv(a b:Stm):Bool:=Afh a b
def Apq:FT [.sv .stmt,.sv .stmt] [.bool]:=fun x=>some (Avv x.1 x.2)
theorem Ww{α:Type} [DecidableEq α] (x y : α) (l m:List α):decide (x::l=y::m)=(decide (x=y)&&decide (l=m)):=by
 simp only [Ze2,Bool.decide_and]
theorem Ah1{R:Type}{kx:Ex→M7→Option R}{l m:List Xpr}{s t:Stm}{c:Bool→Option R}(hn:ln l.length) (hm:l.length=m.length)
  (h1:∀i,kx .ret (m,false,l,(l.length:Int),i,s,t)=c false) (h2:∀q i,kx (.exit 0) (m,q,l,(l.length:Int),i,s,t)=c true) (k:Nat) (hk:l.length<k):Al (fun rec=>Kt rec kx) k (m,false,l,(l.length:Int),0,s,t)=c (decide (l=m)):=by
 refine(Ce l.length (fun i=>(m,false,l,(l.length:Int),(i:Int),s,t)) (fun i=>c (decide (l.drop i=m.drop i))) (fun i hi rec hr =>?_) (fun rec =>?_) k 0 (Nat.zero_le _) (by omega)).trans (by rw [Zq1,Zq1])
 ·have hi2:i<m.length:=by omega
  simp only [Kt,Fw hi,Af,A4 hi,A4 hi2,chk,A9 (c :=.expr) hi,A9 (c :=.expr) hi2,Az hi hn,hr,h1,Am hi,Am hi2,Ww,Nw,Kl]
  cases decide (l[i]=m[i])<;>rfl
 ·simp only [Kt,Fx,Ah,h2]
  rw [Zk1 (Zn1 _),Zk1 (by omega)]
  rfl
theorem Ah3{R:Type}{kx:Ex→M6→Option R}{l m:List Xpr}{s t:Stm}{c:Bool→Option R}(hn:ln l.length) (hm:l.length=m.length)
  (h1:∀i,kx .ret (m,false,l,(l.length:Int),i,s,t)=c false) (h2:∀q i,kx (.exit 0) (m,q,l,(l.length:Int),i,s,t)=c true) (k:Nat) (hk:l.length<k):Al (fun rec=>Lr rec kx) k (m,false,l,(l.length:Int),0,s,t)=c (decide (l=m)):=by
 refine(Ce l.length (fun i=>(m,false,l,(l.length:Int),(i:Int),s,t)) (fun i=>c (decide (l.drop i=m.drop i))) (fun i hi rec hr =>?_) (fun rec =>?_) k 0 (Nat.zero_le _) (by omega)).trans (by rw [Zq1,Zq1])
 ·have hi2:i<m.length:=by omega
  simp only [Lr,Fw hi,Af,A4 hi,A4 hi2,chk,A9 (c :=.expr) hi,A9 (c :=.expr) hi2,Az hi hn,hr,h1,Am hi,Am hi2,Ww,Nw,Kl]
  cases decide (l[i]=m[i])<;>rfl
 ·simp only [Lr,Fx,Ah,h2]
  rw [Zk1 (Zn1 _),Zk1 (by omega)]
  rfl
theorem Ah2{R:Type}{kx:Ex→M8→Option R}{l m:List (List Xpr)}{s t:Stm}{c:Bool→Option R}(hn:ln l.length) (hm:l.length=m.length) (hr0:∀x,x∈l→ln x.length) (k:Nat) (hkr:∀x,x∈l→List.length x<k)
  (h1:∀i,kx .ret (m,false,l,(l.length:Int),i,s,t)=c false) (h2:∀q i,kx (.exit 0) (m,q,l,(l.length:Int),i,s,t)=c true) (hk:l.length<k):Al (fun rec=>Ku k rec kx) k (m,false,l,(l.length:Int),0,s,t)=c (decide (l=m)):=by
 refine(Ce l.length (fun i=>(m,false,l,(l.length:Int),(i:Int),s,t)) (fun i=>c (decide (l.drop i=m.drop i))) (fun i hi rec hr =>?_) (fun rec =>?_) k 0 (Nat.zero_le _) (by omega)).trans (by rw [Zq1,Zq1])
 ·have hi2:i<m.length:=by omega
  simp only [Ku,Fw hi,Af,A4 hi,A4 hi2,chk,A9 (c :=.exprs) hi,A9 (c :=.exprs) hi2,Az hi hn,Am hi,Am hi2,Ww]
  by_cases hlen:l[i].length=m[i].length
  ·rw [Ze1 (show(l[i].length:Int)=(m[i].length:Int) by omega),Zt1,Ah]
   rw [Ah3 (c:=fun b=>cond b (c (decide (l.drop (i+1)=m.drop (i+1)))) (c false)) (hr0 _ (List.getElem_mem hi)) hlen (fun _=>h1 _) (fun _ _=>hr) k (hkr _ (List.getElem_mem hi))]
   cases decide (l[i]=m[i])<;>rfl
  ·rw [Zd1 (show ¬(l[i].length:Int)=(m[i].length:Int) by omega),Zd1 (fun h=>hlen (by rw [h])),h1]
   rfl
 ·simp only [Ku,Fx,Ah,h2]
  rw [Zk1 (Zn1 _),Zk1 (by omega)]
  rfl
theorem Ah8{R:Type}{kx:Ex→Mz→Option R}{l m:List SetE}{c:Bool→Option R}(hn:ln l.length) (hm:l.length=m.length)
  (h1:∀i,kx .ret (m,false,l,(l.length:Int),i)=c false) (h2:∀q i,kx (.exit 0) (m,q,l,(l.length:Int),i)=c true) (k:Nat) (hk:l.length<k):Al (fun rec=>Lj rec kx) k (m,false,l,(l.length:Int),0)=c (decide (l=m)):=by
 refine(Ce l.length (fun i=>(m,false,l,(l.length:Int),(i:Int))) (fun i=>c (decide (l.drop i=m.drop i))) (fun i hi rec hr =>?_) (fun rec =>?_) k 0 (Nat.zero_le _) (by omega)).trans (by rw [Zq1,Zq1])
 ·have hi2:i<m.length:=by omega
  simp only [Lj,Fw hi,Af,A4 hi,A4 hi2,chk,A9 (c :=.set) hi,A9 (c :=.set) hi2,Az hi hn,hr,h1,Am hi,Am hi2,Ww,Nw,←Ap4,Am2,R9]
  cases decide (l[i].name=m[i].name)<;>cases F3 l[i].e m[i].e<;>rfl
 ·simp only [Lj,Fx,Ah,h2]
  rw [Zk1 (Zn1 _),Zk1 (by omega)]
  rfl
theorem Aob{α:Type} [DecidableEq α] {l m:List α}(h:¬l.length=m.length):decide (l=m)=false:=Zd1 fun e=>h (by rw [e])
def Bar(s:Stm):Nat:=s.l.length+s.rows.length+s.sets.length+(s.rows.map List.length).sum
theorem Awr{l:List (List Xpr)}{x:List Xpr}(h:x∈l):x.length≤(l.map List.length).sum:=by
 induction l with
 |nil=>cases h
 |cons y l ih =>
  simp only [Zw1,List.sum_cons]
  rcases List.mem_cons.1 h with rfl|h
  ·omega
  ·have:=ih h;omega
theorem A4e(k:Nat) (a b:Stm) (hb:BdStm a) (hk:Bar a<k):Oi k (a,b)=some (Afh a b):=by
 have hk2:=hk
 simp only [Bar] at hk2
 simp -zeta only [Oi,Nw,Kl,R9,Bb4,A66,Bb5]
 extract_lets j6 j9 j j1 j2
 have h6:∀q,j6 q a b=some (q&&decide (a.sets=b.sets)):=fun q=>by
  simp -zeta only [j6]
  cases q with
  |false=>rfl
  |true =>
   rw [Af,Bool.true_and]
   by_cases hs:a.sets.length=b.sets.length
   ·rw [Ze1 (show(a.sets.length:Int)=(b.sets.length:Int) by omega),Zt1,Ah]
    exact Ah8 (c:=some) hb.sets.1 hs (fun _=>rfl) (fun _ _=>rfl) k (by omega)
   ·rw [Zd1 (show ¬(a.sets.length:Int)=(b.sets.length:Int) by omega),Aob hs]
    rfl
 have h9:∀p,j9 p=some (p&&(decide (a.cols=b.cols)&&decide (a.names=b.names)&&decide (a.order=b.order)&&decide (a.desc=b.desc)&&decide (a.l=b.l))&&decide (a.rows=b.rows)&&decide (a.sets=b.sets)):=fun p=>by
  simp -zeta only [j9]
  extract_lets j8 j3 j4 j5
  have h8:∀q,j8 q a b=some (p&&q&&decide (a.rows=b.rows)&&decide (a.sets=b.sets)):=fun q=>by
   simp -zeta only [j8]
   extract_lets j7
   have h7:∀q,j7 q=some (q&&decide (a.rows=b.rows)&&decide (a.sets=b.sets)):=fun q=>by
    simp -zeta only [j7]
    cases q with
    |false=>exact(h6 false).trans rfl
    |true =>
     rw [Af,Bool.true_and]
     by_cases hs:a.rows.length=b.rows.length
     ·rw [Ze1 (show(a.rows.length:Int)=(b.rows.length:Int) by omega),Zt1,Ah]
      refine(Ah2 (c:=fun q=>j6 q a b) hb.rows.1 hs (fun x hx=>(hb.rows.2 x hx).1) k (fun x hx=>by have:=Awr hx;omega) (fun _=>rfl) (fun _ _=>rfl) (by omega)).trans (h6 _)
     ·rw [Zd1 (show ¬(a.rows.length:Int)=(b.rows.length:Int) by omega),Aob hs]
      exact(h6 false).trans rfl
   cases p with
   |false=>exact(h7 false).trans rfl
   |true=>exact(h7 q).trans (by rw [Bool.true_and])
  have h3:∀q,j3 q=some (p&&(q&&decide (a.l=b.l))&&decide (a.rows=b.rows)&&decide (a.sets=b.sets)):=fun q=>by
   simp -zeta only [j3]
   cases q with
   |false=>exact h8 false
   |true =>
    rw [Af,Bool.true_and]
    by_cases hs:a.l.length=b.l.length
    ·rw [Ze1 (show(a.l.length:Int)=(b.l.length:Int) by omega),Zt1,Ah]
     exact(Ah1 (c:=fun q=>j8 q a b) hb.l.1 hs (fun _=>rfl) (fun _ _=>rfl) k (by omega)).trans (h8 _)
    ·rw [Zd1 (show ¬(a.l.length:Int)=(b.l.length:Int) by omega),Aob hs]
     exact h8 false
  have h4:∀q,j4 q=some (p&&(q&&decide (a.desc=b.desc)&&decide (a.l=b.l))&&decide (a.rows=b.rows)&&decide (a.sets=b.sets)):=fun q=>by
   simp -zeta only [j4]
   cases q with
   |false=>exact h3 false
   |true=>exact(h3 _).trans (by rw [Bool.true_and])
  have h5:∀q,j5 q=some (p&&(q&&decide (a.order=b.order)&&decide (a.desc=b.desc)&&decide (a.l=b.l))&&decide (a.rows=b.rows)&&decide (a.sets=b.sets)):=fun q=>by
   simp -zeta only [j5]
   cases q with
   |false=>exact h4 false
   |true=>exact(h4 _).trans (by rw [Bool.true_and])
  cases decide (a.cols=b.cols) with
  |false=>exact h5 false
  |true=>exact(h5 _).trans (by simp only [Bool.true_and])
 simp -zeta only [j2,j1,j,Afh]
 cases decide (a.kind=b.kind) with
 |false=>exact(h9 false).trans rfl
 |true =>
  cases decide (a.name=b.name) with
  |false=>exact(h9 false).trans rfl
  |true =>
   cases decide (a.on=b.on) with
   |false=>exact(h9 false).trans rfl
   |true =>
    cases decide (a.has=b.has) with
    |false=>exact(h9 false).trans rfl
    |true =>
     cases decide (a.most=b.most) with
     |false=>exact(h9 false).trans rfl
     |true=>exact(h9 _).trans (by simp only [Bool.true_and])
theorem A3o:FO 27 [.sv .stmt,.sv .stmt] [.bool] Apq :=.fin 0 Atr fun(a,b) r hb hx=>⟨Bar a+1,(A4e (Bar a+1) a b hb.1 (by omega)).trans hx⟩
end Go.Proofs.YthndhaolemgbdaaGreatDoor
namespace Go.Proofs.YthndhaolemgbdaaGreatDoor
open Go.Ax
instance:DecidableEq Stm:=fun a b=>decidable_of_iff (Afh a b=true) (Akj a b)
theorem A1q(a b:Stm):Afh a b=decide (a=b):=by
 rw [Bool.eq_iff_iff,Akj,Zg1]
def A7m(R:Type):Px R:=pxO [] [] [] []
def Uu(x:HV [.int .i64]):Option (HV [.bool]):=match x with
 |n =>
 cond (decide (1≤n)) (
  some (decide (n≤100))) (
  some false)
theorem A0k:FO 66 [.int .i64] [.bool] (Uu):=fR (px:=A7m _) (n:=0) Tryz.func66 rfl (fun _ H=>⟨lv H Ae Aa Ab,Aj⟩) fun _=>by kernel_rfl
def Ct(n:Int):Bool :=
 cond (decide (1≤n)) (
  (decide (n≤100))) (
  false)
theorem A3s(x:HV [.int .i64]):Uu x=some (Ct x):=by
 first
  |exact rfl
  |simp only [Uu,Ct,Bb]
def X3:FT [.int .i64] [.bool]:=fun x=>some (Ct x)
theorem V0:FO 66 [.int .i64] [.bool] X3 :=.fin0 A0k fun x _ _ hx=>(A3s x).trans hx
def Ahq:Sig:=⟨26,[(0,.sl .str false),(2,.bool),(5,.sl .str false),(6,.int .i64),(7,.int .i64)],[],[],0,0,0,[],[]⟩
abbrev R4:=List Str×Bool×List Str×Int×Int
def Rk{R:Type}(rec:R4→Option R) (kx:Ex→R4→Option R) (v:R4):Option R:=match v with
 |(v,v1,v2,v3,v4) =>
 cond (decide (v4<v3)) (
  chk (inb v4 v2.length) (
  cond (!(Dq (at' .str v2 v4))) (
   kx .ret (v,false,v2,v3,v4)) (
   chk (Cs 0 v4 v.length) (
   cond ((Aq9 (v.take (v4:Int).toNat) (at' .str v2 v4))) (
    kx .ret (v,false,v2,v3,v4)) (
    rec (v,v1,v2,v3,(wr .i64 (v4+1)))))))) (
  kx (.exit 0) (v,v1,v2,v3,v4))
def Ap9(R:Type) (k:Nat):Px R:=pxO [(63,cA Mx),(44,cA Auw)] [] [(2,Ao k Ahq (Rk))] []
def Afe(k:Nat) (x:HV [.sl .str false]):Option (HV [.bool]):=match x with
 |l =>
 Al (fun rec=>Rk rec (fun e vz=>match vz with|(v5,v6,_,_,_)=>match e with
  |.ret =>
  some v6
  |.exit 0 =>
  some (decide ((v5.length:Int)≤100))
  |_=>none)) k (l,false,l,(l.length:Int),0)
theorem A3b(k:Nat):FO 67 [.sl .str false] [.bool] (Afe k):=fR (px:=Ap9 _ k) (n:=1) Tryz.func67 rfl (fun cx H=>by
 have h0:Lv cx (Ap9 (HV [.bool]) k):=lv H (c1 H Oz (c1 H Awg Ae)) Aa Ab
 have hlaonce_0:=lO H h0 (b:=lp Tryz.f67 0) (k:=k) (n:=0) (s:=Ahq) (step:=Rk) (fun _ _ _ (_,_,_,_,_)=>by kernel_rfl) Aj
 exact⟨h0,(Bf Aj hlaonce_0)⟩) fun _=>by kernel_rfl
def Ail:List Str→List Str→Bool
 |_,[]=>true
 |seen,s::r=>Dq s && !seen.contains s&&Ail (seen++[s]) r
def Dk(l:List Str):Bool:=Ail [] l&&decide (l.length≤100)
def W2:FT [.sl .str false] [.bool]:=fun x=>some (Dk x)
theorem As1{l:List Str}{i:Nat}(hi:i<l.length):l.take (i+1)=l.take i++[l[i]]:=by
 rw [List.take_add_one,Zo1 hi]
 rfl
theorem Ava{R:Type}{kx:Ex→R4→Option R}{l:List Str}{c:Bool→Option R}(hn:ln l.length) (h1:∀i,kx .ret (l,false,l,(l.length:Int),i)=c false) (h2:∀q i,kx (.exit 0) (l,q,l,(l.length:Int),i)=c true) (k:Nat) (hk:l.length<k) :
  Al (fun rec=>Rk rec kx) k (l,false,l,(l.length:Int),0)=c (Ail [] l):=by
 refine(Ce l.length (fun i=>(l,false,l,(l.length:Int),(i:Int))) (fun i=>c (Ail (l.take i) (l.drop i))) (fun i hi rec hr =>?_) (fun rec =>?_) k 0 (Nat.zero_le _) (by omega)).trans (by rw [Zq1,List.take_zero])
 ·have hu:Cs 0 (i:Int) l.length=true:=by simp [Cs];omega
  simp only [Rk,Fw hi,Af,A4 hi,chk,A9 (c :=.str) hi,Az hi hn,hr,h1,Am hi,Ail,hu,Int.toNat_natCast,Ay0,As1 hi]
  cases Dq l[i]<;>cases (l.take i).contains l[i]<;>rfl
 ·simp only [Rk,Fx,Ah,h2]
  rw [Zk1 (Zn1 _)]
  rfl
theorem Aet:FO 67 [.sl .str false] [.bool] W2 :=.fin 0 A3b fun l r hb hx=>⟨l.length+1,by
 simp only [W2,Za1] at hx
 rw [←hx]
 simp only [Afe]
 refine(Ava (l:=l) (c:=fun b=>cond b (some (decide ((l.length:Int)≤100))) (some false)) hb.1 (fun _=>rfl) (fun _ _=>rfl) (l.length+1) (by omega)).trans ?_
 rw [show decide ((l.length:Int)≤100)=decide (l.length≤100) from Zy1.2 (by omega),Dk]
 cases Ail [] l<;>rfl⟩
def Abf:Sig:=⟨19,[(0,.sl .expr false),(4,.int .i64),(7,.int .i64),(8,.int .i64)],[(1,.fn 112 [])],[],80,80,400,[],[]⟩
abbrev Mn:=List Xpr×Int×Int×Int
def Lb{R:Type}(rec:Mn→Option R) (kx:Ex→Mn→Option R) (v:Mn):Option R:=match v with
 |(v,v1,v2,v3) =>
 cond (decide (v3<v2)) (
  chk (inb v3 v.length) (
  cond (!(A8 (at' .expr v v3) 30)) (
   kx .ret (v,v3,v2,v3)) (
   rec (v,v1,v2,(wr .i64 (v3+1)))))) (
  kx (.exit 0) (v,v1,v2,v3))
def Nm(R:Type) (_k:Nat):Px R:=pxO [(39,cA Lh)] [] [] []
noncomputable def Te (R:Type) (k:Nat):Px R:=pxO [(112,As 120 600 (Nm R k) Tryz.f112)] [] [(2,Ao k Abf (Lb))] []
noncomputable def Acc (R:Type) (k:Nat):Px R:=pxO [(148,As 80 400 (Te R k) Tryz.f148)] [] [] []
noncomputable def Ajt (R:Type) (k:Nat):Px R:=pxO [(96,As 40 200 (Acc R k) Tryz.f96)] [] [] []
def Aca(k:Nat) (x:HV [.sl .expr false]):Option (HV [.bool]):=match x with
 |l =>
 cond (decide ((l.length:Int)≤100)) (
  Al (fun rec=>Lb rec (fun e vz=>match vz with|(_,v5,_,_)=>match e with
  |.ret =>
   some (!(decide (0≤v5)))
  |.exit 0 =>
   some true
  |_=>none)) k (l,0,(l.length:Int),0)) (
  some false)
theorem Aug(k:Nat):FO 68 [.sl .expr false] [.bool] (Aca k):=fR (px:=Ajt _ k) (n:=0) Tryz.func68 rfl (fun cx H=>by
 have h3:Lv cx (Nm (HV [.bool]) k):=lv H (c1 H Kn Ae) Aa Ab
 have h2:Lv cx (Te (HV [.bool]) k):=lv H (An (cR H h3 Tryz.func112 rfl (n:=0) (Aj)) Ae) Aa Ab
 have hlaexprs_0:=lO H h2 (b:=lp Tryz.f148 0) (k:=k) (n:=0) (s:=Abf) (step:=Lb) (fun _ _ _ (_,_,_,_)=>by kernel_rfl) Aj
 have h1:Lv cx (Acc (HV [.bool]) k):=lv H (An (cR H h2 Tryz.func148 rfl (n:=1) ((Bf Aj hlaexprs_0))) Ae) Aa Ab
 have h0:Lv cx (Ajt (HV [.bool]) k):=lv H (An (cR H h1 Tryz.func96 rfl (n:=0) (Aj)) Ae) Aa Ab
 exact⟨h0,Aj⟩) fun _=>by kernel_rfl
def Kb(l:List Xpr):Bool:=decide (l.length≤100)&&l.all fun e=>A8 e 30
def Vm:FT [.sl .expr false] [.bool]:=fun x=>some (Kb x)
theorem Aq8{R:Type}{kx:Ex→Mn→Option R}{l:List Xpr}{c:Bool→Option R}(hn:ln l.length) (h1:∀i:Nat,kx .ret (l,(i:Int),(l.length:Int),(i:Int))=c false) (h2:∀q i,kx (.exit 0) (l,q,(l.length:Int),i)=c true) (k:Nat) (hk:l.length<k) :
  Al (fun rec=>Lb rec kx) k (l,0,(l.length:Int),0)=c (l.all fun e=>A8 e 30):=by
 refine(Ce l.length (fun i=>(l,(0:Int),(l.length:Int),(i:Int))) (fun i=>c ((l.drop i).all fun e=>A8 e 30)) (fun i hi rec hr =>?_) (fun rec =>?_) k 0 (Nat.zero_le _) (by omega)).trans (by rw [Zq1])
 ·simp only [Lb,Fw hi,Af,A4 hi,chk,A9 (c :=.expr) hi,Az hi hn,hr,h1,Am hi,Zv1]
  cases A8 l[i] 30<;>rfl
 ·simp only [Lb,Fx,Ah,h2]
  rw [Zk1 (Zn1 _)]
  rfl
theorem Ajo:FO 68 [.sl .expr false] [.bool] Vm :=.fin 0 Aug fun l r hb hx=>⟨l.length+1,by
 simp only [Vm,Za1] at hx
 rw [←hx]
 simp only [Aca,Kb]
 rw [show decide ((l.length:Int)≤100)=decide (l.length≤100) from Zy1.2 (by omega)]
 cases decide (l.length≤100) with
 |false=>rfl
 |true =>
  rw [Af,Bool.true_and]
  exact Aq8 (l:=l) (c:=some) hb.1 (fun i=>by simp) (fun _ _=>rfl) (l.length+1) (by omega)⟩
def Af1:Sig:=⟨19,[(0,.sl .exprs false),(4,.int .i64),(7,.int .i64),(8,.int .i64)],[(1,.fn 114 [])],[],80,80,400,[],[]⟩
abbrev P5:=List (List Xpr)×Int×Int×Int
def Ra{R:Type}(rec:P5→Option R) (kx:Ex→P5→Option R) (v:P5):Option R:=match v with
 |(v,v1,v2,v3) =>
 cond (decide (v3<v2)) (
  chk (inb v3 v.length) (
  cond (decide (((at' .exprs v v3).length:Int)=0)) (
   kx .ret (v,v3,v2,v3)) (
   cond (!(Kb (at' .exprs v v3))) (
   kx .ret (v,v3,v2,v3)) (
   rec (v,v1,v2,(wr .i64 (v3+1))))))) (
  kx (.exit 0) (v,v1,v2,v3))
def N7(R:Type) (_k:Nat):Px R:=pxO [(68,cA Vm)] [] [] []
noncomputable def U6 (R:Type) (k:Nat):Px R:=pxO [(114,As 120 600 (N7 R k) Tryz.f114)] [] [(2,Ao k Af1 (Ra))] []
noncomputable def Afp (R:Type) (k:Nat):Px R:=pxO [(155,As 80 400 (U6 R k) Tryz.f155)] [] [] []
noncomputable def Arv (R:Type) (k:Nat):Px R:=pxO [(66,cA X3),(113,As 40 200 (Afp R k) Tryz.f113)] [] [] []
def Agu(k:Nat) (x:HV [.sl .exprs false]):Option (HV [.bool]):=match x with
 |l =>
 cond ((Ct (l.length:Int))) (
  Al (fun rec=>Ra rec (fun e vz=>match vz with|(_,v5,_,_)=>match e with
  |.ret =>
   some (!(decide (0≤v5)))
  |.exit 0 =>
   some true
  |_=>none)) k (l,0,(l.length:Int),0)) (
  some false)
theorem A01(k:Nat):FO 69 [.sl .exprs false] [.bool] (Agu k):=fR (px:=Arv _ k) (n:=0) Tryz.func69 rfl (fun cx H=>by
 have h3:Lv cx (N7 (HV [.bool]) k):=lv H (c1 H Ajo Ae) Aa Ab
 have h2:Lv cx (U6 (HV [.bool]) k):=lv H (An (cR H h3 Tryz.func114 rfl (n:=0) (Aj)) Ae) Aa Ab
 have hlarows_0:=lO H h2 (b:=lp Tryz.f155 0) (k:=k) (n:=0) (s:=Af1) (step:=Ra) (fun _ _ _ (_,_,_,_)=>by kernel_rfl) Aj
 have h1:Lv cx (Afp (HV [.bool]) k):=lv H (An (cR H h2 Tryz.func155 rfl (n:=1) ((Bf Aj hlarows_0))) Ae) Aa Ab
 have h0:Lv cx (Arv (HV [.bool]) k):=lv H (c1 H V0 (An (cR H h1 Tryz.func113 rfl (n:=0) (Aj)) Ae)) Aa Ab
 exact⟨h0,Aj⟩) fun _=>by kernel_rfl
def Aye(r:List Xpr):Bool := !decide (r.length=0)&&Kb r
def Aoo(l:List (List Xpr)):Bool:=Ct (l.length:Int)&&l.all Aye
def Am8:FT [.sl .exprs false] [.bool]:=fun x=>some (Aoo x)
theorem Aub{R:Type}{kx:Ex→P5→Option R}{l:List (List Xpr)}{c:Bool→Option R}(hn:ln l.length) (h1:∀i:Nat,kx .ret (l,(i:Int),(l.length:Int),(i:Int))=c false) (h2:∀q i,kx (.exit 0) (l,q,(l.length:Int),i)=c true) (k:Nat) (hk:l.length<k) :
  Al (fun rec=>Ra rec kx) k (l,0,(l.length:Int),0)=c (l.all Aye):=by
 refine(Ce l.length (fun i=>(l,(0:Int),(l.length:Int),(i:Int))) (fun i=>c ((l.drop i).all Aye)) (fun i hi rec hr =>?_) (fun rec =>?_) k 0 (Nat.zero_le _) (by omega)).trans (by rw [Zq1])
 ·simp only [Ra,Fw hi,Af,A4 hi,chk,A9 (c :=.exprs) hi,Az hi hn,hr,h1,Am hi,Zv1,Aye]
  rw [show decide ((l[i].length:Int)=0)=decide (l[i].length=0) from Zy1.2 (by omega)]
  cases decide (l[i].length=0)<;>cases Kb l[i]<;>rfl
 ·simp only [Ra,Fx,Ah,h2]
  rw [Zk1 (Zn1 _)]
  rfl
theorem A6h:FO 69 [.sl .exprs false] [.bool] Am8 :=.fin 0 A01 fun l r hb hx=>⟨l.length+1,by
 simp only [Am8,Za1] at hx
 rw [←hx]
 simp only [Agu,Aoo]
 cases Ct (l.length:Int) with
 |false=>rfl
 |true =>
  rw [Af,Bool.true_and]
  exact Aub (l:=l) (c:=some) hb.1 (fun i=>by simp) (fun _ _=>rfl) (l.length+1) (by omega)⟩
def A6k(R:Type):Px R:=pxO [(20,cA Q8)] [] [] []
def T9(x:HV [.sv .expr]):Option (HV [.bool]):=match x with
 |e =>
 some (Nw e (Xpr.mk 0 ⟨0,0,[]⟩ [] []))
theorem A2i:FO 115 [.sv .expr] [.bool] (T9):=fR (px:=A6k _) (n:=0) Tryz.func115 rfl (fun _ H=>⟨lv H (c1 H Pt Ae) Aa Ab,Aj⟩) fun _=>by kernel_rfl
def Apb(e:Xpr):Bool :=
 (Nw e (Xpr.mk 0 ⟨0,0,[]⟩ [] []))
theorem Azv(x:HV [.sv .expr]):T9 x=some (Apb x):=by
 first
  |exact rfl
  |simp only [T9,Apb,Bb]
def Ay6:FT [.sv .expr] [.bool]:=fun x=>some (Apb x)
theorem A5c:FO 115 [.sv .expr] [.bool] Ay6 :=.fin0 A2i fun x _ _ hx=>(Azv x).trans hx
def A23(R:Type):Px R:=pxO [(115,cA Ay6),(39,cA Lh)] [] [] []
def O4(x:HV [.sv .stmt]):Option (HV [.bool]):=match x with
 |s =>
 cond (!s.has) (
  some (Apb (Nr s.whr))) (
  some (A8 (Nr s.whr) 30))
theorem Au4:FO 71 [.sv .stmt] [.bool] (O4):=fR (px:=A23 _) (n:=0) Tryz.func71 rfl (fun _ H=>⟨lv H (c1 H A5c (c1 H Kn Ae)) Aa Ab,Aj⟩) fun _=>by kernel_rfl
def J6(s:Stm):Bool :=
 cond (!s.has) (
  (Apb (Nr s.whr))) (
  (A8 (Nr s.whr) 30))
theorem Asv(x:HV [.sv .stmt]):O4 x=some (J6 x):=by
 first
  |exact rfl
  |simp only [O4,J6,Bb]
def Arl:FT [.sv .stmt] [.bool]:=fun x=>some (J6 x)
theorem A3k:FO 71 [.sv .stmt] [.bool] Arl :=.fin0 Au4 fun x _ _ hx=>(Asv x).trans hx
def Ahe:Sig:=⟨44,[(0,.sl .col false),(2,.bool),(3,.sl .str true),(6,.sl .col false),(7,.int .i64),(8,.int .i64)],[],[],0,0,0,[],[]⟩
abbrev Rl:=List Col×Bool×List Str×List Col×Int×Int
def R3{R:Type}(rec:Rl→Option R) (kx:Ex→Rl→Option R) (v:Rl):Option R:=match v with
 |(v,v1,v2,v3,v4,v5) =>
 cond (decide (v5<v4)) (
  chk (inb v5 v3.length) (
  let j:=fun(p:Bool) =>
   cond (p) (
   kx .ret (v,false,v2,v3,v4,v5)) (
   cond (!decide (((at' .col v3 v5).ref)=[])) (
    cond (!(Dq ((at' .col v3 v5).ref))) (
    kx .ret (v,false,v2,v3,v4,v5)) (
    chk (decide (v2.length+1≤Av)) (
     rec (v,v1,(v2++[((at' .col v3 v5).name)]),v3,v4,(wr .i64 (v5+1)))))) (
    chk (decide (v2.length+1≤Av)) (
    rec (v,v1,(v2++[((at' .col v3 v5).name)]),v3,v4,(wr .i64 (v5+1))))))
  cond (decide ((at' .col v3 v5).kind<2)) (
   j true) (
   j (decide (5<(at' .col v3 v5).kind))))) (
  kx (.exit 0) (v,v1,v2,v3,v4,v5))
def Arw(R:Type) (k:Nat):Px R:=pxO [(63,cA Mx),(66,cA X3),(67,cA W2)] [] [(3,Ao k Ahe (R3))] []
def Aha(k:Nat) (x:HV [.sl .col false]):Option (HV [.bool]):=match x with
 |l =>
 Al (fun rec=>R3 rec (fun e vz=>match vz with|(v6,v7,v8,_,_,_)=>match e with
  |.ret =>
  some v7
  |.exit 0 =>
  cond ((Ct (v6.length:Int))) (
   some (Dk v8)) (
   some false)
  |_=>none)) k (l,false,[],l,(l.length:Int),0)
theorem A1f(k:Nat):FO 65 [.sl .col false] [.bool] (Aha k):=fR (px:=Arw _ k) (n:=1) Tryz.func65 rfl (fun cx H=>by
 have h0:Lv cx (Arw (HV [.bool]) k):=lv H (c1 H Oz (c1 H V0 (c1 H Aet Ae))) Aa Ab
 have hlacols_0:=lO H h0 (b:=lp Tryz.f65 0) (k:=k) (n:=0) (s:=Ahe) (step:=R3) (fun _ _ _ (_,_,_,_,_,_)=>by kernel_rfl) Aj
 exact⟨h0,(Bf Aj hlacols_0)⟩) fun _=>by kernel_rfl
def Ae1(c:Col):Bool:=decide (2≤c.kind)&&decide (c.kind≤5)&&(decide (c.ref=[])||Dq c.ref)
def Aw0(l:List Col):Option Bool:=if l.length≤1000000 then some (l.all Ae1&&Ct (l.length:Int)&&Dk (l.map (·.name))) else none
def Amv:FT [.sl .col false] [.bool]:=fun x=>Aw0 x
theorem Asp{R:Type}{kx:Ex→Rl→Option R}{l:List Col}{c:Bool→Option R}(hn:l.length≤1000000) (h1:∀o i,kx .ret (l,false,o,l,(l.length:Int),i)=c false) (h2:∀q o i,kx (.exit 0) (l,q,o,l,(l.length:Int),i)=cond (Ct (l.length:Int)) (c (Dk o)) (c false)) (k:Nat) (hk:l.length<k) :
  Al (fun rec=>R3 rec kx) k (l,false,[],l,(l.length:Int),0)=c (l.all Ae1&&Ct (l.length:Int)&&Dk (l.map (·.name))):=by
 have hl:ln l.length:=by simp only [ln];omega
 refine(Ce l.length (fun i=>(l,false,(l.take i).map (·.name),l,(l.length:Int),(i:Int))) (fun i=>c ((l.drop i).all Ae1&&Ct (l.length:Int)&&Dk (l.map (·.name)))) (fun i hi rec hr =>?_) (fun rec =>?_) k 0 (Nat.zero_le _) (by omega)).trans (by rw [Zq1])
 ·have ht:(l.take (i+1)).map (·.name)=(l.take i).map (·.name)++[l[i].name]:=by
   rw [List.take_add_one,Zo1 hi,List.map_append]
   rfl
  have hlen:((l.take i).map (·.name)).length+1≤Av:=by simp only [List.length_map,List.length_take,Av];omega
  rw [ht] at hr
  simp only [R3,Fw hi,Af,A4 hi,chk,A9 (c :=.col) hi,Az hi hl,hr,h1,Am hi,Zv1,Ae1,Ze1 hlen]
  by_cases ha:l[i].kind<2
  ·rw [Ze1 ha,Zd1 (show ¬ 2≤l[i].kind by omega)]
   rfl
  ·rw [Zd1 ha,Ze1 (show 2≤l[i].kind by omega)]
   by_cases hb : 5<l[i].kind
   ·rw [Ze1 hb,Zd1 (show ¬l[i].kind≤5 by omega)]
    rfl
   ·rw [Zd1 hb,Ze1 (show l[i].kind≤5 by omega)]
    cases decide (l[i].ref=[])<;>cases Dq l[i].ref<;>rfl
 ·simp only [R3,Fx,Ah,h2]
  rw [Zk1 (Zn1 _),List.take_length]
  cases Ct (l.length:Int)<;>rfl
theorem A5o:FO 65 [.sl .col false] [.bool] Amv :=.fin 0 A1f fun l r hb hx=>⟨l.length+1,by
 simp only [Amv,Aw0] at hx
 split at hx
 ·rename_i h
  rw [←hx]
  simp only [Aha]
  refine Asp (l:=l) (c:=some) h (fun _ _=>rfl) (fun _ _ _ =>?_) (l.length+1) (by omega)
  cases Ct (l.length:Int)<;>rfl
 ·cases hx⟩
def Aeo:Sig:=⟨29,[(0,.sl .set false),(2,.bool),(3,.sl .str true),(6,.sl .set false),(7,.int .i64),(8,.int .i64)],[],[],0,0,0,[],[]⟩
abbrev Rh:=List SetE×Bool×List Str×List SetE×Int×Int
def R1{R:Type}(rec:Rh→Option R) (kx:Ex→Rh→Option R) (v:Rh):Option R:=match v with
 |(v,v1,v2,v3,v4,v5) =>
 cond (decide (v5<v4)) (
  chk (inb v5 v3.length) (
  cond (!(A8 (Nr ((at' .set v3 v5).e)) 30)) (
   kx .ret (v,false,v2,v3,v4,v5)) (
   chk (decide (v2.length+1≤Av)) (
   rec (v,v1,(v2++[((at' .set v3 v5).name)]),v3,v4,(wr .i64 (v5+1))))))) (
  kx (.exit 0) (v,v1,v2,v3,v4,v5))
def Ao5(R:Type) (k:Nat):Px R:=pxO [(39,cA Lh),(66,cA X3),(67,cA W2)] [] [(3,Ao k Aeo (R1))] []
def Ady(k:Nat) (x:HV [.sl .set false]):Option (HV [.bool]):=match x with
 |l =>
 Al (fun rec=>R1 rec (fun e vz=>match vz with|(v6,v7,v8,_,_,_)=>match e with
  |.ret =>
  some v7
  |.exit 0 =>
  cond ((Ct (v6.length:Int))) (
   some (Dk v8)) (
   some false)
  |_=>none)) k (l,false,[],l,(l.length:Int),0)
theorem Azw(k:Nat):FO 70 [.sl .set false] [.bool] (Ady k):=fR (px:=Ao5 _ k) (n:=1) Tryz.func70 rfl (fun cx H=>by
 have h0:Lv cx (Ao5 (HV [.bool]) k):=lv H (c1 H Kn (c1 H V0 (c1 H Aet Ae))) Aa Ab
 have hlasets_0:=lO H h0 (b:=lp Tryz.f70 0) (k:=k) (n:=0) (s:=Aeo) (step:=R1) (fun _ _ _ (_,_,_,_,_,_)=>by kernel_rfl) Aj
 exact⟨h0,(Bf Aj hlasets_0)⟩) fun _=>by kernel_rfl
def Ax1(l:List SetE):Option Bool:=if l.length≤1000000 then some (l.all (fun x=>A8 x.e 30)&&Ct (l.length:Int)&&Dk (l.map (·.name))) else none
def Anq:FT [.sl .set false] [.bool]:=fun x=>Ax1 x
theorem Atb{R:Type}{kx:Ex→Rh→Option R}{l:List SetE}{c:Bool→Option R}(hn:l.length≤1000000) (h1:∀o i,kx .ret (l,false,o,l,(l.length:Int),i)=c false) (h2:∀q o i,kx (.exit 0) (l,q,o,l,(l.length:Int),i)=cond (Ct (l.length:Int)) (c (Dk o)) (c false)) (k:Nat) (hk:l.length<k) :
  Al (fun rec=>R1 rec kx) k (l,false,[],l,(l.length:Int),0)=c (l.all (fun x=>A8 x.e 30)&&Ct (l.length:Int)&&Dk (l.map (·.name))):=by
 have hl:ln l.length:=by simp only [ln];omega
 refine(Ce l.length (fun i=>(l,false,(l.take i).map (·.name),l,(l.length:Int),(i:Int))) (fun i=>c ((l.drop i).all (fun x=>A8 x.e 30)&&Ct (l.length:Int)&&Dk (l.map (·.name)))) (fun i hi rec hr =>?_) (fun rec =>?_) k 0 (Nat.zero_le _) (by omega)).trans (by rw [Zq1])
 ·have ht:(l.take (i+1)).map (·.name)=(l.take i).map (·.name)++[l[i].name]:=by
   rw [List.take_add_one,Zo1 hi,List.map_append]
   rfl
  have hlen:((l.take i).map (·.name)).length+1≤Av:=by simp only [List.length_map,List.length_take,Av];omega
  rw [ht] at hr
  simp only [R1,Fw hi,Af,A4 hi,chk,A9 (c :=.set) hi,Az hi hl,hr,h1,Am hi,Zv1,Ze1 hlen,R9]
  cases A8 l[i].e 30<;>rfl
 ·simp only [R1,Fx,Ah,h2]
  rw [Zk1 (Zn1 _),List.take_length]
  cases Ct (l.length:Int)<;>rfl
theorem A4l:FO 70 [.sl .set false] [.bool] Anq :=.fin 0 Azw fun l r hb hx=>⟨l.length+1,by
 simp only [Anq,Ax1] at hx
 split at hx
 ·rename_i h
  rw [←hx]
  simp only [Ady]
  refine Atb (l:=l) (c:=some) h (fun _ _=>rfl) (fun _ _ _ =>?_) (l.length+1) (by omega)
  cases Ct (l.length:Int)<;>rfl
 ·cases hx⟩
def noX:Xpr :=.mk 0 ⟨0,0,[]⟩ [] []
def noS:Stm:=⟨0,[],[],[],[],[],[],[],false,noX,[],[],0⟩
def A6c(R:Type):Px R:=pxO [] [] [] []
def Ahp(x:HV [.sv .stmt]):Option (HV [.sv .stmt]):=match x with
 |s =>
 cond (decide (s.kind=1)) (
  some (Stm.mk 0 [] s.on [] [] [] s.rows s.sets s.has (Nr s.whr) s.order s.desc s.most)) (
  cond (decide (s.kind=3)) (
  some (Stm.mk 0 [] [] s.cols [] s.l s.rows s.sets s.has (Nr s.whr) s.order s.desc s.most)) (
  cond (decide (s.kind=5)) (
   some (Stm.mk 0 [] s.on s.cols s.names s.l [] s.sets s.has (Nr s.whr) s.order s.desc s.most)) (
   cond (decide (s.kind=6)) (
   some (Stm.mk 0 [] s.on s.cols s.names s.l s.rows [] false (Xpr.mk 0 ⟨0,0,[]⟩ [] []) s.order s.desc s.most)) (
   cond (decide (s.kind=7)) (
    some (Stm.mk 0 [] s.on s.cols s.names s.l s.rows s.sets false (Xpr.mk 0 ⟨0,0,[]⟩ [] []) s.order s.desc s.most)) (
    cond (decide (s.kind=8)) (
    some (Stm.mk 0 [] s.on s.cols s.names [] s.rows s.sets false (Xpr.mk 0 ⟨0,0,[]⟩ [] []) [] [] 0)) (
    some (Stm.mk 0 [] s.on s.cols s.names s.l s.rows s.sets s.has (Nr s.whr) s.order s.desc s.most)))))))
theorem Azt:FO 64 [.sv .stmt] [.sv .stmt] (Ahp):=fR (px:=A6c _) (n:=0) Tryz.func64 rfl (fun _ H=>⟨lv H Ae Aa Ab,Aj⟩) fun _=>by kernel_rfl
def Aex(s:Stm):Stm :=
 if s.kind=1 then { s with kind:=0,name:=[],cols:=[],names:=[],l:=[] }
 else if s.kind=3 then { s with kind:=0,name:=[],on:=[],names:=[] }
 else if s.kind=5 then { s with kind:=0,name:=[],rows:=[] }
 else if s.kind=6 then { s with kind:=0,name:=[],sets:=[],has:=false,whr:=noX }
 else if s.kind=7 then { s with kind:=0,name:=[],has:=false,whr:=noX }
 else if s.kind=8 then { s with kind:=0,name:=[],l:=[],has:=false,whr:=noX,order:=[],desc:=[],most:=0 }
 else { s with kind:=0,name:=[] }
def Ane:FT [.sv .stmt] [.sv .stmt]:=fun x=>some (Aex x)
theorem A5p:FO 64 [.sv .stmt] [.sv .stmt] Ane :=.fin0 Azt fun s r hb hx=>by
 simp only [Ane,Za1] at hx
 rw [←hx]
 simp only [Ahp,Aex,R9,Bool.cond_decide]
 split; · rfl
 split; · rfl
 split; · rfl
 split; · rfl
 split; · rfl
 split<;>rfl
def Azs(R:Type):Px R:=pxO [(63,cA Mx),(64,cA Ane),(27,cA Apq),(65,cA Amv),(66,cA X3),(67,cA W2),(68,cA Vm),(69,cA Am8),(70,cA Anq),(71,cA Arl)] [] [] []
def Ab7(x:HV [.sv .stmt]):Option (HV [.int .i64]):=match x with
 |s =>
 let j7:=fun(p1:Bool) =>
  cond (decide (s.kind=1)) (
  let j1:=fun(p2:Bool) =>
   let j:=fun(p3:Bool) =>
   cond (p3) (
    cond ((Dk s.names)) (
    cond (!(Kb s.l)) (
     some 2) (
     some 0)) (
    some 2)) (
    some 2)
   cond (p2) (
   j (Ct (s.names.length:Int))) (
   j false)
  cond (p1) (
   (Aw0 s.cols).bind fun x =>
   j1 x) (
   j1 false)) (
  cond (decide (s.kind=3)) (
   let j2:=fun(p7:Bool) =>
   cond (p7) (
    cond ((Ct (s.names.length:Int))) (
    cond (!(Dk s.names)) (
     some 2) (
     some 0)) (
    some 2)) (
    some 2)
   cond (p1) (
   j2 (Dq s.on)) (
   j2 false)) (
   let j6:=fun(p11:Bool) =>
   cond (p11) (
    cond (!p1) (
    some 2) (
    some 0)) (
    cond (decide (s.kind=5)) (
    cond (p1) (
     cond (!(Aoo s.rows)) (
     some 2) (
     some 0)) (
     some 2)) (
    cond (decide (s.kind=6)) (
     cond (p1) (
     (Ax1 s.sets).bind fun x1 =>
      cond (x1) (
      cond (!(J6 s)) (
       some 2) (
       some 0)) (
      some 2)) (
     some 2)) (
     cond (decide (s.kind=7)) (
     cond (p1) (
      cond (!(J6 s)) (
      some 2) (
      some 0)) (
      some 2)) (
     cond (decide (s.kind=8)) (
      let j5:=fun(p17:Bool) =>
      let j4:=fun(p18:Bool) =>
       let j3:=fun(p19:Bool) =>
       cond (p19) (
        cond (decide ((s.desc.length:Int)=(s.order.length:Int))) (
        cond (!(decide ((-1)≤s.most))) (
         some 2) (
         some 0)) (
        some 2)) (
        some 2)
       cond (p18) (
       j3 (Dk s.order)) (
       j3 false)
      cond (p17) (
       j4 (J6 s)) (
       j4 false)
      cond (p1) (
      j5 (Kb s.l)) (
      j5 false)) (
      some 2)))))
   cond (decide (s.kind=2)) (
   j6 (decide (s.kind=2))) (
   j6 (decide (s.kind=4)))))
 cond ((Dq s.name)) (
  j7 (Avv (Aex s) (Stm.mk 0 [] [] [] [] [] [] [] false (Xpr.mk 0 ⟨0,0,[]⟩ [] []) [] [] 0))) (
  j7 false)
theorem Avs:FO 25 [.sv .stmt] [.int .i64] (Ab7):=fR (px:=Azs _) (n:=0) Tryz.func25 rfl (fun _ H=>⟨lv H (c1 H Oz (c1 H A5p (c1 H A3o (c1 H A5o (c1 H V0 (c1 H Aet (c1 H Ajo (c1 H A6h (c1 H A4l (c1 H A3k Ae)))))))))) Aa Ab,Aj⟩) fun _=>by kernel_rfl
def A50(s:Stm):Bool:=Dq s.name&&decide (Aex s=noS)&&(
 if s.kind=1 then s.cols.all Ae1&&Ct (s.cols.length:Int)&&Dk (s.cols.map (·.name))&&Ct (s.names.length:Int)&&Dk s.names&&Kb s.l
 else if s.kind=3 then Dq s.on&&Ct (s.names.length:Int)&&Dk s.names
 else if s.kind=2∨s.kind=4 then true
 else if s.kind=5 then Aoo s.rows
 else if s.kind=6 then s.sets.all (fun x=>A8 x.e 30)&&Ct (s.sets.length:Int)&&Dk (s.sets.map (·.name))&&J6 s
 else if s.kind=7 then J6 s
 else if s.kind=8 then Kb s.l&&J6 s&&Dk s.order&&decide (s.desc.length=s.order.length)&&decide (-1≤s.most)
 else false)
def Ny(s:Stm):Option Int:=if s.cols.length≤1000000∧s.sets.length≤1000000 then some (cond (A50 s) 0 2) else none
def Vz:FT [.sv .stmt] [.int .i64]:=fun x=>Ny x
theorem Aiw:FO 25 [.sv .stmt] [.int .i64] Vz :=.fin0 Avs fun s r hb hx=>by
 simp only [Vz,Ny] at hx
 split at hx
 case isFalse=>cases hx
 rename_i h
 rw [←hx]
 have e1:Aw0 s.cols=some (s.cols.all Ae1&&Ct (s.cols.length:Int)&&Dk (s.cols.map (·.name))):=if_pos h.1
 have e2:Ax1 s.sets=some (s.sets.all (fun x=>A8 x.e 30)&&Ct (s.sets.length:Int)&&Dk (s.sets.map (·.name))):=if_pos h.2
 have e3:Avv (Aex s) (Stm.mk 0 [] [] [] [] [] [] [] false (Xpr.mk 0 ⟨0,0,[]⟩ [] []) [] [] 0)=decide (Aex s=noS):=A1q _ _
 have e4:decide ((s.desc.length:Int)=(s.order.length:Int))=decide (s.desc.length=s.order.length):=Zy1.2 (by omega)
 simp only [Ab7,A50,e1,e2,e3,e4,Zc1]
 generalize Dq s.name=A
 generalize decide (Aex s=noS)=B
 generalize (s.cols.all Ae1&&Ct (s.cols.length:Int)&&Dk (s.cols.map (·.name)))=C
 generalize Ct (s.names.length:Int)=D
 generalize Dk s.names=E
 generalize Kb s.l=F
 generalize Dq s.on=G
 generalize Aoo s.rows=H
 generalize (s.sets.all (fun x=>A8 x.e 30)&&Ct (s.sets.length:Int)&&Dk (s.sets.map (·.name)))=I
 generalize J6 s=J
 generalize Dk s.order=K
 generalize decide (s.desc.length=s.order.length)=L
 generalize decide (-1≤s.most)=M
 by_cases h1:s.kind=1
 ·rw [Ze1 h1,if_pos h1]
  cases A<;>cases B<;>cases C<;>cases D<;>cases E<;>cases F<;>rfl
 rw [Zd1 h1,if_neg h1]
 by_cases h3:s.kind=3
 ·rw [Ze1 h3,if_pos h3]
  cases A<;>cases B<;>cases G<;>cases D<;>cases E<;>rfl
 rw [Zd1 h3,if_neg h3]
 by_cases h24:s.kind=2∨s.kind=4
 ·rw [if_pos h24]
  rcases h24 with h2|h2
  ·rw [Ze1 h2]
   cases A<;>cases B<;>rfl
  ·rw [Ze1 h2,Zd1 (show ¬s.kind=2 by omega)]
   cases A<;>cases B<;>rfl
 rw [if_neg h24,Zd1 (show ¬s.kind=2 by omega),Zd1 (show ¬s.kind=4 by omega)]
 by_cases h5:s.kind=5
 ·rw [Ze1 h5,if_pos h5]
  cases A<;>cases B<;>cases H<;>rfl
 rw [Zd1 h5,if_neg h5]
 by_cases h6:s.kind=6
 ·rw [Ze1 h6,if_pos h6]
  cases A<;>cases B<;>cases I<;>cases J<;>rfl
 rw [Zd1 h6,if_neg h6]
 by_cases h7:s.kind=7
 ·rw [Ze1 h7,if_pos h7]
  cases A<;>cases B<;>cases J<;>rfl
 rw [Zd1 h7,if_neg h7]
 by_cases h8:s.kind=8
 ·rw [Ze1 h8,if_pos h8]
  cases A<;>cases B<;>cases F<;>cases J<;>cases K<;>cases L<;>cases M<;>rfl
 rw [Zd1 h8,if_neg h8]
 cases A<;>cases B<;>rfl
end Go.Proofs.YthndhaolemgbdaaGreatDoor
namespace Go.Proofs.YthndhaolemgbdaaGreatDoor
open Go.Ax
def Hf:Sig:=⟨1,[],[(0,.ptr 0 0)],[(0,.cells [.sl .tok false,.int .i64,.bool,.int .i64])],1,1,0,[],[]⟩
def He:Sig:=⟨1,[(0,.sv .tok)],[],[(0,.cells [.sl .tok false,.int .i64,.bool,.int .i64])],1,1,0,[],[]⟩
abbrev Axo:=List Tok×Int×Bool×Int
abbrev Aw5:=Tok×List Tok×Int×Bool×Int
def A4a(R:Type):Px R:=pxO [] [] [] []
def Tt(x:Axo):Option (Aw5):=match x with
 |(l,n,b,p) =>
 cond (decide ((l.length:Int)=0)) (
  some ((Tok.mk 0 n [] 0),l,n,b,p)) (
  chk (inb 0 l.length) (
  some ((at' .tok l 0),l,n,b,p)))
theorem A0f:FM 158 Hf He (Tt):=fRL (px:=A4a _) (n:=0) Tryz.func158 rfl (fun _ H=>⟨lv H Ae Aa Ab,Aj⟩) fun(_,_,_,_)=>by kernel_rfl
def Dh:Axo→Option Aw5:=fun x=>Tt x
theorem Kk:FM 158 Hf He (Dh):=A0f
def Io:Sig:=⟨1,[],[(0,.ptr 0 0)],[(0,.cells [.sl .tok false,.int .i64,.bool,.int .i64])],1,1,0,[],[]⟩
def Ip:Sig:=⟨1,[(0,.sv .tok)],[],[(0,.cells [.sl .tok false,.int .i64,.bool,.int .i64])],1,1,0,[],[]⟩
abbrev Awx:=List Tok×Int×Bool×Int
abbrev Axn:=Tok×List Tok×Int×Bool×Int
def A55(R:Type):Px R:=pxO [(158,Ai Hf He Dh)] [] [] []
def Um(x:Awx):Option (Axn):=match x with
 |(l,n,b,p) =>
 (Dh (l,n,b,p)).bind fun(x,x1,x2,x3,x4) =>
  cond (decide (0<(x1.length:Int))) (
  chk (Cs 1 x1.length x1.length) (
   some (x,(x1.drop (1:Int).toNat),x2,x3,x4))) (
  some (x,x1,x2,x3,x4))
theorem A2l:FM 159 Io Ip (Um):=fRL (px:=A55 _) (n:=0) Tryz.func159 rfl (fun _ H=>⟨lv H (l1 H Kk Ae) Aa Ab,Aj⟩) fun(_,_,_,_)=>by kernel_rfl
def Ca:Awx→Option Axn:=fun x=>Um x
theorem Pd:FM 159 Io Ip (Ca):=A2l
def C0:Sig:=⟨2,[(1,.str)],[(0,.ptr 0 0)],[(0,.cells [.sl .tok false,.int .i64,.bool,.int .i64])],1,1,0,[],[]⟩
def Cz:Sig:=⟨1,[(0,.bool)],[],[(0,.cells [.sl .tok false,.int .i64,.bool,.int .i64])],1,1,0,[],[]⟩
abbrev Bd4:=Str×List Tok×Int×Bool×Int
abbrev Bd2:=Bool×List Tok×Int×Bool×Int
def Bfd(R:Type):Px R:=pxO [(158,Ai Hf He Dh),(159,Ai Io Ip Ca)] [] [] []
def W4(x:Bd4):Option (Bd2):=match x with
 |(s,l,n,b,p) =>
 (Dh (l,n,b,p)).bind fun(x,x1,x2,x3,x4) =>
  cond (!decide (x.kind=1)) (
  cond (!decide (x.kind=6)) (
   some (false,x1,x2,x3,x4)) (
   cond (!decide (x.s=s)) (
   some (false,x1,x2,x3,x4)) (
   (Ca (x1,x2,x3,x4)).bind fun(_,x11,x12,x13,x14) =>
    some (true,x11,x12,x13,x14)))) (
  cond (!decide (x.s=s)) (
   some (false,x1,x2,x3,x4)) (
   (Ca (x1,x2,x3,x4)).bind fun(_,x16,x17,x18,x19) =>
   some (true,x16,x17,x18,x19)))
theorem Baw:FM 117 C0 Cz (W4):=fRL (px:=Bfd _) (n:=0) Tryz.func117 rfl (fun _ H=>⟨lv H (l1 H Kk (l1 H Pd Ae)) Aa Ab,Aj⟩) fun(_,_,_,_,_)=>by kernel_rfl
def A0:Bd4→Option Bd2:=fun x=>W4 x
theorem Di:FM 117 C0 Cz (A0):=Baw
def Fo:Sig:=⟨1,[],[(0,.ptr 0 0)],[(0,.cells [.sl .tok false,.int .i64,.bool,.int .i64])],1,1,0,[],[]⟩
def Fu:Sig:=⟨0,[],[],[(0,.cells [.sl .tok false,.int .i64,.bool,.int .i64])],1,1,0,[],[]⟩
abbrev Apa:=List Tok×Int×Bool×Int
abbrev Arp:=List Tok×Int×Bool×Int
def A1t(R:Type):Px R:=pxO [(158,Ai Hf He Dh)] [] [] []
def Pu(x:Apa):Option (Arp):=match x with
 |(l,n,b,p) =>
 cond (!b) (
  (Dh (l,n,b,p)).bind fun(x,x1,x2,_,_) =>
  some (x1,x2,true,x.pos)) (
  some (l,n,b,p))
theorem Ate:FM 127 Fo Fu (Pu):=fRL (px:=A1t _) (n:=0) Tryz.func127 rfl (fun _ H=>⟨lv H (l1 H Kk Ae) Aa Ab,Aj⟩) fun(_,_,_,_)=>by kernel_rfl
def Co:Apa→Option Arp:=fun x=>Pu x
theorem Ie:FM 127 Fo Fu (Co):=Ate
def C5:Sig:=⟨2,[(1,.sl .str false)],[(0,.ptr 0 0)],[(0,.cells [.sl .tok false,.int .i64,.bool,.int .i64])],1,1,0,[],[]⟩
def C2:Sig:=⟨0,[],[],[(0,.cells [.sl .tok false,.int .i64,.bool,.int .i64])],1,1,0,[],[]⟩
abbrev Aww:=List Str×List Tok×Int×Bool×Int
abbrev An9:=List Tok×Int×Bool×Int
def Adu:Sig:=⟨27,[(6,.sl .str false),(7,.int .i64),(8,.int .i64)],[(0,.ptr 0 0)],[(0,.cells [.sl .tok false,.int .i64,.bool,.int .i64])],1,1,0,[],[]⟩
abbrev Qz:=List Str×Int×Int×List Tok×Int×Bool×Int
def L8{R:Type}(rec:Qz→Option R) (kx:Ex→Qz→Option R) (v:Qz):Option R:=match v with
 |(v,v1,v2,w,w1,w2,w3) =>
 cond (decide (v2<v1)) (
  chk (inb v2 v.length) (
  let j:=fun(p2:Bool) (q4:List Tok) (q5:Int) (q6:Bool) (q7:Int) =>
   cond (p2) (
   (Co (q4,q5,q6,q7)).bind fun(x5,x6,x7,x8) =>
    kx .ret (v,v1,v2,x5,x6,x7,x8)) (
   rec (v,v1,(wr .i64 (v2+1)),q4,q5,q6,q7))
  cond (w2) (
   j true w w1 w2 w3) (
   (A0 ((at' .str v v2),w,w1,w2,w3)).bind fun(x,x1,x2,x3,x4) =>
   j (!x) x1 x2 x3 x4))) (
  kx (.exit 0) (v,v1,v2,w,w1,w2,w3))
def Ara(R:Type) (k:Nat):Px R:=pxO [(117,Ai C0 Cz A0),(127,Ai Fo Fu Co)] [] [(1,Ao k Adu (L8))] []
def Iv(k:Nat) (x:Aww):Option (An9):=match x with
 |(ss,l,n,b,p) =>
 Al (fun rec=>L8 rec (fun e vz=>match vz with|(_,_,_,v6,v7,v8,v9)=>match e with
  |.ret =>
  some (v6,v7,v8,v9)
  |.exit 0 =>
  some (v6,v7,v8,v9)
  |_=>none)) k (ss,(ss.length:Int),0,l,n,b,p)
theorem A2j(k:Nat):FM 119 C5 C2 (Iv k):=fRL (px:=Ara _ k) (n:=1) Tryz.func119 rfl (fun cx H=>by
 have h0:Lv cx (Ara (An9) k):=lv H (l1 H Di (l1 H Ie Ae)) Aa Ab
 have hlpmust_0:=lO H h0 (b:=lp Tryz.f119 0) (k:=k) (n:=0) (s:=Adu) (step:=L8) (fun _ _ _ (_,_,_,_,_,_,_)=>by kernel_rfl) Aj
 exact⟨h0,(Bf Aj hlpmust_0)⟩) fun(_,_,_,_,_)=>by kernel_rfl
def Aw:Aww→Option An9:=fun x=>Iv ((x.1.length+1)) x
theorem D8:FM 119 C5 C2 (Aw):=FnLn.fin (ι:=Nat) (sg:=C5) (so:=C2) 0 (F:=fun k=>Iv k) (fun k=>A2j k) fun x _ _ hx=>⟨(x.1.length+1),hx⟩
def D7:Sig:=⟨1,[],[(0,.ptr 0 0)],[(0,.cells [.sl .tok false,.int .i64,.bool,.int .i64])],1,1,0,[],[]⟩
def Ef:Sig:=⟨1,[(0,.str)],[],[(0,.cells [.sl .tok false,.int .i64,.bool,.int .i64])],1,1,0,[],[]⟩
abbrev Axw:=List Tok×Int×Bool×Int
abbrev Aze:=Str×List Tok×Int×Bool×Int
def A6b(R:Type):Px R:=pxO [(158,Ai Hf He Dh),(127,Ai Fo Fu Co),(159,Ai Io Ip Ca)] [] [] []
def Ad9(x:Axw):Option (Aze):=match x with
 |(l,n,b,p) =>
 (Dh (l,n,b,p)).bind fun(x,x1,x2,x3,x4) =>
  let j:=fun(p2:Bool) =>
  cond (p2) (
   (Co (x1,x2,x3,x4)).bind fun(x5,x6,x7,x8) =>
   some ([],x5,x6,x7,x8)) (
   (Ca (x1,x2,x3,x4)).bind fun(x9,x10,x11,x12,x13) =>
   some (x9.s,x10,x11,x12,x13))
  cond (x3) (
  j true) (
  j (!decide (x.kind=2)))
theorem A2m:FM 120 D7 Ef (Ad9):=fRL (px:=A6b _) (n:=0) Tryz.func120 rfl (fun _ H=>⟨lv H (l1 H Kk (l1 H Ie (l1 H Pd Ae))) Aa Ab,Aj⟩) fun(_,_,_,_)=>by kernel_rfl
def Bj:Axw→Option Aze:=fun x=>Ad9 x
theorem F1:FM 120 D7 Ef (Bj):=A2m
def B5:Sig:=⟨1,[],[(0,.ptr 0 0)],[(0,.cells [.sl .tok false,.int .i64,.bool,.int .i64])],1,1,0,[],[]⟩
def B4:Sig:=⟨1,[(0,.sv .expr)],[],[(0,.cells [.sl .tok false,.int .i64,.bool,.int .i64])],1,1,0,[],[]⟩
abbrev Au:=List Tok×Int×Bool×Int
abbrev Aq:=Xpr×List Tok×Int×Bool×Int
def Z0:Sig:=⟨1,[],[(0,.ptr 0 0)],[(0,.cells [.sl .tok false,.int .i64,.bool,.int .i64])],1,1,0,[],[]⟩
def Y4:Sig:=⟨1,[(0,.sv .expr)],[],[(0,.cells [.sl .tok false,.int .i64,.bool,.int .i64])],1,1,0,[],[]⟩
abbrev Asa:=List Tok×Int×Bool×Int
abbrev W7:=Xpr×List Tok×Int×Bool×Int
def Abr(R:Type) (_rf:Au→Option Aq):Px R:=pxO [(159,Ai Io Ip Ca)] [] [] []
noncomputable def Aio (R:Type) (rf:Au→Option Aq):Px R:=pxO [(158,Ai Hf He Dh),(159,Ai Io Ip Ca),(119,Ai C5 C2 Aw),(90,Ai B5 B4 rf),(209,As 80 400 (Abr R rf) Tryz.f209)] [] [] []
def Jo(rf:Au→Option Aq) (x:Asa):Option (W7):=match x with
 |(l,n,b,p) =>
 (Dh (l,n,b,p)).bind fun(x,x1,x2,x3,x4) =>
  cond (x3) (
  some ((Xpr.mk 0 ⟨0,0,[]⟩ [] []),x1,x2,x3,x4)) (
  cond (decide (x.kind=2)) (
   (Ca (x1,x2,x3,x4)).bind fun(_,x6,x7,x8,x9) =>
   some ((Xpr.mk 2 ⟨0,0,[]⟩ x.s []),x6,x7,x8,x9)) (
   cond (decide (x.kind=3)) (
   (Ca (x1,x2,x3,x4)).bind fun(_,x11,x12,x13,x14) =>
    some ((Xpr.mk 1 ⟨3,x.n,[]⟩ [] []),x11,x12,x13,x14)) (
   cond (decide (x.kind=4)) (
    (Ca (x1,x2,x3,x4)).bind fun(_,x16,x17,x18,x19) =>
    some ((Xpr.mk 1 ⟨4,0,x.s⟩ [] []),x16,x17,x18,x19)) (
    cond (decide (x.kind=5)) (
    (Ca (x1,x2,x3,x4)).bind fun(_,x21,x22,x23,x24) =>
     some ((Xpr.mk 1 ⟨5,0,x.s⟩ [] []),x21,x22,x23,x24)) (
    let j2:=fun(p2:Bool) =>
     cond (p2) (
     (Ca (x1,x2,x3,x4)).bind fun(_,x26,x27,x28,x29) =>
      some ((Xpr.mk 1 ⟨2,1,[]⟩ [] []),x26,x27,x28,x29)) (
     let j1:=fun(p4:Bool) =>
      cond (p4) (
      (Ca (x1,x2,x3,x4)).bind fun(_,x31,x32,x33,x34) =>
       some ((Xpr.mk 1 ⟨2,0,[]⟩ [] []),x31,x32,x33,x34)) (
      let j:=fun(p6:Bool) =>
       cond (p6) (
       (Ca (x1,x2,x3,x4)).bind fun(_,x36,x37,x38,x39) =>
        some ((Xpr.mk 1 ⟨1,0,[]⟩ [] []),x36,x37,x38,x39)) (
       (Aw ([[40]],x1,x2,x3,x4)).bind fun(x40,x41,x42,x43) =>
        (rf (x40,x41,x42,x43)).bind fun(x44,x45,x46,x47,x48) =>
        (Aw ([[41]],x45,x46,x47,x48)).bind fun(x49,x50,x51,x52) =>
         some (x44,x49,x50,x51,x52))
      cond (decide (x.kind=1)) (
       j (decide (x.s=[78,85,76,76]))) (
       j false))
     cond (decide (x.kind=1)) (
      j1 (decide (x.s=[70,65,76,83,69]))) (
      j1 false))
    cond (decide (x.kind=1)) (
     j2 (decide (x.s=[84,82,85,69]))) (
     j2 false))))))
theorem Auq(rf:Au→Option Aq) (hrf:FM 90 B5 B4 rf):FM 208 Z0 Y4 (Jo rf):=fRL (px:=Aio _ rf) (n:=0) Tryz.func208 rfl (fun cx H=>by
 have h1:Lv cx (Abr (W7) rf):=lv H (l1 H Pd Ae) Aa Ab
 have h0:Lv cx (Aio (W7) rf):=lv H (l1 H Kk (l1 H Pd (l1 H D8 (l1 H hrf (An (cR H h1 Tryz.func209 rfl (n:=0) (Aj)) Ae))))) Aa Ab
 exact⟨h0,Aj⟩) fun(_,_,_,_)=>by kernel_rfl
def D4(rf:Au→Option Aq):Asa→Option W7:=fun x=>Jo rf x
theorem A04(rf:Au→Option Aq) (hrf:FM 90 B5 B4 rf):FM 208 Z0 Y4 (D4 rf):=Auq rf hrf
def Wv:Sig:=⟨1,[],[(0,.ptr 0 0)],[(0,.cells [.sl .tok false,.int .i64,.bool,.int .i64])],1,1,0,[],[]⟩
def Wi:Sig:=⟨1,[(0,.sv .expr)],[],[(0,.cells [.sl .tok false,.int .i64,.bool,.int .i64])],1,1,0,[],[]⟩
abbrev A58:=List Tok×Int×Bool×Int
abbrev Ami:=Xpr×List Tok×Int×Bool×Int
def Aih:Sig:=⟨36,[(2,.int .i64),(27,.int .i64),(28,.int .i64)],[(8,.ptr 80 0),(10,.ptr 81 0)],[(0,.cells [.sl .tok false,.int .i64,.bool,.int .i64]),(1,.one (.sv .expr)),(80,.one (.sv .expr)),(81,.one (.sv .expr))],82,80,400,[],[]⟩
abbrev Vh:=Int×Int×Int×List Tok×Int×Bool×Int×Xpr×Xpr×Xpr
def T8{R:Type}(rec:Vh→Option R) (kx:Ex→Vh→Option R) (v:Vh):Option R:=match v with
 |(v12,v13,v14,w6,w7,w8,w9,w10,w11,w12) =>
 cond (decide (v14<v13)) (
  rec (v12,v13,(wr .i64 (v14+1)),w6,w7,w8,w9,w10,w11,(Xpr.mk v12 ⟨0,0,[]⟩ [] [w12]))) (
  kx (.exit 2) (v12,v13,v14,w6,w7,w8,w9,w10,w11,w12))
def Alh:Sig:=⟨36,[(1,.str),(2,.int .i64),(9,.int .i64)],[(0,.ptr 0 0),(3,.bm 208 [.ptr 0 0]),(8,.ptr 80 0)],[(0,.cells [.sl .tok false,.int .i64,.bool,.int .i64]),(1,.one (.sv .expr)),(80,.one (.sv .expr))],81,80,400,[],[]⟩
abbrev Xa:=Str×Int×Int×List Tok×Int×Bool×Int×Xpr×Xpr
def Yr{R:Type}(rec:Xa→Option R) (kx:Ex→Xa→Option R) (v:Xa):Option R:=match v with
 |(v,v1,v2,w,w1,w2,w3,w4,w5) =>
 cond (!w2) (
  (A0 (v,w,w1,w2,w3)).bind fun(x,x1,x2,x3,x4) =>
  cond (x) (
   rec (v,v1,(wr .i64 (v2+1)),x1,x2,x3,x4,w4,w5)) (
   kx (.exit 0) (v,v1,v2,x1,x2,x3,x4,w4,w5))) (
  kx (.exit 0) (v,v1,v2,w,w1,w2,w3,w4,w5))
def Alc(R:Type) (k:Nat) (rf:Au→Option Aq):Px R:=pxO [(117,Ai C0 Cz A0),(208,Ai Z0 Y4 (D4 rf))] [] [(2,Ao k Alh (Yr)),(6,Ao k Aih (T8))] []
noncomputable def Aw7 (R:Type) (k:Nat) (rf:Au→Option Aq):Px R:=pxO [(185,As 80 400 (Alc R k rf) Tryz.f185)] [] [] []
def H4(k:Nat) (rf:Au→Option Aq) (x:A58):Option (Ami):=match x with
 |(l,n,b,p) =>
 Al (fun rec=>Yr rec (fun e vz=>match vz with|(_,v4,v5,v6,v7,v8,v9,v10,v11)=>match e with
  |.exit 0 =>
  (D4 rf (v6,v7,v8,v9)).bind fun(x5,x6,x7,x8,x9) =>
   Al (fun rec=>T8 rec (fun e vz=>match vz with|(_,_,_,v18,v19,v20,v21,_,_,v24)=>match e with
   |.exit 2 =>
    some (v24,v18,v19,v20,v21)
   |_=>none)) k (v4,v5,0,x6,x7,x8,x9,v10,v11,x5)
  |_=>none)) k ([45],15,0,l,n,b,p,(Xpr.mk 0 ⟨0,0,[]⟩ [] []),(Xpr.mk 0 ⟨0,0,[]⟩ [] []))
theorem A6f(k:Nat) (rf:Au→Option Aq) (hrf:FM 90 B5 B4 rf):FM 206 Wv Wi (H4 k rf):=fRL (px:=Aw7 _ k rf) (n:=0) Tryz.func206 rfl (fun cx H=>by
 have h1:Lv cx (Alc (Ami) k rf):=lv H (l1 H Di (l1 H (A04 rf hrf) Ae)) Aa Ab
 have hlpneg_0:=lO H h1 (b:=lp Tryz.f185 0) (k:=k) (n:=0) (s:=Alh) (step:=Yr) (fun _ _ _ (_,_,_,_,_,_,_,_,_)=>by kernel_rfl) Aj
 have hlpneg_1:=lO H h1 (b:=lp Tryz.f185 1) (k:=k) (n:=0) (s:=Aih) (step:=T8) (fun _ _ _ (_,_,_,_,_,_,_,_,_,_)=>by kernel_rfl) Aj
 have h0:Lv cx (Aw7 (Ami) k rf):=lv H (An (cR H h1 Tryz.func185 rfl (n:=2) ((Bf (Bf Aj hlpneg_0) hlpneg_1))) Ae) Aa Ab
 exact⟨h0,Aj⟩) fun(_,_,_,_)=>by kernel_rfl
def Gj(rf:Au→Option Aq):A58→Option Ami:=fun x=>H4 ((x.1.length+1)) rf x
theorem Ay3(rf:Au→Option Aq) (hrf:FM 90 B5 B4 rf):FM 206 Wv Wi (Gj rf):=FnLn.fin (ι:=Nat) (sg:=Wv) (so:=Wi) 0 (F:=fun k=>H4 k rf) (fun k=>A6f k rf hrf) fun x _ _ hx=>⟨(x.1.length+1),hx⟩
def G9:Sig:=⟨1,[],[(0,.ptr 0 0)],[(0,.cells [.sl .tok false,.int .i64,.bool,.int .i64])],1,1,0,[],[]⟩
def G7:Sig:=⟨1,[(0,.sv .expr)],[],[(0,.cells [.sl .tok false,.int .i64,.bool,.int .i64])],1,1,0,[],[]⟩
abbrev Afk:=List Tok×Int×Bool×Int
abbrev L9:=Xpr×List Tok×Int×Bool×Int
def S3:Sig:=⟨38,[(2,.sl .pair true),(17,.sl .pair false),(18,.int .i64),(19,.int .i64)],[(0,.ptr 0 0),(1,.bm 206 [.ptr 0 0]),(6,.ptr 80 0),(7,.ptr 81 0)],[(0,.cells [.sl .tok false,.int .i64,.bool,.int .i64]),(1,.one (.sv .expr)),(80,.one (.sv .expr)),(81,.one (.sv .expr))],82,80,400,[],[]⟩
abbrev Hu:=List PairS×List PairS×Int×Int×List Tok×Int×Bool×Int×Xpr×Xpr×Xpr
def Gq{R:Type}(rf:Au→Option Aq) (rec:Hu→Option R) (kx:Ex→Hu→Option R) (v:Hu):Option R:=match v with
 |(v1,v2,v3,v4,w7,w8,w9,w10,w11,w12,w13) =>
 cond (decide (v4<v3)) (
  chk (inb v4 v2.length) (
  (A0 ((at' .pair v2 v4).sign,w7,w8,w9,w10)).bind fun(x5,x6,x7,x8,x9) =>
   cond (x5) (
   (Gj rf (x6,x7,x8,x9)).bind fun(x10,x11,x12,x13,x14) =>
    kx (.exit 1) (v1,v2,v3,v4,x11,x12,x13,x14,w11,w12,(Xpr.mk ((at' .pair v2 v4).kind) ⟨0,0,[]⟩ [] [w13,x10]))) (
   rec (v1,v2,v3,(wr .i64 (v4+1)),x6,x7,x8,x9,w11,w12,w13)))) (
  kx (.exit 2) (v1,v2,v3,v4,w7,w8,w9,w10,w11,w12,w13))
def Su:Sig:=⟨38,[(2,.sl .pair true)],[(0,.ptr 0 0),(1,.bm 206 [.ptr 0 0]),(6,.ptr 80 0),(7,.ptr 81 0)],[(0,.cells [.sl .tok false,.int .i64,.bool,.int .i64]),(1,.one (.sv .expr)),(80,.one (.sv .expr)),(81,.one (.sv .expr))],82,80,400,[],[]⟩
abbrev Eh:=List PairS×List Tok×Int×Bool×Int×Xpr×Xpr×Xpr
def G0{R:Type}(k:Nat) (rf:Au→Option Aq) (rec:Eh→Option R) (kx:Ex→Eh→Option R) (v:Eh):Option R:=match v with
 |(v,w,w1,w2,w3,w4,w5,w6) =>
 cond (!w2) (
  Al (fun rc=>Gq rf rc (fun e vz=>match vz with|(v5,_,_,_,v9,v10,v11,v12,v13,v14,v15)=>match e with
  |.exit 1 =>
   rec (v5,v9,v10,v11,v12,v13,v14,v15)
  |.exit 2 =>
   kx (.exit 0) (v5,v9,v10,v11,v12,v13,v14,v15)
  |_=>none)) k (v,v,(v.length:Int),0,w,w1,w2,w3,w4,w5,w6)) (
  kx (.exit 0) (v,w,w1,w2,w3,w4,w5,w6))
def S7(R:Type) (k:Nat) (rf:Au→Option Aq):Px R:=pxO [(206,Ai Wv Wi (Gj rf)),(117,Ai C0 Cz A0)] [] [(4,Ao k S3 (Gq rf)),(2,Ao k Su (G0 k rf))] [(206,Cw Wv Wi (Gj rf))]
noncomputable def Ab3 (R:Type) (k:Nat) (rf:Au→Option Aq):Px R:=pxO [(137,As 80 400 (S7 R k rf) Tryz.f137)] [] [] []
def C8(k:Nat) (rf:Au→Option Aq) (x:Afk):Option (L9):=match x with
 |(l,n,b,p) =>
 (Gj rf (l,n,b,p)).bind fun(x,x1,x2,x3,x4) =>
  Al (fun rec=>G0 k rf rec (fun e vz=>match vz with|(_,v17,v18,v19,v20,_,_,v23)=>match e with
  |.exit 0 =>
   some (v23,v17,v18,v19,v20)
  |_=>none)) k ([(PairS.mk [42] 14)],x1,x2,x3,x4,(Xpr.mk 0 ⟨0,0,[]⟩ [] []),(Xpr.mk 0 ⟨0,0,[]⟩ [] []),x)
theorem Am3(k:Nat) (rf:Au→Option Aq) (hrf:FM 90 B5 B4 rf):FM 202 G9 G7 (C8 k rf):=fRL (px:=Ab3 _ k rf) (n:=0) Tryz.func202 rfl (fun cx H=>by
 have h1:Lv cx (S7 (L9) k rf):=lv H (l1 H (Ay3 rf hrf) (l1 H Di Ae)) Aa (w1 H (Ay3 rf hrf) Ab)
 have hlpproduct_1:=lO H h1 (b:=lpC (lp Tryz.f137 0) 0) (k:=k) (n:=0) (s:=S3) (step:=Gq rf) (fun _ _ _ (_,_,_,_,_,_,_,_,_,_,_)=>by kernel_rfl) Aj
 have hlpproduct_0:=lO H h1 (b:=lp Tryz.f137 0) (k:=k) (n:=1) (s:=Su) (step:=G0 k rf) (fun _ _ _ (_,_,_,_,_,_,_,_)=>by kernel_rfl) (Bf Aj hlpproduct_1)
 have h0:Lv cx (Ab3 (L9) k rf):=lv H (An (cR H h1 Tryz.func137 rfl (n:=2) ((Bf (Bf Aj hlpproduct_0) hlpproduct_1))) Ae) Aa Ab
 exact⟨h0,Aj⟩) fun(_,_,_,_)=>by kernel_rfl
def Bo(rf:Au→Option Aq):Afk→Option L9:=fun x=>C8 ((x.1.length+3)) rf x
theorem Aba(rf:Au→Option Aq) (hrf:FM 90 B5 B4 rf):FM 202 G9 G7 (Bo rf):=FnLn.fin (ι:=Nat) (sg:=G9) (so:=G7) 0 (F:=fun k=>C8 k rf) (fun k=>Am3 k rf hrf) fun x _ _ hx=>⟨(x.1.length+3),hx⟩
def U2:Sig:=⟨1,[],[(0,.ptr 0 0)],[(0,.cells [.sl .tok false,.int .i64,.bool,.int .i64])],1,1,0,[],[]⟩
def Xk:Sig:=⟨1,[(0,.sv .expr)],[],[(0,.cells [.sl .tok false,.int .i64,.bool,.int .i64])],1,1,0,[],[]⟩
abbrev A6s:=List Tok×Int×Bool×Int
abbrev Aof:=Xpr×List Tok×Int×Bool×Int
def Air:Sig:=⟨38,[(2,.sl .pair true),(17,.sl .pair false),(18,.int .i64),(19,.int .i64)],[(0,.ptr 0 0),(1,.bm 202 [.ptr 0 0]),(6,.ptr 80 0),(7,.ptr 81 0)],[(0,.cells [.sl .tok false,.int .i64,.bool,.int .i64]),(1,.one (.sv .expr)),(80,.one (.sv .expr)),(81,.one (.sv .expr))],82,80,400,[],[]⟩
abbrev Xo:=List PairS×List PairS×Int×Int×List Tok×Int×Bool×Int×Xpr×Xpr×Xpr
def Yw{R:Type}(rf:Au→Option Aq) (rec:Xo→Option R) (kx:Ex→Xo→Option R) (v:Xo):Option R:=match v with
 |(v1,v2,v3,v4,w7,w8,w9,w10,w11,w12,w13) =>
 cond (decide (v4<v3)) (
  chk (inb v4 v2.length) (
  (A0 ((at' .pair v2 v4).sign,w7,w8,w9,w10)).bind fun(x5,x6,x7,x8,x9) =>
   cond (x5) (
   (Bo rf (x6,x7,x8,x9)).bind fun(x10,x11,x12,x13,x14) =>
    kx (.exit 1) (v1,v2,v3,v4,x11,x12,x13,x14,w11,w12,(Xpr.mk ((at' .pair v2 v4).kind) ⟨0,0,[]⟩ [] [w13,x10]))) (
   rec (v1,v2,v3,(wr .i64 (v4+1)),x6,x7,x8,x9,w11,w12,w13)))) (
  kx (.exit 2) (v1,v2,v3,v4,w7,w8,w9,w10,w11,w12,w13))
def Ajp:Sig:=⟨38,[(2,.sl .pair true)],[(0,.ptr 0 0),(1,.bm 202 [.ptr 0 0]),(6,.ptr 80 0),(7,.ptr 81 0)],[(0,.cells [.sl .tok false,.int .i64,.bool,.int .i64]),(1,.one (.sv .expr)),(80,.one (.sv .expr)),(81,.one (.sv .expr))],82,80,400,[],[]⟩
abbrev Kq:=List PairS×List Tok×Int×Bool×Int×Xpr×Xpr×Xpr
def Z3{R:Type}(k:Nat) (rf:Au→Option Aq) (rec:Kq→Option R) (kx:Ex→Kq→Option R) (v:Kq):Option R:=match v with
 |(v,w,w1,w2,w3,w4,w5,w6) =>
 cond (!w2) (
  Al (fun rc=>Yw rf rc (fun e vz=>match vz with|(v5,_,_,_,v9,v10,v11,v12,v13,v14,v15)=>match e with
  |.exit 1 =>
   rec (v5,v9,v10,v11,v12,v13,v14,v15)
  |.exit 2 =>
   kx (.exit 0) (v5,v9,v10,v11,v12,v13,v14,v15)
  |_=>none)) k (v,v,(v.length:Int),0,w,w1,w2,w3,w4,w5,w6)) (
  kx (.exit 0) (v,w,w1,w2,w3,w4,w5,w6))
def Aj8(R:Type) (k:Nat) (rf:Au→Option Aq):Px R:=pxO [(202,Ai G9 G7 (Bo rf)),(117,Ai C0 Cz A0)] [] [(4,Ao k Air (Yw rf)),(2,Ao k Ajp (Z3 k rf))] [(202,Cw G9 G7 (Bo rf))]
noncomputable def Awv (R:Type) (k:Nat) (rf:Au→Option Aq):Px R:=pxO [(137,As 80 400 (Aj8 R k rf) Tryz.f137)] [] [] []
def Gp(k:Nat) (rf:Au→Option Aq) (x:A6s):Option (Aof):=match x with
 |(l,n,b,p) =>
 (Bo rf (l,n,b,p)).bind fun(x,x1,x2,x3,x4) =>
  Al (fun rec=>Z3 k rf rec (fun e vz=>match vz with|(_,v17,v18,v19,v20,_,_,v23)=>match e with
  |.exit 0 =>
   some (v23,v17,v18,v19,v20)
  |_=>none)) k ([(PairS.mk [43] 12),(PairS.mk [45] 13)],x1,x2,x3,x4,(Xpr.mk 0 ⟨0,0,[]⟩ [] []),(Xpr.mk 0 ⟨0,0,[]⟩ [] []),x)
theorem Baa(k:Nat) (rf:Au→Option Aq) (hrf:FM 90 B5 B4 rf):FM 196 U2 Xk (Gp k rf):=fRL (px:=Awv _ k rf) (n:=0) Tryz.func196 rfl (fun cx H=>by
 have h1:Lv cx (Aj8 (Aof) k rf):=lv H (l1 H (Aba rf hrf) (l1 H Di Ae)) Aa (w1 H (Aba rf hrf) Ab)
 have hlpsum_1:=lO H h1 (b:=lpC (lp Tryz.f137 0) 0) (k:=k) (n:=0) (s:=Air) (step:=Yw rf) (fun _ _ _ (_,_,_,_,_,_,_,_,_,_,_)=>by kernel_rfl) Aj
 have hlpsum_0:=lO H h1 (b:=lp Tryz.f137 0) (k:=k) (n:=1) (s:=Ajp) (step:=Z3 k rf) (fun _ _ _ (_,_,_,_,_,_,_,_)=>by kernel_rfl) (Bf Aj hlpsum_1)
 have h0:Lv cx (Awv (Aof) k rf):=lv H (An (cR H h1 Tryz.func137 rfl (n:=2) ((Bf (Bf Aj hlpsum_0) hlpsum_1))) Ae) Aa Ab
 exact⟨h0,Aj⟩) fun(_,_,_,_)=>by kernel_rfl
def Eo(rf:Au→Option Aq):A6s→Option Aof:=fun x=>Gp ((x.1.length+3)) rf x
theorem Azj(rf:Au→Option Aq) (hrf:FM 90 B5 B4 rf):FM 196 U2 Xk (Eo rf):=FnLn.fin (ι:=Nat) (sg:=U2) (so:=Xk) 0 (F:=fun k=>Gp k rf) (fun k=>Baa k rf hrf) fun x _ _ hx=>⟨(x.1.length+3),hx⟩
def Ads:Sig:=⟨1,[],[(0,.ptr 0 0)],[(0,.cells [.sl .tok false,.int .i64,.bool,.int .i64])],1,1,0,[],[]⟩
def Adr:Sig:=⟨1,[(0,.sv .expr)],[],[(0,.cells [.sl .tok false,.int .i64,.bool,.int .i64])],1,1,0,[],[]⟩
abbrev A30:=List Tok×Int×Bool×Int
abbrev Auj:=Xpr×List Tok×Int×Bool×Int
def Ajr:Sig:=⟨61,[(20,.sl .pair true),(21,.int .i64),(22,.int .i64)],[(0,.ptr 0 0),(2,.ptr 1 0),(3,.ptr 2 0)],[(0,.cells [.sl .tok false,.int .i64,.bool,.int .i64]),(1,.one (.sv .expr)),(2,.one (.sv .expr))],3,1,0,[],[]⟩
abbrev Vv:=List PairS×Int×Int×List Tok×Int×Bool×Int×Xpr×Xpr
def Zt{R:Type}(rf:Au→Option Aq) (rec:Vv→Option R) (kx:Ex→Vv→Option R) (v:Vv):Option R:=match v with
 |(v,v1,v2,w,w1,w2,w3,w4,w5) =>
 cond (decide (v2<v1)) (
  chk (inb v2 v.length) (
  (A0 ((at' .pair v v2).sign,w,w1,w2,w3)).bind fun(x5,x6,x7,x8,x9) =>
   cond (x5) (
   (Eo rf (x6,x7,x8,x9)).bind fun(x10,x11,x12,x13,x14) =>
    kx .ret (v,v1,v2,x11,x12,x13,x14,(Xpr.mk ((at' .pair v v2).kind) ⟨0,0,[]⟩ [] [w5,x10]),w5)) (
   rec (v,v1,(wr .i64 (v2+1)),x6,x7,x8,x9,w4,w5)))) (
  kx (.exit 0) (v,v1,v2,w,w1,w2,w3,w4,w5))
def Ayk(R:Type) (k:Nat) (rf:Au→Option Aq):Px R:=pxO [(196,Ai U2 Xk (Eo rf)),(117,Ai C0 Cz A0),(119,Ai C5 C2 Aw)] [] [(5,Ao k Ajr (Zt rf))] [(196,Cw U2 Xk (Eo rf))]
def H5(k:Nat) (rf:Au→Option Aq) (x:A30):Option (Auj):=match x with
 |(l,n,b,p) =>
 (Eo rf (l,n,b,p)).bind fun(x,x1,x2,x3,x4) =>
  cond (x3) (
  some (x,x1,x2,x3,x4)) (
  Al (fun rec=>Zt rf rec (fun e vz=>match vz with|(_,_,_,v6,v7,v8,v9,v10,v11)=>match e with
   |.ret =>
   some (v10,v6,v7,v8,v9)
   |.exit 0 =>
   (A0 ([73,83],v6,v7,v8,v9)).bind fun(x15,x16,x17,x18,x19) =>
    cond (!x15) (
    some (v11,x16,x17,x18,x19)) (
    (A0 ([78,79,84],x16,x17,x18,x19)).bind fun(x20,x21,x22,x23,x24) =>
     (Aw ([[78,85,76,76]],x21,x22,x23,x24)).bind fun(x25,x26,x27,x28) =>
     cond (x20) (
      some ((Xpr.mk 3 ⟨0,0,[]⟩ [] [(Xpr.mk 16 ⟨0,0,[]⟩ [] [v11])]),x25,x26,x27,x28)) (
      some ((Xpr.mk 16 ⟨0,0,[]⟩ [] [v11]),x25,x26,x27,x28)))
   |_=>none)) k ([(PairS.mk [61] 6),(PairS.mk [60,62] 7),(PairS.mk [60] 8),(PairS.mk [60,61] 9),(PairS.mk [62] 10),(PairS.mk [62,61] 11)],6,0,x1,x2,x3,x4,(Xpr.mk 0 ⟨0,0,[]⟩ [] []),x))
theorem A6g(k:Nat) (rf:Au→Option Aq) (hrf:FM 90 B5 B4 rf):FM 186 Ads Adr (H5 k rf):=fRL (px:=Ayk _ k rf) (n:=1) Tryz.func186 rfl (fun cx H=>by
 have h0:Lv cx (Ayk (Auj) k rf):=lv H (l1 H (Azj rf hrf) (l1 H Di (l1 H D8 Ae))) Aa (w1 H (Azj rf hrf) Ab)
 have hlpcmp_0:=lO H h0 (b:=lp Tryz.f186 0) (k:=k) (n:=0) (s:=Ajr) (step:=Zt rf) (fun _ _ _ (_,_,_,_,_,_,_,_,_)=>by kernel_rfl) Aj
 exact⟨h0,(Bf Aj hlpcmp_0)⟩) fun(_,_,_,_)=>by kernel_rfl
def Ik(rf:Au→Option Aq):A30→Option Auj:=fun x=>H5 (10) rf x
theorem Bc0(rf:Au→Option Aq) (hrf:FM 90 B5 B4 rf):FM 186 Ads Adr (Ik rf):=FnLn.fin (ι:=Nat) (sg:=Ads) (so:=Adr) 0 (F:=fun k=>H5 k rf) (fun k=>A6g k rf hrf) fun _ _ _ hx=>⟨10,hx⟩
def Wa:Sig:=⟨1,[],[(0,.ptr 0 0)],[(0,.cells [.sl .tok false,.int .i64,.bool,.int .i64])],1,1,0,[],[]⟩
def Vr:Sig:=⟨1,[(0,.sv .expr)],[],[(0,.cells [.sl .tok false,.int .i64,.bool,.int .i64])],1,1,0,[],[]⟩
abbrev A63:=List Tok×Int×Bool×Int
abbrev An6:=Xpr×List Tok×Int×Bool×Int
def Aiq:Sig:=⟨36,[(2,.int .i64),(27,.int .i64),(28,.int .i64)],[(8,.ptr 80 0),(10,.ptr 81 0)],[(0,.cells [.sl .tok false,.int .i64,.bool,.int .i64]),(1,.one (.sv .expr)),(80,.one (.sv .expr)),(81,.one (.sv .expr))],82,80,400,[],[]⟩
abbrev V3:=Int×Int×Int×List Tok×Int×Bool×Int×Xpr×Xpr×Xpr
def Uz{R:Type}(rec:V3→Option R) (kx:Ex→V3→Option R) (v:V3):Option R:=match v with
 |(v12,v13,v14,w6,w7,w8,w9,w10,w11,w12) =>
 cond (decide (v14<v13)) (
  rec (v12,v13,(wr .i64 (v14+1)),w6,w7,w8,w9,w10,w11,(Xpr.mk v12 ⟨0,0,[]⟩ [] [w12]))) (
  kx (.exit 2) (v12,v13,v14,w6,w7,w8,w9,w10,w11,w12))
def Alm:Sig:=⟨36,[(1,.str),(2,.int .i64),(9,.int .i64)],[(0,.ptr 0 0),(3,.bm 186 [.ptr 0 0]),(8,.ptr 80 0)],[(0,.cells [.sl .tok false,.int .i64,.bool,.int .i64]),(1,.one (.sv .expr)),(80,.one (.sv .expr))],81,80,400,[],[]⟩
abbrev V1:=Str×Int×Int×List Tok×Int×Bool×Int×Xpr×Xpr
def Zx{R:Type}(rec:V1→Option R) (kx:Ex→V1→Option R) (v:V1):Option R:=match v with
 |(v,v1,v2,w,w1,w2,w3,w4,w5) =>
 cond (!w2) (
  (A0 (v,w,w1,w2,w3)).bind fun(x,x1,x2,x3,x4) =>
  cond (x) (
   rec (v,v1,(wr .i64 (v2+1)),x1,x2,x3,x4,w4,w5)) (
   kx (.exit 0) (v,v1,v2,x1,x2,x3,x4,w4,w5))) (
  kx (.exit 0) (v,v1,v2,w,w1,w2,w3,w4,w5))
def Ajy(R:Type) (k:Nat) (rf:Au→Option Aq):Px R:=pxO [(117,Ai C0 Cz A0),(186,Ai Ads Adr (Ik rf))] [] [(2,Ao k Alm (Zx)),(6,Ao k Aiq (Uz))] []
noncomputable def Azi (R:Type) (k:Nat) (rf:Au→Option Aq):Px R:=pxO [(185,As 80 400 (Ajy R k rf) Tryz.f185)] [] [] []
def Ic(k:Nat) (rf:Au→Option Aq) (x:A63):Option (An6):=match x with
 |(l,n,b,p) =>
 Al (fun rec=>Zx rec (fun e vz=>match vz with|(_,v4,v5,v6,v7,v8,v9,v10,v11)=>match e with
  |.exit 0 =>
  (Ik rf (v6,v7,v8,v9)).bind fun(x5,x6,x7,x8,x9) =>
   Al (fun rec=>Uz rec (fun e vz=>match vz with|(_,_,_,v18,v19,v20,v21,_,_,v24)=>match e with
   |.exit 2 =>
    some (v24,v18,v19,v20,v21)
   |_=>none)) k (v4,v5,0,x6,x7,x8,x9,v10,v11,x5)
  |_=>none)) k ([78,79,84],3,0,l,n,b,p,(Xpr.mk 0 ⟨0,0,[]⟩ [] []),(Xpr.mk 0 ⟨0,0,[]⟩ [] []))
theorem A7d(k:Nat) (rf:Au→Option Aq) (hrf:FM 90 B5 B4 rf):FM 167 Wa Vr (Ic k rf):=fRL (px:=Azi _ k rf) (n:=0) Tryz.func167 rfl (fun cx H=>by
 have h1:Lv cx (Ajy (An6) k rf):=lv H (l1 H Di (l1 H (Bc0 rf hrf) Ae)) Aa Ab
 have hlpnot_0:=lO H h1 (b:=lp Tryz.f185 0) (k:=k) (n:=0) (s:=Alm) (step:=Zx) (fun _ _ _ (_,_,_,_,_,_,_,_,_)=>by kernel_rfl) Aj
 have hlpnot_1:=lO H h1 (b:=lp Tryz.f185 1) (k:=k) (n:=0) (s:=Aiq) (step:=Uz) (fun _ _ _ (_,_,_,_,_,_,_,_,_,_)=>by kernel_rfl) Aj
 have h0:Lv cx (Azi (An6) k rf):=lv H (An (cR H h1 Tryz.func185 rfl (n:=2) ((Bf (Bf Aj hlpnot_0) hlpnot_1))) Ae) Aa Ab
 exact⟨h0,Aj⟩) fun(_,_,_,_)=>by kernel_rfl
def F0(rf:Au→Option Aq):A63→Option An6:=fun x=>Ic ((x.1.length+1)) rf x
theorem Ax9(rf:Au→Option Aq) (hrf:FM 90 B5 B4 rf):FM 167 Wa Vr (F0 rf):=FnLn.fin (ι:=Nat) (sg:=Wa) (so:=Vr) 0 (F:=fun k=>Ic k rf) (fun k=>A7d k rf hrf) fun x _ _ hx=>⟨(x.1.length+1),hx⟩
def Vf:Sig:=⟨1,[],[(0,.ptr 0 0)],[(0,.cells [.sl .tok false,.int .i64,.bool,.int .i64])],1,1,0,[],[]⟩
def Vg:Sig:=⟨1,[(0,.sv .expr)],[],[(0,.cells [.sl .tok false,.int .i64,.bool,.int .i64])],1,1,0,[],[]⟩
abbrev A95:=List Tok×Int×Bool×Int
abbrev Aoc:=Xpr×List Tok×Int×Bool×Int
def Ajb:Sig:=⟨38,[(2,.sl .pair true),(17,.sl .pair false),(18,.int .i64),(19,.int .i64)],[(0,.ptr 0 0),(1,.bm 167 [.ptr 0 0]),(6,.ptr 80 0),(7,.ptr 81 0)],[(0,.cells [.sl .tok false,.int .i64,.bool,.int .i64]),(1,.one (.sv .expr)),(80,.one (.sv .expr)),(81,.one (.sv .expr))],82,80,400,[],[]⟩
abbrev Xh:=List PairS×List PairS×Int×Int×List Tok×Int×Bool×Int×Xpr×Xpr×Xpr
def Zm{R:Type}(rf:Au→Option Aq) (rec:Xh→Option R) (kx:Ex→Xh→Option R) (v:Xh):Option R:=match v with
 |(v1,v2,v3,v4,w7,w8,w9,w10,w11,w12,w13) =>
 cond (decide (v4<v3)) (
  chk (inb v4 v2.length) (
  (A0 ((at' .pair v2 v4).sign,w7,w8,w9,w10)).bind fun(x5,x6,x7,x8,x9) =>
   cond (x5) (
   (F0 rf (x6,x7,x8,x9)).bind fun(x10,x11,x12,x13,x14) =>
    kx (.exit 1) (v1,v2,v3,v4,x11,x12,x13,x14,w11,w12,(Xpr.mk ((at' .pair v2 v4).kind) ⟨0,0,[]⟩ [] [w13,x10]))) (
   rec (v1,v2,v3,(wr .i64 (v4+1)),x6,x7,x8,x9,w11,w12,w13)))) (
  kx (.exit 2) (v1,v2,v3,v4,w7,w8,w9,w10,w11,w12,w13))
def Ai7:Sig:=⟨38,[(2,.sl .pair true)],[(0,.ptr 0 0),(1,.bm 167 [.ptr 0 0]),(6,.ptr 80 0),(7,.ptr 81 0)],[(0,.cells [.sl .tok false,.int .i64,.bool,.int .i64]),(1,.one (.sv .expr)),(80,.one (.sv .expr)),(81,.one (.sv .expr))],82,80,400,[],[]⟩
abbrev Kj:=List PairS×List Tok×Int×Bool×Int×Xpr×Xpr×Xpr
def Y6{R:Type}(k:Nat) (rf:Au→Option Aq) (rec:Kj→Option R) (kx:Ex→Kj→Option R) (v:Kj):Option R:=match v with
 |(v,w,w1,w2,w3,w4,w5,w6) =>
 cond (!w2) (
  Al (fun rc=>Zm rf rc (fun e vz=>match vz with|(v5,_,_,_,v9,v10,v11,v12,v13,v14,v15)=>match e with
  |.exit 1 =>
   rec (v5,v9,v10,v11,v12,v13,v14,v15)
  |.exit 2 =>
   kx (.exit 0) (v5,v9,v10,v11,v12,v13,v14,v15)
  |_=>none)) k (v,v,(v.length:Int),0,w,w1,w2,w3,w4,w5,w6)) (
  kx (.exit 0) (v,w,w1,w2,w3,w4,w5,w6))
def Aj1(R:Type) (k:Nat) (rf:Au→Option Aq):Px R:=pxO [(167,Ai Wa Vr (F0 rf)),(117,Ai C0 Cz A0)] [] [(4,Ao k Ajb (Zm rf)),(2,Ao k Ai7 (Y6 k rf))] [(167,Cw Wa Vr (F0 rf))]
noncomputable def Ax2 (R:Type) (k:Nat) (rf:Au→Option Aq):Px R:=pxO [(137,As 80 400 (Aj1 R k rf) Tryz.f137)] [] [] []
def Gs(k:Nat) (rf:Au→Option Aq) (x:A95):Option (Aoc):=match x with
 |(l,n,b,p) =>
 (F0 rf (l,n,b,p)).bind fun(x,x1,x2,x3,x4) =>
  Al (fun rec=>Y6 k rf rec (fun e vz=>match vz with|(_,v17,v18,v19,v20,_,_,v23)=>match e with
  |.exit 0 =>
   some (v23,v17,v18,v19,v20)
  |_=>none)) k ([(PairS.mk [65,78,68] 4)],x1,x2,x3,x4,(Xpr.mk 0 ⟨0,0,[]⟩ [] []),(Xpr.mk 0 ⟨0,0,[]⟩ [] []),x)
theorem A7k(k:Nat) (rf:Au→Option Aq) (hrf:FM 90 B5 B4 rf):FM 138 Vf Vg (Gs k rf):=fRL (px:=Ax2 _ k rf) (n:=0) Tryz.func138 rfl (fun cx H=>by
 have h1:Lv cx (Aj1 (Aoc) k rf):=lv H (l1 H (Ax9 rf hrf) (l1 H Di Ae)) Aa (w1 H (Ax9 rf hrf) Ab)
 have hlpand_1:=lO H h1 (b:=lpC (lp Tryz.f137 0) 0) (k:=k) (n:=0) (s:=Ajb) (step:=Zm rf) (fun _ _ _ (_,_,_,_,_,_,_,_,_,_,_)=>by kernel_rfl) Aj
 have hlpand_0:=lO H h1 (b:=lp Tryz.f137 0) (k:=k) (n:=1) (s:=Ai7) (step:=Y6 k rf) (fun _ _ _ (_,_,_,_,_,_,_,_)=>by kernel_rfl) (Bf Aj hlpand_1)
 have h0:Lv cx (Ax2 (Aoc) k rf):=lv H (An (cR H h1 Tryz.func137 rfl (n:=2) ((Bf (Bf Aj hlpand_0) hlpand_1))) Ae) Aa Ab
 exact⟨h0,Aj⟩) fun(_,_,_,_)=>by kernel_rfl
def E0(rf:Au→Option Aq):A95→Option Aoc:=fun x=>Gs ((x.1.length+3)) rf x
theorem Azd(rf:Au→Option Aq) (hrf:FM 90 B5 B4 rf):FM 138 Vf Vg (E0 rf):=FnLn.fin (ι:=Nat) (sg:=Vf) (so:=Vg) 0 (F:=fun k=>Gs k rf) (fun k=>A7k k rf hrf) fun x _ _ hx=>⟨(x.1.length+3),hx⟩
def Ao0:Sig:=⟨38,[(2,.sl .pair true),(17,.sl .pair false),(18,.int .i64),(19,.int .i64)],[(0,.ptr 0 0),(1,.bm 138 [.ptr 0 0]),(6,.ptr 80 0),(7,.ptr 81 0)],[(0,.cells [.sl .tok false,.int .i64,.bool,.int .i64]),(1,.one (.sv .expr)),(80,.one (.sv .expr)),(81,.one (.sv .expr))],82,80,400,[],[]⟩
abbrev Ade:=List PairS×List PairS×Int×Int×List Tok×Int×Bool×Int×Xpr×Xpr×Xpr
def Ajz{R:Type}(rf:Au→Option Aq) (rec:Ade→Option R) (kx:Ex→Ade→Option R) (v:Ade):Option R:=match v with
 |(v1,v2,v3,v4,w7,w8,w9,w10,w11,w12,w13) =>
 cond (decide (v4<v3)) (
  chk (inb v4 v2.length) (
  (A0 ((at' .pair v2 v4).sign,w7,w8,w9,w10)).bind fun(x5,x6,x7,x8,x9) =>
   cond (x5) (
   (E0 rf (x6,x7,x8,x9)).bind fun(x10,x11,x12,x13,x14) =>
    kx (.exit 1) (v1,v2,v3,v4,x11,x12,x13,x14,w11,w12,(Xpr.mk ((at' .pair v2 v4).kind) ⟨0,0,[]⟩ [] [w13,x10]))) (
   rec (v1,v2,v3,(wr .i64 (v4+1)),x6,x7,x8,x9,w11,w12,w13)))) (
  kx (.exit 2) (v1,v2,v3,v4,w7,w8,w9,w10,w11,w12,w13))
def Aqm:Sig:=⟨38,[(2,.sl .pair true)],[(0,.ptr 0 0),(1,.bm 138 [.ptr 0 0]),(6,.ptr 80 0),(7,.ptr 81 0)],[(0,.cells [.sl .tok false,.int .i64,.bool,.int .i64]),(1,.one (.sv .expr)),(80,.one (.sv .expr)),(81,.one (.sv .expr))],82,80,400,[],[]⟩
abbrev Qy:=List PairS×List Tok×Int×Bool×Int×Xpr×Xpr×Xpr
def Aje{R:Type}(k:Nat) (rf:Au→Option Aq) (rec:Qy→Option R) (kx:Ex→Qy→Option R) (v:Qy):Option R:=match v with
 |(v,w,w1,w2,w3,w4,w5,w6) =>
 cond (!w2) (
  Al (fun rc=>Ajz rf rc (fun e vz=>match vz with|(v5,_,_,_,v9,v10,v11,v12,v13,v14,v15)=>match e with
  |.exit 1 =>
   rec (v5,v9,v10,v11,v12,v13,v14,v15)
  |.exit 2 =>
   kx (.exit 0) (v5,v9,v10,v11,v12,v13,v14,v15)
  |_=>none)) k (v,v,(v.length:Int),0,w,w1,w2,w3,w4,w5,w6)) (
  kx (.exit 0) (v,w,w1,w2,w3,w4,w5,w6))
def Aps(R:Type) (k:Nat) (rf:Au→Option Aq):Px R:=pxO [(138,Ai Vf Vg (E0 rf)),(117,Ai C0 Cz A0)] [] [(4,Ao k Ao0 (Ajz rf)),(2,Ao k Aqm (Aje k rf))] [(138,Cw Vf Vg (E0 rf))]
noncomputable def A5z (R:Type) (k:Nat) (rf:Au→Option Aq):Px R:=pxO [(137,As 80 400 (Aps R k rf) Tryz.f137)] [] [] []
def I1(k:Nat) (rf:Au→Option Aq) (x:Au):Option (Aq):=match x with
 |(l,n,b,p) =>
 (E0 rf (l,n,b,p)).bind fun(x,x1,x2,x3,x4) =>
  Al (fun rec=>Aje k rf rec (fun e vz=>match vz with|(_,v17,v18,v19,v20,_,_,v23)=>match e with
  |.exit 0 =>
   some (v23,v17,v18,v19,v20)
  |_=>none)) k ([(PairS.mk [79,82] 5)],x1,x2,x3,x4,(Xpr.mk 0 ⟨0,0,[]⟩ [] []),(Xpr.mk 0 ⟨0,0,[]⟩ [] []),x)
theorem Ba1(k:Nat) (rf:Au→Option Aq) (hrf:FM 90 B5 B4 rf):FM 90 B5 B4 (I1 k rf):=fRL (px:=A5z _ k rf) (n:=0) Tryz.func90 rfl (fun cx H=>by
 have h1:Lv cx (Aps (Aq) k rf):=lv H (l1 H (Azd rf hrf) (l1 H Di Ae)) Aa (w1 H (Azd rf hrf) Ab)
 have hlpor_1:=lO H h1 (b:=lpC (lp Tryz.f137 0) 0) (k:=k) (n:=0) (s:=Ao0) (step:=Ajz rf) (fun _ _ _ (_,_,_,_,_,_,_,_,_,_,_)=>by kernel_rfl) Aj
 have hlpor_0:=lO H h1 (b:=lp Tryz.f137 0) (k:=k) (n:=1) (s:=Aqm) (step:=Aje k rf) (fun _ _ _ (_,_,_,_,_,_,_,_)=>by kernel_rfl) (Bf Aj hlpor_1)
 have h0:Lv cx (A5z (Aq) k rf):=lv H (An (cR H h1 Tryz.func137 rfl (n:=2) ((Bf (Bf Aj hlpor_0) hlpor_1))) Ae) Aa Ab
 exact⟨h0,Aj⟩) fun(_,_,_,_)=>by kernel_rfl
def Nk(rf:Au→Option Aq):Au→Option Aq:=fun x=>I1 (x.1.length+3) rf x
theorem Bch(rf:Au→Option Aq) (hrf:FnLn Tryz.prog elT glT 90 B5 B4 rf):FnLn Tryz.prog elT glT 90 B5 B4 (Nk rf) :=.fin (ι:=Nat) (sg:=B5) (so:=B4) 0 (F:=fun k=>I1 k rf) (fun k=>Ba1 k rf hrf) fun x _ _ hx=>⟨x.1.length+3,hx⟩
def Jq:Au→Option Aq:=fun x=>Al (V:=Au) (R:=Aq) Nk (x.1.length+2) x
theorem Ag0:FnLn Tryz.prog elT glT 90 B5 B4 Jq :=.fin (ι:=Nat) (sg:=B5) (so:=B4) 0 (F:=fun n=>Al (V:=Au) (R:=Aq) Nk n) (fun n=>FnLn.rec' (Sx.enters_of Tryz.func90 rfl rfl) (fun rf hrf=>Bch rf hrf) n) fun x _ _ hx=>⟨x.1.length+2,hx⟩
end Go.Proofs.YthndhaolemgbdaaGreatDoor
namespace Go.Proofs.YthndhaolemgbdaaGreatDoor
open Go.Ax
def Lg:Sig:=⟨1,[],[(0,.ptr 0 0)],[(0,.cells [.sl .tok false,.int .i64,.bool,.int .i64])],1,1,0,[],[]⟩
def L5:Sig:=⟨1,[(0,.sl .str true)],[],[(0,.cells [.sl .tok false,.int .i64,.bool,.int .i64])],1,1,0,[],[]⟩
abbrev Apm:=List Tok×Int×Bool×Int
abbrev Oc:=List Str×List Tok×Int×Bool×Int
def Abj:Sig:=⟨19,[],[(0,.ptr 0 0),(1,.fn 184 [.ptr 2 0,.ptr 1 0])],[(0,.cells [.sl .tok false,.int .i64,.bool,.int .i64]),(1,.fx [.ptr 0 0]),(2,.cells [.sl .str true])],80,80,400,[],[]⟩
abbrev Tn:=List Tok×Int×Bool×Int×List Str
def Aek{R:Type}(rec:Tn→Option R) (kx:Ex→Tn→Option R) (v:Tn):Option R:=match v with
 |(w,w1,w2,w3,w4) =>
 cond (!w2) (
  (A0 ([44],w,w1,w2,w3)).bind fun(x9,x10,x11,x12,x13) =>
  cond (x9) (
   (Bj (x10,x11,x12,x13)).bind fun(x14,x15,x16,x17,x18) =>
   chk (decide (w4.length+1≤Av)) (
    rec (x15,x16,x17,x18,(w4++[x14])))) (
   kx (.exit 0) (x10,x11,x12,x13,w4))) (
  kx (.exit 0) (w,w1,w2,w3,w4))
def S0(R:Type) (_k:Nat):Px R:=pxO [] [] [] [(120,Cw D7 Ef Bj)]
noncomputable def Aa5 (R:Type) (k:Nat):Px R:=pxO [(117,Ai C0 Cz A0),(184,As 120 600 (S0 R k) Tryz.f184)] [] [(1,Ao k Abj (Aek))] []
noncomputable def Ale (R:Type) (k:Nat):Px R:=pxO [(119,Ai C5 C2 Aw),(121,As 80 400 (Aa5 R k) Tryz.f121)] [] [] []
def Pn(k:Nat) (x:Apm):Option (Oc):=match x with
 |(l,n,b,p) =>
 (Aw ([[40]],l,n,b,p)).bind fun(x,x1,x2,x3) =>
  (Bj (x,x1,x2,x3)).bind fun(x4,x5,x6,x7,x8) =>
  Al (fun rec=>Aek rec (fun e vz=>match vz with|(v,v1,v2,v3,v4)=>match e with
   |.exit 0 =>
   (Aw ([[41]],v,v1,v2,v3)).bind fun(x19,x20,x21,x22) =>
    some (v4,x19,x20,x21,x22)
   |_=>none)) k (x5,x6,x7,x8,[x4])
theorem Att(k:Nat):FM 161 Lg L5 (Pn k):=fRL (px:=Ale _ k) (n:=0) Tryz.func161 rfl (fun cx H=>by
 have h2:Lv cx (S0 (Oc) k):=lv H Ae Aa (w1 H F1 Ab)
 have h1:Lv cx (Aa5 (Oc) k):=lv H (l1 H Di (An (cR H h2 Tryz.func184 rfl (n:=0) (Aj)) Ae)) Aa Ab
 have hlpnames_0:=lO H h1 (b:=lp Tryz.f121 0) (k:=k) (n:=0) (s:=Abj) (step:=Aek) (fun _ _ _ (_,_,_,_,_)=>by kernel_rfl) Aj
 have h0:Lv cx (Ale (Oc) k):=lv H (l1 H D8 (An (cR H h1 Tryz.func121 rfl (n:=1) ((Bf Aj hlpnames_0))) Ae)) Aa Ab
 exact⟨h0,Aj⟩) fun(_,_,_,_)=>by kernel_rfl
def Ol:Apm→Option Oc:=fun x=>Pn ((x.1.length+3)) x
theorem Ak0:FM 161 Lg L5 (Ol):=FnLn.fin (ι:=Nat) (sg:=Lg) (so:=L5) 0 (F:=fun k=>Pn k) (fun k=>Att k) fun x _ _ hx=>⟨(x.1.length+3),hx⟩
def Ki:Sig:=⟨1,[],[(0,.ptr 0 0)],[(0,.cells [.sl .tok false,.int .i64,.bool,.int .i64])],1,1,0,[],[]⟩
def K7:Sig:=⟨1,[(0,.sl .expr true)],[],[(0,.cells [.sl .tok false,.int .i64,.bool,.int .i64])],1,1,0,[],[]⟩
abbrev Arr:=List Tok×Int×Bool×Int
abbrev N0:=List Xpr×List Tok×Int×Bool×Int
def Acm:Sig:=⟨19,[],[(0,.ptr 0 0),(1,.fn 162 [.ptr 2 0,.ptr 1 0])],[(0,.cells [.sl .tok false,.int .i64,.bool,.int .i64]),(1,.fx [.ptr 0 0]),(2,.cells [.sl .expr true])],80,80,400,[],[]⟩
abbrev Tp:=List Tok×Int×Bool×Int×List Xpr
def Ahh{R:Type}(rec:Tp→Option R) (kx:Ex→Tp→Option R) (v:Tp):Option R:=match v with
 |(w,w1,w2,w3,w4) =>
 cond (!w2) (
  (A0 ([44],w,w1,w2,w3)).bind fun(x5,x6,x7,x8,x9) =>
  cond (x5) (
   (Jq (x6,x7,x8,x9)).bind fun(x10,x11,x12,x13,x14) =>
   chk (decide (w4.length+1≤Av)&&decide ((w4.length:Int)=(w4.length:Int))) (
    rec (x11,x12,x13,x14,(w4++[x10])))) (
   kx (.exit 0) (x6,x7,x8,x9,w4))) (
  kx (.exit 0) (w,w1,w2,w3,w4))
def Ss(R:Type) (_k:Nat):Px R:=pxO [] [] [] [(90,Cw B5 B4 Jq)]
noncomputable def Acj (R:Type) (k:Nat):Px R:=pxO [(117,Ai C0 Cz A0),(162,As 120 600 (Ss R k) Tryz.f162)] [] [(1,Ao k Acm (Ahh))] []
noncomputable def Aix (R:Type) (k:Nat):Px R:=pxO [(121,As 80 400 (Acj R k) Tryz.f121)] [] [] []
def Pb(k:Nat) (x:Arr):Option (N0):=match x with
 |(l,n,b,p) =>
 (Jq (l,n,b,p)).bind fun(x,x1,x2,x3,x4) =>
  chk (decide (0+1≤Av)&&decide (0=(0:Int))) (
  Al (fun rec=>Ahh rec (fun e vz=>match vz with|(v,v1,v2,v3,v4)=>match e with
   |.exit 0 =>
   some (v4,v,v1,v2,v3)
   |_=>none)) k (x1,x2,x3,x4,[x]))
theorem As2(k:Nat):FM 123 Ki K7 (Pb k):=fRL (px:=Aix _ k) (n:=0) Tryz.func123 rfl (fun cx H=>by
 have h2:Lv cx (Ss (N0) k):=lv H Ae Aa (w1 H Ag0 Ab)
 have h1:Lv cx (Acj (N0) k):=lv H (l1 H Di (An (cR H h2 Tryz.func162 rfl (n:=0) (Aj)) Ae)) Aa Ab
 have hlpexprs_0:=lO H h1 (b:=lp Tryz.f121 0) (k:=k) (n:=0) (s:=Acm) (step:=Ahh) (fun _ _ _ (_,_,_,_,_)=>by kernel_rfl) Aj
 have h0:Lv cx (Aix (N0) k):=lv H (An (cR H h1 Tryz.func121 rfl (n:=1) ((Bf Aj hlpexprs_0))) Ae) Aa Ab
 exact⟨h0,Aj⟩) fun(_,_,_,_)=>by kernel_rfl
def L0:Arr→Option N0:=fun x=>Pb ((x.1.length+3)) x
theorem Akq:FM 123 Ki K7 (L0):=FnLn.fin (ι:=Nat) (sg:=Ki) (so:=K7) 0 (F:=fun k=>Pb k) (fun k=>As2 k) fun x _ _ hx=>⟨(x.1.length+3),hx⟩
def Adf:Sig:=⟨1,[],[(0,.ptr 0 0)],[(0,.cells [.sl .tok false,.int .i64,.bool,.int .i64])],1,1,0,[],[]⟩
def Ac5:Sig:=⟨1,[(0,.sv .col)],[],[(0,.cells [.sl .tok false,.int .i64,.bool,.int .i64])],1,1,0,[],[]⟩
abbrev A77:=List Tok×Int×Bool×Int
abbrev Asx:=Col×List Tok×Int×Bool×Int
def Aiu:Sig:=⟨87,[(10,.int .i64)],[(0,.ptr 0 0),(2,.ptr 1 0),(3,.ptr 2 0),(9,.agg [.str [],.str [],.str [66,79,79,76],.str [73,78,84],.str [84,69,88,84],.str [66,89,84,69,83]])],[(0,.cells [.sl .tok false,.int .i64,.bool,.int .i64]),(1,.one (.sv .col)),(2,.one (.sv .col))],3,1,0,[],[]⟩
abbrev Pr:=Int×List Tok×Int×Bool×Int×Col×Col
def As7{R:Type}(rec:Pr→Option R) (kx:Ex→Pr→Option R) (v:Pr):Option R:=match v with
 |(v,w,w1,w2,w3,w4,w5) =>
 cond (decide (v<6)) (
  chk (inb v 6) (
  let j1:=fun(p1:Bool) =>
   let j:=fun(p2:Bool) =>
   cond (p2) (
    (A0 ((at' .str [[],[],[66,79,79,76],[73,78,84],[84,69,88,84],[66,89,84,69,83]] v),w,w1,w2,w3)).bind fun(x5,x6,x7,x8,x9) =>
    cond (x5) (
     rec ((wr .i64 (v+1)),x6,x7,x8,x9,w4,(Col.mk w5.name v w5.notNull w5.unique w5.ref))) (
     rec ((wr .i64 (v+1)),x6,x7,x8,x9,w4,w5))) (
    rec ((wr .i64 (v+1)),w,w1,w2,w3,w4,w5))
   cond (p1) (
   j (decide (w5.kind=0))) (
   j false)
  cond (decide (2≤v)) (
   j1 (!w2)) (
   j1 false))) (
  kx (.exit 0) (v,w,w1,w2,w3,w4,w5))
def Awu(R:Type) (k:Nat):Px R:=pxO [(120,Ai D7 Ef Bj),(117,Ai C0 Cz A0),(127,Ai Fo Fu Co),(119,Ai C5 C2 Aw)] [] [(3,Ao k Aiu (As7))] []
def Y3(k:Nat) (x:A77):Option (Asx):=match x with
 |(l,n,b,p) =>
 (Bj (l,n,b,p)).bind fun(x,x1,x2,x3,x4) =>
  Al (fun rec=>As7 rec (fun e vz=>match vz with|(_,v2,v3,v4,v5,_,v7)=>match e with
  |.exit 0 =>
   let j6:=fun(q13:List Tok) (q14:Int) (q15:Bool) (q16:Int) =>
   let j2:=fun(q21:List Tok) (q22:Int) (q23:Bool) (q24:Int) (q25:Col) =>
    let j5:=fun(q30:List Tok) (q31:Int) (q32:Bool) (q33:Int) =>
    let j4:=fun(q38:List Tok) (q39:Int) (q40:Bool) (q41:Int) (q42:Col) =>
     let j3:=fun(p8:Bool) (q47:List Tok) (q48:Int) (q49:Bool) (q50:Int) =>
     cond (p8) (
      (Bj (q47,q48,q49,q50)).bind fun(x33,x34,x35,x36,x37) =>
      some ((Col.mk q42.name q42.kind q42.notNull q42.unique x33),x34,x35,x36,x37)) (
      some (q42,q47,q48,q49,q50))
     cond (!q40) (
     (A0 ([82,69,70,69,82,69,78,67,69,83],q38,q39,q40,q41)).bind fun(x28,x29,x30,x31,x32) =>
      j3 x28 x29 x30 x31 x32) (
     j3 false q38 q39 q40 q41)
    cond (!q32) (
     (A0 ([85,78,73,81,85,69],q30,q31,q32,q33)).bind fun(x23,x24,x25,x26,x27) =>
     j4 x24 x25 x26 x27 (Col.mk q25.name q25.kind q25.notNull x23 q25.ref)) (
     j4 q30 q31 q32 q33 (Col.mk q25.name q25.kind q25.notNull false q25.ref))
    cond (q25.notNull) (
    (Aw ([[78,85,76,76]],q21,q22,q23,q24)).bind fun(x19,x20,x21,x22) =>
     j5 x19 x20 x21 x22) (
    j5 q21 q22 q23 q24)
   cond (!q15) (
    (A0 ([78,79,84],q13,q14,q15,q16)).bind fun(x14,x15,x16,x17,x18) =>
    j2 x15 x16 x17 x18 (Col.mk v7.name v7.kind x14 v7.unique v7.ref)) (
    j2 q13 q14 q15 q16 (Col.mk v7.name v7.kind false v7.unique v7.ref))
   cond (decide (v7.kind=0)) (
   (Co (v2,v3,v4,v5)).bind fun(x10,x11,x12,x13) =>
    j6 x10 x11 x12 x13) (
   j6 v2 v3 v4 v5)
  |_=>none)) k (0,x1,x2,x3,x4,(Col.mk [] 0 false false []),(Col.mk x 0 false false []))
theorem A9l(k:Nat):FM 183 Adf Ac5 (Y3 k):=fRL (px:=Awu _ k) (n:=1) Tryz.func183 rfl (fun cx H=>by
 have h0:Lv cx (Awu (Asx) k):=lv H (l1 H F1 (l1 H Di (l1 H Ie (l1 H D8 Ae)))) Aa Ab
 have hlpcol_0:=lO H h0 (b:=lp Tryz.f183 0) (k:=k) (n:=0) (s:=Aiu) (step:=As7) (fun _ _ _ (_,_,_,_,_,_,_)=>by kernel_rfl) Aj
 exact⟨h0,(Bf Aj hlpcol_0)⟩) fun(_,_,_,_)=>by kernel_rfl
def Amp:A77→Option Asx:=fun x=>Y3 (10) x
theorem Bbn:FM 183 Adf Ac5 (Amp):=FnLn.fin (ι:=Nat) (sg:=Adf) (so:=Ac5) 0 (F:=fun k=>Y3 k) (fun k=>A9l k) fun _ _ _ hx=>⟨10,hx⟩
def Rz:Sig:=⟨2,[],[(0,.ptr 0 0),(1,.ptr 1 0)],[(0,.cells [.sl .tok false,.int .i64,.bool,.int .i64]),(1,.cells [.int .i64,.str,.str,.sl .col true,.sl .str false,.sl .expr true,.sl .exprs true,.sl .set true,.bool,.int .i64,.int .i64,.int .i64,.str,.str,.sl .expr false,.sl .str true,.sl .bool true,.int .i64])],2,2,0,[],[]⟩
def Sd:Sig:=⟨0,[],[],[(0,.cells [.sl .tok false,.int .i64,.bool,.int .i64]),(1,.cells [.int .i64,.str,.str,.sl .col true,.sl .str false,.sl .expr true,.sl .exprs true,.sl .set true,.bool,.int .i64,.int .i64,.int .i64,.str,.str,.sl .expr false,.sl .str true,.sl .bool true,.int .i64])],2,2,0,[],[]⟩
abbrev Aqh:=List Tok×Int×Bool×Int×Int×Str×Str×List Col×List Str×List Xpr×List (List Xpr)×List SetE×Bool×Int×Int×Int×Str×Str×List Xpr×List Str×List Bool×Int
abbrev Adw:=List Tok×Int×Bool×Int×Int×Str×Str×List Col×List Str×List Xpr×List (List Xpr)×List SetE×Bool×Int×Int×Int×Str×Str×List Xpr×List Str×List Bool×Int
def Aa4:Sig:=⟨95,[],[(0,.ptr 0 0),(1,.ptr 1 0)],[(0,.cells [.sl .tok false,.int .i64,.bool,.int .i64]),(1,.cells [.int .i64,.str,.str,.sl .col true,.sl .str true,.sl .expr true,.sl .exprs true,.sl .set true,.bool,.int .i64,.int .i64,.int .i64,.str,.str,.sl .expr false,.sl .str true,.sl .bool true,.int .i64])],2,2,0,[],[]⟩
abbrev Ti:=List Tok×Int×Bool×Int×Int×Str×Str×List Col×List Str×List Xpr×List (List Xpr)×List SetE×Bool×Int×Int×Int×Str×Str×List Xpr×List Str×List Bool×Int
def Ags{R:Type}(rec:Ti→Option R) (kx:Ex→Ti→Option R) (v:Ti):Option R:=match v with
 |(w22,w23,w24,w25,w26,w27,w28,w29,w30,w31,w32,w33,w34,w35,w36,w37,w38,w39,w40,w41,w42,w43) =>
 cond (!w24) (
  (A0 ([44],w22,w23,w24,w25)).bind fun(x41,x42,x43,x44,x45) =>
  cond (x41) (
   (Aw ([[67,72,69,67,75],[40]],x42,x43,x44,x45)).bind fun(x46,x47,x48,x49) =>
   (Jq (x46,x47,x48,x49)).bind fun(x50,x51,x52,x53,x54) =>
    chk (decide (w31.length+1≤Av)&&decide ((w31.length:Int)=(w31.length:Int))) (
    (Aw ([[41]],x51,x52,x53,x54)).bind fun(x55,x56,x57,x58) =>
     rec (x55,x56,x57,x58,w26,w27,w28,w29,w30,(w31++[x50]),w32,w33,w34,w35,w36,w37,w38,w39,w40,w41,w42,w43))) (
   kx (.exit 2) (x42,x43,x44,x45,w26,w27,w28,w29,w30,w31,w32,w33,w34,w35,w36,w37,w38,w39,w40,w41,w42,w43))) (
  kx (.exit 2) (w22,w23,w24,w25,w26,w27,w28,w29,w30,w31,w32,w33,w34,w35,w36,w37,w38,w39,w40,w41,w42,w43))
def Aav:Sig:=⟨95,[],[(0,.ptr 0 0),(1,.ptr 1 0)],[(0,.cells [.sl .tok false,.int .i64,.bool,.int .i64]),(1,.cells [.int .i64,.str,.str,.sl .col true,.sl .str false,.sl .expr true,.sl .exprs true,.sl .set true,.bool,.int .i64,.int .i64,.int .i64,.str,.str,.sl .expr false,.sl .str true,.sl .bool true,.int .i64])],2,2,0,[],[]⟩
abbrev Un:=List Tok×Int×Bool×Int×Int×Str×Str×List Col×List Str×List Xpr×List (List Xpr)×List SetE×Bool×Int×Int×Int×Str×Str×List Xpr×List Str×List Bool×Int
def Afn{R:Type}(rec:Un→Option R) (kx:Ex→Un→Option R) (v:Un):Option R:=match v with
 |(w,w1,w2,w3,w4,w5,w6,w7,w8,w9,w10,w11,w12,w13,w14,w15,w16,w17,w18,w19,w20,w21) =>
 cond (!w2) (
  (A0 ([80,82,73,77,65,82,89],w,w1,w2,w3)).bind fun(x18,x19,x20,x21,x22) =>
  cond (!x18) (
   (Amp (x19,x20,x21,x22)).bind fun(x23,x24,x25,x26,x27) =>
   chk (decide (w7.length+1≤Av)) (
    (Aw ([[44]],x24,x25,x26,x27)).bind fun(x28,x29,x30,x31) =>
    rec (x28,x29,x30,x31,w4,w5,w6,(w7++[x23]),w8,w9,w10,w11,w12,w13,w14,w15,w16,w17,w18,w19,w20,w21))) (
   kx (.exit 0) (x19,x20,x21,x22,w4,w5,w6,w7,w8,w9,w10,w11,w12,w13,w14,w15,w16,w17,w18,w19,w20,w21))) (
  kx (.exit 0) (w,w1,w2,w3,w4,w5,w6,w7,w8,w9,w10,w11,w12,w13,w14,w15,w16,w17,w18,w19,w20,w21))
def Alk(R:Type) (k:Nat):Px R:=pxO [(120,Ai D7 Ef Bj),(119,Ai C5 C2 Aw),(117,Ai C0 Cz A0),(161,Ai Lg L5 Ol)] [] [(4,Ao k Aav (Afn)),(9,Ao k Aa4 (Ags))] [(183,Cw Adf Ac5 Amp),(90,Cw B5 B4 Jq)]
def Om(k:Nat) (x:Aqh):Option (Adw):=match x with
 |(l,n,b,p,_,_,so,sc,ss,sl,sr,st,sh,wk,vk,vn,vs,wn,wl,sd,se,sm) =>
 (Bj (l,n,b,p)).bind fun(x,x1,x2,x3,x4) =>
  (Aw ([[40]],x1,x2,x3,x4)).bind fun(x5,x6,x7,x8) =>
  (Amp (x5,x6,x7,x8)).bind fun(x9,x10,x11,x12,x13) =>
   chk (decide (sc.length+1≤Av)) (
   (Aw ([[44]],x10,x11,x12,x13)).bind fun(x14,x15,x16,x17) =>
    Al (fun rec=>Afn rec (fun e vz=>match vz with|(v,v1,v2,v3,v4,v5,v6,v7,_,v9,v10,v11,v12,v13,v14,v15,v16,v17,v18,v19,v20,v21)=>match e with
    |.exit 0 =>
     (Aw ([[75,69,89]],v,v1,v2,v3)).bind fun(x32,x33,x34,x35) =>
     (Ol (x32,x33,x34,x35)).bind fun(x36,x37,x38,x39,x40) =>
      Al (fun rec=>Ags rec (fun e vz=>match vz with|(v22,v23,v24,v25,v26,v27,v28,v29,v30,v31,v32,v33,v34,v35,v36,v37,v38,v39,v40,v41,v42,v43)=>match e with
      |.exit 2 =>
       (Aw ([[41]],v22,v23,v24,v25)).bind fun(x59,x60,x61,x62) =>
       some (x59,x60,x61,x62,v26,v27,v28,v29,v30,v31,v32,v33,v34,v35,v36,v37,v38,v39,v40,v41,v42,v43)
      |_=>none)) k (x37,x38,x39,x40,v4,v5,v6,v7,x36,v9,v10,v11,v12,v13,v14,v15,v16,v17,v18,v19,v20,v21)
    |_=>none)) k (x14,x15,x16,x17,1,x,so,(sc++[x9]),ss,sl,sr,st,sh,wk,vk,vn,vs,wn,wl,sd,se,sm))
theorem Asq(k:Nat):FM 160 Rz Sd (Om k):=fRL (px:=Alk _ k) (n:=2) Tryz.func160 rfl (fun cx H=>by
 have h0:Lv cx (Alk (Adw) k):=lv H (l1 H F1 (l1 H D8 (l1 H Di (l1 H Ak0 Ae)))) Aa (w1 H Bbn (w1 H Ag0 Ab))
 have hlptable_0:=lO H h0 (b:=lp Tryz.f160 0) (k:=k) (n:=0) (s:=Aav) (step:=Afn) (fun _ _ _ (_,_,_,_,_,_,_,_,_,_,_,_,_,_,_,_,_,_,_,_,_,_)=>by kernel_rfl) Aj
 have hlptable_1:=lO H h0 (b:=lp Tryz.f160 1) (k:=k) (n:=0) (s:=Aa4) (step:=Ags) (fun _ _ _ (_,_,_,_,_,_,_,_,_,_,_,_,_,_,_,_,_,_,_,_,_,_)=>by kernel_rfl) Aj
 exact⟨h0,(Bf (Bf Aj hlptable_0) hlptable_1)⟩) fun(_,_,_,_,_,_,_,_,_,_,_,_,_,_,_,_,_,_,_,_,_,_)=>by kernel_rfl
def Af4:Aqh→Option Adw:=fun x=>Om ((x.1.length+3)) x
theorem A1w:FM 160 Rz Sd (Af4):=FnLn.fin (ι:=Nat) (sg:=Rz) (so:=Sd) 0 (F:=fun k=>Om k) (fun k=>Asq k) fun x _ _ hx=>⟨(x.1.length+3),hx⟩
def T4:Sig:=⟨2,[],[(0,.ptr 0 0),(1,.ptr 1 0)],[(0,.cells [.sl .tok false,.int .i64,.bool,.int .i64]),(1,.cells [.int .i64,.str,.str,.sl .col true,.sl .str false,.sl .expr true,.sl .exprs true,.sl .set true,.bool,.int .i64,.int .i64,.int .i64,.str,.str,.sl .expr false,.sl .str true,.sl .bool true,.int .i64])],2,2,0,[],[]⟩
def Uf:Sig:=⟨0,[],[],[(0,.cells [.sl .tok false,.int .i64,.bool,.int .i64]),(1,.cells [.int .i64,.str,.str,.sl .col true,.sl .str false,.sl .expr true,.sl .exprs true,.sl .set true,.bool,.int .i64,.int .i64,.int .i64,.str,.str,.sl .expr false,.sl .str true,.sl .bool true,.int .i64])],2,2,0,[],[]⟩
abbrev Ajc:=List Tok×Int×Bool×Int×Int×Str×Str×List Col×List Str×List Xpr×List (List Xpr)×List SetE×Bool×Int×Int×Int×Str×Str×List Xpr×List Str×List Bool×Int
abbrev Ai8:=List Tok×Int×Bool×Int×Int×Str×Str×List Col×List Str×List Xpr×List (List Xpr)×List SetE×Bool×Int×Int×Int×Str×Str×List Xpr×List Str×List Bool×Int
def As8(R:Type):Px R:=pxO [(117,Ai C0 Cz A0),(160,Ai Rz Sd Af4),(119,Ai C5 C2 Aw),(120,Ai D7 Ef Bj),(161,Ai Lg L5 Ol)] [] [] []
def Xj(x:Ajc):Option (Ai8):=match x with
 |(l,n,b,p,sk,sn,so,sc,ss,sl,sr,st,sh,wk,vk,vn,vs,wn,wl,sd,se,sm) =>
 (A0 ([84,65,66,76,69],l,n,b,p)).bind fun(x,x1,x2,x3,x4) =>
  cond (x) (
  (Af4 (x1,x2,x3,x4,sk,sn,so,sc,ss,sl,sr,st,sh,wk,vk,vn,vs,wn,wl,sd,se,sm)).bind fun(x5,x6,x7,x8,x9,x10,x11,x12,x13,x14,x15,x16,x17,x18,x19,x20,x21,x22,x23,x24,x25,x26) =>
   some (x5,x6,x7,x8,x9,x10,x11,x12,x13,x14,x15,x16,x17,x18,x19,x20,x21,x22,x23,x24,x25,x26)) (
  (Aw ([[73,78,68,69,88]],x1,x2,x3,x4)).bind fun(x27,x28,x29,x30) =>
   (Bj (x27,x28,x29,x30)).bind fun(x31,x32,x33,x34,x35) =>
   (Aw ([[79,78]],x32,x33,x34,x35)).bind fun(x36,x37,x38,x39) =>
    (Bj (x36,x37,x38,x39)).bind fun(x40,x41,x42,x43,x44) =>
    (Ol (x41,x42,x43,x44)).bind fun(x45,x46,x47,x48,x49) =>
     some (x46,x47,x48,x49,3,x31,x40,sc,x45,sl,sr,st,sh,wk,vk,vn,vs,wn,wl,sd,se,sm))
theorem Asi:FM 118 T4 Uf (Xj):=fRL (px:=As8 _) (n:=0) Tryz.func118 rfl (fun _ H=>⟨lv H (l1 H Di (l1 H A1w (l1 H D8 (l1 H F1 (l1 H Ak0 Ae))))) Aa Ab,Aj⟩) fun(_,_,_,_,_,_,_,_,_,_,_,_,_,_,_,_,_,_,_,_,_,_)=>by kernel_rfl
def Aag:Ajc→Option Ai8:=fun x=>Xj x
theorem Aum:FM 118 T4 Uf (Aag):=Asi
def K4:Sig:=⟨2,[],[(0,.ptr 0 0),(1,.ptr 1 0)],[(0,.cells [.sl .tok false,.int .i64,.bool,.int .i64]),(1,.cells [.int .i64,.str,.str,.sl .col true,.sl .str false,.sl .expr true,.sl .exprs true,.sl .set true,.bool,.int .i64,.int .i64,.int .i64,.str,.str,.sl .expr false,.sl .str true,.sl .bool true,.int .i64])],2,2,0,[],[]⟩
def K6:Sig:=⟨0,[],[],[(0,.cells [.sl .tok false,.int .i64,.bool,.int .i64]),(1,.cells [.int .i64,.str,.str,.sl .col true,.sl .str false,.sl .expr true,.sl .exprs true,.sl .set true,.bool,.int .i64,.int .i64,.int .i64,.str,.str,.sl .expr false,.sl .str true,.sl .bool true,.int .i64])],2,2,0,[],[]⟩
abbrev Art:=List Tok×Int×Bool×Int×Int×Str×Str×List Col×List Str×List Xpr×List (List Xpr)×List SetE×Bool×Int×Int×Int×Str×Str×List Xpr×List Str×List Bool×Int
abbrev Arq:=List Tok×Int×Bool×Int×Int×Str×Str×List Col×List Str×List Xpr×List (List Xpr)×List SetE×Bool×Int×Int×Int×Str×Str×List Xpr×List Str×List Bool×Int
def A1s(R:Type):Px R:=pxO [(117,Ai C0 Cz A0),(90,Ai B5 B4 Jq)] [] [] []
def Acp(x:Art):Option (Arq):=match x with
 |(l,n,b,p,sk,sn,so,sc,ss,sl,sr,st,sh,wk,vk,vn,vs,wn,wl,sd,se,sm) =>
 let j:=fun(p2:Bool) (q4:List Tok) (q5:Int) (q6:Bool) (q7:Int) =>
  cond (p2) (
  (Jq (q4,q5,q6,q7)).bind fun(x5,x6,x7,x8,x9) =>
   some (x6,x7,x8,x9,sk,sn,so,sc,ss,sl,sr,st,true,x5.kind,x5.v.kind,x5.v.n,x5.v.s,x5.name,x5.l,sd,se,sm)) (
  some (q4,q5,q6,q7,sk,sn,so,sc,ss,sl,sr,st,sh,wk,vk,vn,vs,wn,wl,sd,se,sm))
 cond (!b) (
  (A0 ([87,72,69,82,69],l,n,b,p)).bind fun(x,x1,x2,x3,x4) =>
  j x x1 x2 x3 x4) (
  j false l n b p)
theorem Aur:FM 125 K4 K6 (Acp):=fRL (px:=A1s _) (n:=0) Tryz.func125 rfl (fun _ H=>⟨lv H (l1 H Di (l1 H Ag0 Ae)) Aa Ab,Aj⟩) fun(_,_,_,_,_,_,_,_,_,_,_,_,_,_,_,_,_,_,_,_,_,_)=>by kernel_rfl
def It:Art→Option Arq:=fun x=>Acp x
theorem Y1:FM 125 K4 K6 (It):=Aur
def Mm:Sig:=⟨2,[],[(0,.ptr 0 0),(1,.ptr 1 0)],[(0,.cells [.sl .tok false,.int .i64,.bool,.int .i64]),(1,.cells [.int .i64,.str,.str,.sl .col true,.sl .str false,.sl .expr true,.sl .exprs true,.sl .set true,.bool,.int .i64,.int .i64,.int .i64,.str,.str,.sl .expr false,.sl .str true,.sl .bool true,.int .i64])],2,2,0,[],[]⟩
def Mr:Sig:=⟨0,[],[],[(0,.cells [.sl .tok false,.int .i64,.bool,.int .i64]),(1,.cells [.int .i64,.str,.str,.sl .col true,.sl .str false,.sl .expr true,.sl .exprs true,.sl .set true,.bool,.int .i64,.int .i64,.int .i64,.str,.str,.sl .expr false,.sl .str true,.sl .bool true,.int .i64])],2,2,0,[],[]⟩
abbrev Akc:=List Tok×Int×Bool×Int×Int×Str×Str×List Col×List Str×List Xpr×List (List Xpr)×List SetE×Bool×Int×Int×Int×Str×Str×List Xpr×List Str×List Bool×Int
abbrev Lu:=List Tok×Int×Bool×Int×Int×Str×Str×List Col×List Str×List Xpr×List (List Xpr)×List SetE×Bool×Int×Int×Int×Str×Str×List Xpr×List Str×List Bool×Int
def Wn:Sig:=⟨19,[],[(0,.ptr 0 0),(1,.fn 163 [.ptr 2 0,.ptr 3 0])],[(0,.cells [.sl .tok false,.int .i64,.bool,.int .i64]),(1,.cells [.int .i64,.str,.str,.sl .col true,.sl .str false,.sl .expr true,.sl .exprs true,.sl .set true,.bool,.int .i64,.int .i64,.int .i64,.str,.str,.sl .expr false,.sl .str true,.sl .bool true,.int .i64]),(2,.fx [.ptr 0 0]),(3,.fx [.ptr 1 0])],80,80,400,[],[]⟩
abbrev Jy:=List Tok×Int×Bool×Int×Int×Str×Str×List Col×List Str×List Xpr×List (List Xpr)×List SetE×Bool×Int×Int×Int×Str×Str×List Xpr×List Str×List Bool×Int
def Y7{R:Type}(rec:Jy→Option R) (kx:Ex→Jy→Option R) (v:Jy):Option R:=match v with
 |(w,w1,w2,w3,w4,w5,w6,w7,w8,w9,w10,w11,w12,w13,w14,w15,w16,w17,w18,w19,w20,w21) =>
 cond (!w2) (
  (A0 ([44],w,w1,w2,w3)).bind fun(x23,x24,x25,x26,x27) =>
  cond (x23) (
   (Bj (x24,x25,x26,x27)).bind fun(x28,x29,x30,x31,x32) =>
   (Aw ([[61]],x29,x30,x31,x32)).bind fun(x33,x34,x35,x36) =>
    (Jq (x33,x34,x35,x36)).bind fun(x37,x38,x39,x40,x41) =>
    chk (decide (w11.length+1≤Av)) (
     rec (x38,x39,x40,x41,w4,w5,w6,w7,w8,w9,w10,(w11++[(SetE.mk x28 (Nr x37))]),w12,w13,w14,w15,w16,w17,w18,w19,w20,w21))) (
   kx (.exit 0) (x24,x25,x26,x27,w4,w5,w6,w7,w8,w9,w10,w11,w12,w13,w14,w15,w16,w17,w18,w19,w20,w21))) (
  kx (.exit 0) (w,w1,w2,w3,w4,w5,w6,w7,w8,w9,w10,w11,w12,w13,w14,w15,w16,w17,w18,w19,w20,w21))
def Oj(R:Type) (_k:Nat):Px R:=pxO [(120,Ai D7 Ef Bj),(119,Ai C5 C2 Aw),(90,Ai B5 B4 Jq)] [] [] []
noncomputable def Vq (R:Type) (k:Nat):Px R:=pxO [(117,Ai C0 Cz A0),(163,As 120 600 (Oj R k) Tryz.f163)] [] [(1,Ao k Wn (Y7))] []
noncomputable def Ae2 (R:Type) (k:Nat):Px R:=pxO [(119,Ai C5 C2 Aw),(125,Ai K4 K6 It),(121,As 80 400 (Vq R k) Tryz.f121)] [] [] [(120,Cw D7 Ef Bj)]
def Mi(k:Nat) (x:Akc):Option (Lu):=match x with
 |(l,n,b,p,_,_,so,sc,ss,sl,sr,st,sh,wk,vk,vn,vs,wn,wl,sd,se,sm) =>
 (Bj (l,n,b,p)).bind fun(x,x1,x2,x3,x4) =>
  (Aw ([[83,69,84]],x1,x2,x3,x4)).bind fun(x5,x6,x7,x8) =>
  (Bj (x5,x6,x7,x8)).bind fun(x9,x10,x11,x12,x13) =>
   (Aw ([[61]],x10,x11,x12,x13)).bind fun(x14,x15,x16,x17) =>
   (Jq (x14,x15,x16,x17)).bind fun(x18,x19,x20,x21,x22) =>
    chk (decide (st.length+1≤Av)) (
    Al (fun rec=>Y7 rec (fun e vz=>match vz with|(v,v1,v2,v3,v4,v5,v6,v7,v8,v9,v10,v11,v12,v13,v14,v15,v16,v17,v18,v19,v20,v21)=>match e with
     |.exit 0 =>
     (It (v,v1,v2,v3,v4,v5,v6,v7,v8,v9,v10,v11,v12,v13,v14,v15,v16,v17,v18,v19,v20,v21)).bind fun(x42,x43,x44,x45,x46,x47,x48,x49,x50,x51,x52,x53,x54,x55,x56,x57,x58,x59,x60,x61,x62,x63) =>
      some (x42,x43,x44,x45,x46,x47,x48,x49,x50,x51,x52,x53,x54,x55,x56,x57,x58,x59,x60,x61,x62,x63)
     |_=>none)) k (x19,x20,x21,x22,6,x,so,sc,ss,sl,sr,(st++[(SetE.mk x9 (Nr x18))]),sh,wk,vk,vn,vs,wn,wl,sd,se,sm))
theorem Ap3(k:Nat):FM 124 Mm Mr (Mi k):=fRL (px:=Ae2 _ k) (n:=0) Tryz.func124 rfl (fun cx H=>by
 have h2:Lv cx (Oj (Lu) k):=lv H (l1 H F1 (l1 H D8 (l1 H Ag0 Ae))) Aa Ab
 have h1:Lv cx (Vq (Lu) k):=lv H (l1 H Di (An (cR H h2 Tryz.func163 rfl (n:=0) (Aj)) Ae)) Aa Ab
 have hlpupdate_0:=lO H h1 (b:=lp Tryz.f121 0) (k:=k) (n:=0) (s:=Wn) (step:=Y7) (fun _ _ _ (_,_,_,_,_,_,_,_,_,_,_,_,_,_,_,_,_,_,_,_,_,_)=>by kernel_rfl) Aj
 have h0:Lv cx (Ae2 (Lu) k):=lv H (l1 H D8 (l1 H Y1 (An (cR H h1 Tryz.func121 rfl (n:=1) ((Bf Aj hlpupdate_0))) Ae))) Aa (w1 H F1 Ab)
 exact⟨h0,Aj⟩) fun(_,_,_,_,_,_,_,_,_,_,_,_,_,_,_,_,_,_,_,_,_,_)=>by kernel_rfl
def Yq:Akc→Option Lu:=fun x=>Mi ((x.1.length+3)) x
theorem Atj:FM 124 Mm Mr (Yq):=FnLn.fin (ι:=Nat) (sg:=Mm) (so:=Mr) 0 (F:=fun k=>Mi k) (fun k=>Ap3 k) fun x _ _ hx=>⟨(x.1.length+3),hx⟩
end Go.Proofs.YthndhaolemgbdaaGreatDoor
namespace Go.Proofs.YthndhaolemgbdaaGreatDoor
open Go.Ax
def Jp:Sig:=⟨2,[],[(0,.ptr 0 0),(1,.ptr 1 0)],[(0,.cells [.sl .tok false,.int .i64,.bool,.int .i64]),(1,.cells [.int .i64,.str,.str,.sl .col true,.sl .str false,.sl .expr true,.sl .exprs true,.sl .set true,.bool,.int .i64,.int .i64,.int .i64,.str,.str,.sl .expr false,.sl .str true,.sl .bool true,.int .i64])],2,2,0,[],[]⟩
def Ji:Sig:=⟨0,[],[],[(0,.cells [.sl .tok false,.int .i64,.bool,.int .i64]),(1,.cells [.int .i64,.str,.str,.sl .col true,.sl .str false,.sl .expr true,.sl .exprs true,.sl .set true,.bool,.int .i64,.int .i64,.int .i64,.str,.str,.sl .expr false,.sl .str true,.sl .bool true,.int .i64])],2,2,0,[],[]⟩
abbrev Adz:=List Tok×Int×Bool×Int×Int×Str×Str×List Col×List Str×List Xpr×List (List Xpr)×List SetE×Bool×Int×Int×Int×Str×Str×List Xpr×List Str×List Bool×Int
abbrev Iy:=List Tok×Int×Bool×Int×Int×Str×Str×List Col×List Str×List Xpr×List (List Xpr)×List SetE×Bool×Int×Int×Int×Str×Str×List Xpr×List Str×List Bool×Int
def Tc:Sig:=⟨19,[],[(0,.ptr 0 0),(1,.fn 164 [.ptr 3 0,.ptr 2 0])],[(0,.cells [.sl .tok false,.int .i64,.bool,.int .i64]),(1,.cells [.int .i64,.str,.str,.sl .col true,.sl .str false,.sl .expr true,.sl .exprs true,.sl .set true,.bool,.int .i64,.int .i64,.int .i64,.str,.str,.sl .expr false,.sl .str true,.sl .bool true,.int .i64]),(2,.fx [.ptr 0 0]),(3,.fx [.ptr 1 0])],80,80,400,[],[]⟩
abbrev Hw:=List Tok×Int×Bool×Int×Int×Str×Str×List Col×List Str×List Xpr×List (List Xpr)×List SetE×Bool×Int×Int×Int×Str×Str×List Xpr×List Str×List Bool×Int
def To{R:Type}(rec:Hw→Option R) (kx:Ex→Hw→Option R) (v:Hw):Option R:=match v with
 |(w,w1,w2,w3,w4,w5,w6,w7,w8,w9,w10,w11,w12,w13,w14,w15,w16,w17,w18,w19,w20,w21) =>
 cond (!w2) (
  (A0 ([44],w,w1,w2,w3)).bind fun(x90,x91,x92,x93,x94) =>
  cond (x90) (
   (Bj (x91,x92,x93,x94)).bind fun(x95,x96,x97,x98,x99) =>
   chk (decide (w19.length+1≤Av)) (
    cond (!x98) (
    (A0 ([68,69,83,67],x96,x97,x98,x99)).bind fun(x100,x101,x102,x103,x104) =>
     cond (!x103) (
     cond (!x100) (
      (A0 ([65,83,67],x101,x102,x103,x104)).bind fun(_,x121,x122,x123,x124) =>
      chk (decide (w20.length+1≤Av)) (
       rec (x121,x122,x123,x124,w4,w5,w6,w7,w8,w9,w10,w11,w12,w13,w14,w15,w16,w17,w18,(w19++[x95]),(w20++[x100]),w21))) (
      chk (decide (w20.length+1≤Av)) (
      rec (x101,x102,x103,x104,w4,w5,w6,w7,w8,w9,w10,w11,w12,w13,w14,w15,w16,w17,w18,(w19++[x95]),(w20++[x100]),w21)))) (
     chk (decide (w20.length+1≤Av)) (
      rec (x101,x102,x103,x104,w4,w5,w6,w7,w8,w9,w10,w11,w12,w13,w14,w15,w16,w17,w18,(w19++[x95]),(w20++[x100]),w21)))) (
    cond (!x98) (
     (A0 ([65,83,67],x96,x97,x98,x99)).bind fun(_,x131,x132,x133,x134) =>
     chk (decide (w20.length+1≤Av)) (
      rec (x131,x132,x133,x134,w4,w5,w6,w7,w8,w9,w10,w11,w12,w13,w14,w15,w16,w17,w18,(w19++[x95]),(w20++[false]),w21))) (
     chk (decide (w20.length+1≤Av)) (
     rec (x96,x97,x98,x99,w4,w5,w6,w7,w8,w9,w10,w11,w12,w13,w14,w15,w16,w17,w18,(w19++[x95]),(w20++[false]),w21)))))) (
   kx (.exit 0) (x91,x92,x93,x94,w4,w5,w6,w7,w8,w9,w10,w11,w12,w13,w14,w15,w16,w17,w18,w19,w20,w21))) (
  kx (.exit 0) (w,w1,w2,w3,w4,w5,w6,w7,w8,w9,w10,w11,w12,w13,w14,w15,w16,w17,w18,w19,w20,w21))
def Nj(R:Type) (_k:Nat):Px R:=pxO [(117,Ai C0 Cz A0)] [] [] [(120,Cw D7 Ef Bj)]
noncomputable def Sq (R:Type) (k:Nat):Px R:=pxO [(117,Ai C0 Cz A0),(164,As 120 600 (Nj R k) Tryz.f164)] [] [(1,Ao k Tc (To))] []
noncomputable def Aa3 (R:Type) (k:Nat):Px R:=pxO [(117,Ai C0 Cz A0),(119,Ai C5 C2 Aw),(125,Ai K4 K6 It),(158,Ai Hf He Dh),(127,Ai Fo Fu Co),(121,As 80 400 (Sq R k) Tryz.f121)] [] [] [(123,Cw Ki K7 L0),(120,Cw D7 Ef Bj),(159,Cw Io Ip Ca)]
def J8(k:Nat) (x:Adz):Option (Iy):=match x with
 |(l,n,b,p,_,_,so,sc,ss,sl,sr,st,sh,wk,vk,vn,vs,wn,wl,sd,se,_) =>
 let j3:=fun(q:List Tok) (q1:Int) (q2:Bool) (q3:Int) (q4:List Xpr) =>
  (Aw ([[70,82,79,77]],q,q1,q2,q3)).bind fun(x10,x11,x12,x13) =>
  (Bj (x10,x11,x12,x13)).bind fun(x14,x15,x16,x17,x18) =>
   (It (x15,x16,x17,x18,8,x14,so,sc,ss,q4,sr,st,sh,wk,vk,vn,vs,wn,wl,sd,se,(-1))).bind fun(x19,x20,x21,x22,x23,x24,x25,x26,x27,x28,x29,x30,x31,x32,x33,x34,x35,x36,x37,x38,x39,x40) =>
   let j2:=fun(q161:List Tok) (q162:Int) (q163:Bool) (q164:Int) (q165:Int) (q166:Str) (q167:Str) (q168:List Col) (q169:List Str) (q170:List Xpr) (q171:List (List Xpr)) (q172:List SetE) (q173:Bool) (q174:Int) (q175:Int) (q176:Int) (q177:Str) (q178:Str) (q179:List Xpr) (q180:List Str) (q181:List Bool) (q182:Int) =>
    cond (!q163) (
    (A0 ([76,73,77,73,84],q161,q162,q163,q164)).bind fun(x179,x180,x181,x182,x183) =>
     cond (x179) (
     (Dh (x180,x181,x182,x183)).bind fun(x208,x209,x210,x211,x212) =>
      cond (!decide (x208.kind=3)) (
      (Co (x209,x210,x211,x212)).bind fun(x213,x214,x215,x216) =>
       (Ca (x213,x214,x215,x216)).bind fun(x222,x223,x224,x225,x226) =>
       some (x223,x224,x225,x226,q165,q166,q167,q168,q169,q170,q171,q172,q173,q174,q175,q176,q177,q178,q179,q180,q181,x222.n)) (
      (Ca (x209,x210,x211,x212)).bind fun(x227,x228,x229,x230,x231) =>
       some (x228,x229,x230,x231,q165,q166,q167,q168,q169,q170,q171,q172,q173,q174,q175,q176,q177,q178,q179,q180,q181,x227.n))) (
     some (x180,x181,x182,x183,q165,q166,q167,q168,q169,q170,q171,q172,q173,q174,q175,q176,q177,q178,q179,q180,q181,q182))) (
    some (q161,q162,q163,q164,q165,q166,q167,q168,q169,q170,q171,q172,q173,q174,q175,q176,q177,q178,q179,q180,q181,q182))
   cond (!x21) (
    (A0 ([79,82,68,69,82],x19,x20,x21,x22)).bind fun(x41,x42,x43,x44,x45) =>
    cond (x41) (
     (Aw ([[66,89]],x42,x43,x44,x45)).bind fun(x135,x136,x137,x138) =>
     (Bj (x135,x136,x137,x138)).bind fun(x139,x140,x141,x142,x143) =>
      let j1:=fun(q156:List Tok) (q157:Int) (q158:Bool) (q159:Int) (q160:List Bool) =>
      Al (fun rec=>To rec (fun e vz=>match vz with|(v22,v23,v24,v25,v26,v27,v28,v29,v30,v31,v32,v33,v34,v35,v36,v37,v38,v39,v40,v41,v42,v43)=>match e with
       |.exit 0 =>
       j2 v22 v23 v24 v25 v26 v27 v28 v29 v30 v31 v32 v33 v34 v35 v36 v37 v38 v39 v40 v41 v42 v43
       |_=>none)) k (q156,q157,q158,q159,x23,x24,x25,x26,x27,x28,x29,x30,x31,x32,x33,x34,x35,x36,x37,(x38++[x139]),q160,x40)
      chk (decide (x38.length+1≤Av)) (
      cond (!x142) (
       (A0 ([68,69,83,67],x140,x141,x142,x143)).bind fun(x144,x145,x146,x147,x148) =>
       cond (!x147) (
        cond (!x144) (
        (A0 ([65,83,67],x145,x146,x147,x148)).bind fun(_,x165,x166,x167,x168) =>
         chk (decide (x39.length+1≤Av)) (
         j1 x165 x166 x167 x168 (x39++[x144]))) (
        chk (decide (x39.length+1≤Av)) (
         j1 x145 x146 x147 x148 (x39++[x144])))) (
        chk (decide (x39.length+1≤Av)) (
        j1 x145 x146 x147 x148 (x39++[x144])))) (
       cond (!x142) (
       (A0 ([65,83,67],x140,x141,x142,x143)).bind fun(_,x175,x176,x177,x178) =>
        chk (decide (x39.length+1≤Av)) (
        j1 x175 x176 x177 x178 (x39++[false]))) (
       chk (decide (x39.length+1≤Av)) (
        j1 x140 x141 x142 x143 (x39++[false])))))) (
     j2 x42 x43 x44 x45 x23 x24 x25 x26 x27 x28 x29 x30 x31 x32 x33 x34 x35 x36 x37 x38 x39 x40)) (
    j2 x19 x20 x21 x22 x23 x24 x25 x26 x27 x28 x29 x30 x31 x32 x33 x34 x35 x36 x37 x38 x39 x40)
 (A0 ([42],l,n,b,p)).bind fun(x,x1,x2,x3,x4) =>
  cond (!x) (
  (L0 (x1,x2,x3,x4)).bind fun(x5,x6,x7,x8,x9) =>
   j3 x6 x7 x8 x9 x5) (
  j3 x1 x2 x3 x4 sl)
theorem Alx(k:Nat):FM 126 Jp Ji (J8 k):=fRL (px:=Aa3 _ k) (n:=0) Tryz.func126 rfl (fun cx H=>by
 have h2:Lv cx (Nj (Iy) k):=lv H (l1 H Di Ae) Aa (w1 H F1 Ab)
 have h1:Lv cx (Sq (Iy) k):=lv H (l1 H Di (An (cR H h2 Tryz.func164 rfl (n:=0) (Aj)) Ae)) Aa Ab
 have hlpselects_0:=lO H h1 (b:=lp Tryz.f121 0) (k:=k) (n:=0) (s:=Tc) (step:=To) (fun _ _ _ (_,_,_,_,_,_,_,_,_,_,_,_,_,_,_,_,_,_,_,_,_,_)=>by kernel_rfl) Aj
 have h0:Lv cx (Aa3 (Iy) k):=lv H (l1 H Di (l1 H D8 (l1 H Y1 (l1 H Kk (l1 H Ie (An (cR H h1 Tryz.func121 rfl (n:=1) ((Bf Aj hlpselects_0))) Ae)))))) Aa (w1 H Akq (w1 H F1 (w1 H Pd Ab)))
 exact⟨h0,Aj⟩) fun(_,_,_,_,_,_,_,_,_,_,_,_,_,_,_,_,_,_,_,_,_,_)=>by kernel_rfl
def Ui:Adz→Option Iy:=fun x=>J8 ((x.1.length+3)) x
theorem Ap2:FM 126 Jp Ji (Ui):=FnLn.fin (ι:=Nat) (sg:=Jp) (so:=Ji) 0 (F:=fun k=>J8 k) (fun k=>Alx k) fun x _ _ hx=>⟨(x.1.length+3),hx⟩
def Xm:Sig:=⟨1,[],[(0,.ptr 0 0)],[(0,.cells [.sl .tok false,.int .i64,.bool,.int .i64])],1,1,0,[],[]⟩
def We:Sig:=⟨1,[(0,.sv .stmt)],[],[(0,.cells [.sl .tok false,.int .i64,.bool,.int .i64])],1,1,0,[],[]⟩
abbrev Axy:=List Tok×Int×Bool×Int
abbrev U8:=Stm×List Tok×Int×Bool×Int
def Aeq:Sig:=⟨19,[],[(0,.ptr 0 0),(1,.fn 122 [.ptr 1 0,.ptr 3 0])],[(0,.cells [.sl .tok false,.int .i64,.bool,.int .i64]),(1,.fx [.ptr 0 0]),(2,.one (.sv .stmt)),(3,.cells [.int .i64,.str,.str,.sl .col true,.sl .str true,.sl .expr true,.sl .exprs true,.sl .set true,.bool,.int .i64,.int .i64,.int .i64,.str,.str,.sl .expr true,.sl .str true,.sl .bool true,.int .i64])],80,80,400,[],[]⟩
abbrev Pz:=List Tok×Int×Bool×Int×Stm×Int×Str×Str×List Col×List Str×List Xpr×List (List Xpr)×List SetE×Bool×Int×Int×Int×Str×Str×List Xpr×List Str×List Bool×Int
def Ans{R:Type}(rec:Pz→Option R) (kx:Ex→Pz→Option R) (v:Pz):Option R:=match v with
 |(w,w1,w2,w3,w4,w5,w6,w7,w8,w9,w10,w11,w12,w13,w14,w15,w16,w17,w18,w19,w20,w21,w22) =>
 cond (!w2) (
  (A0 ([44],w,w1,w2,w3)).bind fun(x87,x88,x89,x90,x91) =>
  cond (x87) (
   (Aw ([[40]],x88,x89,x90,x91)).bind fun(x92,x93,x94,x95) =>
   (L0 (x92,x93,x94,x95)).bind fun(x96,x97,x98,x99,x100) =>
    chk (decide (w11.length+1≤Av)) (
    (Aw ([[41]],x97,x98,x99,x100)).bind fun(x101,x102,x103,x104) =>
     rec (x101,x102,x103,x104,w4,w5,w6,w7,w8,w9,w10,(w11++[x96]),w12,w13,w14,w15,w16,w17,w18,w19,w20,w21,w22))) (
   kx (.exit 0) (x88,x89,x90,x91,w4,w5,w6,w7,w8,w9,w10,w11,w12,w13,w14,w15,w16,w17,w18,w19,w20,w21,w22))) (
  kx (.exit 0) (w,w1,w2,w3,w4,w5,w6,w7,w8,w9,w10,w11,w12,w13,w14,w15,w16,w17,w18,w19,w20,w21,w22))
def W9(R:Type) (_k:Nat):Px R:=pxO [(119,Ai C5 C2 Aw)] [] [] [(123,Cw Ki K7 L0)]
noncomputable def Ahd (R:Type) (k:Nat):Px R:=pxO [(117,Ai C0 Cz A0),(122,As 120 600 (W9 R k) Tryz.f122)] [] [(1,Ao k Aeq (Ans))] []
noncomputable def Apd (R:Type) (k:Nat):Px R:=pxO [(117,Ai C0 Cz A0),(118,Ai T4 Uf Aag),(119,Ai C5 C2 Aw),(120,Ai D7 Ef Bj),(124,Ai Mm Mr Yq),(125,Ai K4 K6 It),(126,Ai Jp Ji Ui),(127,Ai Fo Fu Co),(121,As 80 400 (Ahd R k) Tryz.f121)] [] [] []
def T5(k:Nat) (x:Axy):Option (U8):=match x with
 |(l,n,b,p) =>
 (A0 ([67,82,69,65,84,69],l,n,b,p)).bind fun(x,x1,x2,x3,x4) =>
  cond (x) (
  (Aag (x1,x2,x3,x4,0,[],[],[],[],[],[],[],false,0,0,0,[],[],[],[],[],0)).bind fun(x5,x6,x7,x8,x9,x10,x11,x12,x13,x14,x15,x16,x17,x18,x19,x20,x21,x22,x23,x24,x25,x26) =>
   cond (!x7) (
   (A0 ([59],x5,x6,x7,x8)).bind fun(_,x200,x201,x202,x203) =>
    some ((Stm.mk x9 x10 x11 x12 x13 x14 x15 x16 x17 (Xpr.mk x18 ⟨x19,x20,x21⟩ x22 x23) x24 x25 x26),x200,x201,x202,x203)) (
   some ((Stm.mk x9 x10 x11 x12 x13 x14 x15 x16 x17 (Xpr.mk x18 ⟨x19,x20,x21⟩ x22 x23) x24 x25 x26),x5,x6,x7,x8))) (
  (A0 ([68,82,79,80],x1,x2,x3,x4)).bind fun(x27,x28,x29,x30,x31) =>
   cond (x27) (
   (A0 ([84,65,66,76,69],x28,x29,x30,x31)).bind fun(x32,x33,x34,x35,x36) =>
    cond (!x32) (
    (Aw ([[73,78,68,69,88]],x33,x34,x35,x36)).bind fun(x37,x38,x39,x40) =>
     (Bj (x37,x38,x39,x40)).bind fun(x46,x47,x48,x49,x50) =>
     cond (!x49) (
      (A0 ([59],x47,x48,x49,x50)).bind fun(_,x205,x206,x207,x208) =>
      some ((Stm.mk 4 x46 [] [] [] [] [] [] false (Xpr.mk 0 ⟨0,0,[]⟩ [] []) [] [] 0),x205,x206,x207,x208)) (
      some ((Stm.mk 4 x46 [] [] [] [] [] [] false (Xpr.mk 0 ⟨0,0,[]⟩ [] []) [] [] 0),x47,x48,x49,x50))) (
    (Bj (x33,x34,x35,x36)).bind fun(x51,x52,x53,x54,x55) =>
     cond (!x54) (
     (A0 ([59],x52,x53,x54,x55)).bind fun(_,x210,x211,x212,x213) =>
      some ((Stm.mk 2 x51 [] [] [] [] [] [] false (Xpr.mk 0 ⟨0,0,[]⟩ [] []) [] [] 0),x210,x211,x212,x213)) (
     some ((Stm.mk 2 x51 [] [] [] [] [] [] false (Xpr.mk 0 ⟨0,0,[]⟩ [] []) [] [] 0),x52,x53,x54,x55)))) (
   (A0 ([73,78,83,69,82,84],x28,x29,x30,x31)).bind fun(x56,x57,x58,x59,x60) =>
    cond (x56) (
    (Aw ([[73,78,84,79]],x57,x58,x59,x60)).bind fun(x61,x62,x63,x64) =>
     (Bj (x61,x62,x63,x64)).bind fun(x65,x66,x67,x68,x69) =>
     (Aw ([[86,65,76,85,69,83]],x66,x67,x68,x69)).bind fun(x70,x71,x72,x73) =>
      (Aw ([[40]],x70,x71,x72,x73)).bind fun(x74,x75,x76,x77) =>
      (L0 (x74,x75,x76,x77)).bind fun(x78,x79,x80,x81,x82) =>
       (Aw ([[41]],x79,x80,x81,x82)).bind fun(x83,x84,x85,x86) =>
       Al (fun rec=>Ans rec (fun e vz=>match vz with|(v,v1,v2,v3,_,v5,v6,v7,v8,v9,v10,v11,v12,v13,v14,v15,v16,v17,v18,v19,v20,v21,v22)=>match e with
        |.exit 0 =>
        cond (!v2) (
         (A0 ([59],v,v1,v2,v3)).bind fun(_,x215,x216,x217,x218) =>
         some ((Stm.mk v5 v6 v7 v8 v9 v10 v11 v12 v13 (Xpr.mk v14 ⟨v15,v16,v17⟩ v18 v19) v20 v21 v22),x215,x216,x217,x218)) (
         some ((Stm.mk v5 v6 v7 v8 v9 v10 v11 v12 v13 (Xpr.mk v14 ⟨v15,v16,v17⟩ v18 v19) v20 v21 v22),v,v1,v2,v3))
        |_=>none)) k (x83,x84,x85,x86,(Stm.mk 0 [] [] [] [] [] [] [] false (Xpr.mk 0 ⟨0,0,[]⟩ [] []) [] [] 0),5,x65,[],[],[],[],[x78],[],false,0,0,0,[],[],[],[],[],0)) (
    (A0 ([85,80,68,65,84,69],x57,x58,x59,x60)).bind fun(x105,x106,x107,x108,x109) =>
     cond (x105) (
     (Yq (x106,x107,x108,x109,0,[],[],[],[],[],[],[],false,0,0,0,[],[],[],[],[],0)).bind fun(x110,x111,x112,x113,x114,x115,x116,x117,x118,x119,x120,x121,x122,x123,x124,x125,x126,x127,x128,x129,x130,x131) =>
      cond (!x112) (
      (A0 ([59],x110,x111,x112,x113)).bind fun(_,x220,x221,x222,x223) =>
       some ((Stm.mk x114 x115 x116 x117 x118 x119 x120 x121 x122 (Xpr.mk x123 ⟨x124,x125,x126⟩ x127 x128) x129 x130 x131),x220,x221,x222,x223)) (
      some ((Stm.mk x114 x115 x116 x117 x118 x119 x120 x121 x122 (Xpr.mk x123 ⟨x124,x125,x126⟩ x127 x128) x129 x130 x131),x110,x111,x112,x113))) (
     (A0 ([68,69,76,69,84,69],x106,x107,x108,x109)).bind fun(x132,x133,x134,x135,x136) =>
      cond (x132) (
      (Aw ([[70,82,79,77]],x133,x134,x135,x136)).bind fun(x137,x138,x139,x140) =>
       (Bj (x137,x138,x139,x140)).bind fun(x141,x142,x143,x144,x145) =>
       (It (x142,x143,x144,x145,7,x141,[],[],[],[],[],[],false,0,0,0,[],[],[],[],[],0)).bind fun(x146,x147,x148,x149,x150,x151,x152,x153,x154,x155,x156,x157,x158,x159,x160,x161,x162,x163,x164,x165,x166,x167) =>
        cond (!x148) (
        (A0 ([59],x146,x147,x148,x149)).bind fun(_,x225,x226,x227,x228) =>
         some ((Stm.mk x150 x151 x152 x153 x154 x155 x156 x157 x158 (Xpr.mk x159 ⟨x160,x161,x162⟩ x163 x164) x165 x166 x167),x225,x226,x227,x228)) (
        some ((Stm.mk x150 x151 x152 x153 x154 x155 x156 x157 x158 (Xpr.mk x159 ⟨x160,x161,x162⟩ x163 x164) x165 x166 x167),x146,x147,x148,x149))) (
      (A0 ([83,69,76,69,67,84],x133,x134,x135,x136)).bind fun(x168,x169,x170,x171,x172) =>
       cond (x168) (
       (Ui (x169,x170,x171,x172,0,[],[],[],[],[],[],[],false,0,0,0,[],[],[],[],[],0)).bind fun(x173,x174,x175,x176,x177,x178,x179,x180,x181,x182,x183,x184,x185,x186,x187,x188,x189,x190,x191,x192,x193,x194) =>
        cond (!x175) (
        (A0 ([59],x173,x174,x175,x176)).bind fun(_,x230,x231,x232,x233) =>
         some ((Stm.mk x177 x178 x179 x180 x181 x182 x183 x184 x185 (Xpr.mk x186 ⟨x187,x188,x189⟩ x190 x191) x192 x193 x194),x230,x231,x232,x233)) (
        some ((Stm.mk x177 x178 x179 x180 x181 x182 x183 x184 x185 (Xpr.mk x186 ⟨x187,x188,x189⟩ x190 x191) x192 x193 x194),x173,x174,x175,x176))) (
       (Co (x169,x170,x171,x172)).bind fun(x195,x196,x197,x198) =>
        cond (!x197) (
        (A0 ([59],x195,x196,x197,x198)).bind fun(_,x235,x236,x237,x238) =>
         some ((Stm.mk 0 [] [] [] [] [] [] [] false (Xpr.mk 0 ⟨0,0,[]⟩ [] []) [] [] 0),x235,x236,x237,x238)) (
        some ((Stm.mk 0 [] [] [] [] [] [] [] false (Xpr.mk 0 ⟨0,0,[]⟩ [] []) [] [] 0),x195,x196,x197,x198))))))))
theorem A1z(k:Nat):FM 85 Xm We (T5 k):=fRL (px:=Apd _ k) (n:=0) Tryz.func85 rfl (fun cx H=>by
 have h2:Lv cx (W9 (U8) k):=lv H (l1 H D8 Ae) Aa (w1 H Akq Ab)
 have h1:Lv cx (Ahd (U8) k):=lv H (l1 H Di (An (cR H h2 Tryz.func122 rfl (n:=0) (Aj)) Ae)) Aa Ab
 have hlpstmt_0:=lO H h1 (b:=lp Tryz.f121 0) (k:=k) (n:=0) (s:=Aeq) (step:=Ans) (fun _ _ _ (_,_,_,_,_,_,_,_,_,_,_,_,_,_,_,_,_,_,_,_,_,_,_)=>by kernel_rfl) Aj
 have h0:Lv cx (Apd (U8) k):=lv H (l1 H Di (l1 H Aum (l1 H D8 (l1 H F1 (l1 H Atj (l1 H Y1 (l1 H Ap2 (l1 H Ie (An (cR H h1 Tryz.func121 rfl (n:=1) ((Bf Aj hlpstmt_0))) Ae))))))))) Aa Ab
 exact⟨h0,Aj⟩) fun(_,_,_,_)=>by kernel_rfl
def Amc:Axy→Option U8:=fun x=>T5 ((x.1.length+3)) x
theorem A9p:FM 85 Xm We (Amc):=FnLn.fin (ι:=Nat) (sg:=Xm) (so:=We) 0 (F:=fun k=>T5 k) (fun k=>A1z k) fun x _ _ hx=>⟨(x.1.length+3),hx⟩
def Vp:Sig:=⟨1,[],[(0,.ptr 0 0)],[(0,.cells [.sl .tok false,.int .i64,.bool,.int .i64])],1,1,0,[],[]⟩
def Xt:Sig:=⟨1,[(0,.bool)],[],[(0,.cells [.sl .tok false,.int .i64,.bool,.int .i64])],1,1,0,[],[]⟩
abbrev Ay9:=List Tok×Int×Bool×Int
abbrev Azf:=Bool×List Tok×Int×Bool×Int
def A5q(R:Type):Px R:=pxO [(127,Ai Fo Fu Co)] [] [] []
def M4(x:Ay9):Option (Azf):=match x with
 |(l,n,b,p) =>
 cond (decide (0<(l.length:Int))) (
  (Co (l,n,b,p)).bind fun(x,x1,x2,x3) =>
  some (!x2,x,x1,x2,x3)) (
  some (!b,l,n,b,p))
theorem A2s:FM 86 Vp Xt (M4):=fRL (px:=A5q _) (n:=0) Tryz.func86 rfl (fun _ H=>⟨lv H (l1 H Ie Ae) Aa Ab,Aj⟩) fun(_,_,_,_)=>by kernel_rfl
def G2:Ay9→Option Azf:=fun x=>M4 x
theorem Ar7:FM 86 Vp Xt (G2):=A2s
end Go.Proofs.YthndhaolemgbdaaGreatDoor
namespace Go.Proofs.YthndhaolemgbdaaGreatDoor
open Go.Ax Go.RowKit
def Apg:List Nat:=[80,82]
abbrev Biq:TypeId:=80
theorem Ax7:(Tryz.prog.info? Biq).map (·.size)=some 2:=by kernel_rfl
theorem Ba6(T:TypeId) (h:T∈Apg):liesAt Tryz.prog Tryz.prog.depth T (2 / Tryz.prog.cellsOf T) 0 Biq 1=true:=by
 simp only [Apg,List.mem_cons,List.not_mem_nil,or_false] at h
 rcases h with rfl|rfl<;>kernel_rfl
set_option maxRecDepth 100000 in
theorem Bay(b:Nat) (w:World) (h0:w.cell? ⟨b,0,none⟩=some (.pointer (some ⟨b,0,none⟩))) :
  Calls Tryz.prog 152 #[.pointer (some ⟨b,0,none⟩)] w fun e w'=>e = .returned (.tuple #[])∧w' = w:=by
 obtain⟨j,hj,_⟩:=Option.map_eq_some_iff.1 Ax7
 have mixed:=follows
 have t1:=Tryz.underlying77
 have t2:=Tryz.underlying80
 have u1:=run_underlying (P:=Tryz.prog) t1
 have u2:=run_underlying (P:=Tryz.prog) t2
 go_enter Tryz.func152,Tryz.ntmps152
 go_wp2
 rw [Lib.run_neq_ptr_same w _ t1 hj]
 go_wp2
 go_end0
 exact⟨rfl,rfl⟩
set_option maxRecDepth 100000 in
theorem A7s(b:Nat) (T:TypeId) (hT:T∈Apg) (w:World) (h0:w.cell? ⟨b,0,none⟩=some (.pointer none)) (hsh:w.shape? b=some (T,2)) (hfz:w.frozen? ⟨b,0,none⟩=false) :
  Calls Tryz.prog 152 #[.pointer (some ⟨b,0,none⟩)] w fun e w'=>e = .returned (.tuple #[])∧w' = w.setCell ⟨b,0,none⟩ (.pointer (some ⟨b,0,none⟩)):=by
 obtain⟨j,hj,hjs⟩:=Option.map_eq_some_iff.1 Ax7
 have mixed:=follows
 have t1:=Tryz.underlying77
 have t2:=Tryz.underlying80
 have t3:=Tryz.underlying205
 have u1:=run_underlying (P:=Tryz.prog) t1
 have u2:=run_underlying (P:=Tryz.prog) t2
 have u3:=run_underlying (P:=Tryz.prog) t3
 go_enter Tryz.func152,Tryz.ntmps152
 go_wp2
 rw [Lib.run_to_unsafe w ⟨b,0,none⟩ t1 t3 hj (by rw [hjs];decide) hsh (Nat.zero_lt_succ 1)]
 simp only [Result.andThen]
 rw [Oper.upon_value]
 go_wp2
 rw [run_callFunc_extern Tryz.func172 (by kernel_rfl) (by kernel_rfl) (by kernel_rfl) (e:=Extern.AbiNoEscape.same) (by kernel_rfl)]
 rw [Lib.run_noEscape]
 simp only [Result.andThen]
 rw [Oper.upon_value]
 go_wp2
 rw [Lib.run_from_unsafe w ⟨b,0,none⟩ t3 t1 hj hsh (Ba6 T hT)]
 simp only [Result.andThen]
 rw [Oper.upon_value]
 go_wp2
 go_end0
 exact⟨rfl,rfl⟩
theorem A2c:Sx.Enters Tryz.prog 152:=Sx.enters_of Tryz.func152 rfl (by kernel_rfl)
theorem Bif:∀T,T∈Apg→∀(b:Nat) (w:World) (a v:Value),w.heap[b]? = some (.cells #[a,v] T (0,0))→(a = .pointer none∨a = .pointer (some ⟨b,0,none⟩))→Calls Tryz.prog 152 #[.pointer (some ⟨b,0,none⟩)] w fun e w'=>e = .returned (.tuple #[])∧(w' = w∨w' = w.setCell ⟨b,0,none⟩ (.pointer (some ⟨b,0,none⟩))):=by
 intro T hT b w a v hh ha
 have c0:w.cell? ⟨b,0,none⟩=some a:=by simp [World.cell?,hh]
 rcases ha with rfl|rfl
 ·refine(A7s b T hT w c0 (by simp [World.shape?,hh]) (by simp [World.frozen?,hh])).mono ?_
  rintro e w' ⟨rfl,rfl⟩
  exact⟨rfl,.inr rfl⟩
 ·refine(Bay b w c0).mono ?_
  rintro e w' ⟨rfl,rfl⟩
  exact⟨rfl,.inl rfl⟩
theorem At2(w:World) (g n k:Nat):Chg (fun b i=>b=g∧k≤i) w (w.freeze ⟨g,0,none⟩ n):=by
 unfold World.freeze
 split
 ·exact Chg.refl _ _
 ·have hne:∀(q:Nat),q≠g→∀F:Obj→Obj,(w.heap.modify g F)[q]? = w.heap[q]? := fun q hq F=>by
   rw [Array.getElem?_modify,if_neg (Ne.symm hq)]
  refine⟨rfl,rfl,rfl,by simp,fun q _ hq2=>hne q (fun e=>hq2 k ⟨e,Zn1 _⟩) _,fun b i v hv _ =>?_,fun b cs t f hb =>?_⟩
  ·by_cases hbg:b=g
   ·subst hbg
    unfold World.cell? at hv ⊢
    simp only [Array.getElem?_modify,if_true] at hv ⊢
    cases hh:w.heap[b]? with
    |none=>rw [hh] at hv;cases hv
    |some o =>
     rw [hh] at hv
     cases o with
     |cells c e f=>obtain⟨lo,hi⟩:=f;exact hv
     |_=>cases hv
   ·rw [World.cell?_of_block (a:=⟨b,i,none⟩) (hne b hbg _)]
    exact hv
  ·by_cases hbg:b=g
   ·subst hbg
    obtain⟨lo,hi⟩:=f
    exact⟨cs,_,by simp only [Array.getElem?_modify,if_true,hb];rfl,rfl⟩
   ·exact⟨cs,f,by rw [hne b hbg];exact hb,rfl⟩
theorem cellsByte:Tryz.prog.cellsOf 5=1:=by kernel_rfl
set_option maxHeartbeats 2000000 in
set_option maxRecDepth 100000 in
theorem Ar3(b g cap n:Nat) (w:World) (s:ByteArray) (hcap:cap≠0) (hc:w.cell? ⟨b,1,none⟩=some (.slice (some ⟨g,0,none⟩) n cap)) (hUS:(Builtin.unsafeString_ #[148,3] 9 #[.pointer (some ⟨g,0,none⟩),.int .i64 n]).run Tryz.prog w.drew = .ok (.string s) (w.drew.freeze ⟨g,0,none⟩ n)) :
  Calls Tryz.prog 41 #[.pointer (some ⟨b,0,none⟩)] w fun e w'=>e = .returned (.string s)∧w' = w.drew.freeze ⟨g,0,none⟩ n:=by
 have c1:w.drew.cell? ⟨b,1,none⟩=some (.slice (some ⟨g,0,none⟩) n cap):=hc
 have hSD:(Builtin.unsafeSliceData_ #[78] 148 #[.slice (some ⟨g,0,none⟩) n cap]).run Tryz.prog w.drew = .ok (.pointer (some ⟨g,0,none⟩)) w.drew:=Lib.run_unsafeSliceData_row _ _ _ _ _ _ hcap
 clear hcap
 have mixed:=follows
 have t1:=Tryz.underlying77
 have t2:=Tryz.underlying80
 have t3:=Tryz.underlying78
 have t4:=Tryz.underlying148
 have t5:=Tryz.underlying3
 have t6:=Tryz.underlying9
 have u1:=run_underlying (P:=Tryz.prog) t1
 have u2:=run_underlying (P:=Tryz.prog) t2
 have u3:=run_underlying (P:=Tryz.prog) t3
 have u4:=run_underlying (P:=Tryz.prog) t4
 have u5:=run_underlying (P:=Tryz.prog) t5
 have u6:=run_underlying (P:=Tryz.prog) t6
 go_enter Tryz.func41,Tryz.ntmps41
 go_wp2
 go_region_o
 all_goals (go_wp2;go_ret;exact⟨rfl,rfl⟩)
theorem Aog(W:World) (q:Option Addr):(Builtin.unsafeString_ #[148,3] 9 #[.pointer q,.int .i64 0]).run Tryz.prog W = .ok (.string .empty) W:=Lib.run_unsafeString_none W _ _ _ q
set_option maxHeartbeats 2000000 in
set_option maxRecDepth 100000 in
theorem Ba2(b:Nat) (w:World) (hc:w.cell? ⟨b,1,none⟩=some (.slice none 0 0)) :
  Calls Tryz.prog 41 #[.pointer (some ⟨b,0,none⟩)] w fun e w'=>e = .returned (.string ⟨#[]⟩)∧w' = w.drew:=by
 have hUS:=Aog
 have c1:w.drew.cell? ⟨b,1,none⟩=some (.slice none 0 0):=hc
 have hSD:(Builtin.unsafeSliceData_ #[78] 148 #[.slice none 0 0]).run Tryz.prog w.drew = .ok (.pointer none) w.drew:=rfl
 have mixed:=follows
 have t1:=Tryz.underlying77
 have t2:=Tryz.underlying80
 have t3:=Tryz.underlying78
 have t4:=Tryz.underlying148
 have t5:=Tryz.underlying3
 have t6:=Tryz.underlying9
 have u1:=run_underlying (P:=Tryz.prog) t1
 have u2:=run_underlying (P:=Tryz.prog) t2
 have u3:=run_underlying (P:=Tryz.prog) t3
 have u4:=run_underlying (P:=Tryz.prog) t4
 have u5:=run_underlying (P:=Tryz.prog) t5
 have u6:=run_underlying (P:=Tryz.prog) t6
 go_enter Tryz.func41,Tryz.ntmps41
 go_wp2
 go_region_o
 all_goals (go_wp2;go_ret;exact⟨rfl,rfl⟩)
set_option maxHeartbeats 2000000 in
set_option maxRecDepth 100000 in
theorem Ato(b g:Nat) (w:World) (cur:Array Value) (hlt:b<w.heap.size) (hc:w.cell? ⟨b,1,none⟩=some (.slice (some ⟨g,0,none⟩) 0 0)) (hg:w.heap[g]? = some (.cells cur 5 (0,0))) :
  Calls Tryz.prog 41 #[.pointer (some ⟨b,0,none⟩)] w fun e w'=>e = .returned (.string ⟨#[]⟩)∧Chg Dx w w':=by
 have hUS:=Aog
 have c1:w.drew.cell? ⟨b,1,none⟩=some (.slice (some ⟨g,0,none⟩) 0 0):=hc
 have t4:=Tryz.underlying148
 have hSD:(Builtin.unsafeSliceData_ #[78] 148 #[.slice (some ⟨g,0,none⟩) 0 0]).run Tryz.prog w.drew = .ok (.pointer (some ⟨w.drew.heap.size,0,none⟩)) (w.drew.alloc (.view ⟨g,0,none⟩ 5)) :=
  Lib.run_unsafeSliceData_zero w.drew _ _ 5 t4 ⟨g,0,none⟩ 0 (5,cur.size) (by have hg':w.drew.heap[g]? = some (.cells cur 5 (0,0)):=hg;simp [World.shape?,hg'])
 have c2:(w.drew.alloc (.view ⟨g,0,none⟩ 5)).cell? ⟨b,1,none⟩=some (.slice (some ⟨g,0,none⟩) 0 0):=by
  rw [World.cell?_of_block (a:=⟨b,1,none⟩) (Below.heap_alloc w.drew _ _ hlt)]
  exact c1
 have c3:(w.alloc (.view ⟨g,0,none⟩ 5)).drew.cell? ⟨b,1,none⟩=some (.slice (some ⟨g,0,none⟩) 0 0):=c2
 have c0:w.cell? ⟨b,1,none⟩=some (.slice (some ⟨g,0,none⟩) 0 0):=c1
 have mixed:=follows
 have t1:=Tryz.underlying77
 have t2:=Tryz.underlying80
 have t3:=Tryz.underlying78
 have t5:=Tryz.underlying3
 have t6:=Tryz.underlying9
 have u1:=run_underlying (P:=Tryz.prog) t1
 have u2:=run_underlying (P:=Tryz.prog) t2
 have u3:=run_underlying (P:=Tryz.prog) t3
 have u4:=run_underlying (P:=Tryz.prog) t4
 have u5:=run_underlying (P:=Tryz.prog) t5
 have u6:=run_underlying (P:=Tryz.prog) t6
 go_enter Tryz.func41,Tryz.ntmps41
 go_wp2
 go_region_o
 all_goals (go_wp2;go_ret;exact⟨rfl,(Chg.drew Dx w).trans (Chg.alloc Dx w.drew _)⟩)
theorem Bbt{cx:Cx}{m:Mp}{a:Act}{rs:List Act}{st:St}{w w':World}(hr:Rel cx m a rs (fs st) w) (hch:Chg (Cu m (fs st)) w w') {d:D}{v:Value}(hd:Rep (vx cx m (fs { st with n:=1,env:=[(0,d)],bl:=[],tk:=[] }) w') d v):Rel cx m ⟨#[v],[]⟩ rs (fs { st with n:=1,env:=[(0,d)],bl:=[],tk:=[] }) w':=by
 have hnf:∀b i,¬Cu m (fs { st with n:=1,env:=[(0,d)],bl:=[],tk:=[] }) b i:=by
  rintro b i (⟨q,hq,_⟩|⟨t,o,h1,_,_⟩)
  ·exact hq rfl
  ·simp [fs] at h1
 have nx:Nx (vx cx m (fs st) w) (vx cx m (fs { st with n:=1,env:=[(0,d)],bl:=[],tk:=[] }) w'):=by
  refine⟨hch.mono fun b i hi =>.inr hi,?_,rfl,fun _ _=>rfl,Zn1 _,Zn1 _,fun t _ ha =>?_⟩
  ·rintro b i (h|h)
   ·exact .inl (.inl h)
   ·exact absurd h (hnf b i)
  ·simp [vx,fs] at ha
 have h1:Rel cx m a rs { fs st with bl:=fun _=>none,al:=fun _=>False } w':=by
  refine hr.step (s':={ fs st with bl:=fun _=>none,al:=fun _=>False }) rfl rfl rfl rfl rfl hch ?_ (fun b k hk=>by cases hk) (fun t ht=>ht.elim) (fun b b' h=>absurd rfl h) (fun t t' g o o' h=>h.elim) (fun b t g o h=>absurd rfl h) (fun b i hi =>?_)
  ·refine⟨hch.mono fun b i hi =>.inr hi,?_,rfl,fun _ _=>rfl,Zn1 _,Zn1 _,fun t _ ha=>ha.elim⟩
   rintro b i (h|⟨q,hq,_⟩|⟨t,o,h1,_,_⟩)
   ·exact .inl (.inl h)
   ·exact absurd rfl hq
   ·exact h1.elim
  ·rcases hi with ⟨q,hq,_⟩|⟨t,o,h1,_,_⟩
   ·exact absurd rfl hq
   ·exact h1.elim
 have hal:(fs { st with n:=1,env:=[(0,d)],bl:=[],tk:=[] }).al=fun _=>False:=by
  funext t;simp [fs]
 have e:fs { st with n:=1,env:=[(0,d)],bl:=[],tk:=[] }={ (fs { st with n:=1,env:=[(0,d)],bl:=[],tk:=[] }) with al:=fun _=>False }:=by
  rw [←hal]
 rw [e] at hd ⊢
 refine⟨h1.chg,⟨rfl,rfl,fun k d' hk =>?_⟩,h1.frs,h1.lb,h1.lt,h1.blks,h1.als,h1.inj,h1.injt,h1.injbt,h1.own,h1.away,h1.glb⟩
 have hk:get [(0,d)] k=some d':=hk
 rw [B1] at hk
 by_cases h0:k=0
 ·subst h0
  simp only [if_true,Za1] at hk
  subst hk
  exact⟨v,rfl,hd⟩
 ·rw [if_neg h0] at hk
  cases hk
abbrev wT:TypeId:=82
def bstr_si:Sig:=⟨1,[],[(0,.ptr 0 0)],[(0,.bld wT)],1,1,0,[],[]⟩
def Adp:Sig:=⟨1,[(0,.str)],[],[],1,1,0,[],[]⟩
abbrev Bel:=List UInt8
abbrev Be3:=Str
def F4:Bel→Option Be3:=fun x=>some x
theorem Aw2:FnLn Tryz.prog elT glT 41 bstr_si Adp F4:=by
 refine⟨Sx.enters_of Tryz.func41 rfl (by kernel_rfl),fun(l:List UInt8) r hx _ cx m vs af w h1 h2 h3 hr =>?_⟩
 obtain rfl:l=r:=Option.some.inj hx
 obtain⟨_,hb⟩:=hr.blks 0 (.bld wT (.sl .byte l (.id 0))) rfl
 obtain⟨_,a,v,hh,ha,hrep⟩:=hb
 obtain⟨u,hu,hup⟩:=hr.env.get 0 (.ptr 0 0) rfl
 have hsz:vs.toArray.size=1:=hr.env.size
 have hvs:vs=[u]:=by
  match vs,hsz,hu with
  |[y],_,hu=>simpa using hu
 subst hvs
 simp only [Rep] at hup hrep
 obtain⟨_,rfl⟩:=hup
 obtain⟨hrf,_,htk⟩:=hrep
 have htk:=htk (show(fs (Dd bstr_si [Ek bstr_si] l)).al 0 by simp [fs,Dd,bstr_si,Sig.sgs,Aia,Bd,Bs.sgs,Aib])
 have hh:w.heap[m.bl 0]? = some (.cells #[a,v] wT (0,0)):=hh
 have hblt:m.bl 0<w.heap.size:=(Zh2.1 hh).1
 have hlen:l.length≤maxLen:=hrf.here.len
 have c1:w.cell? ⟨m.bl 0,1,none⟩=some v:=by simp [World.cell?,hh]
 have done:(Calls Tryz.prog 41 #[.pointer (some ⟨m.bl 0,0,none⟩)] w fun e w'=>e = .returned (.string ⟨l.toArray⟩)∧Chg (Cu m (fs (Dd bstr_si [Ek bstr_si] l))) w w')→Calls Tryz.prog 41 ([.pointer (some ⟨m.bl 0,0,none⟩)]:List Value).toArray w fun en w'=>∃us st' m',en = .returned (Sx.resv us)∧(∀k,(bstr_si.bl.map (·.1)).contains k=true→m'.bl k=m.bl k)∧Jn Adp st' = some l∧Rel cx m' ⟨us.toArray,[]⟩ [af] (fs st') w':=fun hc=>by
  refine hc.mono ?_
  rintro e w' ⟨rfl,hch⟩
  exact⟨[.string ⟨l.toArray⟩],{ Dd bstr_si [Ek bstr_si] l with n:=1,env:=[(0,.str l)],bl:=[],tk:=[] },m,rfl,fun _ _=>rfl,rfl,Bbt hr hch (by simp only [Rep];exact⟨trivial,hlen⟩)⟩
 refine done ?_
 rcases htk with ⟨rfl,_,rfl⟩|⟨g,cap,cur,rfl,ht,hg,hcs,hle,hcm⟩
 ·refine(Ba2 (m.bl 0) w c1).mono ?_
  rintro e w' ⟨rfl,rfl⟩
  exact⟨rfl,Chg.drew _ w⟩
 ·have ht:m.tk 0=some (g,l.length*1):=ht
  have hel:(vx cx m (fs (Dd bstr_si [Ek bstr_si] l)) w).el .byte=5:=by
   show cx.el .byte=_
   rw [h2];rfl
  rw [hel] at hg
  have hg:w.heap[g]? = some (.cells cur 5 (0,0)):=hg
  have hcs:cur.size=cap*1:=hcs
  by_cases hl0:l=[]
  ·subst hl0
   by_cases hc0:cap=0
   ·subst hc0
    refine(Ato (m.bl 0) g w cur hblt c1 hg).mono ?_
    rintro e w' ⟨rfl,hch⟩
    exact⟨rfl,hch.mono fun _ _ h=>h.elim⟩
   ·refine(Ar3 (m.bl 0) g cap 0 w .empty hc0 c1 (Aog _ _)).mono ?_
    rintro e w' ⟨rfl,rfl⟩
    exact⟨rfl,Chg.drew _ w⟩
  ·have hcells:∀(j:Nat) x,l[j]? = some x→w.cell? ⟨g,j,none⟩=some (.int .u8 x.toNat):=fun j x hj=>by
    obtain⟨a',cap',e1,h|⟨b0,o0,e2,_,h4⟩⟩:=hrf.here.slice
    ·exact absurd h hl0
    ·simp only [Value.slice.injEq] at e1
     rw [e2] at e1
     simp only [Za1,Addr.mk.injEq] at e1
     obtain⟨⟨rfl,rfl,_⟩,_⟩:=e1
     obtain⟨u,hu,hf⟩:=h4 j x hj 0 _ rfl
     have e3 : 0+j*csz .byte+0=j:=by simp [csz]
     rw [e3] at hu
     cases hf
     exact hu
   have hn0:l.length≠0:=fun e=>hl0 (List.eq_nil_of_length_eq_zero e)
   have hUS:=Lib.run_unsafeString_row w.drew 148 3 9 5 Tryz.underlying148 cellsByte g cur.size (by have hg':w.drew.heap[g]? = some (.cells cur 5 (0,0)):=hg;simp [World.shape?,hg']) l hl0 (by omega) (by unfold maxLen at hcm;omega) (fun j x hj=>by
    have e:(⟨g,0,none⟩:Addr).add j=⟨g,j,none⟩:=by
     unfold Addr.add
     by_cases hj0:j=0
     ·subst hj0;simp
     ·simp [hj0]
    rw [e]
    exact hcells j x hj)
   refine(Ar3 (m.bl 0) g cap l.length w ⟨l.toArray⟩ (by omega) c1 hUS).mono ?_
   rintro e w' ⟨rfl,rfl⟩
   refine⟨rfl,(Chg.drew _ w).trans ((At2 w.drew g l.length (l.length*1)).mono fun b i hi =>?_)⟩
   obtain⟨rfl,hi⟩:=hi
   exact .inr ⟨0,l.length*1,by simp [fs,Dd,bstr_si,Sig.sgs,Aia,Bd,Bs.sgs,Aib],ht,hi⟩
def Yu:Sig:=⟨2,[(1,.str)],[(0,.ptr 0 0)],[(0,.bld 82)],1,1,0,[],[]⟩
def Yo:Sig:=⟨2,[],[],[(0,.bld 82)],1,1,0,[],[]⟩
abbrev Apt:=Str×List UInt8
abbrev Aph:=List UInt8
def A1m(R:Type):Px R:=pxO [(152,Avp Apg)] [] [] []
def Aat(x:Apt):Option (Aph):=match x with
 |(s,out) =>
 chk (decide (out.length+s.length≤Av)) (
  some (out++s))
theorem Atc:FM 104 Yu Yo (Aat):=fRL (px:=A1m _) (n:=0) Tryz.func104 rfl (fun _ H=>⟨lv H (An (Bhl (by rw [H.p];exact A2c) (by rw [H.p];exact Bif)) Ae) Aa Ab,Aj⟩) fun(_,_)=>by kernel_rfl
def Anz(s out:Str):Option Str:=if out.length+s.length≤Av then some (out++s) else none
def Pe:Apt→Option Aph:=fun x=>Anz x.1 x.2
theorem A09:FM 104 Yu Yo Pe :=.fin0 Atc fun(s,out) r hb hx=>by
 simp only [Pe,Anz] at hx
 split at hx
 ·rename_i h
  simp only [Aat]
  rw [Ze1 h]
  exact hx
 ·cases hx
end Go.Proofs.YthndhaolemgbdaaGreatDoor
namespace Go.Proofs
open Go.Shelf
def Tryz.laysRJ_ren:Go.Shelf.Ren:=⟨fun|156=>105|165=>153|166=>104|169=>41|240=>152|241=>173|276=>172|277=>190|n=>n,fun|0=>0|3=>3|4=>4|5=>5|9=>9|20=>20|31=>34|37=>78|70=>77|72=>80|75=>153|76=>154|80=>84|127=>148|164=>205|n=>n,fun n=>n⟩
theorem Tryz.laysRJ:Go.Proofs.Lays.n156 Tryz.prog Tryz.laysRJ_ren:={
 mixed:=by kernel_rfl
 f156:=Tryz.func105.trans (congrArg some (by kernel_rfl))
 f165:=Tryz.func153.trans (congrArg some (by kernel_rfl))
 f166:=Tryz.func104.trans (congrArg some (by kernel_rfl))
 f169:=Tryz.func41.trans (congrArg some (by kernel_rfl))
 f240:=Tryz.func152.trans (congrArg some (by kernel_rfl))
 f241:=Tryz.func173.trans (congrArg some (by kernel_rfl))
 f276:=Tryz.func172.trans (congrArg some (by kernel_rfl))
 f277:=Tryz.func190.trans (congrArg some (by kernel_rfl))
 t0:=Tryz.underlying0
 a0:=Tryz.isAgg0
 z0:=Tryz.sizeOf0
 v0:=Tryz.zeroValue0
 t3:=Tryz.underlying3
 a3:=Tryz.isAgg3
 z3:=Tryz.sizeOf3
 v3:=Tryz.zeroValue3
 t4:=Tryz.underlying4
 a4:=Tryz.isAgg4
 z4:=Tryz.sizeOf4
 v4:=Tryz.zeroValue4
 t9:=Tryz.underlying9
 a9:=Tryz.isAgg9
 z9:=Tryz.sizeOf9
 v9:=Tryz.zeroValue9
 t20:=Tryz.underlying20
 a20:=Tryz.isAgg20
 z20:=Tryz.sizeOf20
 v20:=Tryz.zeroValue20
 t31:=Tryz.underlying34
 a31:=Tryz.isAgg34
 z31:=Tryz.sizeOf34
 v31:=Tryz.zeroValue34
 t37:=Tryz.underlying78
 a37:=Tryz.isAgg78
 z37:=Tryz.sizeOf78
 v37:=Tryz.zeroValue78
 t70:=Tryz.underlying77
 a70:=Tryz.isAgg77
 z70:=Tryz.sizeOf77
 v70:=Tryz.zeroValue77
 t72:=Tryz.underlying80
 a72:=Tryz.isAgg80
 z72:=Tryz.sizeOf80
 v72:=Tryz.zeroValue80
 t75:=Tryz.underlying153
 a75:=Tryz.isAgg153
 z75:=Tryz.sizeOf153
 v75:=Tryz.zeroValue153
 t76:=Tryz.underlying154
 a76:=Tryz.isAgg154
 z76:=Tryz.sizeOf154
 v76:=Tryz.zeroValue154
 t127:=Tryz.underlying148
 a127:=Tryz.isAgg148
 z127:=Tryz.sizeOf148
 v127:=Tryz.zeroValue148
 t164:=Tryz.underlying205
 a164:=Tryz.isAgg205
 z164:=Tryz.sizeOf205
 v164:=Tryz.zeroValue205 }
theorem Tryz.extraRJ:Builder.Extra Tryz.prog Tryz.laysRJ_ren:={
 sizeBuilder:=by kernel_rfl
 liesBuilder:=by kernel_rfl
 t5:=Tryz.underlying5
 a5:=Tryz.isAgg5
 z5:=Tryz.sizeOf5
 v5:=Tryz.zeroValue5
 infoByte:=by kernel_rfl
 cellsByte:=by kernel_rfl
 sizeByte:=by kernel_rfl
 neB5:=by decide }
end Go.Proofs
namespace Go.Proofs.YthndhaolemgbdaaGreatDoor
open Go.Ax Go.RowKit
def Awp(l:List Str) (sep:Str):Option Str:=if l.length≤1000000∧(Lib.join l sep).length≤1000000000 then some (Lib.join l sep) else none
def Amz:FT [.sl .str false,.str] [.str]:=fun x=>Awp x.1 x.2
theorem A8e:FO 105 [.sl .str false,.str] [.str] Amz:=by
 refine⟨Sx.enters_of Tryz.func105 rfl (by kernel_rfl),fun x r hx w M vs hM hgl hr =>?_⟩
 obtain⟨l,sep⟩:=x
 simp only [Amz,Awp] at hx
 split at hx
 case isFalse=>cases hx
 rename_i hc
 obtain⟨h1,h2⟩:=hc
 obtain rfl:=Option.some.inj hx
 simp only [B2,Cm,Reps,Rep] at hr
 obtain⟨u,us,rfl,⟨hrf,_⟩,u2,us2,rfl,⟨rfl,_⟩,rfl⟩:=hr
 have key:Calls Tryz.prog 105 #[u,.string ⟨sep.toArray⟩] w fun e w'=>e = .returned (.string ⟨(Lib.join l sep).toArray⟩)∧Below w.heap.size w w':=by
  obtain⟨a,cap,rfl,h⟩:=hrf.here.slice
  rcases h with rfl|⟨b,o,rfl,⟨hle,hcm⟩,hat⟩
  ·have c:=Any.strings_Join_none Tryz.laysRJ Tryz.extraRJ a cap ⟨sep.toArray⟩ w
   refine Calls.mono (show Calls Tryz.prog 105 _ w _ from c) ?_
   rintro e w' ⟨rfl,rfl⟩
   exact⟨rfl,Below.refl _ _⟩
  ·by_cases hl:l=[]
   ·subst hl
    have c:=Any.strings_Join_none Tryz.laysRJ Tryz.extraRJ (some ⟨b,o,none⟩) cap ⟨sep.toArray⟩ w
    refine Calls.mono (show Calls Tryz.prog 105 _ w _ from c) ?_
    rintro e w' ⟨rfl,rfl⟩
    exact⟨rfl,Below.refl _ _⟩
   ·have hcell:∀(j:Nat) x,l[j]? = some x→w.cell? ⟨b,o+j,none⟩=some (.string ⟨x.toArray⟩):=fun j x hj=>by
     obtain⟨u,hu,hf⟩:=hat j x hj 0 _ rfl
     have e3:o+j*csz .str+0=o+j:=by simp [csz]
     rw [e3] at hu
     cases hf
     exact hu
    have hb:b<w.heap.size:=by
     cases l with
     |nil=>exact absurd rfl hl
     |cons x l=>exact Acy (hcell 0 x rfl)
    have em:(l.map fun s=>(⟨s.toArray⟩:ByteArray)).map (·.data.toList)=l:=by
     rw [List.map_map]
     simp [Function.comp_def]
    have es:(⟨sep.toArray⟩:ByteArray).data.toList=sep:=by simp
    have c:=Any.strings_Join Tryz.laysRJ Tryz.extraRJ b o cap (l.map fun s=>⟨s.toArray⟩) ⟨sep.toArray⟩ w (fun j x hj=>by
     rw [List.getElem?_map] at hj
     obtain⟨y,hy,rfl⟩:=Option.map_eq_some_iff.1 hj
     exact hcell j y hy) hb (by rw [List.length_map];omega) (by rw [List.length_map];exact hle) (by rw [em,es];omega)
    rw [em,es,List.length_map] at c
    exact c
 refine key.mono ?_
 rintro en w' ⟨rfl,hbel⟩
 refine⟨_,⟨fun _=>0,fun _=>Option.none⟩,rfl,Chg.of_below hbel,fun p g o hp=>(by simp [Bd] at hp),fun p q g o o2 hp=>(by simp [Bd] at hp),?_⟩
 simp only [I9,B2,Cm,Rep]
 exact⟨trivial,by simp only [maxLen];omega⟩
end Go.Proofs.YthndhaolemgbdaaGreatDoor
namespace Go.Proofs.YthndhaolemgbdaaGreatDoor
open Go.Ax
def app(out t:Str):Option Str:=if out.length+t.length≤100000000000 then some (out++t) else none
theorem F8(out a b:Str):((app out a).bind fun x=>app x b)=app out (a++b):=by
 simp only [app,Zh1]
 by_cases h1:out.length+a.length≤100000000000
 ·rw [if_pos h1,Zc1]
  simp only [Zh1,Zj1,Nat.add_assoc]
 ·rw [if_neg h1,if_neg (by omega)]
  rfl
theorem Cd{R:Type}(out a b:Str) (c:Str→Option R):((app out a).bind fun x=>(app x b).bind c)=(app out (a++b)).bind c:=by
 rw [←F8,Option.bind_assoc]
theorem F2{o:Option Str}:(o.bind fun x=>some x)=o:=by cases o<;>rfl
theorem Adh{out:Str}(h:out.length≤100000000000):app out []=some out:=by
 simp only [app,Zi1,Nat.add_zero,List.append_nil]
 rw [if_pos h]
theorem Amb{out t r:Str}(h:app out t=some r):r.length≤100000000000∧r=out++t:=by
 simp only [app] at h
 split at h
 ·rename_i h1
  obtain rfl:=Option.some.inj h
  exact⟨by rw [Zh1];exact h1,rfl⟩
 ·cases h
theorem Bcf{out t r:Str}(h:app out t=some r):out.length+t.length≤100000000000:=by
 simp only [app] at h
 split at h
 ·rename_i h1;exact h1
 ·cases h
def Abc{α:Type}(f : α→Str):List α→Str
 |[]=>[]
 |x::l=>[44,32]++f x++Abc f l
def Gl{α:Type}(f : α→Str):List α→Str
 |[]=>[]
 |x::l=>f x++Abc f l
theorem H7{V R α:Type}{step:(V→Option R)→V→Option R}(l:List α) (f : α→Str) (st:Nat→Str→V) (c:Str→Option R)
  (hs:∀i (hi:i<l.length) (acc:Str) rec,step rec (st i acc)=(app acc ((if i=0 then [] else [44,32])++f l[i])).bind fun x=>rec (st (i+1) x))
  (he:∀acc rec,step rec (st l.length acc)=c acc) (k:Nat) (hk:l.length<k) (out:Str) (ho:out.length≤100000000000):Al step k (st 0 out)=(app out (Gl f l)).bind c:=by
 refine(O7 l.length st (fun _ acc=>acc.length≤100000000000) (fun i acc=>(app acc (if i=0 then Gl f (l.drop i) else Abc f (l.drop i))).bind c) (fun i hi acc ha rec hr =>?_) (fun acc ha rec =>?_) k 0 out (Nat.zero_le _) (by omega) ho).trans (by rw [if_pos rfl,Zq1])
 ·rw [hs i hi acc rec]
  have hd:(if i=0 then Gl f (l.drop i) else Abc f (l.drop i))=((if i=0 then [] else [44,32])++f l[i])++Abc f (l.drop (i+1)):=by
   rw [Am hi]
   split<;>simp [Gl,Abc]
  rw [hd,←Cd acc ((if i=0 then [] else [44,32])++f l[i]) (Abc f (l.drop (i+1))) c]
  cases hx:app acc ((if i=0 then [] else [44,32])++f l[i]) with
  |none=>rfl
  |some x =>
   rw [Zc1,Zc1,hr x (Amb hx).1,if_neg (by omega)]
 ·rw [he]
  have:(if l.length=0 then Gl f (l.drop l.length) else Abc f (l.drop l.length))=[]:=by
   rw [Zc2]
   split<;>rfl
  rw [this,Adh ha]
  rfl
def Bq:Sig:=⟨2,[(1,.sl .str false)],[(0,.ptr 0 0)],[(0,.bld 82)],1,1,0,[],[]⟩
def Br:Sig:=⟨0,[],[],[(0,.bld 82)],1,1,0,[],[]⟩
abbrev Apr:=List Str×List UInt8
abbrev Ad4:=List UInt8
def Aak:Sig:=⟨18,[(6,.sl .str false),(7,.int .i64),(8,.int .i64)],[(0,.ptr 0 0)],[(0,.bld 82)],1,1,0,[],[]⟩
abbrev Ml:=List Str×Int×Int×List UInt8
def Ld{R:Type}(rec:Ml→Option R) (kx:Ex→Ml→Option R) (v:Ml):Option R:=match v with
 |(v,v1,v2,w) =>
 cond (decide (v2<v1)) (
  chk (inb v2 v.length) (
  (Pe ((at' .str v v2),w)).bind fun x =>
   rec (v,v1,(wr .i64 (v2+1)),x))) (
  kx (.exit 0) (v,v1,v2,w))
def Als(R:Type) (k:Nat):Px R:=pxO [(104,Ai Yu Yo Pe)] [] [(1,Ao k Aak (Ld))] []
def Ar0(k:Nat) (x:Apr):Option (Ad4):=match x with
 |(l,out) =>
 Al (fun rec=>Ld rec (fun e vz=>match vz with|(_,_,_,v6)=>match e with
  |.exit 0 =>
  some v6
  |_=>none)) k (l,(l.length:Int),0,out)
theorem Av5(k:Nat):FM 49 Bq Br (Ar0 k):=fRL (px:=Als _ k) (n:=1) Tryz.func49 rfl (fun cx H=>by
 have h0:Lv cx (Als (Ad4) k):=lv H (l1 H A09 Ae) Aa Ab
 have hlwwords_0:=lO H h0 (b:=lp Tryz.f49 0) (k:=k) (n:=0) (s:=Aak) (step:=Ld) (fun _ _ _ (_,_,_,_)=>by kernel_rfl) Aj
 exact⟨h0,(Bf Aj hlwwords_0)⟩) fun(_,_)=>by kernel_rfl
def Bet(l:List Str) (out:Str):Option Str:=app out l.flatten
def Ak:Apr→Option Ad4:=fun x=>Bet x.1 x.2
theorem Apl{R:Type}{kx:Ex→Ml→Option R}{l:List Str}{c:Str→Option R}(hn:ln l.length) (h2:∀i out,kx (.exit 0) (l,(l.length:Int),i,out)=c out) (k:Nat) (hk:l.length<k) (out:Str) (ho:out.length+l.flatten.length≤100000000000) :
  Al (fun rec=>Ld rec kx) k (l,(l.length:Int),0,out)=c (out++l.flatten):=by
 refine(O7 l.length (fun i out=>(l,(l.length:Int),(i:Int),out)) (fun i out=>List.length out+((l.drop i).flatten).length≤100000000000) (fun i out=>c (out++(l.drop i).flatten)) (fun i hi out ha rec hr =>?_) (fun out _ rec =>?_) k 0 out (Nat.zero_le _) (by omega) (by rw [Zq1];exact ho)).trans (by rw [Zq1])
 ·rw [Am hi] at ha ⊢
  simp only [Zz1,Zh1] at ha
  have hw:Anz l[i] out=some (out++l[i]):=by
   simp only [Anz]
   rw [if_pos (by simp only [Av];omega)]
  have hr:=hr (out++l[i]) (by rw [Zh1];omega)
  simp only [Ld,Fw hi,Af,A4 hi,chk,A9 (c :=.str) hi,Pe,hw,Zc1,Az hi hn,hr,Zz1,Zj1]
 ·simp only [Ld,Fx,Ah,h2]
  rw [Zk1 (Zn1 _)]
  simp
theorem B3:FM 49 Bq Br Ak :=.fin 0 Av5 fun(l,out) r hb hx=>⟨l.length+1,by
 have hx:app out l.flatten=some r:=hx
 have hlen:=Bcf hx
 rw [(Amb hx).2]
 exact Apl (l:=l) (c:=some) hb.1.1 (fun _ _=>rfl) (l.length+1) (by omega) out hlen⟩
theorem ww(l:List Str) (out:Str):Ak (l,out)=app out l.flatten:=rfl
def sgn(k:Int):Str:=Mv signsL k
mutual
def etx:Xpr→Str
 |.mk k v n l=>if k=1 then Dm v else if k=2 then n else etxs k l
def etxs:Int→List Xpr→Str
 |_,[]=>[]
 |k,x::l=>if k=3 then [40]++[78,79,84,32]++etx x++[41] else if k=15 then [40]++[45]++etx x++[41] else if k=16 then [40]++etx x++[32,73,83,32,78,85,76,76]++[41] else [40]++etx x++([32]++(sgn k++[32]))++etx1 l++[41]
def etx1:List Xpr→Str
 |[]=>[]
 |y::_=>etx y
end
mutual
def okx:Xpr→Bool
 |.mk k _ _ l=>if k=1∨k=2 then true else okxs k l
def okxs:Int→List Xpr→Bool
 |_,[]=>false
 |k,x::l=>okx x&&(if k=3∨k=15∨k=16 then true else okx1 l)
def okx1:List Xpr→Bool
 |[]=>false
 |y::_=>okx y
end
theorem Bgl(e:Xpr):etx e=if e.kind=1 then Dm e.v else if e.kind=2 then e.name else etxs e.kind e.l:=by
 cases e;simp only [etx];rfl
theorem Bf9(e:Xpr):okx e=if e.kind=1∨e.kind=2 then true else okxs e.kind e.l:=by
 cases e;simp only [okx];rfl
def Dz:Sig:=⟨2,[(1,.sv .expr)],[(0,.ptr 0 0)],[(0,.bld 82)],1,1,0,[],[]⟩
def Ec:Sig:=⟨0,[],[],[(0,.bld 82)],1,1,0,[],[]⟩
abbrev Jm:=Xpr×List UInt8
abbrev Js:=List UInt8
def A93(R:Type) (rf:Jm→Option Js):Px R:=pxO [(98,cA X9),(49,Ai Bq Br Ak),(40,Ai Dz Ec rf)] [] [] []
def Ir(rf:Jm→Option Js) (x:Jm):Option (Js):=match x with
 |(e,out) =>
 cond (decide (e.kind=1)) (
  (Ak ([(Dm e.v)],out)).bind fun x =>
  some x) (
  cond (decide (e.kind=2)) (
  (Ak ([e.name],out)).bind fun x1 =>
   some x1) (
  (Ak ([[40]],out)).bind fun x2 =>
   cond (decide (e.kind=3)) (
   (Ak ([[78,79,84,32]],x2)).bind fun x3 =>
    chk (inb 0 e.l.length) (
    (rf ((at' .expr e.l 0),x3)).bind fun x4 =>
     (Ak ([[41]],x4)).bind fun x13 =>
     some x13)) (
   cond (decide (e.kind=15)) (
    (Ak ([[45]],x2)).bind fun x5 =>
    chk (inb 0 e.l.length) (
     (rf ((at' .expr e.l 0),x5)).bind fun x6 =>
     (Ak ([[41]],x6)).bind fun x14 =>
      some x14)) (
    cond (decide (e.kind=16)) (
    chk (inb 0 e.l.length) (
     (rf ((at' .expr e.l 0),x2)).bind fun x7 =>
     (Ak ([[32,73,83,32,78,85,76,76]],x7)).bind fun x8 =>
      (Ak ([[41]],x8)).bind fun x15 =>
      some x15)) (
    chk (inb 0 e.l.length) (
     (rf ((at' .expr e.l 0),x2)).bind fun x9 =>
     (Ak ([[32],(Mv signsL e.kind),[32]],x9)).bind fun x10 =>
      chk (inb 1 e.l.length) (
      (rf ((at' .expr e.l 1),x10)).bind fun x11 =>
       (Ak ([[41]],x11)).bind fun x16 =>
       some x16)))))))
theorem A3p(rf:Jm→Option Js) (hrf:FM 40 Dz Ec rf):FM 40 Dz Ec (Ir rf):=fRL (px:=A93 _ rf) (n:=0) Tryz.func40 rfl (fun _ H=>⟨lv H (c1 H Ali (l1 H B3 (l1 H hrf Ae))) Aa Ab,Aj⟩) fun(_,_)=>by kernel_rfl
def Bib(e:Xpr) (out:Str):Option Str:=cond (okx e) (app out (etx e)) none
def Dp:Jm→Option Js:=fun x=>Bib x.1 x.2
theorem Ai2:∀(n:Nat) (e:Xpr) (out:Str),BdExpr e→Bc e≤n→okx e=true→Al (V:=Jm) (R:=Js) Ir n (e,out)=app out (etx e)
 |0,e,_,_,h,_=>by have:=Gr e;omega
 |n+1,e,out,hb,h,hok=>by
  obtain⟨hb4,hb5⟩:=Akf hb
  rw [D6] at h
  have hrf:∀x,x∈e.l→okx x=true→∀out:Str,Al (V:=Jm) (R:=Js) Ir n (x,out)=app out (etx x):=fun x hx ho out=>Ai2 n x out (hb5 x hx) (by have:=Ei hx;omega) ho
  rw [A3,Bgl]
  rw [Bf9] at hok
  simp only [Ir,ww]
  by_cases h1:e.kind=1
  ·rw [Ze1 h1,if_pos h1,Af,F2]
   simp
  by_cases h2:e.kind=2
  ·rw [Zd1 h1,Ze1 h2,if_neg h1,if_pos h2,Ah,Af,F2]
   simp
  rw [Zd1 h1,Zd1 h2,if_neg h1,if_neg h2,Ah,Ah]
  rw [if_neg (by omega)] at hok
  cases hl:e.l with
  |nil=>rw [hl] at hok;cases hok
  |cons x l =>
   rw [hl] at hok hrf
   simp only [okxs,Zb1] at hok
   have hx:=hrf x Zr1 hok.1
   have e0:at' .expr (x::l) 0=x:=rfl
   have i0:inb 0 (x::l).length=true:=A4 (i:=0) (by simp)
   simp only [e0,i0,hx,chk,Af,etxs]
   by_cases h3:e.kind=3
   ·rw [Ze1 h3,if_pos h3]
    simp only [Af,Cd,F2,F8,Zz1,List.flatten_nil,List.append_nil,Zj1]
   by_cases h15:e.kind=15
   ·rw [Zd1 h3,Ze1 h15,if_neg h3,if_pos h15]
    simp only [Af,Ah,Cd,F2,F8,Zz1,List.flatten_nil,List.append_nil,Zj1]
   by_cases h16:e.kind=16
   ·rw [Zd1 h3,Zd1 h15,Ze1 h16,if_neg h3,if_neg h15,if_pos h16]
    simp only [Af,Ah,Cd,F2,F8,Zz1,List.flatten_nil,List.append_nil,Zj1]
   rw [Zd1 h3,Zd1 h15,Zd1 h16,if_neg h3,if_neg h15,if_neg h16]
   rw [if_neg (by omega)] at hok
   cases l with
   |nil=>exact absurd hok.2 (by simp [okx1])
   |cons y l =>
    have hy:=hrf y (by simp) hok.2
    have e1:at' .expr (x::y::l) 1=y:=rfl
    have i1:inb 1 (x::y::l).length=true:=A4 (i:=1) (by simp)
    simp only [e1,i1,hy,Af,Ah,etx1]
    simp only [F2,F8,Zz1,List.flatten_nil,List.append_nil,Zj1,sgn]
theorem Lt:FM 40 Dz Ec Dp:=by
 refine .fin (ι:=Nat) (sg:=Dz) (so:=Ec) 0 (F:=fun n=>Al (V:=Jm) (R:=Js) Ir n) (fun n=>FnLn.rec' (Sx.enters_of Tryz.func40 rfl rfl) (fun rf hrf=>A3p rf hrf) n) fun(e,out) r hb hx=>⟨Bc e,?_⟩
 have hx:cond (okx e) (app out (etx e)) none=some r:=hx
 cases hok:okx e with
 |false=>rw [hok] at hx;cases hx
 |true =>
  rw [hok] at hx
  exact(Ai2 (Bc e) e out hb.1 (Zn1 _) hok).trans hx
theorem we{e:Xpr}(h:okx e=true) (out:Str):Dp (e,out)=app out (etx e):=by
 show cond (okx e) _ _=_
 rw [h]
 rfl
end Go.Proofs.YthndhaolemgbdaaGreatDoor
