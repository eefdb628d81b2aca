/- Texts of the proof,one behind the other: Zk,Zl,Fe,Ob,Oq,Zw,Da,Db,Oc,Ora,Od,Oe,Oi,Oj,Ok,Ol,Om,Oh,On,Ooa,Oo,Or,Rv,Ty2,Ni,Nod,Sea,Tri,Trp,Sto,Ce. -/
import Derived.Test.YtcoaaebppfbbnaaGreatDoorU6
set_option linter.all false
namespace Go.Proofs.YtcoaaebppfbbnaaGreatDoor
open Go.Ax
def Bxl(R:Type):Px R:=pxO [(124,cA Acv)] [] [] []
def Aus(x:HV [.str]):Ya1 (HV [.sl .byte true]):=match x with|s=>chk (decide (s.length<=Ah)) ((Aou s [(UInt8.ofNat (0:Int).toNat)] [(UInt8.ofNat (0:Int).toNat),(UInt8.ofNat (255:Int).toNat)]).bind λx=>chk (decide (x.length+2<=Ah)) (some (x++[(UInt8.ofNat (0:Int).toNat),(UInt8.ofNat (1:Int).toNat)])))
theorem Bs9:FO 81 [.str] [.sl .byte true] (Aus):=fR (px:=Bxl _) (n:=0) Tryz.func81 rfl (λ_ H=>⟨lv H (c1 H Av5 Ae) Aa Ab,Ai⟩) λ_=>by kernel_rfl
def Bah(s:Str):Ya1 Str:=cond (decide (s.length<=68719476736)) (some (esc s++[0,1])) none
def Bax:FT [.str] [.sl .byte true]:=λx=>Bah x
theorem Bxe:FO 81 [.str] [.sl .byte true] Bax:=.fin0 Bs9 λs r _ a=>by
 simp only[Bax,Bah]at a;cases hc:decide (s.length<=68719476736)with
 |false=>rw[hc]at a;cases a
 |true=>
  rw[hc]at a;have d:=of_decide_eq_true hc;have b:s.count 0<=s.length:=List.count_le_length;have c:=Ve s;rw[<-a];have c1:decide (s.length<=Ah)=true:=Ze1 (by simp only[Ah];omega);have c2:Aou s [0] [0,255]=some (esc s):=by simp[Aou,Awx,hc]
  have c3:decide ((esc s).length+2<=Ah)=true:=Ze1 (by simp only[Ah];omega);simp[Aus,c1,c2,c3,chk]
def B6(x s:Nat):UInt8:=UInt8.ofNat (x / 2 ^ s % 256)
def An0(x:Nat):Str:=[B6 x 56,B6 x 48,B6 x 40,B6 x 32,B6 x 24,B6 x 16,B6 x 8,B6 x 0]
def Ko(n:Int):Str:=An0 (n+9223372036854775808).toNat
def H2(v:Val):Str:=cond (decide (v.kind=2)) [UInt8.ofNat v.n.toNat] (cond (decide (v.kind=3)) (Ko v.n) (cond (decide (v.kind=4)||decide (v.kind=5)) (esc v.s++[0,1]) []))
def Eh(v:Val):Str:=UInt8.ofNat v.kind.toNat::H2 v
def Bz(l:Yb1 Val):Str:=l.flatMap Eh
def vsz:Yb1 Val->Nat|[]=>0|v::l=>v.s.length+1+vsz l
theorem Akc:∀a b,vsz (a++b)=vsz a+vsz b
 |[],b=>by simp[vsz]
 |v::a,b=>by simp only[Zb2,vsz,Akc a b];omega
variable{i:Nat}
theorem Bzc{l:Yb1 Val}(h:i<l.length):vsz (l.take i)+(l[i].s.length+1)<=vsz l:=by have a:=Akc (l.take i) (l.drop i);rw[List.take_append_drop,Ak h]at a;simp only[vsz]at a;omega
theorem Bo6(v:Val):(Eh v).length<=9*(v.s.length+1):=by have h:=Ve v.s;have hc:v.s.count 0<=v.s.length:=List.count_le_length;simp only[Eh,H2,Zf1];cases decide (v.kind=2)<;>cases decide (v.kind=3)<;>cases (decide (v.kind=4)||decide (v.kind=5))<;>simp[Ko,An0]<;>omega
theorem A65(l:Yb1 Val):(Bz l).length<=9*vsz l:=by induction l with|nil=>simp[Bz]|cons v l a=>have:=Bo6 v;simp only[Bz,List.flatMap_cons,Zh1,vsz]at a ⊢;omega
theorem Je(a b:Yb1 Val):Bz (a++b)=Bz a++Bz b:=by simp[Bz]
theorem Bmk{l:Yb1 Val}(h:i<l.length):Bz (l.take (i+1))=Bz (l.take i)++Eh l[i]:=by rw[<-List.take_append_getElem h,Je];simp[Bz]
variable{x:Nat}
theorem Be0(h:x<2 ^ 63):x ^^^ 2 ^ 63=x+2 ^ 63:=by
 rw[Nat.add_comm,Nat.xor_comm];apply Nat.eq_of_testBit_eq;intro i;rw[Nat.testBit_xor,Nat.testBit_two_pow];rcases Nat.lt_trichotomy i 63 with hi|rfl|hi
 ·rw[Nat.testBit_two_pow_add_gt hi];simp[Nat.ne_of_gt hi]
 ·rw[Nat.testBit_two_pow_add_eq,Nat.testBit_lt_two_pow h];simp
 ·rw[Nat.testBit_lt_two_pow (Zx1 h (Nat.pow_le_pow_right (by omega) (by omega)))];rw[Nat.testBit_lt_two_pow (show 2 ^ 63+x<2 ^ i from Zx1 (show 2 ^ 63+x<2 ^ 64 by omega) (Nat.pow_le_pow_right (by omega) (by omega)))];simp[Nat.ne_of_lt hi]
theorem Ji{m:Nat}(h:m<18446744073709551616):IntKind.wrap .u64 (m:Int)=(m:Int):=by simp[IntKind.wrap,IntKind.bits,IntKind.signed];omega
theorem Byu{n:Int}(h:inI n):∃a:Nat,wr .u64 n=(a:Int)/\a<18446744073709551616/\((0<=n/\(a:Int)=n)\/(n<0/\(a:Int)=n+18446744073709551616)):=by
 simp only[inI]at h;have e:wr .u64 n=n % 18446744073709551616:=by simp[wr,IntKind.wrap,IntKind.bits,IntKind.signed]
 refine⟨(n % 18446744073709551616).toNat,?_,?_,?_⟩<;>omega
theorem B3c{n:Int}(h:inI n):Qg .u64 (wr .u64 n) 9223372036854775808=n+9223372036854775808:=by
 obtain⟨a,c,d,hc⟩:=Byu h;have e:(BitVec.ofInt 64 (a:Int)).toNat=a:=by simp;omega
 have e2:(BitVec.ofInt 64 (9223372036854775808:Int)).toNat=2 ^ 63:=by decide
 have f:Qg .u64 (a:Int) 9223372036854775808=IntKind.wrap .u64 ((a ^^^ 2 ^ 63:Nat):Int):=by show IntKind.wrap .u64 (((BitVec.ofInt 64 (a:Int) ^^^ BitVec.ofInt 64 (9223372036854775808:Int)).toNat:Nat):Int)=_;rw[BitVec.toNat_xor,e,e2]
 rw[c,f];simp only[inI]at h;rcases hc with ⟨g,i⟩|⟨g,i⟩
 ·rw[Be0 (by omega),Ji (by omega)];omega
 ·obtain⟨b,rfl⟩:∃b,a=b+2 ^ 63:=⟨a-2 ^ 63,by omega⟩;rw[<-Be0 (x:=b) (by omega),Nat.xor_assoc,Nat.xor_self,Nat.xor_zero,Ji (by omega)];omega
theorem Bkc(x s:Nat)(c:s<=63):UInt8.ofNat (wr .u8 (Ek .u64 (x:Int) (s:Int))).toNat=UInt8.ofNat (x / 2 ^ s % 256):=by
 have e:min (s:Int).toNat (IntKind.bits .u64)=s:=by simp[IntKind.bits];omega
 have e2:Ek .u64 (x:Int) (s:Int)=((x / 2 ^ s:Nat):Int):=by
  simp only[Ek,e];have a:((2:Int) ^ s)=((2 ^ s:Nat):Int):=by simp
  rw[a,Int.fdiv_eq_ediv_of_nonneg _ (Int.natCast_nonneg _)];rfl
 have b:wr .u8 ((x / 2 ^ s:Nat):Int)=((x / 2 ^ s % 256:Nat):Int):=by simp[wr,IntKind.wrap,IntKind.bits,IntKind.signed]
 rw[e2,b,Int.toNat_natCast]
def Axb:Sig:=⟨64,[(2,.sl .byte true),(3,.int .i64),(4,.sl .byte true),(8,.int .u64),(9,.int .i64),(10,.sl .val false),(11,.int .i64),(12,.int .i64)],[],[],0,0,0,[],[]⟩
abbrev M3:=Yb1 UInt8×Int×Yb1 UInt8×Int×Int×Yb1 Val×Int×Int
def Pu{R:Type}(e:M3->Ya1 R)(kx:Ex->M3->Ya1 R)(v:M3):Ya1 R:=match v with|(v6,v7,v8,v9,a,b,c,d)=>cond (decide (0<=a)) (chk (decide (0<=a)) (chk (decide (v8.length+1<=Ah)) (e (v6,v7,(v8++[(UInt8.ofNat ((wr .u8 (Ek .u64 v9 a)):Int).toNat)]),v9,(wr .i64 (a-8)),b,c,d)))) (kx (.exit 3) (v6,v7,v8,v9,a,b,c,d))
def Au3:Sig:=⟨64,[(2,.sl .byte true),(3,.int .i64),(4,.sl .byte true),(10,.sl .val false),(11,.int .i64),(12,.int .i64)],[],[],0,0,0,[],[]⟩
abbrev M5:=Yb1 UInt8×Int×Yb1 UInt8×Yb1 Val×Int×Int
def Aac{R:Type}(k:Nat)(h:M5->Ya1 R)(kx:Ex->M5->Ya1 R)(v:M5):Ya1 R:=match v with
 |(v,v1,v2,v3,v4,v5)=>
 cond (decide (v5<v4)) (
  chk (inb v5 v3.length) (
  cond (!decide ((Cn (at' .val v3 v5))=0)) (
   kx .ret ([],(Cn (at' .val v3 v5)),v2,v3,v4,v5)) (
   chk (decide (v2.length+1<=Ah)) (
   cond (decide ((at' .val v3 v5).kind=2)) (
    chk (decide ((v2++[(UInt8.ofNat ((wr .u8 ((at' .val v3 v5).kind)):Int).toNat)]).length+1<=Ah)) (
    h (v,v1,((v2++[(UInt8.ofNat ((wr .u8 ((at' .val v3 v5).kind)):Int).toNat)])++[(UInt8.ofNat ((wr .u8 ((at' .val v3 v5).n)):Int).toNat)]),v3,v4,(wr .i64 (v5+1))))) (
    cond (decide ((at' .val v3 v5).kind=3)) (
    Aj (λrc=>Pu rc (λe i=>match i with|(a,b,c,_,_,d,f,g)=>match e with
     |.exit 3=>
     h (a,b,c,d,f,(wr .i64 (g+1)))
     |_=>none)) k (v,v1,(v2++[(UInt8.ofNat ((wr .u8 ((at' .val v3 v5).kind)):Int).toNat)]),(Qg .u64 (wr .u64 ((at' .val v3 v5).n)) 9223372036854775808),56,v3,v4,v5)) (
    let j:=λ(p:Bool)=>
     cond (p) (
     (Bah ((at' .val v3 v5).s)).bind λx=>
      chk (decide ((v2++[(UInt8.ofNat ((wr .u8 ((at' .val v3 v5).kind)):Int).toNat)]).length+x.length<=Ah)) (
      h (v,v1,((v2++[(UInt8.ofNat ((wr .u8 ((at' .val v3 v5).kind)):Int).toNat)])++x),v3,v4,(wr .i64 (v5+1))))) (
     h (v,v1,(v2++[(UInt8.ofNat ((wr .u8 ((at' .val v3 v5).kind)):Int).toNat)]),v3,v4,(wr .i64 (v5+1))))
    cond (decide ((at' .val v3 v5).kind=4)) (
     j (decide ((at' .val v3 v5).kind=4))) (
     j (decide ((at' .val v3 v5).kind=5))))))))) (
  kx (.exit 0) (v,v1,v2,v3,v4,v5))
def Bc4(R:Type)(k:Nat):Px R:=pxO [(80,cA Nr),(81,cA Bax)] [] [(15,An k Axb (Pu)),(3,An k Au3 (Aac k))] []
def Asb(k:Nat)(x:HV [Yj1]):Ya1 (HV [.sl .byte true,Yc1]):=match x with
 |l=>
 Aj (λd=>Aac k d (λe f=>match f with|(a,b,c,_,_,_)=>match e with
  |.ret=>
  some (a,b)
  |.exit 0=>
  some (c,0)
  |_=>none)) k ([],0,[],l,(l.length:Int),0)
theorem Brb(k:Nat):FO 45 [Yj1] [.sl .byte true,Yc1] (Asb k):=fR (px:=Bc4 _ k) (n:=2) Tryz.func45 rfl (λcx H=>by have d:Lv cx (Bc4 (HV [.sl .byte true,Yc1]) k):=lv H (c1 H N3 (c1 H Bxe Ae)) Aa Ab;have a:=lO H d (b:=lpC (lp Tryz.f45 0) 0) (k:=k) (n:=0) (s:=Axb) (step:=Pu) (λ_ _ _ (_,_,_,_,_,_,_,_)=>by kernel_rfl) Ai;have c:=lO H d (b:=lp Tryz.f45 0) (k:=k) (n:=1) (s:=Au3) (step:=Aac k) (λ_ _ _ (_,_,_,_,_,_)=>by kernel_rfl) (A4 Ai a);exact⟨d,(A4 (A4 Ai c) a)⟩) λ_=>by kernel_rfl
def A20(l:Yb1 Val):Ya1 (Str×Int):=cond (decide (vsz l<=1000000)) (some (cond (l.all Aq) (Bz l,0) ([],2))) none
def Ayt:FT [Yj1] [.sl .byte true,Yc1]:=λx=>A20 x
variable{R:Type}{acc:Str}{kx:Ex->M3->Ya1 R}{q:Str}
theorem Bk4{a:M3->Ya1 R}{e:Int}{s:Nat}{l:Yb1 Val}{n i:Int}(b:s<=63)(c:acc.length<=20000000):Pu a kx (q,e,acc,(x:Int),(s:Int),l,n,i)=a (q,e,acc++[B6 x s],(x:Int),wr .i64 ((s:Int)-8),l,n,i):=by have c1:decide ((0:Int)<=(s:Int))=true:=Ze1 (by omega);have c2:decide (acc.length+1<=Ah)=true:=Ze1 (by simp only[Ah];omega);simp only[Pu,c1,c2,chk,Af,Bkc x s b,B6]
theorem Bac{e:Int}{l:Yb1 Val}{n i:Int}{k:Nat}(r:acc.length<=10000000):Aj (λa=>Pu a kx) (k+9) (q,e,acc,(x:Int),56,l,n,i)=kx (.exit 3) (q,e,acc++An0 x,(x:Int), -8,l,n,i):=by
 have st:∀(k s:Nat) (acc:Str) (t:Int),s<=63->acc.length<=20000000->wr .i64 ((s:Int)-8)=t->Aj (λa=>Pu a kx) (k+1) (q,e,acc,(x:Int),(s:Int),l,n,i)=Aj (λa=>Pu a kx) k (q,e,acc++[B6 x s],(x:Int),t,l,n,i):=λk s acc t b c d=>by rw[Au,Bk4 b c,d]
 have f:=st (k+8) 56 acc 48 (by omega) (by omega) (by decide);have e2:=st (k+7) 48 (acc++[B6 x 56]) 40 (by omega) (by simp;omega) (by decide);have g:=st (k+6) 40 (acc++[B6 x 56]++[B6 x 48]) 32 (by omega) (by simp;omega) (by decide);have h:=st (k+5) 32 (acc++[B6 x 56]++[B6 x 48]++[B6 x 40]) 24 (by omega) (by simp;omega) (by decide);have j:=st (k+4) 24 (acc++[B6 x 56]++[B6 x 48]++[B6 x 40]++[B6 x 32]) 16 (by omega) (by simp;omega) (by decide);have m:=st (k+3) 16 (acc++[B6 x 56]++[B6 x 48]++[B6 x 40]++[B6 x 32]++[B6 x 24]) 8 (by omega) (by simp;omega) (by decide);have o:=st (k+2) 8 (acc++[B6 x 56]++[B6 x 48]++[B6 x 40]++[B6 x 32]++[B6 x 24]++[B6 x 16]) 0 (by omega) (by simp;omega) (by decide);have p:=st (k+1) 0 (acc++[B6 x 56]++[B6 x 48]++[B6 x 40]++[B6 x 32]++[B6 x 24]++[B6 x 16]++[B6 x 8]) (-8) (by omega) (by simp;omega) (by decide);refine f.trans (e2.trans (g.trans (h.trans (j.trans (m.trans (o.trans (p.trans ?_)))))));rw[Au];have c1:decide ((0:Int) <= -8)=false:=rfl;simp only[Pu,c1,Ag,An0,Zj1,Zb2,Zf2]
theorem Dq{v:Val}:Aq v=true↔(v.kind=1/\v.n=0/\v.s=[])\/(v.kind=2/\(v.n=0\/v.n=1)/\v.s=[])\/(v.kind=3/\v.s=[])\/(v.kind=4/\v.n=0/\v.s.length<=1000/\Hv v.s=true)\/(v.kind=5/\v.n=0/\v.s.length<=1000):=by
 have f:(v.s.length:Int)<=1000↔v.s.length<=1000:=by omega
 by_cases g:v.kind=1
 ·by_cases a:v.n=0<;>simp[Aq,g,a]
 by_cases d:v.kind=2
 ·by_cases a:v.n=0
  ·simp[Aq,d,a]
  ·by_cases b:v.n=1<;>simp[Aq,d,a,b]
 by_cases b:v.kind=3
 ·simp[Aq,b]
 by_cases e:v.kind=4
 ·by_cases a:v.n=0
  ·by_cases c:v.s.length<=1000<;>simp[Aq,e,a,c,f]
  ·simp[Aq,e,a]
 by_cases c:v.kind=5
 ·by_cases a:v.n=0<;>simp[Aq,c,a,f]
 simp[Aq,g,d,b,e,c]
theorem A8v{o:M5->Ya1 R}{kx:Ex->M5->Ya1 R}{l:Yb1 Val}{e:Int}{k:Nat}(hl:ln l.length)(hi:i<l.length)(hb:Apd l[i])(ha:acc.length<=9000000)(hs:l[i].s.length<=1000000):Aac (k+9) o kx (q,e,acc,l,(l.length:Int),(i:Int))=cond (Aq l[i]) (o (q,e,acc++Eh l[i],l,(l.length:Int),((i+1:Nat):Int))) (kx .ret ([],2,acc,l,(l.length:Int),(i:Int))):=by
 have c1:decide ((i:Int)<(l.length:Int))=true:=Ze1 (by omega);have c2:wr .i64 ((i:Int)+1)=((i+1:Nat):Int):=Am hi hl;have c3:decide (acc.length+1<=Ah)=true:=Ze1 (by simp only[Ah];omega);simp only[Aac,c1,Af,Ao hi,chk,Al (c:=.val) hi,c2,c3];generalize l[i]=v at *;cases t:Aq v with
 |false=>
  have hc:Cn v=2:=by simp[Cn,t]
  simp only[hc];rfl
 |true=>
  have hc:Cn v=0:=Km.2 t;have c4:(!decide (Cn v=0))=false:=by rw[hc];rfl
  have c5:∀b:UInt8,decide ((acc++[b]).length+1<=Ah)=true:=λb=>Ze1 (by simp only[Ah,Zh1,List.length_singleton];omega);simp only[c4,Ag,c5,Af];have w1:wr .u8 1=1:=by decide
  have w2:wr .u8 2=2:=by decide
  have w3:wr .u8 3=3:=by decide
  have w4:wr .u8 4=4:=by decide
  have w5:wr .u8 5=5:=by decide
  have w0:wr .u8 0=0:=by decide
  rcases Dq.1 t with ⟨h,_⟩|⟨h,r,_⟩|⟨h,_⟩|⟨h,_,u,_⟩|⟨h,_,u⟩
  ·simp[h,Eh,H2,w1]
  ·rcases r with r|r<;>simp[h,r,Eh,H2,w0,w1,w2]
  ·obtain⟨x,hxe,hx⟩:∃x:Nat,(v.n+9223372036854775808).toNat=x/\Qg .u64 (wr .u64 v.n) 9223372036854775808=(x:Int):=by have:=hb.2.1;refine⟨_,rfl,?_⟩;rw[B3c this];simp only[inI]at this;omega
   have h8:=Bac (R:=R) (kx:=λe v=>match v with|(a,d,f,_,_,g,j,m)=>match e with
     |.exit 3=>o (a,d,f,g,j,(wr .i64 (m+1)))
     |_=>none) (q:=q) (acc:=acc++[3]) (e:=e) (x:=x) (l:=l) (n:=(l.length:Int)) (i:=(i:Int)) (k:=k) (by simp;omega)
   have p1:Eh v=3::An0 x:=by simp[Eh,H2,h,Ko,hxe]
   have d2:decide (v.kind=2)=false:=by rw[h];rfl
   have d3:decide (v.kind=3)=true:=by rw[h];rfl
   have d0:UInt8.ofNat (wr .u8 v.kind).toNat=3:=by rw[h,w3];rfl
   simp only[d2,d3,d0,Ag,Af,hx,p1,h8,c2,Zj1,Zb2,Zf2]
  ·have w:Bah v.s=some (esc v.s++[0,1]):=by simp only[Bah,Ze1 (show v.s.length<=68719476736 by omega),Af]
   have y:v.s.count 0<=v.s.length:=List.count_le_length;have z:=Ve v.s;have p:acc.length+1+((esc v.s).length+2)<=Ah:=by simp only[Ah];omega
   simp[h,Eh,H2,w4,w,p]
  ·have w:Bah v.s=some (esc v.s++[0,1]):=by simp only[Bah,Ze1 (show v.s.length<=68719476736 by omega),Af]
   have y:v.s.count 0<=v.s.length:=List.count_le_length;have z:=Ve v.s;have p:acc.length+1+((esc v.s).length+2)<=Ah:=by simp only[Ah];omega
   simp[h,Eh,H2,w5,w,p]
theorem Auf{R:Type}{kx:Ex->M5->Ya1 R}{l:Yb1 Val}{c1 c2:Ya1 R}{k0:Nat}(c:ln l.length)(hb:∀v,v∈l->Apd v)(g:vsz l<=1000000)(d:∀q i,kx .ret ([],2,q,l,(l.length:Int),i)=c1)(f:∀q e,kx (.exit 0) (q,e,Bz l,l,(l.length:Int),(l.length:Int))=c2) :
  ∀(k i:Nat) (q:Str) (e:Int),i<=l.length->l.length-i<k->Aj (λb=>Aac (k0+9) b kx) k (q,e,Bz (l.take i),l,(l.length:Int),(i:Int))=cond ((l.drop i).all Aq) c2 c1
 |0,i,q,e,_,h=>by omega
 |k+1,i,q,e,hi,h=>by
  rw[Au];by_cases a:i<l.length
  ·have m:=Bzc a;have j:=A65 (l.take i);rw[A8v c a (hb _ (List.getElem_mem a)) (by omega) (by omega),<-Bmk a,Auf c hb g d f k (i+1) q e (by omega) (by omega),d,Ak a];simp only[Zv1];cases Aq l[i]<;>rfl
  ·have hi:i=l.length:=by omega
   subst hi;simp only[Aac,Zd1 (show ¬((l.length:Nat):Int)<(l.length:Int) by omega),Ag,List.take_length,f,Zc2];rfl
theorem Bck:FO 45 [Yj1] [.sl .byte true,Yc1] Ayt:=.fin 0 Brb λl r hb a=>⟨l.length+10,by
 simp only[Ayt,A20]at a;cases hc:decide (vsz l<=1000000)with
 |false=>rw[hc]at a;cases a
 |true=>rw[hc]at a;have a:some (cond (l.all Aq) (Bz l,0) ([],2))=some r:=a;rw[<-a];simp only[Asb];refine(Auf (c1:=some ([],2)) (c2:=some (Bz l,0)) (k0:=l.length+1) hb.1 hb.2 (of_decide_eq_true hc) (λ_ _=>rfl) (λ_ _=>rfl) (l.length+10) 0 [] 0 (Nat.zero_le _) (by omega)).trans ?_;rw[Zq1];cases l.all Aq<;>rfl⟩
theorem Yu:∀{cols:Yb1 Col}{row:Yb1 Val},H3 cols row=true->∀(i:Nat) (a:i<cols.length) (b:i<row.length),Ac3 row[i] cols[i].kind=true
 |[],_,_,i,a,_=>by simp at a
 |_::_,[],_,i,_,b=>by simp at b
 |c::cs,v::vs,h,i,a,b=>by simp only[H3,Zb1]at h;cases i with|zero=>exact h.1|succ i=>exact Yu h.2 i (by simpa using a) (by simpa using b)
variable{k:Int}
theorem Asl{v:Val}:Ac3 v k=true↔Aq v=true/\(v.kind=1\/v.kind=k):=by simp only[Ac3];cases Aq v<;>simp
theorem Ah2(b:Bool):Aq (Gc b)=true/\(Gc b).kind=2:=by cases b<;>decide
theorem A71:Aq ⟨1,0,[]⟩=true:=by decide
theorem Bif(n:Int):Aq ⟨3,n,[]⟩=true:=by simp[Aq]
theorem B3a(a b:Int):(Aiu a b).2=0\/(Aiu a b).2=20:=by simp only[Aiu];cases decide (decide (a<wr .i64 (a+b))=decide (0<b))<;>simp
theorem Bwe(a b:Int):(Qx a b).2=0\/(Qx a b).2=20:=by simp only[Qx];cases decide (decide (wr .i64 (a-b)<a)=decide (0<b))<;>simp
theorem B3e(a b:Int):(Air a b).2=0\/(Air a b).2=20:=by simp only[Air];generalize decide (0<(Jr (Ea a) (Ea b)).1)=p;generalize decide ((Jr (Ea a) (Ea b)).2=9223372036854775808)=q;generalize decide (9223372036854775808<(Jr (Ea a) (Ea b)).2)=r;generalize (!decide ((decide (a<0))=(decide (b<0))))=t;cases p<;>cases q<;>cases r<;>cases t<;>simp
theorem B0j(k a b:Int):(∃n,W4 k a b=(⟨3,n,[]⟩,0))\/W4 k a b=(⟨0,0,[]⟩,20):=by
 have c:=B3a a b;have d:=Bwe a b;have e:=B3e a b;have f:=Bwe 0 a;simp only[W4,Bool.cond_decide];split
 ·rcases c with h|h<;>simp[h]
 ·split
  ·rcases d with h|h<;>simp[h]
  ·split
   ·rcases e with h|h<;>simp[h]
   ·rcases f with h|h<;>simp[h]
theorem Bu2(k:Int)(l:Yb1 Val):(∃b,Ahz k l=Gc b)\/Ahz k l=⟨1,0,[]⟩:=by
 simp only[Ahz];cases l.any λv=>decide (v=Gc (decide (k=5)))
 ·cases l.any Jq
  ·exact .inl ⟨_,rfl⟩
  ·exact .inr rfl
 ·exact .inl ⟨_,rfl⟩
def Blc(v:Val)(f k:Int):Prop:=(f=0/\Aq v=true/\(v.kind=1\/v.kind=k))\/(f=20/\v=⟨0,0,[]⟩)
theorem O7(b:Bool):Blc (Gc b) 0 2:=.inl ⟨rfl,(Ah2 b).1,.inr (Ah2 b).2⟩
theorem Ud(k:Int):Blc ⟨1,0,[]⟩ 0 k:=.inl ⟨rfl,A71,.inl rfl⟩
theorem A5n(k a b:Int):Blc (W4 k a b).1 (W4 k a b).2 3:=by
 rcases B0j k a b with ⟨n,h⟩|h
 ·rw[h];exact .inl ⟨rfl,Bif n,.inr rfl⟩
 ·rw[h];exact .inr ⟨rfl,rfl⟩
theorem Ap4(k:Int)(l:Yb1 Val):Blc (Ahz k l) 0 2:=by
 rcases Bu2 k l with ⟨b,h⟩|h
 ·rw[h];exact O7 b
 ·rw[h];exact Ud 2
variable{a:Int}{cols:Yb1 Col}
theorem B15{e:Xpr}{b:Int}(h:(Jo e cols a b).2=0)(c:e.kind=3\/e.kind=4\/e.kind=5):Jo e cols a b=(2,0):=by
 simp only[Jo]at h ⊢;rw[if_neg (by omega),if_neg (by omega),if_neg (by omega),if_pos c]at h ⊢;split at h
 ·rename_i hc;rw[if_pos hc]
 ·simp at h
theorem B1g{e:Xpr}{b:Int}(h:(Jo e cols a b).2=0)(c:e.kind=12\/e.kind=13\/e.kind=14\/e.kind=15):Jo e cols a b=(3,0):=by
 simp only[Jo]at h ⊢;rw[if_neg (by omega),if_neg (by omega),if_neg (by omega),if_neg (by omega),if_pos c]at h ⊢;split at h
 ·rename_i hc;rw[if_pos hc]
 ·simp at h
theorem B56{e:Xpr}{b:Int}(h:(Jo e cols a b).2=0)(c : 6<=e.kind/\e.kind<=11):Jo e cols a b=(2,0):=by
 simp only[Jo]at h ⊢;rw[if_neg (by omega),if_neg (by omega),if_neg (by omega),if_neg (by omega),if_neg (by omega)]at h ⊢;split at h
 ·rename_i hc;rw[if_pos hc]
 ·simp at h
theorem B4j{e:Xpr}{b:Int}(c:e.kind=16):Jo e cols a b=(2,0):=by simp only[Jo];rw[if_neg (by omega),if_neg (by omega),if_pos c]
theorem Qm{cols:Yb1 Col}{row:Yb1 Val}(s:H3 cols row=true):∀(n:Nat) (e:Xpr) (m:Int),A1 e<=n->Ba e m=true->(Bd e cols).2=0->∃v f,R3 e cols row=some (v,f)/\Blc v f (Bd e cols).1
 |0,e,_,h,_,_=>by have:=D1 e;omega
 |n+1,e,m,h,hr,hk=>by
  obtain⟨hp,j,k⟩:=P1 hr;rw[Ds]at h;rw[K3]at hk ⊢;rw[A2t];have i1:∀v:Val,inb 0 [v].length=true:=λv=>rfl;have i2:∀v u:Val,inb 0 [v,u].length=true:=λv u=>rfl;have i3:∀v u:Val,inb 1 [v,u].length=true:=λv u=>rfl;rcases X6 e.kind with ⟨h0,a9⟩|⟨h0,aa⟩|⟨h0,ae⟩|h0
  ·
   have o:e.l=[]:=List.eq_nil_of_length_eq_zero (by omega);rw[o]at hk ⊢;simp only[kindL,Aay,evalL]at hk ⊢;have hc:chk (decide (([]:Yb1 Xpr).length<=Ah))=λx:Ya1 (Val×Int)=>x:=rfl;rw[hc];simp only[if_true];rcases a9 with r|h2
   ·refine⟨e.v,0,by simp[A9v,r],.inl ⟨rfl,?_,.inr ?_⟩⟩
    ·simp only[eok,r]at j;simp only[decide_true,Af,Zb1,Zg1]at j;exact Km.1 j.1.1
    ·simp[Jo,r]
   ·simp only[Jo,h2]at hk ⊢;simp only[show ¬((2:Int)=1) by decide,if_false,if_true]at hk ⊢;by_cases t:B3 cols e.name<0
    ·simp[t]at hk
    ·rw[if_neg t];have ac:=Lb s;have ag:=Z3 cols e.name;obtain⟨i,hi⟩:∃i:Nat,B3 cols e.name=(i:Int):=⟨(B3 cols e.name).toNat,by omega⟩;have r:i<cols.length:=by omega
     have p:i<row.length:=by omega
     have a:=Yu s i r p;rw[Asl]at a;refine⟨row[i],0,?_,.inl ⟨rfl,a.1,?_⟩⟩
     ·simp only[A9v,h2];rw[hi,Ao p,Al (c:=.val) p];rfl
     ·rw[hi,Al (c:=.col) r];exact a.2
  ·
   obtain⟨x,o⟩:∃x,e.l=[x]:=List.length_eq_one_iff.1 (by omega);rw[o]at hk k ⊢;simp only[kindL,Aay,erights,Bool.and_true]at hk k ⊢;have b:(Bd x cols).2=0:=by
    by_cases q:(Bd x cols).2=0
    ·exact q
    ·rw[if_neg q]at hk;exact absurd hk q
   rw[if_pos b]at hk ⊢;obtain⟨v,f,hv,w⟩:=Qm s n x _ (by rw[o]at h;simp only[esizes]at h;omega) k b;simp only[evalL,hv];rcases w with ⟨rfl,w⟩|⟨rfl,rfl⟩
   ·simp only[if_true];have hc:chk (decide (([x]:Yb1 Xpr).length<=Ah))=λy:Ya1 (Val×Int)=>y:=rfl;rw[hc];simp only[A9v];have d:at' .val [v] 0=v:=rfl;rcases aa with h3|a2|a3
    ·rw[B15 hk (.inl h3)];simp only[h3,show decide ((3:Int)=1)=false from rfl,show decide ((3:Int)=2)=false from rfl,show decide ((3:Int)=16)=false from rfl,show decide ((3:Int)=4)=false from rfl,show decide ((3:Int)=5)=false from rfl,Ag,decide_true,Af,i1,chk,d];cases [v].any Jq
     ·exact⟨_,_,rfl,O7 _⟩
     ·exact⟨_,_,rfl,Ud _⟩
    ·rw[B1g hk (.inr (.inr (.inr a2)))];simp only[a2,show decide ((15:Int)=1)=false from rfl,show decide ((15:Int)=2)=false from rfl,show decide ((15:Int)=16)=false from rfl,show decide ((15:Int)=3)=false from rfl,show decide ((15:Int)=4)=false from rfl,show decide ((15:Int)=5)=false from rfl,Ag,decide_true,Af,i1,chk,d];cases [v].any Jq
     ·exact⟨_,_,rfl,A5n _ _ _⟩
     ·exact⟨_,_,rfl,Ud _⟩
    ·rw[B4j a3];simp only[a3,show decide ((16:Int)=1)=false from rfl,show decide ((16:Int)=2)=false from rfl,decide_true,Ag,Af];exact⟨_,_,rfl,O7 _⟩
   ·exact⟨_,_,rfl,.inr ⟨rfl,rfl⟩⟩
  ·
   obtain⟨x,y,o⟩:∃x y,e.l=[x,y]:=by match hq:e.l,(show e.l.length=2 by omega)with|[x,y],_=>exact⟨x,y,rfl⟩
   rw[o]at hk k ⊢;simp only[kindL,Aay,erights,Bool.and_true,Zb1]at hk k ⊢;have b:(Bd x cols).2=0:=by
    by_cases q:(Bd x cols).2=0
    ·exact q
    ·rw[if_neg q]at hk;exact absurd hk q
   rw[if_pos b]at hk ⊢;have a4:(Bd y cols).2=0:=by
    by_cases hy:(Bd y cols).2=0
    ·exact hy
    ·rw[if_neg hy]at hk;exact absurd hk hy
   rw[if_pos a4]at hk ⊢;have a5:A1 x<=n/\A1 y<=n:=by rw[o]at h;simp only[esizes]at h;omega
   obtain⟨v,f,hv,w⟩:=Qm s n x _ a5.1 k.1 b;obtain⟨u,g,hu,a6⟩:=Qm s n y _ a5.2 k.2 a4;simp only[evalL,hv,hu];rcases w with ⟨rfl,w⟩|⟨rfl,rfl⟩
   ·simp only[if_true];rcases a6 with ⟨rfl,a6⟩|⟨rfl,rfl⟩
    ·simp only[if_true];have hc:chk (decide (([x,y]:Yb1 Xpr).length<=Ah))=λz:Ya1 (Val×Int)=>z:=rfl;rw[hc];simp only[A9v];have d:at' .val [v,u] 0=v:=rfl;have ab:at' .val [v,u] 1=u:=rfl;rw[Zd1 (show ¬e.kind=1 by omega),Zd1 (show ¬e.kind=2 by omega),Zd1 (show ¬e.kind=16 by omega),Zd1 (show ¬e.kind=3 by omega),Zd1 (show ¬e.kind=15 by omega)];simp only[Ag,i2,i3,chk,Af,d,ab];by_cases a7:e.kind=4\/e.kind=5
     ·rw[B15 hk (.inr a7)];rcases a7 with h4|h5
      ·simp only[h4,decide_true,Af];exact⟨_,_,rfl,Ap4 _ _⟩
      ·simp only[h5,show decide ((5:Int)=4)=false from rfl,decide_true,Af,Ag];exact⟨_,_,rfl,Ap4 _ _⟩
     ·rw[Zd1 (show ¬e.kind=4 by omega),Zd1 (show ¬e.kind=5 by omega)];simp only[Ag];cases hn:[v,u].any Jq
      ·simp only[Ag];by_cases a8 : 12<=e.kind
       ·rw[B1g hk (by omega),Ze1 a8];exact⟨_,_,rfl,A5n _ _ _⟩
       ·rw[B56 hk (by omega),Zd1 a8];exact⟨_,_,rfl,O7 _⟩
      ·exact⟨_,_,rfl,Ud _⟩
    ·exact⟨_,_,rfl,.inr ⟨rfl,rfl⟩⟩
   ·exact⟨_,_,rfl,.inr ⟨rfl,rfl⟩⟩
  ·omega
def Lj(e:Xpr)(cols:Yb1 Col)(row:Yb1 Val):Val×Int:=cond (!decide (Ew e=0)) (⟨0,0,[]⟩,2) (cond (!Gb cols row) (⟨0,0,[]⟩,2) (cond (!decide ((Bd e cols).2=0)) (⟨0,0,[]⟩,(Bd e cols).2) ((R3 e cols row).getD (⟨0,0,[]⟩,0))))
theorem Bab(e:Xpr)(cols:Yb1 Col)(row:Yb1 Val):(Ew e≠0\/Gb cols row=false)/\Lj e cols row=(⟨0,0,[]⟩,2)\/(Ew e=0/\Gb cols row=true/\(Bd e cols).2≠0/\Lj e cols row=(⟨0,0,[]⟩,(Bd e cols).2))\/(Ew e=0/\Gb cols row=true/\(Bd e cols).2=0/\R3 e cols row=some (Lj e cols row)/\Blc (Lj e cols row).1 (Lj e cols row).2 (Bd e cols).1):=by
 simp only[Lj];by_cases a:Ew e=0
 ·rw[Ze1 a];cases c:Gb cols row with
  |false=>left;simp
  |true=>
   by_cases b:(Bd e cols).2=0
   ·right;right;obtain⟨v,f,d,g⟩:=Qm c (A1 e) e 30 (Zn1 _) (Wm.1 a) b;rw[d];refine⟨a,rfl,b,?_,?_⟩
    ·simp[b]
    ·simpa[b]using g
   ·right;left;refine⟨a,rfl,b,?_⟩;simp[b]
 ·left;refine⟨.inl a,?_⟩;simp[a]
theorem Bso(e:Xpr)(cols:Yb1 Col)(row:Yb1 Val):Bcv e cols row=some (Lj e cols row):=by
 simp only[Bcv,Zz];rcases Bab e cols row with ⟨h,b⟩|⟨a,b,c,d⟩|⟨a,b,c,d,_⟩
 ·rw[b];by_cases a:Ew e=0
  ·rw[h.resolve_left (by simpa using a)];simp[a]
  ·simp[a]
 ·rw[d,b];simp[a,c]
 ·rw[b,d];simp[a,c]
def Bvo(key:Yb1 Str):Yb1 Col->Yb1 Val->Bool|c::cs,v::vs=>(decide (v.kind=1)&&(c.notNull||key.contains c.name))||Bvo key cs vs|_,_=>false
def Av6(cols:Yb1 Col)(row:Yb1 Val):Yb1 Xpr->Int|[]=>0|e::l=>cond (decide ((Lj e cols row).2=0)) (cond (decide ((Lj e cols row).1=⟨2,0,[]⟩)) 162 (Av6 cols row l)) (Lj e cols row).2
def Ey(t:Tbl)(row:Yb1 Val):Int:=cond (Ee t) (cond (Gb t.cols row) (cond (Bvo t.key t.cols row) 161 (Av6 t.cols row t.checks)) 151) 2
theorem Ayc{kx:Ex->Wp->Ya1 R}{l:Yb1 Str}{nm:Str}{w:Tbl}{a b:Ya1 R}{k:Nat}(m:l.length<=4000)(n : 4000<k)(f:∀i:Nat,kx .ret (l,nm,(i:Int),(l.length:Int),(i:Int),w)=a)(g:kx (.exit 0) (l,nm,0,(l.length:Int),(l.length:Int),w)=b) :
  Aj (λd=>Vf d kx) k (l,nm,0,(l.length:Int),0,w)=cond (l.contains nm) a b:=by
 have h:ln l.length:=by simp only[ln];omega
 refine(A3 l.length (λi=>(l,nm,0,(l.length:Int),(i:Int),w)) (λi=>cond ((l.drop i).contains nm) a b) (λi hi d j=>?_) (λd=>?_) k 0 (Nat.zero_le _) (by omega)).trans (by rw[Zq1])
 ·have e:decide (nm=l[i])=(nm == l[i]):=by rw[Bool.eq_iff_iff];simp
  simp only[Vf,Cs hi,Af,Ao hi,chk,Al (c:=.str) hi,Am hi h,j,f,Ak hi,List.contains_cons,e];cases nm == l[i]<;>rfl
 ·simp only[Vf,C4,Ag,g];rw[Zk1 (Zn1 _)];rfl
variable{row:Yb1 Val}{t:Tbl}
theorem Axq{kx:Ex->U3->Ya1 R}{a b:Ya1 R}(h:t.key.length<=4000)(o:t.cols.length<=4000){k:Nat}(l : 4000<k)(p:t.cols.length=row.length)(f:∀i,kx .ret (row,161,t.cols,(t.cols.length:Int),i,t)=a)(m:kx (.exit 0) (row,0,t.cols,(t.cols.length:Int),(t.cols.length:Int),t)=b) :
  Aj (λd=>V6 k d kx) k (row,0,t.cols,(t.cols.length:Int),0,t)=cond (Bvo t.key t.cols row) a b:=by
 have n:ln t.cols.length:=by simp only[ln];omega
 refine(A3 t.cols.length (λi=>(row,0,t.cols,(t.cols.length:Int),(i:Int),t)) (λi=>cond (Bvo t.key (t.cols.drop i) (row.drop i)) a b) (λi hi d g=>?_) (λd=>?_) k 0 (Nat.zero_le _) (by omega)).trans (by rw[Zq1,Zq1])
 ·have e:i<row.length:=by omega
  simp only[V6,Cs hi,Af,Ao hi,Ao e,chk,Al (c:=.col) hi,Al (c:=.val) e,Am hi n,Ak hi,Ak e,Bvo,f];cases decide (row[i].kind=1)with
  |false=>exact g
  |true=>
   cases t.cols[i].notNull with
   |true=>rfl
   |false=>
    simp only[Af,Ag,Bool.true_and,Bool.false_or];refine(Ayc (a:=a) (b:=d (row,0,t.cols,(t.cols.length:Int),((i+1:Nat):Int),t)) h l (λj=>?_) rfl).trans ?_
    ·simp only[Ze1 (show(0:Int)<=(j:Int) by omega),Af];exact f _
    ·rw[g];cases t.key.contains t.cols[i].name<;>rfl
 ·simp only[V6,C4,Ag,m];rw[Zk1 (Zn1 _)];rfl
theorem Az9{kx:Ex->Vv->Ya1 R}{c:Int->Ya1 R}{k:Nat}(h:t.checks.length<=4000)(j : 4000<k)(b:∀r i,kx .ret (row,r,t.checks,(t.checks.length:Int),i,t)=c r)(d:kx (.exit 2) (row,0,t.checks,(t.checks.length:Int),(t.checks.length:Int),t)=c 0) :
  Aj (λa=>Wr a kx) k (row,0,t.checks,(t.checks.length:Int),0,t)=c (Av6 t.cols row t.checks):=by
 have f:ln t.checks.length:=by simp only[ln];omega
 refine(A3 t.checks.length (λi=>(row,0,t.checks,(t.checks.length:Int),(i:Int),t)) (λi=>c (Av6 t.cols row (t.checks.drop i))) (λi hi a g=>?_) (λa=>?_) k 0 (Nat.zero_le _) (by omega)).trans (by rw[Zq1])
 ·have e:decide (Gs (Lj t.checks[i] t.cols row).1 ⟨2,0,[]⟩=0)=decide ((Lj t.checks[i] t.cols row).1=⟨2,0,[]⟩):=Zy1.2 (vcmp_lin.eq _ _);simp only[Wr,Cs hi,Af,Ao hi,chk,Al (c:=.expr) hi,Bso,Zc1,Am hi f,g,b,Ak hi,Av6,e];cases decide ((Lj t.checks[i] t.cols row).2=0)with|false=>rfl|true=>cases decide ((Lj t.checks[i] t.cols row).1=⟨2,0,[]⟩)<;>rfl
 ·simp only[Wr,C4,Ag,d];rw[Zk1 (Zn1 _)];rfl
theorem Byv(e:t.key.length<=4000)(f:t.cols.length<=4000)(g:t.checks.length<=4000)(h:Fo t=true){k:Nat}(d : 4000<k):I0 k (t,row)=some (Ey t row):=by
 simp only[I0,Gu,h,Af,Zc1,Ey];cases Ee t with
 |false=>rfl
 |true=>simp only[Af,decide_true,Zt1,Ag];cases i:Gb t.cols row with|false=>rfl|true=>simp only[Af,Zt1,Ag];refine(Axq (a:=some 161) (b:=some (Av6 t.cols row t.checks)) e f d (Lb i) (λ_=>rfl) ?_).trans (Aw);exact Az9 (c:=some) g d (λ_ _=>rfl) rfl
def Bf4(s:Stm):Nat:=s.cols.length+s.l.length+s.order.length+s.rows.length+s.sets.length+(s.rows.map List.length).sum+1
def Ahn:Sig:=⟨58,[(0,.int .u8),(2,.int .i64),(3,.str),(4,.int .i64)],[],[],0,0,0,[],[]⟩
abbrev Y6:=Int×Int×Str×Int
def Aol{R:Type}(a:Y6->Ya1 R)(kx:Ex->Y6->Ya1 R)(v:Y6):Ya1 R:=match v with|(v,v1,v2,v3)=>cond (decide (v3<(v2.length:Int))) (chk (inb v3 v2.length) (cond (decide ((bat v2 v3)=v)) (kx .ret (v,7,v2,v3)) (a (v,v1,v2,(wr .i64 (v3+1)))))) (kx (.exit 1) (v,v1,v2,v3))
def Ata(R:Type)(k:Nat):Px R:=pxO [] [] [(15,An k Ahn (Aol))] []
def Ag5(k:Nat)(x:HV [.int .u8]):Ya1 (HV [Yc1]):=match x with
 |c=>
 let b:Bool->Ya1 (HV [Yc1]):=λ(p1:Bool)=>
  cond (p1) (
  some 1) (
  let d:Bool->Ya1 (HV [Yc1]):=λ(p3:Bool)=>
   cond (p3) (
   some 2) (
   let f:Bool->Ya1 (HV [Yc1]):=λ(g:Bool)=>
    cond (g) (
    some 3) (
    cond (decide (c=95)) (
     some 4) (
     cond (decide (c=39)) (
     some 5) (
     let j:Bool->Ya1 (HV [Yc1]):=λ(h:Bool)=>
      cond (h) (
      some 6) (
      cond (decide (c=10)) (
       some 6) (
       cond (decide (c=13)) (
       some 6) (
       Aj (λa=>Aol a (λe i=>match i with|(_,v5,_,_)=>match e with
        |.ret=>
        some v5
        |.exit 1=>
        some 0
        |_=>none)) k (c,0,[40,41,44,42,61,60,62,43,45,59],0))))
     cond (decide (c=32)) (
      j true) (
      j (decide (c=9))))))
   cond (decide (48<=c)) (
    f (decide (c<=57))) (
    f false))
  cond (decide (97<=c)) (
   d (decide (c<=122))) (
   d false))
 cond (decide (65<=c)) (
  b (decide (c<=90))) (
  b false)
theorem A98(k:Nat):FO 163 [.int .u8] [Yc1] (Ag5 k):=fR (px:=Ata _ k) (n:=1) Tryz.func163 rfl (λcx H=>by have c:Lv cx (Ata (HV [Yc1]) k):=lv H Ae Aa Ab;have a:=lO H c (b:=lp Tryz.f163 0) (k:=k) (n:=0) (s:=Ahn) (step:=Aol) (λ_ _ _ (_,_,_,_)=>by kernel_rfl) Ai;exact⟨c,(A4 Ai a)⟩) λ_=>by kernel_rfl
def Akr(c:Int):Int:=Lp.clsF c
def Apl:FT [.int .u8] [Yc1]:=λx=>some (Akr x)
theorem A82:((List.range 256).all λn=>decide (Ag5 11 (n:Int)=some (Lp.clsF (n:Int))))=true:=by kernel_rfl
theorem Bll:FO 163 [.int .u8] [Yc1] Apl:=.fin 0 A98 λ(c:Int) r hb b=>⟨11,by
 simp only[Apl,Za1]at b;have h : 0<=c/\c<=255:=by have a:inK .u8 c:=hb;simp only[inK,IntKind.min,IntKind.max]at a;exact⟨a.1,a.2⟩
 obtain⟨n,rfl⟩:∃n:Nat,c=(n:Int):=⟨c.toNat,by omega⟩;have d:=Zg2.1 A82 n (List.mem_range.2 (by omega));exact(of_decide_eq_true d).trans (congrArg some b)⟩
def Alf:Sig:=⟨37,[(0,.str),(2,.bool),(3,.int .i64)],[],[],0,0,0,[],[]⟩
abbrev Vs:=Str×Bool×Int
def U5{R:Type}(a:Vs->Ya1 R)(kx:Ex->Vs->Ya1 R)(v:Vs):Ya1 R:=match v with|(v,v1,v2)=>cond (decide (v2<(v.length:Int))) (chk (inb v2 v.length) (cond (!decide ((Akr (bat v v2))=2)) (cond (decide (v2=0)) (kx .ret (v,false,v2)) (cond (!decide ((Akr (bat v v2))=3)) (cond (!decide ((Akr (bat v v2))=4)) (kx .ret (v,false,v2)) (a (v,v1,(wr .i64 (v2+1))))) (a (v,v1,(wr .i64 (v2+1)))))) (a (v,v1,(wr .i64 (v2+1)))))) (kx (.exit 0) (v,v1,v2))
def A4d(R:Type)(k:Nat):Px R:=pxO [(163,cA Apl)] [] [(2,An k Alf (U5))] []
def Anl(k:Nat)(x:HV [.str]):Ya1 (HV [.bool]):=match x with
 |s=>
 Aj (λa=>U5 a (λe b=>match b with|(v3,v4,_)=>match e with
  |.ret=>
  some v4
  |.exit 0=>
  cond (decide (1<=(v3.length:Int))) (
   some (decide ((v3.length:Int)<=30))) (
   some false)
  |_=>none)) k (s,false,0)
theorem Bj9(k:Nat):FO 118 [.str] [.bool] (Anl k):=fR (px:=A4d _ k) (n:=1) Tryz.func118 rfl (λcx H=>by have c:Lv cx (A4d (HV [.bool]) k):=lv H (c1 H Bll Ae) Aa Ab;have a:=lO H c (b:=lp Tryz.f118 0) (k:=k) (n:=0) (s:=Alf) (step:=U5) (λ_ _ _ (_,_,_)=>by kernel_rfl) Ai;exact⟨c,(A4 Ai a)⟩) λ_=>by kernel_rfl
def Acd(s:Str):Bool:=Lp.rnameF s
def Adp:FT [.str] [.bool]:=λx=>some (Acd x)
theorem Anu{R:Type}{kx:Ex->Vs->Ya1 R}{s:Str}{c:Bool->Ya1 R}(d:ln s.length)(e:∀j,kx .ret (s,false,j)=c false)(f:∀q j,kx (.exit 0) (s,q,j)=c true):∀(k i:Nat) q,i<=s.length->s.length-i<k->Aj (λb=>U5 b kx) k (s,q,(i:Int))=c (Lp.okGo (s.drop i) i)
 |0,i,q,_,h=>absurd h (Zm1 _)
 |k+1,i,q,hi,h=>by
  rw[Au];by_cases a:i<s.length
  ·have en:((i+1:Nat):Int)=(i:Int)+1:=by omega
   simp only[U5,Am a d,(Anu d e f k (i+1) q (by omega) (by omega)),e,Ak a,Abi a,Ao a,chk,Akr,Lp.okGo,Lp.nmOk]
   grind
  ·simp[U5,f];rw[Zd1 (by omega),Zk1 (by omega)];rfl
theorem Am6:FO 118 [.str] [.bool] Adp:=.fin 0 Bj9 λs r hb a=>⟨s.length+1,by simp only[Adp,Za1]at a;subst a;simp only[Anl];refine(Anu (s:=s) (c:=λb=>cond b (cond (decide (1<=(s.length:Int))) (some (decide ((s.length:Int)<=30))) (some false)) (some false)) hb (λ_=>rfl) (λ_ _=>rfl) (s.length+1) 0 false (Nat.zero_le _) (by omega)).trans ?_;rw[Zq1,Acd,Lp.rnameF];show cond (Lp.okGo s 0) _ _=_;cases Lp.okGo s 0<;>cases decide (1<=(s.length:Int))<;>rfl⟩
theorem Ls(s:Str):Acd s=B7 s:=(Lp.name_eq s).symm
def Bp0(R:Type):Px R:=pxO [] [] [] []
def Aj3(x:HV [Yc1]):Ya1 (HV [.str]):=match x with|kind=>cond (decide (kind<0)) (some []) (cond (decide (15<=kind)) (some []) (chk (inb kind 15) (some (at' .str [[],[],[],[],[65,78,68],[79,82],[61],[60,62],[60],[60,61],[62],[62,61],[43],[45],[42]] kind))))
theorem Bmj:FO 164 [Yc1] [.str] (Aj3):=fR (px:=Bp0 _) (n:=0) Tryz.func164 rfl (λ_ H=>⟨lv H Ae Aa Ab,Ai⟩) λ_=>by kernel_rfl
def B3i:Yb1 Str:=[[],[],[],[],[65,78,68],[79,82],[61],[60,62],[60],[60,61],[62],[62,61],[43],[45],[42]]
def Ahr(k:Int):Str:=if k<0\/15<=k then []else at' .str B3i k
def Ayq:FT [Yc1] [.str]:=λx=>some (Ahr x)
theorem Bqv:FO 164 [Yc1] [.str] Ayq:=.fin0 Bmj λ(k:Int) r _ c=>by
 simp only[Ayq,Za1]at c;subst c;simp only[Aj3,Ahr];by_cases a:k<0
 ·rw[Ze1 a,if_pos (.inl a)];rfl
 ·by_cases b : 15<=k
  ·rw[Zd1 a,Ze1 b,if_pos (.inr b)];rfl
  ·rw[Zd1 a,Zd1 b,if_neg (by omega)];obtain⟨j,rfl⟩:∃j:Nat,k=(j:Int):=⟨k.toNat,by omega⟩;rw[Ao (i:=j) (n:=15) (by omega)];rfl
def Brx(R:Type)(rf:FT [Yd1] [Yc1]):Px R:=pxO [(101,cA Al6),(118,cA Adp),(164,cA Ayq),(121,cA rf)] [] [] []
def K4(rf:FT [Yd1] [Yc1])(x:HV [Yd1]):Ya1 (HV [Yc1]):=match x with
 |e=>
 let d:=λ(a:Int)=>
  cond (!decide ((e.l.length:Int)=a)) (
  some 31) (
  cond (!decide (e.v=(Val.mk 0 0 []))) (
   some 31) (
   cond (!decide (e.name=[])) (
   some 31) (
   chk (inb 0 e.l.length) (
    (rf (at' .expr e.l 0)).bind λx=>
    cond (decide (a=2)) (
     chk (inb 1 e.l.length) (
     (rf (at' .expr e.l 1)).bind λf=>some (wr .i64 (1+(max2 x f))))) (
     some (wr .i64 (1+x)))))))
 cond (decide (e.kind=1)) (
  let j:=λ(p1:Bool)=>
  cond (p1) (
   some 31) (
   cond (!decide (e.name=[])) (
   some 31) (
   cond (decide (0<(e.l.length:Int))) (
    some 31) (
    some 1)))
  cond (!decide ((Baj e.v)=0)) (
  j true) (
  cond (decide (e.v.kind=3)) (
   j (decide (e.v.n<0))) (
   j false))) (
  cond (decide (e.kind=2)) (
  cond (!(Acd e.name)) (
   some 31) (
   cond (!decide (e.v=(Val.mk 0 0 []))) (
   some 31) (
   cond (decide (0<(e.l.length:Int))) (
    some 31) (
    some 1)))) (
  let c:=λ(b:Bool)=>
   cond (b) (
   d 1) (
   cond (decide ((Ahr e.kind)=[])) (
    some 31) (
    d 2))
  cond (decide (e.kind=3)) (
   c (decide (e.kind=3))) (
   cond (decide (e.kind=15)) (
   c (decide (e.kind=15))) (
   c (decide (e.kind=16))))))
theorem Bi6(rf:FT [Yd1] [Yc1])(a:FO 121 [Yd1] [Yc1] rf):FO 121 [Yd1] [Yc1] (K4 rf):=fR (px:=Brx _ rf) (n:=0) Tryz.func121 rfl (λ_ H=>⟨lv H (c1 H Bl5 (c1 H Am6 (c1 H Bqv (c1 H a Ae)))) Aa Ab,Ai⟩) λ_=>by kernel_rfl
def hd(q:Yb1 Int)(i:Nat):Int:=q.getD i 0
def A0u(e:Xpr)(q:Yb1 Int):Int:=if e.kind=1 then(if Cn e.v=0/\¬(e.v.kind=3/\e.v.n<0)/\e.name=[]/\¬ 0<(e.l.length:Int)then 1 else 31)else if e.kind=2 then(if B7 e.name=true/\e.v=⟨0,0,[]⟩/\¬ 0<(e.l.length:Int)then 1 else 31)else if e.kind=3\/e.kind=15\/e.kind=16 then(if(e.l.length:Int)=1/\e.v=⟨0,0,[]⟩/\e.name=[]then wr .i64 (1+hd q 0)else 31)else if Ahr e.kind=[]then 31 else if(e.l.length:Int)=2/\e.v=⟨0,0,[]⟩/\e.name=[]then wr .i64 (1+max2 (hd q 0) (hd q 1))else 31
mutual
def Bc:Xpr->Int|.mk k v nm l=>A0u (.mk k v nm l) (rdeepL l)
def rdeepL:Yb1 Xpr->Yb1 Int|[]=>[]|x::l=>Bc x::rdeepL l
end
theorem Amd(e:Xpr):Bc e=A0u e (rdeepL e.l):=by cases e;simp[Bc,Xpr.l]
def Ajv:FT [Yd1] [Yc1]:=λx=>some (Bc x)
theorem Aj5{e:Xpr}{rf:FT [Yd1] [Yc1]}(a:∀x,x∈e.l->rf x=some (Bc x))(p:Int->Ya1 Int):(cond (!decide ((e.l.length:Int)=1)) (some 31) (cond (!decide (e.v=Val.mk 0 0 [])) (some 31) (cond (!decide (e.name=[])) (some 31) (chk (inb 0 e.l.length) ((rf (at' .expr e.l 0)).bind λx=>cond (decide ((1:Int)=2)) (p x) (some (wr .i64 (1+x))))))))=some (if(e.l.length:Int)=1/\e.v=⟨0,0,[]⟩/\e.name=[]then wr .i64 (1+hd (rdeepL e.l) 0)else 31):=by
 by_cases f:(e.l.length:Int)=1
 ·obtain⟨x,hl⟩:∃x,e.l=[x]:=List.length_eq_one_iff.1 (by omega);have b:=a x (by rw[hl];simp);rw[hl];have a0:at' .expr [x] 0=x:=rfl;have i0:inb 0 [x].length=true:=rfl;by_cases c:e.v=⟨0,0,[]⟩
  ·by_cases d:e.name=[]
   ·rw[Ze1 c,Ze1 d,if_pos ⟨rfl,c,d⟩,a0,i0,b];rfl
   ·grind
  ·grind
 ·grind
theorem Ajf{l:Yb1 Xpr}(h:l.length=2):∃x y,l=[x,y]:=by match l,h with|[x,y],_=>exact⟨x,y,rfl⟩
theorem Br9{e:Xpr}{rf:FT [Yd1] [Yc1]}(a:∀x,x∈e.l->rf x=some (Bc x))(p:Int->Ya1 Int):(cond (!decide ((e.l.length:Int)=2)) (some 31) (cond (!decide (e.v=Val.mk 0 0 [])) (some 31) (cond (!decide (e.name=[])) (some 31) (chk (inb 0 e.l.length) ((rf (at' .expr e.l 0)).bind λx=>cond (decide ((2:Int)=2)) (chk (inb 1 e.l.length) ((rf (at' .expr e.l 1)).bind λg=>some (wr .i64 (1+(max2 x g))))) (p x))))))=some (if(e.l.length:Int)=2/\e.v=⟨0,0,[]⟩/\e.name=[]then wr .i64 (1+max2 (hd (rdeepL e.l) 0) (hd (rdeepL e.l) 1))else 31):=by
 by_cases h:(e.l.length:Int)=2
 ·obtain⟨x,y,hl⟩:∃x y,e.l=[x,y]:=Ajf (by omega);have b:=a x (by rw[hl];simp);have c:=a y (by rw[hl];simp);rw[hl];have a0:at' .expr [x,y] 0=x:=rfl;have a1:at' .expr [x,y] 1=y:=rfl;have i0:inb 0 [x,y].length=true:=rfl;have i1:inb 1 [x,y].length=true:=rfl;by_cases d:e.v=⟨0,0,[]⟩
  ·by_cases f:e.name=[]
   ·rw[Ze1 d,Ze1 f,if_pos ⟨rfl,d,f⟩,a0,i0,a1,i1,b,c];rfl
   ·grind
  ·grind
 ·grind
theorem A8d{e:Xpr}{rf:FT [Yd1] [Yc1]}(a:∀x,x∈e.l->rf x=some (Bc x)):K4 rf e=some (Bc e):=by
 have ro:∀v:Val,Baj v=Cn v:=λ_=>rfl;have i:∀s:Str,Acd s=B7 s:=Ls;have j : 0<e.l.length↔¬e.l=[]:=List.length_pos_iff;rw[Amd];simp only[K4,A0u];by_cases f:e.kind=1
 ·grind
 ·by_cases g:e.kind=2
  ·grind
  ·rw[if_neg f,if_neg g,Zd1 f,Zd1 g];by_cases d:e.kind=3
   ·rw[if_pos (.inl d),Ze1 d];exact Aj5 a _
   ·by_cases b:e.kind=15
    ·rw[if_pos (.inr (.inl b)),Zd1 d,Ze1 b];exact Aj5 a _
    ·by_cases c:e.kind=16
     ·rw[if_pos (.inr (.inr c)),Zd1 d,Zd1 b,Ze1 c];exact Aj5 a _
     ·rw[if_neg (by omega),Zd1 d,Zd1 b,Zd1 c];by_cases h:Ahr e.kind=[]
      ·grind
      ·rw[if_neg h,Zd1 h];exact Br9 a _
theorem Avm:∀(n:Nat) (e:Xpr),A1 e<=n->Aj K4 n e=some (Bc e)
 |0,e,h=>by have:=D1 e;omega
 |n+1,e,h=>by rw[Au];refine A8d λx a=>Avm n x ?_;have:=Bi a;rw[Ds]at h;omega
theorem Ao8:FO 121 [Yd1] [Yc1] Ajv:=by refine .fin (ι:=Nat) 0 (F:=λn=>Aj K4 n) (λn=>FnOk.rec' (Sx.enters_of Tryz.func121 rfl rfl) (λrf a=>Bi6 rf a) n) λe r hb b=>⟨A1 e,?_⟩;exact(Avm (A1 e) e (Zn1 _)).trans b
def Bqt(R:Type):Px R:=pxO [(121,cA Ajv)] [] [] []
def Y0(x:HV [Yd1]):Ya1 (HV [Yc1]):=match x with|e=>cond (decide (30<(Bc e))) (some 2) (some 0)
theorem Bms:FO 98 [Yd1] [Yc1] (Y0):=fR (px:=Bqt _) (n:=0) Tryz.func98 rfl (λ_ H=>⟨lv H (c1 H Ao8 Ae) Aa Ab,Ai⟩) λ_=>by kernel_rfl
def Xf(e:Xpr):Int:=cond (decide (30<(Bc e))) (2) (0)
theorem Bm1(x:HV [Yd1]):Y0 x=some (Xf x):=by
 first
  |exact rfl
  |simp only[Y0,Xf,Aw]
def Bdx:FT [Yd1] [Yc1]:=λx=>some (Xf x)
theorem Bo0:FO 98 [Yd1] [Yc1] Bdx:=.fin0 Bms λx _ _ a=>(Bm1 x).trans a
theorem Pw:∀(n:Nat) (e:Xpr),A1 e<=n->n<1000000->1<=Bc e/\Bc e<=31+(n:Int)
 |0,e,h,_=>by have:=D1 e;omega
 |n+1,e,h,hn=>by
  have one:(e.l.length:Int)=1->1<=wr .i64 (1+hd (rdeepL e.l) 0)/\wr .i64 (1+hd (rdeepL e.l) 0)<=31+((n+1:Nat):Int):=λb=>by
   obtain⟨x,hx⟩:∃x,e.l=[x]:=List.length_eq_one_iff.1 (by omega);have hb:=Pw n x (by rw[Ds,hx]at h;simp[esizes]at h;omega) (by omega);have a:hd (rdeepL e.l) 0=Bc x:=by rw[hx];rfl
   rw[a,Be (by simp[inI];omega)];omega
  have two:(e.l.length:Int)=2->1<=wr .i64 (1+max2 (hd (rdeepL e.l) 0) (hd (rdeepL e.l) 1))/\wr .i64 (1+max2 (hd (rdeepL e.l) 0) (hd (rdeepL e.l) 1))<=31+((n+1:Nat):Int):=λb=>by
   obtain⟨x,y,hx⟩:∃x y,e.l=[x,y]:=Ajf (by omega);have hb:=Pw n x (by rw[Ds,hx]at h;simp[esizes]at h;omega) (by omega);have hc:=Pw n y (by rw[Ds,hx]at h;simp[esizes]at h;omega) (by omega);have a:hd (rdeepL e.l) 0=Bc x:=by rw[hx];rfl
   have c:hd (rdeepL e.l) 1=Bc y:=by rw[hx];rfl
   have hm:max2 (Bc x) (Bc y)=Bc x\/max2 (Bc x) (Bc y)=Bc y:=by simp only[max2];split<;>simp
   rw[a,c];rcases hm with hm|hm<;>rw[hm,Be (by simp[inI];omega)]<;>omega
  rw[Amd];simp[A0u];split
  ·split<;>omega
  ·grind
theorem Bhp(h : 4<=k/\k<=14):¬Ahr k=[]:=by rcases(by omega:k=4\/k=5\/k=6\/k=7\/k=8\/k=9\/k=10\/k=11\/k=12\/k=13\/k=14)with rfl|rfl|rfl|rfl|rfl|rfl|rfl|rfl|rfl|rfl|rfl<;>decide
theorem Bsp(b:¬(4<=k/\k<=14)):Ahr k=[]:=by
 by_cases a:k<0\/15<=k
 ·rw[Ahr,if_pos a]
 ·rcases(by omega:k=0\/k=1\/k=2\/k=3)with rfl|rfl|rfl|rfl<;>decide
theorem Bne(h:parts k = -1):¬(1<=k/\k<=16):=λa=>by rcases(by omega:k=1\/k=2\/k=3\/k=4\/k=5\/k=6\/k=7\/k=8\/k=9\/k=10\/k=11\/k=12\/k=13\/k=14\/k=15\/k=16)with rfl|rfl|rfl|rfl|rfl|rfl|rfl|rfl|rfl|rfl|rfl|rfl|rfl|rfl|rfl|rfl<;>exact absurd h (by decide)
theorem Gz:∀(n:Nat) (e:Xpr) (m:Nat),A1 e<=n->n<1000000->m<=30->(Ba e (m:Int)=true↔Bc e<=(m:Int))
 |0,e,_,h,_,_=>by have:=D1 e;omega
 |n+1,e,m,h,hn,hm=>by
  have hb:=Pw (n+1) e h hn;rw[Ae3];by_cases j:m=0
  ·subst j;constructor
   ·intro b;rw[Ze1 (show((0:Nat):Int)=0 from rfl)]at b;cases b
   ·intro b;omega
  ·have hw:wr .i64 ((m:Int)-1)=((m-1:Nat):Int):=by rw[Be (by simp[inI];omega)];omega
   have z:(1:Int)<=(m:Int):=by omega
   have a:¬(31:Int)<=(m:Int):=by omega
   rw[hw,Zd1 (show ¬(m:Int)=0 by omega),Amd];rcases X6 e.kind with ⟨p,i⟩|⟨p,i⟩|⟨p,i⟩|p
   ·rw[p];have hz:decide ((e.l.length:Int)=0)=decide (e.l=[]):=Zy1.2 ⟨λh=>List.eq_nil_of_length_eq_zero (by omega),λh=>by rw[h];rfl⟩;have hy : 0<e.l.length↔¬e.l=[]:=List.length_pos_iff;rw[hz];rcases i with d|f
    ·simp only[A0u,eok,d];by_cases c:e.l=[]<;>by_cases a1:Cn e.v=0<;>by_cases o:e.v.kind=3<;>by_cases a3:e.v.n<0<;>by_cases a4:e.name=[]<;>simp[c,a1,o,a3,a4,z,a,erights]
    ·simp[A0u,eok,f];by_cases c:e.l=[]<;>by_cases a1:B7 e.name=true<;>by_cases o:e.v=⟨0,0,[]⟩<;>simp[c,a1,o,z,a,erights]
   ·have d:¬e.kind=1:=by omega
    have f:¬e.kind=2:=by omega
    rw[p];simp only[A0u,eok,if_neg d,if_neg f,if_pos i,Zd1 d,Zd1 f];by_cases c:(e.l.length:Int)=1
    ·obtain⟨x,b⟩:∃x,e.l=[x]:=List.length_eq_one_iff.1 (by omega);have k:A1 x<=n:=by rw[Ds,b]at h;simp[esizes]at h;omega
     have q:=Pw n x k (by omega);have r:Ba x ((m-1:Nat):Int)=true↔1+Bc x<=(m:Int):=(Gz n x (m-1) k (by omega) (by omega)).trans (by omega);have s:erights e.l ((m-1:Nat):Int)=Ba x ((m-1:Nat):Int):=by rw[b];simp[erights]
     have j:hd (rdeepL e.l) 0=Bc x:=by rw[b];rfl
     have g:wr .i64 (1+Bc x)=1+Bc x:=Be (by simp[inI];omega);rw[s,j,g,Ze1 c];by_cases t:e.v=⟨0,0,[]⟩<;>by_cases u:e.name=[]<;>simp[c,t,u,r,a]
    ·rw[Zd1 c];simp[c,a]
   ·have d:¬e.kind=1:=by omega
    have f:¬e.kind=2:=by omega
    have k3:¬(e.kind=3\/e.kind=15\/e.kind=16):=by omega
    rw[p];simp only[A0u,eok,if_neg d,if_neg f,if_neg k3,if_neg (Bhp i),Zd1 d,Zd1 f];by_cases c:(e.l.length:Int)=2
    ·obtain⟨x,y,b⟩:∃x y,e.l=[x,y]:=Ajf (by omega);have k:A1 x<=n:=by rw[Ds,b]at h;simp[esizes]at h;omega
     have ht:A1 y<=n:=by rw[Ds,b]at h;simp[esizes]at h;omega
     have q:=Pw n x k (by omega);have a5:=Pw n y ht (by omega);have r:Ba x ((m-1:Nat):Int)=true↔1+Bc x<=(m:Int):=(Gz n x (m-1) k (by omega) (by omega)).trans (by omega);have jh:Ba y ((m-1:Nat):Int)=true↔1+Bc y<=(m:Int):=(Gz n y (m-1) ht (by omega) (by omega)).trans (by omega);have s:erights e.l ((m-1:Nat):Int)=(Ba x ((m-1:Nat):Int)&&Ba y ((m-1:Nat):Int)):=by rw[b];simp[erights]
     have j:hd (rdeepL e.l) 0=Bc x:=by rw[b];rfl
     have h1:hd (rdeepL e.l) 1=Bc y:=by rw[b];rfl
     have g:wr .i64 (1+max2 (Bc x) (Bc y))=1+max2 (Bc x) (Bc y):=Be (by simp[inI,max2];split<;>omega)
     have w : 1+max2 (Bc x) (Bc y)<=(m:Int)↔(1+Bc x<=(m:Int)/\1+Bc y<=(m:Int)):=by simp[max2];split<;>omega
     rw[s,j,h1,g,Ze1 c];by_cases t:e.v=⟨0,0,[]⟩<;>by_cases u:e.name=[]<;>simp[c,t,u,r,jh,w,a]
    ·rw[Zd1 c];simp[c,a]
   ·have i:=Bne p;rw[p,Zd1 (show ¬(e.l.length:Int) = -1 by omega)];simp only[A0u,if_neg (show ¬e.kind=1 by omega),if_neg (show ¬e.kind=2 by omega),if_neg (show ¬(e.kind=3\/e.kind=15\/e.kind=16) by omega),if_pos (Bsp (show ¬(4<=e.kind/\e.kind<=14) by omega))];simp[a]
def Bpq(R:Type):Px R:=pxO [] [] [] []
def X8(x:HV [Yc1]):Ya1 (HV [Yc1,Yc1]):=match x with
 |kind=>
 let a:=λ(p1:Bool)=>
  cond (p1) (
  some (2,2)) (
  let j:=λ(p3:Bool)=>
   cond (p3) (
   some (0,2)) (
   cond (decide (12<=kind)) (
    cond (decide (kind<=15)) (
    some (3,3)) (
    some (0,2))) (
    some (0,2)))
  cond (decide (6<=kind)) (
   j (decide (kind<=11))) (
   j false))
 cond (decide (3<=kind)) (
  a (decide (kind<=5))) (
  a false)
theorem Bhc:FO 141 [Yc1] [Yc1,Yc1] (X8):=fR (px:=Bpq _) (n:=0) Tryz.func141 rfl (λ_ H=>⟨lv H Ae Aa Ab,Ai⟩) λ_=>by kernel_rfl
def B4(kind:Int):Int×Int:=
 let a:=λ(p1:Bool)=>
  cond (p1) (
  (2,2)) (
  let j:=λ(p3:Bool)=>
   cond (p3) (
   (0,2)) (
   cond (decide (12<=kind)) (
    cond (decide (kind<=15)) (
    (3,3)) (
    (0,2))) (
    (0,2)))
  cond (decide (6<=kind)) (
   j (decide (kind<=11))) (
   j false))
 cond (decide (3<=kind)) (
  a (decide (kind<=5))) (
  a false)
theorem Bjl(x:HV [Yc1]):X8 x=some (B4 x):=by
 first
  |exact rfl
  |simp only[X8,B4,Aw]
def Bel:FT [Yc1] [Yc1,Yc1]:=λx=>some (B4 x)
theorem Bt4:FO 141 [Yc1] [Yc1,Yc1] Bel:=.fin0 Bhc λx _ _ a=>(Bjl x).trans a
def Ao1:Sig:=⟨117,[(1,.sl .col false),(4,.int .i64),(5,.int .i64),(6,.int .i64)],[(2,.ptr 0 0)],[(0,.one (.sv .expr))],1,0,0,[],[]⟩
abbrev Nw:=Yb1 Col×Int×Int×Int×Xpr
def Ln{R:Type}(a:Nw->Ya1 R)(kx:Ex->Nw->Ya1 R)(v:Nw):Ya1 R:=match v with|(v,v1,v2,v3,w)=>cond (decide (v3<(v.length:Int))) (cond (decide (w.kind=2)) (chk (inb v3 v.length) (cond (decide (((at' .col v v3).name)=w.name)) (chk (inb v3 v.length) (kx .ret (v,(at' .col v v3).kind,0,v3,w))) (a (v,v1,v2,(wr .i64 (v3+1)),w)))) (kx (.exit 0) (v,v1,v2,v3,w))) (kx (.exit 0) (v,v1,v2,v3,w))
def A7q(R:Type)(k:Nat)(rf:FT [Yd1,Yk1] [Yc1,Yc1]):Px R:=pxO [(99,cA rf),(141,cA Bel)] [] [(4,An k Ao1 (Ln))] []
def K6(k:Nat)(rf:FT [Yd1,Yk1] [Yc1,Yc1])(x:HV [Yd1,Yk1]):Ya1 (HV [Yc1,Yc1]):=match x with
 |(e,cols)=>
 cond (decide (e.kind=1)) (
  some (e.v.kind,0)) (
  Aj (λa=>Ln a (λe g=>match g with|(v4,v5,v6,_,v8)=>match e with
  |.ret=>some (v5,v6)
  |.exit 0=>
   cond (decide (v8.kind=2)) (
   some (0,150)) (
   chk (inb 0 v8.l.length) (
    (rf ((at' .expr v8.l 0),v4)).bind λ(x,b)=>
    cond (!decide (b=0)) (
     some (0,b)) (
     let c:Int->Ya1 (HV [Yc1,Yc1]):=λ(p2:Int)=>
     let d:Unit->Ya1 (HV [Yc1,Yc1]):=λ(_:Unit)=>
      let j:Bool->Ya1 (HV [Yc1,Yc1]):=λ(h:Bool)=>
      cond (h) (
       cond (decide (p2=(B4 v8.kind).1)) (
       some ((B4 v8.kind).2,0)) (
       cond (decide (p2=1)) (
        some ((B4 v8.kind).2,0)) (
        some (0,151)))) (
       some (0,151))
      cond (decide (0<(B4 v8.kind).1)) (
      cond (decide (x=(B4 v8.kind).1)) (
       j true) (
       j (decide (x=1)))) (
      j false)
     cond (decide ((B4 v8.kind).1=0)) (
      cond (decide (x=p2)) (
      some ((B4 v8.kind).2,0)) (
      cond (decide (x=1)) (
       some ((B4 v8.kind).2,0)) (
       cond (decide (p2=1)) (
       some ((B4 v8.kind).2,0)) (
       d ())))) (
      d ())
     cond (decide ((v8.l.length:Int)=2)) (
     chk (inb 1 v8.l.length) (
      (rf ((at' .expr v8.l 1),v4)).bind λ(i,f)=>
      cond (!decide (f=0)) (
       some (0,f)) (
       c i))) (
     c x))))
  |_=>none)) k (cols,0,0,0,e))
theorem Bln(k:Nat)(rf:FT [Yd1,Yk1] [Yc1,Yc1])(c:FO 99 [Yd1,Yk1] [Yc1,Yc1] rf):FO 99 [Yd1,Yk1] [Yc1,Yc1] (K6 k rf):=fR (px:=A7q _ k rf) (n:=1) Tryz.func99 rfl (λcx H=>by have d:Lv cx (A7q (HV [Yc1,Yc1]) k rf):=lv H (c1 H c (c1 H Bt4 Ae)) Aa Ab;have a:=lO H d (b:=lp Tryz.f99 0) (k:=k) (n:=0) (s:=Ao1) (step:=Ln) (λ_ _ _ (_,_,_,_,_)=>by kernel_rfl) Ai;exact⟨d,(A4 Ai a)⟩) λ(_,_)=>by kernel_rfl
mutual
def wfx:Xpr->Bool|.mk k _ _ l=>decide ((l.length:Int)=parts k)&&wfl l
def wfl:Yb1 Xpr->Bool|[]=>true|x::l=>wfx x&&wfl l
end
theorem A8z(e:Xpr):wfx e=(decide ((e.l.length:Int)=parts e.kind)&&wfl e.l):=by cases e;simp[ Xpr.l];rfl
theorem Bdc:∀{l:Yb1 Xpr}{x:Xpr},wfl l=true->x∈l->wfx x=true
 |y::l,x,h,a=>by
  simp[wfl]at h;rcases List.mem_cons.1 a with rfl|a
  ·exact h.1
  ·exact Bdc h.2 a
def A37(e:Xpr)(cols:Yb1 Col):Ya1 (Int×Int):=cond (wfx e) (some (Bd e cols)) none
def Ayf:FT [Yd1,Yk1] [Yc1,Yc1]:=λx=>A37 x.1 x.2
theorem Bxo(h : 3<=k/\k<=5):B4 k=(2,2):=by rcases(by omega:k=3\/k=4\/k=5)with rfl|rfl|rfl<;>rfl
theorem B0x(h : 6<=k/\k<=11):B4 k=(0,2):=by rcases(by omega:k=6\/k=7\/k=8\/k=9\/k=10\/k=11)with rfl|rfl|rfl|rfl|rfl|rfl<;>rfl
theorem B0y(h : 12<=k/\k<=15):B4 k=(3,3):=by rcases(by omega:k=12\/k=13\/k=14\/k=15)with rfl|rfl|rfl|rfl<;>rfl
theorem Bd6{e:Xpr}{b:Int}(h : 3<=e.kind/\e.kind<=16)(g:e.kind=16->a=b):(cond (decide ((B4 e.kind).1=0)) (cond (decide (a=b)) (some ((B4 e.kind).2,0)) (cond (decide (a=1)) (some ((B4 e.kind).2,0)) (cond (decide (b=1)) (some ((B4 e.kind).2,0)) (cond (decide (0<(B4 e.kind).1)) (cond (decide (a=(B4 e.kind).1)) (cond true (cond (decide (b=(B4 e.kind).1)) (some ((B4 e.kind).2,0)) (cond (decide (b=1)) (some ((B4 e.kind).2,0)) (some (0,151)))) (some (0,151))) (cond (decide (a=1)) (cond (decide (b=(B4 e.kind).1)) (some ((B4 e.kind).2,0)) (cond (decide (b=1)) (some ((B4 e.kind).2,0)) (some (0,151)))) (some (0,151)))) (cond false (cond (decide (b=(B4 e.kind).1)) (some ((B4 e.kind).2,0)) (cond (decide (b=1)) (some ((B4 e.kind).2,0)) (some (0,151)))) (some (0,151))))))) (cond (decide (0<(B4 e.kind).1)) (cond (decide (a=(B4 e.kind).1)) (cond true (cond (decide (b=(B4 e.kind).1)) (some ((B4 e.kind).2,0)) (cond (decide (b=1)) (some ((B4 e.kind).2,0)) (some (0,151)))) (some (0,151))) (cond (decide (a=1)) (cond (decide (b=(B4 e.kind).1)) (some ((B4 e.kind).2,0)) (cond (decide (b=1)) (some ((B4 e.kind).2,0)) (some (0,151)))) (some (0,151)))) (cond false (cond (decide (b=(B4 e.kind).1)) (some ((B4 e.kind).2,0)) (cond (decide (b=1)) (some ((B4 e.kind).2,0)) (some (0,151)))) (some (0,151)))):Ya1 (Int×Int))=some (Jo e cols a b):=by
 have j:¬e.kind=1:=by omega
 have k:¬e.kind=2:=by omega
 simp[Jo,if_neg j,if_neg k];by_cases c1:e.kind<=5
 ·rw[Bxo ⟨h.1,c1⟩,if_neg (by omega),if_pos (by omega)];by_cases d:a=2<;>by_cases a1:a=1<;>by_cases i:b=2<;>by_cases f:b=1<;>simp[Jk,a1,d,f,i]
 ·by_cases c2:e.kind<=11
  ·rw[B0x ⟨by omega,c2⟩,if_neg (by omega),if_neg (by omega),if_neg (by omega)];by_cases d:a=b<;>by_cases a1:a=1<;>by_cases f:b=1<;>simp[a1,d,f]
  ·by_cases c3:e.kind<=15
   ·rw[B0y ⟨by omega,c3⟩,if_neg (by omega),if_neg (by omega),if_pos (by omega)];by_cases d:a=3<;>by_cases a1:a=1<;>by_cases i:b=3<;>by_cases f:b=1<;>simp[Jk,a1,d,f,i]
   ·have c:e.kind=16:=by omega
    rw[if_pos c,c,g c];have l:B4 16=(0,2):=rfl;rw[l,Ze1 (rfl:b=b)];rfl
theorem Anv{R:Type}{kx:Ex->Nw->Ya1 R}{cols:Yb1 Col}{e:Xpr}{a:Int->Ya1 R}{b:Ya1 R}(m:ln cols.length)(n:e.kind=2)(o:∀q j,kx .ret (cols,q,0,j,e)=a q)(p:∀q r j,kx (.exit 0) (cols,q,r,j,e)=b):∀(k i:Nat) q r,i<=cols.length->cols.length-i<k->Aj (λg=>Ln g kx) k (cols,q,r,(i:Int),e)=if Bu (cols.drop i) e.name i<0 then b else a (at' .col cols (Bu (cols.drop i) e.name i)).kind
 |0,i,q,r,_,h=>by omega
 |k+1,i,q,r,hi,h=>by
  rw[Au];by_cases d:i<cols.length
  ·simp only[Ln,Ao d,Al (c:=.col) d,Am d m,o,(Anv m n o p k (i+1) q r (by omega) (by omega)),Ak d];rw[Ze1 (show(i:Int)<(cols.length:Int) by omega),Ze1 n];by_cases hc:cols[i].name=e.name
   ·have f:∀l,Bu (cols[i]::l) e.name i=(i:Int):=λl=>by simp only[Bu];rw[if_pos hc]
    rw[f,Ze1 hc,if_neg (show ¬(i:Int)<0 by omega),Al (c:=.col) d];rfl
   ·have f:∀l,Bu (cols[i]::l) e.name i=Bu l e.name (i+1):=λl=>by simp only[Bu];rw[if_neg hc]
    rw[f,Zd1 hc];rfl
  ·have f:Bu [] e.name i = -1:=rfl;simp only[Ln,p];rw[Zd1 (by omega),Zk1 (by omega),f,if_pos (by omega)];rfl
theorem Bqa{kx:Ex->Nw->Ya1 R}{e:Xpr}{b:Ya1 R}(h:¬e.kind=2)(c:kx (.exit 0) (cols,0,0,0,e)=b)(k:Nat):Aj (λa=>Ln a kx) (k+1) (cols,0,0,0,e)=b:=by rw[Au];simp only[Ln,c,Zd1 h];cases decide ((0:Int)<(cols.length:Int))<;>rfl
theorem A88(k:Nat){e:Xpr}{rf:FT [Yd1,Yk1] [Yc1,Yc1]}(z:ln cols.length)(hk:cols.length<k)(u:wfx e=true)(i:∀x,x∈e.l->rf (x,cols)=some (Bd x cols)):K6 k rf (e,cols)=some (Bd e cols):=by
 rw[A8z,Zb1,Zg1]at u;have v:=u.1;obtain⟨k,rfl⟩:∃j,k=j+1:=⟨k-1,by omega⟩;simp only[K6];by_cases o:e.kind=1
 ·have d:e.l=[]:=List.eq_nil_of_length_eq_zero (by rw[o]at v;have:parts 1=0:=rfl;omega);rw[Ze1 o,K3,d];simp[kindL,Aay,Jo,if_pos o]
 ·rw[Zd1 o,Ag];by_cases n:e.kind=2
  ·have d:e.l=[]:=List.eq_nil_of_length_eq_zero (by rw[n]at v;have:parts 2=0:=rfl;omega);refine(Anv (a:=λq=>some (q,0)) (b:=some (0,150)) z n (λ_ _=>rfl) (λq r j=>?_) (k+1) 0 0 0 (Nat.zero_le _) (by omega)).trans ?_
   ·show cond (decide (e.kind=2)) _ _=_;rw[Ze1 n];rfl
   ·rw[K3,d];simp[kindL,Aay,Jo,if_neg o,if_pos n];show(if B3 cols e.name<0 then some (0,150)else some ((at' .col cols (B3 cols e.name)).kind,0))=_;by_cases c:B3 cols e.name<0
    ·rw[if_pos c,if_pos c]
    ·rw[if_neg c,if_neg c]
  ·refine Bqa n ?_ k;show cond (decide (e.kind=2)) _ _=_;rw[Zd1 n];rcases X6 e.kind with ⟨s,h⟩|⟨s,h⟩|⟨s,h⟩|s
   ·omega
   ·obtain⟨x,d⟩:∃x,e.l=[x]:=List.length_eq_one_iff.1 (by omega);have m:=i x (by rw[d];simp);have a0:at' .expr [x] 0=x:=rfl;have i0:inb 0 [x].length=true:=rfl;rw[K3,d,a0,i0,m];simp only[kindL,Aay];cases Bd x cols with
    |mk a f=>
     show cond (!decide (f=0)) _ _=_;by_cases c:f=0
     ·rw[Ze1 c,if_pos c];show cond (decide ((([x]:Yb1 Xpr).length:Int)=2)) _ _=_;rw[show decide ((([x]:Yb1 Xpr).length:Int)=2)=false from rfl];have w:=Bd6 (e:=e) (cols:=cols) (a:=a) (b:=a) (by omega) (λ_=>rfl);rw[Ze1 (rfl:a=a)]at w;rw[@Ze1 True _ trivial];exact w
     ·rw[Zd1 c,if_neg c];rfl
   ·obtain⟨x,y,d⟩:∃x y,e.l=[x,y]:=Ajf (by omega);have m:=i x (by rw[d];simp);have t:=i y (by rw[d];simp);have a0:at' .expr [x,y] 0=x:=rfl;have i0:inb 0 [x,y].length=true:=rfl;have a1:at' .expr [x,y] 1=y:=rfl;have i1:inb 1 [x,y].length=true:=rfl;rw[K3,d,a0,i0,m,a1,i1,t];simp only[kindL,Aay];cases Bd x cols with
    |mk a f=>
     show cond (!decide (f=0)) _ _=_;by_cases c:f=0
     ·rw[Ze1 c,if_pos c];cases Bd y cols with
      |mk b g=>
       show cond (!decide (g=0)) _ _=_;by_cases p:g=0
       ·rw[Ze1 p,if_pos p];exact Bd6 (e:=e) (by omega) (λ_=>by omega)
       ·rw[Zd1 p,if_neg p];rfl
     ·rw[Zd1 c,if_neg c];rfl
   ·omega
theorem Awf(k:Nat):∀(n:Nat) (e:Xpr) (cols:Yb1 Col),ln cols.length->cols.length<k->wfx e=true->A1 e<=n->Aj (K6 k) n (e,cols)=some (Bd e cols)
 |0,e,_,_,_,_,h=>by have:=D1 e;omega
 |n+1,e,cols,hn,hk,hw,h=>by
  rw[Au];refine A88 k hn hk hw λx a=>Awf k n x cols hn hk ?_ ?_
  ·rw[A8z,Zb1]at hw;exact Bdc hw.2 a
  ·have:=Bi a;rw[Ds]at h;omega
theorem Bo3:FO 99 [Yd1,Yk1] [Yc1,Yc1] Ayf:=by refine .fin (ι:=Nat×Nat) (0,0) (F:=λn=>Aj (K6 n.1) n.2) (λn=>FnOk.rec' (Sx.enters_of Tryz.func99 rfl rfl) (λrf b=>Bln n.1 rf b) n.2) λ(e,cols) r hb a=>⟨(cols.length+1,A1 e),?_⟩;simp only[Ayf,A37]at a;cases c:wfx e with|false=>rw[c]at a;cases a|true=>rw[c]at a;exact(Awf (cols.length+1) (A1 e) e cols hb.2.1 (by omega) c (Zn1 _)).trans a
theorem Bbd{v:Val}(h:Aq v=true) : 1<=v.kind:=by
 by_cases a:v.kind=1
 ·omega
 by_cases b:v.kind=2
 ·omega
 by_cases c:v.kind=3
 ·omega
 by_cases d:v.kind=4
 ·omega
 by_cases e:v.kind=5
 ·omega
 simp[Aq,a,b,c,d,e]at h
theorem Am8{l:Yb1 Col}{s:Str}(h:¬B3 l s<0):∃i:Nat,∃hi:i<l.length,B3 l s=(i:Int)/\at' .col l (B3 l s)=l[i]:=by
 rcases Z3 l s with a|⟨a,b⟩
 ·omega
 ·obtain⟨i,hi⟩:∃i:Nat,B3 l s=(i:Int):=⟨(B3 l s).toNat,by omega⟩;refine⟨i,by omega,hi,?_⟩;rw[hi];exact Al (c:=.col) (by omega)
theorem An2{e:Xpr}{b:Int}(hv:e.kind=1->1<=e.v.kind)(hc:cols.all H8=true)(h:(Jo e cols a b).2=0) : 1<=(Jo e cols a b).1:=by
 simp[Jo]at h ⊢;split
 ·rename_i c;exact hv c
 split
 ·split
  ·grind
  ·rename_i d;obtain⟨i,hi,_,f⟩:=Am8 d;have g:=Zg2.1 hc _ (List.getElem_mem hi);simp[H8,Zb1]at g;simp[f];omega
 grind
theorem Bjc{e:Xpr}(j:Ew e=0)(hc:cols.all H8=true)(h:(Bd e cols).2=0) : 1<=(Bd e cols).1:=by
 obtain⟨_,i,_⟩:=P1 (Wm.1 j);have hv:e.kind=1->1<=e.v.kind:=λk=>by simp[eok,k,Zb1]at i;exact Bbd (Km.1 i.1.1)
 rw[K3]at h ⊢;match c:kindL e.l cols with
 |[]=>rw[c]at h;exact An2 hv hc h
 |[(a,f)]=>
  rw[c]at h;simp[Aay]at h ⊢;by_cases d:f=0
  ·rw[if_pos d]at h ⊢;exact An2 hv hc h
  ·grind
 |(a,f)::(b,g)::t=>
  rw[c]at h;simp[Aay]at h ⊢;by_cases d:f=0
  ·rw[if_pos d]at h ⊢;by_cases m:g=0
   ·rw[if_pos m]at h ⊢;exact An2 hv hc h
   ·grind
  ·grind
theorem Bky{e:Xpr}(hc:cols.all H8=true)(h:(Em e cols).2=0) : 1<=(Em e cols).1:=by
 simp[Em]at h ⊢;by_cases a:Ew e=0
 ·simp[a,Ag]at h ⊢;exact Bjc a hc h
 ·simp[a]at h
theorem Bvg{e:Xpr}(hc:cols.all H8=true):A7f cols e=cond (decide ((Em e cols).2=0)) (cond (decide (2<(Em e cols).1)) 151 0) (Em e cols).2:=by
 simp[A7f];by_cases h:(Em e cols).2=0
 ·have:=Bky hc h
  grind
 ·simp[h]
def Ari(t:Tbl):Ya1 Str->Yb1 Idx->Bool|_,[]=>true|none,x::l=>Jf t x&&Ari t (some x.name) l|some p,x::l=>Jf t x&&(ltN p x.name&&Ari t (some x.name) l)
theorem Ath{t:Tbl}:∀(l:Yb1 Idx) (p:Str),Ari t (some p) l=(l.all (Jf t)&&(l.all (λy=>ltN p y.name)&&A6 l))
 |[],_=>rfl
 |x::l,p=>by
  rw[Bool.eq_iff_iff];simp[Ari,Ath l,A6,Zg2];constructor
  ·rintro⟨c,a,d,b,e⟩;exact⟨⟨c,d⟩,⟨a,λy f=>A95 a (b y f)⟩,b,e⟩
  ·grind
theorem Bm2(l:Yb1 Idx):Ari t none l=(A6 l&&l.all (Jf t)):=by
 cases l with
 |nil=>rfl
 |cons x l=>
  rw[Bool.eq_iff_iff];simp[Ari,Ath l,A6,Zg2];constructor
  ·grind
  ·grind
theorem A6y:∀a b:Str,Op.bytesLess a b=decide (Dc a b = -1)
 |[],[]=>rfl
 |[],_::_=>rfl
 |_::_,[]=>rfl
 |a::x,b::y=>by
  have c:=A6y x y;simp only[Op.bytesLess,Dc,Lib.compareBytes]at c ⊢
  grind
theorem B08(a b:Str):Op.bytesLess a b=ltN a b:=by rw[A6y];exact Zy1.2 (by rcases scmp_lin.rng a b with h|h|h<;>omega)
def Bg(cols:Yb1 Col)(row:Yb1 Val):Yb1 Str->Yb1 Val->Yb1 Val×Int|[],acc=>(acc,0)|s::l,acc=>cond (decide (B3 cols s<0)) ([],150) (Bg cols row l (acc++[at' .val row (B3 cols s)]))
def Bxq(R:Type):Px R:=pxO [] [] [] []
def Ad7(x:HV [Yi1,Yi1]):Ya1 (HV [Yc1]):=match x with
 |(a,b)=>
 let j:=λ(p1:Bool)=>
  cond (p1) (
  some (-1)) (
  cond (decide (a.kind=b.kind)) (
   cond (decide (a.n=b.n)) (
   cond (Op.bytesLess a.s b.s) (
    some (-1)) (
    cond (decide (a=b)) (
    some 0) (
    some 1))) (
   cond (decide (a=b)) (
    some 0) (
    some 1))) (
   cond (decide (a=b)) (
   some 0) (
   some 1)))
 cond (decide (a.kind<b.kind)) (
  j true) (
  cond (decide (a.kind=b.kind)) (
  j (decide (a.n<b.n))) (
  j false))
theorem Bvp:FO 41 [Yi1,Yi1] [Yc1] (Ad7):=fR (px:=Bxq _) (n:=0) Tryz.func41 rfl (λ_ H=>⟨lv H Ae Aa Ab,Ai⟩) λ(_,_)=>by kernel_rfl
def A9q(a:Val)(b:Val):Int:=
 let j:=λ(p1:Bool)=>
  cond (p1) (
  (-1)) (
  cond (decide (a.kind=b.kind)) (
   cond (decide (a.n=b.n)) (
   cond (Op.bytesLess a.s b.s) (
    (-1)) (
    cond (decide (a=b)) (
    0) (
    1))) (
   cond (decide (a=b)) (
    0) (
    1))) (
   cond (decide (a=b)) (
   0) (
   1)))
 cond (decide (a.kind<b.kind)) (
  j true) (
  cond (decide (a.kind=b.kind)) (
  j (decide (a.n<b.n))) (
  j false))
theorem Bvb(x:HV [Yi1,Yi1]):Ad7 x=some (A9q x.1 x.2):=by
 first
  |exact rfl
  |simp only[Ad7,A9q,Aw]
def Brg:FT [Yi1,Yi1] [Yc1]:=λx=>some (A9q x.1 x.2)
theorem Byh:FO 41 [Yi1,Yi1] [Yc1] Brg:=.fin0 Bvp λx _ _ a=>(Bvb x).trans a
theorem Awz:∀a b:Str,Op.bytesLess a b=decide (Dc a b = -1)
 |[],[]=>rfl
 |[],_::_=>rfl
 |_::_,[]=>rfl
 |a::x,b::y=>by
  have f:=Awz x y;simp only[Op.bytesLess,Dc,Lib.compareBytes]at f ⊢;by_cases c:a<b
  ·simp[c]
  ·by_cases d:b<a
   ·have e:¬a=b:=λh=>by subst h;exact c d
    simp[c,d,e]
   ·have e:a=b:=UInt8.le_antisymm (UInt8.not_lt.1 d) (UInt8.not_lt.1 c);simp[e,f];exact Zy1.2 Iff.rfl
theorem Afr:∀a b:Str,Dc a b=0↔a=b
 |[],[]=>by simp[Dc,Lib.compareBytes]
 |[],_::_=>by simp[Dc,Lib.compareBytes]
 |_::_,[]=>by simp[Dc,Lib.compareBytes]
 |a::x,b::y=>by
  have f:=Afr x y;simp only[Dc,Lib.compareBytes]at f ⊢;by_cases c:a<b
  ·have d:¬a=b:=λh=>by subst h;exact UInt8.lt_irrefl _ c
   simp[c,d]
  ·by_cases e:b<a
   ·have d:¬a=b:=λh=>by subst h;exact c e
    simp[c,e,d]
   ·have d:a=b:=UInt8.le_antisymm (UInt8.not_lt.1 e) (UInt8.not_lt.1 c);simp[d,f]
theorem Bin:∀a b:Val,A9q a b=Gs a b
 |⟨k,n,s⟩,⟨k',n',s'⟩=>by
  simp only[A9q,Gs,Dz,Gj,Awz];by_cases d:k<k'
  ·simp[d]
  ·by_cases i:k'<k
   ·have j:¬k=k':=by omega
    simp[d,i,j]
   ·obtain rfl:k=k':=by omega
    by_cases f:n<n'
    ·simp[f]
    ·by_cases l:n'<n
     ·have m:¬n=n':=by omega
      simp[f,l,m]
     ·obtain rfl:n=n':=by omega
      have g:=Afr s s';rcases Yc s s' with h|h|h
      ·simp[h]
      ·have c:s=s':=g.1 h;subst c;simp[h]
      ·have c:¬s=s':=λe=>by rw[g.2 e]at h;cases h
       simp[h,c]
theorem Ahw:∀(l:Yb1 Xpr) (m:Int),(∀x,x∈l->∀m,Ba x m=true->wfx x=true)->erights l m=true->wfl l=true
 |[],_,_,_=>rfl
 |x::l,m,hx,h=>by simp only[erights,Zb1]at h;simp only[wfl,hx x (.head _) m h.1,Ahw l m (λy a=>hx y (.tail _ a)) h.2,Bool.and_self]
theorem A15:∀(n:Nat) (e:Xpr) (m:Int),A1 e<=n->Ba e m=true->wfx e=true
 |0,e,_,h,_=>by have:=D1 e;omega
 |n+1,e,m,h,hr=>by obtain⟨a,_,b⟩:=P1 hr;rw[A8z,Ze1 a,Bool.true_and];refine Ahw e.l _ (λx c m d=>A15 n x m ?_ d) b;have:=Bi c;rw[Ds]at h;omega
def Bsa(R:Type):Px R:=pxO [(98,cA Bdx),(99,cA Ayf)] [] [] []
def Aqa(x:HV [Yd1,Yk1]):Ya1 (HV [Yc1,Yc1]):=match x with|(e,cols)=>cond (!decide ((Xf e)=0)) (some (0,(Xf e))) ((A37 e cols).bind λ(x,a)=>some (x,a))
theorem Bie:FO 79 [Yd1,Yk1] [Yc1,Yc1] (Aqa):=fR (px:=Bsa _) (n:=0) Tryz.func79 rfl (λ_ H=>⟨lv H (c1 H Bo0 (c1 H Bo3 Ae)) Aa Ab,Ai⟩) λ(_,_)=>by kernel_rfl
def A40(e:Xpr)(cols:Yb1 Col):Ya1 (Int×Int):=cond (decide (Xf e=Ew e)) (some (Em e cols)) none
def Azo:FT [Yd1,Yk1] [Yc1,Yc1]:=λx=>A40 x.1 x.2
theorem Bpt(e:Xpr):Ew e=0\/Ew e=2:=by simp only[Ew];cases Ba e 30<;>simp
theorem Bo4{e:Xpr}(h:Ew e=0):A37 e cols=some (Bd e cols):=by simp only[A37];rw[A15 (A1 e) e 30 (Zn1 _) (Wm.1 h)];rfl
theorem Bq5:FO 79 [Yd1,Yk1] [Yc1,Yc1] Azo:=.fin0 Bie λ(e,cols) r _ a=>by
 simp only[Azo,A40]at a;by_cases h:Xf e=Ew e
 ·rw[Ze1 h]at a;have a:some (Em e cols)=some r:=a;rw[<-a];simp only[Aqa,h,Em];by_cases b:Ew e=0
  ·simp[b,Bo4 b]
  ·simp[b]
 ·rw[Zd1 h]at a;cases a
theorem Bv8{e:Xpr}(h:A1 e<=900000):Xf e=Ew e:=by
 have hd:=Gz (A1 e) e 30 (Zn1 _) (by omega) (Zn1 _);have a:=Wm (e:=e);rcases Bpt e with b|c
 ·have:=hd.1 (a.1 b);rw[b];simp only[Xf];rw[Zd1 (by omega)];rfl
 ·have:¬Bc e<=30:=λh=>by have:=a.2 (hd.2 h);omega
  rw[c];simp only[Xf];rw[Ze1 (by omega)];rfl
theorem Bf3{cols:Yb1 Col}{row:Yb1 Val}{P:Val->Prop}:∀{l:Yb1 Str}{acc:Yb1 Val},(∀s,s∈l->¬B3 cols s<0/\P (at' .val row (B3 cols s)))->(∀v,v∈acc->P v)->(Bg cols row l acc).2=0/\∀v,v∈(Bg cols row l acc).1->P v
 |[],acc,_,ha=>⟨rfl,ha⟩
 |s::l,acc,h,ha=>by
  have a:=h s (by simp);simp only[Bg,Zd1 a.1,Ag];refine Bf3 (λq b=>h q (by simp[b])) λv hv=>?_;rcases List.mem_append.1 hv with hv|hv
  ·exact ha v hv
  ·rw[List.mem_singleton.1 hv];exact a.2
theorem A2n{cols:Yb1 Col}{row:Yb1 Val}:∀{l:Yb1 Str}{acc:Yb1 Val},(Bg cols row l acc).1.length<=acc.length+l.length
 |[],acc=>by simp[Bg]
 |s::l,acc=>by simp only[Bg];cases decide (B3 cols s<0)with|true=>simp|false=>have:=A2n (cols:=cols) (row:=row) (l:=l) (acc:=acc++[at' .val row (B3 cols s)]);simp only[Ag,Zf1];simp only[Zh1,Zf1,Zi1]at this;omega
def B4x{R:Type}(c:Yb1 (Nat×Fa R))(q:Yb1 (Nat×Ez R))(l:Yb1 (Nat×A5e R))(w:Yb1 (Nat×G4 R)):Px R:=withY (pxO c q l w) (pxO [] [] [] [])
variable{cx:Cx}
theorem B5p{l:Yb1 (Nat×Fa R)}{a:Yb1 (Nat×Ez R)}{lp:Yb1 (Nat×A5e R)}{b:Yb1 (Nat×G4 R)}(H:HX cx)(h:∀g f,(g,f)∈l->Hg cx g f)(c:∀g f,(g,f)∈a->Nu cx g f)(d:∀g f,(g,f)∈b->F1 cx g f):Lv cx (B4x l a lp b):=(lv (px:=pxO l a lp b) H h c d).withY (lv (px:=pxO [] [] [] []) H Ae Aa Ab) (by rw[H.p];exact follows)
theorem fRD{f:FuncId}{fn:Func}{c:Code}{sa sr:Yb1 Sg}{px:Px (HV sr)}{F:FT sa sr}(e:Tryz.prog.funcs[f]? = some fn)(hb:fn.body=some c)(h:∀cx,HX cx->Lv cx px)(g:∀x,Bgn px fn sa sr x some=F x)(i:∀b st K,px.loop b st K=none:=by exactλ_ _ _=>rfl)(a:(fn.name == "runtime.NumGoroutine")=false:=by kernel_rfl)(d:(Bw fn.ntmps c&&Nat.ble sa.length fn.ntmps&&Dk (Bb 0 sa) [])=true:=by kernel_rfl):FO f sa sr F:=fOD (Ani Z0) follows e hb a d i h g
def B3v(R:Type):Px R:=pxO [] [] [] []
def Amv(x:HV [Yl1,Yl1]):Ya1 (HV [.bool]):=match x with|(a,b)=>some (decide (a=b))
theorem Byj:FO 152 [Yl1,Yl1] [.bool] (Amv):=fR (px:=B3v _) (n:=0) Tryz.func152 rfl (λ_ H=>⟨lv H Ae Aa Ab,Ai⟩) λ(_,_)=>by kernel_rfl
def beq(a:Yb1 UInt8)(b:Yb1 UInt8):Bool:=(decide (a=b))
theorem By0(x:HV [Yl1,Yl1]):Amv x=some (beq x.1 x.2):=by
 first
  |exact rfl
  |simp only[Amv,beq,Aw]
def Bex:FT [Yl1,Yl1] [.bool]:=λx=>some (beq x.1 x.2)
theorem Ba5:FO 152 [Yl1,Yl1] [.bool] Bex:=.fin0 Byj λx _ _ a=>(By0 x).trans a
def Bz8(R:Type):Px R:=pxO [(152,cA Bex)] [] [] []
def Adu(x:HV [Yl1,Yl1]):Ya1 (HV [.bool]):=match x with|(b,a)=>cond (decide ((a.length:Int)<=(b.length:Int))) (chk (upto 0 (a.length:Int) b.length) (some (beq (b.take ((a.length:Int):Int).toNat) a))) (some false)
theorem Btm:FO 153 [Yl1,Yl1] [.bool] (Adu):=fR (px:=Bz8 _) (n:=0) Tryz.func153 rfl (λ_ H=>⟨lv H (c1 H Ba5 Ae) Aa Ab,Ai⟩) λ(_,_)=>by kernel_rfl
def Bja(b a:Str):Ya1 Bool:=Adu (b,a)
def A0v:FT [Yl1,Yl1] [.bool]:=λx=>Bja x.1 x.2
theorem Ayn:FO 153 [Yl1,Yl1] [.bool] A0v:=.fin0 Btm λ_ _ _ a=>a
def A55:Sig:=⟨21,[(3,.sl .byte true),(6,.sl .byte false),(7,.int .i64),(8,.int .i64)],[],[],0,0,0,[],[]⟩
abbrev Ai2:=Yb1 UInt8×Yb1 UInt8×Int×Int
def As2{R:Type}(a:Ai2->Ya1 R)(kx:Ex->Ai2->Ya1 R)(v:Ai2):Ya1 R:=match v with|(v,v1,v2,v3)=>cond (decide (v3<v2)) (chk (inb v3 v1.length) (chk (decide (v.length+2<=Ah)) (a ((v++[(UInt8.ofNat ((Ek .u8 ((at' .byte v1 v3).toNat:Int) 4):Int).toNat),(UInt8.ofNat ((Ht .u8 ((at' .byte v1 v3).toNat:Int) 15):Int).toNat)]),v1,v2,(wr .i64 (v3+1)))))) (kx (.exit 0) (v,v1,v2,v3))
def Bph(R:Type)(k:Nat):Px R:=pxO [] [] [(3,An k A55 (As2))] []
def Abg(k:Nat)(x:HV [Yl1]):Ya1 (HV [.sl .byte true]):=match x with
 |b=>
 Aj (λa=>As2 a (λe c=>match c with|(v4,_,_,_)=>match e with
  |.exit 0=>
  some v4
  |_=>none)) k ([],b,(b.length:Int),0)
theorem Bwp(k:Nat):FO 111 [Yl1] [.sl .byte true] (Abg k):=fR (px:=Bph _ k) (n:=1) Tryz.func111 rfl (λcx H=>by have c:Lv cx (Bph (HV [.sl .byte true]) k):=lv H Ae Aa Ab;have a:=lO H c (b:=lp Tryz.f111 0) (k:=k) (n:=0) (s:=A55) (step:=As2) (λ_ _ _ (_,_,_,_)=>by kernel_rfl) Ai;exact⟨c,(A4 Ai a)⟩) λ_=>by kernel_rfl
def nof(b:Str):Ya1 Str:=Abg 2000 b
def Bd1:FT [Yl1] [.sl .byte true]:=λx=>nof x
theorem Baz:FO 111 [Yl1] [.sl .byte true] Bd1:=.fin 0 Bwp λ_ _ _ a=>⟨2000,a⟩
def At2:Sig:=⟨14,[(2,.bool),(5,.sl .byte false),(6,.int .i64),(7,.int .i64)],[],[],0,0,0,[],[]⟩
abbrev Adn:=Bool×Yb1 UInt8×Int×Int
def Ad9{R:Type}(a:Adn->Ya1 R)(kx:Ex->Adn->Ya1 R)(v:Adn):Ya1 R:=match v with|(v,v1,v2,v3)=>cond (decide (v3<v2)) (chk (inb v3 v1.length) (cond (decide (15<((at' .byte v1 v3).toNat:Int))) (kx .ret (false,v1,v2,v3)) (a (v,v1,v2,(wr .i64 (v3+1)))))) (kx (.exit 0) (v,v1,v2,v3))
def Bde(R:Type)(k:Nat):Px R:=pxO [] [] [(2,An k At2 (Ad9))] []
def Wl(k:Nat)(x:HV [Yl1]):Ya1 (HV [.bool]):=match x with
 |n=>
 Aj (λa=>Ad9 a (λe b=>match b with|(v4,_,_,_)=>match e with
  |.ret=>
  some v4
  |.exit 0=>
  some true
  |_=>none)) k (false,n,(n.length:Int),0)
theorem Bnb(k:Nat):FO 211 [Yl1] [.bool] (Wl k):=fR (px:=Bde _ k) (n:=1) Tryz.func211 rfl (λcx H=>by have c:Lv cx (Bde (HV [.bool]) k):=lv H Ae Aa Ab;have a:=lO H c (b:=lp Tryz.f211 0) (k:=k) (n:=0) (s:=At2) (step:=Ad9) (λ_ _ _ (_,_,_,_)=>by kernel_rfl) Ai;exact⟨c,(A4 Ai a)⟩) λ_=>by kernel_rfl
def B23(n:Str):Ya1 Bool:=Wl 2000 n
def Bnr:FT [Yl1] [.bool]:=λx=>B23 x
theorem B0q:FO 211 [Yl1] [.bool] Bnr:=.fin 0 Bnb λ_ _ _ a=>⟨2000,a⟩
def Aof:Sig:=⟨26,[(0,.sl .byte false),(3,.sl .byte true),(4,.int .i64)],[],[],0,0,0,[],[]⟩
abbrev Wq:=Yb1 UInt8×Yb1 UInt8×Int
def Wi{R:Type}(a:Wq->Ya1 R)(kx:Ex->Wq->Ya1 R)(v:Wq):Ya1 R:=match v with|(v,v1,v2)=>cond (decide (v2<(v.length:Int))) (chk (inb (wr .i64 (v2-1)) v.length) (chk (inb v2 v.length) (chk (decide (v1.length+1<=Ah)) (a (v,(v1++[(UInt8.ofNat ((ior .u8 (W0 .u8 ((at' .byte v (wr .i64 (v2-1))).toNat:Int) 4) ((at' .byte v v2).toNat:Int)):Int).toNat)]),(wr .i64 (v2+2))))))) (kx (.exit 0) (v,v1,v2))
def A7a(R:Type)(k:Nat):Px R:=pxO [] [] [(3,An k Aof (Wi))] []
def Z7(k:Nat)(x:HV [Yl1]):Ya1 (HV [.sl .byte true]):=match x with
 |n=>
 Aj (λa=>Wi a (λe b=>match b with|(_,v4,_)=>match e with
  |.exit 0=>
  some v4
  |_=>none)) k (n,[],1)
theorem Biu(k:Nat):FO 212 [Yl1] [.sl .byte true] (Z7 k):=fR (px:=A7a _ k) (n:=1) Tryz.func212 rfl (λcx H=>by have c:Lv cx (A7a (HV [.sl .byte true]) k):=lv H Ae Aa Ab;have a:=lO H c (b:=lp Tryz.f212 0) (k:=k) (n:=0) (s:=Aof) (step:=Wi) (λ_ _ _ (_,_,_)=>by kernel_rfl) Ai;exact⟨c,(A4 Ai a)⟩) λ_=>by kernel_rfl
def Beq(n:Str):Ya1 Str:=Z7 2000 n
def Bfa:FT [Yl1] [.sl .byte true]:=λx=>Beq x
theorem Bwh:FO 212 [Yl1] [.sl .byte true] Bfa:=.fin 0 Biu λ_ _ _ a=>⟨2000,a⟩
def Bh2(R:Type):Px R:=pxO [(211,cA Bnr),(212,cA Bfa)] [] [] []
def Su(x:HV [Yl1]):Ya1 (HV [.sl .byte true,Yc1]):=match x with|n=>(B23 n).bind λx=>cond (!x) (some ([],2)) (cond (decide ((Int.tmod (n.length:Int) 2)=1)) (some ([],11)) ((Beq n).bind λa=>some (a,0)))
theorem Bbu:FO 241 [Yl1] [.sl .byte true,Yc1] (Su):=fR (px:=Bh2 _) (n:=0) Tryz.func241 rfl (λ_ H=>⟨lv H (c1 H B0q (c1 H Bwh Ae)) Aa Ab,Ai⟩) λ_=>by kernel_rfl
def Afd(n:Str):Ya1 (Str×Int):=Su n
def A27:FT [Yl1] [.sl .byte true,Yc1]:=λx=>Afd x
theorem Bjo:FO 241 [Yl1] [.sl .byte true,Yc1] A27:=.fin0 Bbu λ_ _ _ a=>a
def Avy:Sig:=⟨30,[(0,.sl .byte false),(1,.sl .byte false),(4,.int .i64),(10,.int .i64),(11,.int .i64)],[],[],0,0,0,[],[]⟩
abbrev Aa8:=Yb1 UInt8×Yb1 UInt8×Int×Int×Int
def Z6{R:Type}(a:Aa8->Ya1 R)(kx:Ex->Aa8->Ya1 R)(v:Aa8):Ya1 R:=match v with|(v,v1,v2,v3,v4)=>cond (decide (v4<v3)) (chk (inb v4 v.length) (chk (inb v4 v1.length) (cond (!decide (((at' .byte v v4).toNat:Int)=((at' .byte v1 v4).toNat:Int))) (kx .ret (v,v1,v4,v3,v4)) (a (v,v1,v2,v3,(wr .i64 (v4+1))))))) (kx (.exit 0) (v,v1,v2,v3,v4))
def Bez(R:Type)(k:Nat):Px R:=pxO [] [] [(2,An k Avy (Z6))] []
def Wb(k:Nat)(x:HV [Yl1,Yl1]):Ya1 (HV [Yc1]):=match x with
 |(a,b)=>
 Aj (λc=>Z6 c (λe d=>match d with|(v5,v6,v7,_,_)=>match e with
  |.ret=>
  some v7
  |.exit 0=>
  some (min2 (v5.length:Int) (v6.length:Int))
  |_=>none)) k (a,b,0,(min2 (a.length:Int) (b.length:Int)),0)
theorem Bsq(k:Nat):FO 200 [Yl1,Yl1] [Yc1] (Wb k):=fR (px:=Bez _ k) (n:=1) Tryz.func200 rfl (λcx H=>by have c:Lv cx (Bez (HV [Yc1]) k):=lv H Ae Aa Ab;have a:=lO H c (b:=lp Tryz.f200 0) (k:=k) (n:=0) (s:=Avy) (step:=Z6) (λ_ _ _ (_,_,_,_,_)=>by kernel_rfl) Ai;exact⟨c,(A4 Ai a)⟩) λ(_,_)=>by kernel_rfl
def Bzy(a b:Str):Ya1 Int:=Wb 2000 (a,b)
def A8x:FT [Yl1,Yl1] [Yc1]:=λx=>Bzy x.1 x.2
theorem Bfg:FO 200 [Yl1,Yl1] [Yc1] A8x:=.fin 0 Bsq λ_ _ _ a=>⟨2000,a⟩
def By1(R:Type):Px R:=pxO [(200,cA A8x)] [] [] []
def Adx(x:HV [Yl1,Yl1]):Ya1 (HV [Yc1]):=match x with
 |(a,b)=>
 (Bzy a b).bind λx=>
  let j:=λ(p1:Bool)=>
  cond (p1) (
   some 0) (
   cond (decide (x=(a.length:Int))) (
   some (-1)) (
   cond (decide (x<(b.length:Int))) (
    chk (inb x a.length) (
    chk (inb x b.length) (
     cond (decide (((at' .byte a x).toNat:Int)<((at' .byte b x).toNat:Int))) (
     some (-1)) (
     some 1)))) (
    some 1)))
  cond (decide (x=(a.length:Int))) (
  j (decide (x=(b.length:Int)))) (
  j false)
theorem Bvx:FO 272 [Yl1,Yl1] [Yc1] (Adx):=fR (px:=By1 _) (n:=0) Tryz.func272 rfl (λ_ H=>⟨lv H (c1 H Bfg Ae) Aa Ab,Ai⟩) λ(_,_)=>by kernel_rfl
def A9u(a b:Str):Ya1 Int:=Adx (a,b)
def A8i:FT [Yl1,Yl1] [Yc1]:=λx=>A9u x.1 x.2
theorem Bgw:FO 272 [Yl1,Yl1] [Yc1] A8i:=.fin0 Bvx λ_ _ _ a=>a
def By7(R:Type):Px R:=pxO [(111,cA Bd1)] [] [] []
def Af7(x:HV [Yl1,Yl1]):Ya1 (HV [.sv .span]):=match x with|(a,b)=>(nof a).bind λx=>(nof b).bind λc=>some (SpanS.mk x c (decide ((b.length:Int)=0)))
theorem Btj:FO 115 [Yl1,Yl1] [.sv .span] (Af7):=fR (px:=By7 _) (n:=0) Tryz.func115 rfl (λ_ H=>⟨lv H (c1 H Baz Ae) Aa Ab,Ai⟩) λ(_,_)=>by kernel_rfl
def B27(a b:Str):Ya1 SpanS:=Af7 (a,b)
def Bv7:FT [Yl1,Yl1] [.sv .span]:=λx=>B27 x.1 x.2
theorem Bzp:FO 115 [Yl1,Yl1] [.sv .span] Bv7:=.fin0 Btj λ_ _ _ a=>a
def Bpp(R:Type):Px R:=pxO [(272,cA A8i)] [] [] []
def Xx(x:HV [.sv .span,Yl1]):Ya1 (HV [.bool]):=match x with|(s,w)=>(A9u w s.low).bind λx=>cond (decide (0<=x)) (cond (s.op) (some true) ((A9u w s.high).bind λa=>some (decide (a<0)))) (some false)
theorem Bls:FO 240 [.sv .span,Yl1] [.bool] (Xx):=fR (px:=Bpp _) (n:=0) Tryz.func240 rfl (λ_ H=>⟨lv H (c1 H Bgw Ae) Aa Ab,Ai⟩) λ(_,_)=>by kernel_rfl
def A4l(s:SpanS)(w:Str):Ya1 Bool:=Xx (s,w)
def Bcc:FT [.sv .span,Yl1] [.bool]:=λx=>A4l x.1 x.2
theorem Bs3:FO 240 [.sv .span,Yl1] [.bool] Bcc:=.fin0 Bls λ_ _ _ a=>a
def A9m(R:Type):Px R:=pxO [(272,cA A8i),(153,cA A0v),(151,cA H4)] [] [] []
def O9(x:HV [.sv .span,Yl1]):Ya1 (HV [.bool]):=match x with
 |(s,w)=>
 let a:=λ(p1:Bool)=>
  let j:=λ(p2:Yb1 UInt8)=>
  cond (p1) (
   cond (s.op) (
   some true) (
   (A9u p2 s.high).bind λc=>some (decide (c<0)))) (
   some false)
  cond (decide ((Int.tmod (w.length:Int) 2)=1)) (
  (Ot w).bind λb=>
   chk (decide (b.length+1<=Ah)) (
   j (b++[(UInt8.ofNat (0:Int).toNat)]))) (
  j w)
 (A9u w s.low).bind λx=>
  cond (decide (0<=x)) (
  a true) (
  (Bja s.low w).bind λd=>a d)
theorem A2c:FO 238 [.sv .span,Yl1] [.bool] (O9):=fR (px:=A9m _) (n:=0) Tryz.func238 rfl (λ_ H=>⟨lv H (c1 H Bgw (c1 H Ayn (c1 H Hd Ae))) Aa Ab,Ai⟩) λ(_,_)=>by kernel_rfl
def Ai1(s:SpanS)(w:Str):Ya1 Bool:=O9 (s,w)
def Av1:FT [.sv .span,Yl1] [.bool]:=λx=>Ai1 x.1 x.2
theorem Bbl:FO 238 [.sv .span,Yl1] [.bool] Av1:=.fin0 A2c λ_ _ _ a=>a
def Amk:Sig:=⟨19,[(0,.sl .byte false),(4,.int .i64),(7,.int .i64),(8,.int .i64)],[(1,.fn 150 [])],[],80,80,400,[],[]⟩
abbrev Wv:=Yb1 UInt8×Int×Int×Int
def Vg{R:Type}(a:Wv->Ya1 R)(kx:Ex->Wv->Ya1 R)(v:Wv):Ya1 R:=match v with|(v,v1,v2,v3)=>cond (decide (v3<v2)) (chk (inb v3 v.length) (cond (decide (15<((at' .byte v v3).toNat:Int))) (kx .ret (v,v3,v2,v3)) (a (v,v1,v2,(wr .i64 (v3+1)))))) (kx (.exit 0) (v,v1,v2,v3))
def Rn(R:Type)(_k:Nat):Px R:=pxO [] [] [] []
noncomputable def Adk(R:Type)(k:Nat):Px R:=pxO [(150,A0 120 600 (Rn R k) Tryz.f150)] [] [(2,An k Amk (Vg))] []
noncomputable def Anw(R:Type)(k:Nat):Px R:=pxO [(198,A0 80 400 (Adk R k) Tryz.f198)] [] [] []
noncomputable def A56(R:Type)(k:Nat):Px R:=pxO [(149,A0 40 200 (Anw R k) Tryz.f149)] [] [] []
def Xo(k:Nat)(x:HV [Yl1]):Ya1 (HV [.bool]):=match x with
 |p=>
 Aj (λa=>Vg a (λe b=>match b with|(_,v5,_,_)=>match e with
  |.ret=>
  some (!(decide (0<=v5)))
  |.exit 0=>
  some true
  |_=>none)) k (p,0,(p.length:Int),0)
theorem Bid(k:Nat):FO 105 [Yl1] [.bool] (Xo k):=fR (px:=A56 _ k) (n:=0) Tryz.func105 rfl (λcx H=>by have d:Lv cx (Rn (HV [.bool]) k):=lv H Ae Aa Ab;have c:Lv cx (Adk (HV [.bool]) k):=lv H (As (cR H d Tryz.func150 rfl (n:=0) (Ai)) Ae) Aa Ab;have a:=lO H c (b:=lp Tryz.f198 0) (k:=k) (n:=0) (s:=Amk) (step:=Vg) (λ_ _ _ (_,_,_,_)=>by kernel_rfl) Ai;have e:Lv cx (Anw (HV [.bool]) k):=lv H (As (cR H c Tryz.func198 rfl (n:=1) (A4 Ai a)) Ae) Aa Ab;have f:Lv cx (A56 (HV [.bool]) k):=lv H (As (cR H e Tryz.func149 rfl (n:=0) (Ai)) Ae) Aa Ab;exact⟨f,Ai⟩) λ_=>by kernel_rfl
def Bdp(p:Str):Ya1 Bool:=Xo 2000 p
def Bdf:FT [Yl1] [.bool]:=λx=>Bdp x
theorem Bvf:FO 105 [Yl1] [.bool] Bdf:=.fin 0 Bid λ_ _ _ a=>⟨2000,a⟩
def Blf(R:Type):Px R:=pxO [] [] [] []
def Q7(x:HV [.sv .node,.bool,.bool,.bool,.bool]):Ya1 (HV [.bool]):=match x with
 |(n,a,b,c,d)=>
 let g:=λ(p:Bool)=>
  let e:=λ(p2:Bool)=>
  let f:=λ(p4:Bool)=>
   let j:=λ(h:Bool)=>
   cond (h) (
    cond (!n.has) (
    some true) (
    some (decide (n.kind=3)))) (
    some false)
   cond (p4) (
   cond (d) (
    j true) (
    j (decide ((n.hash.length:Int)=0)))) (
   j false)
  cond (p2) (
   cond (c) (
   f true) (
   f (decide ((n.kids.length:Int)=0)))) (
   f false)
  cond (p) (
  cond (b) (
   e true) (
   e (decide ((n.val.length:Int)=0)))) (
  e false)
 cond (a) (
  g true) (
  g (decide ((n.path.length:Int)=0)))
theorem Ba3:FO 106 [.sv .node,.bool,.bool,.bool,.bool] [.bool] (Q7):=fR (px:=Blf _) (n:=0) Tryz.func106 rfl (λ_ H=>⟨lv H Ae Aa Ab,Ai⟩) λ(_,_,_,_,_)=>by kernel_rfl
def Mc(n:NodeS)(a b c d:Bool):Ya1 Bool:=Q7 (n,a,b,c,d)
def A1w:FT [.sv .node,.bool,.bool,.bool,.bool] [.bool]:=λx=>Mc x.1 x.2.1 x.2.2.1 x.2.2.2.1 x.2.2.2.2
theorem Bkv:FO 106 [.sv .node,.bool,.bool,.bool,.bool] [.bool] A1w:=.fin0 Ba3 λ_ _ _ a=>a
def Bkq(R:Type):Px R:=pxO [] [] [] []
def R1(x:HV [Yc1,.bool]):Ya1 (HV [.bool]):=match x with|(d,e)=>cond (decide (d<=400)) (cond (!e) (some true) (some (decide ((Int.tmod d 2)=0)))) (some false)
theorem A8e:FO 107 [Yc1,.bool] [.bool] (R1):=fR (px:=Bkq _) (n:=0) Tryz.func107 rfl (λ_ H=>⟨lv H Ae Aa Ab,Ai⟩) λ(_,_)=>by kernel_rfl
def Yi(d:Int)(e:Bool):Bool:=cond (decide (d<=400)) (cond (!e) (true) (decide ((Int.tmod d 2)=0))) (false)
theorem A8g(x:HV [Yc1,.bool]):R1 x=some (Yi x.1 x.2):=by
 first
  |exact rfl
  |simp only[R1,Yi,Aw]
def A7l:FT [Yc1,.bool] [.bool]:=λx=>some (Yi x.1 x.2)
theorem Bi7:FO 107 [Yc1,.bool] [.bool] A7l:=.fin0 A8e λx _ _ a=>(A8g x).trans a
def Acy:Sig:=⟨44,[(1,.int .i64),(2,.bool),(7,.int .i64),(8,.bool),(20,.sl .node false),(21,.int .i64),(22,.int .i64)],[],[],40,40,200,[],[]⟩
abbrev Lk:=Int×Bool×Int×Bool×Yb1 NodeS×Int×Int
def J6{R:Type}(rf:FT [.sv .node,Yc1,.bool] [.bool])(a:Lk->Ya1 R)(kx:Ex->Lk->Ya1 R)(v:Lk):Ya1 R:=match v with|(v,v1,v2,v3,v4,v5,v6)=>cond (decide (v6<v5)) (chk (inb v6 v4.length) ((rf ((at' .node v4 v6),(wr .i64 (v+1)),v1)).bind λb=>cond (!b) (kx (.exit 0) (v,v1,v2,b,v4,v5,v6)) (cond (!decide ((at' .node v4 v6).kind=0)) (a (v,v1,(wr .i64 (v2+1)),b,v4,v5,(wr .i64 (v6+1)))) (a (v,v1,v2,b,v4,v5,(wr .i64 (v6+1))))))) (kx (.exit 0) (v,v1,v2,v3,v4,v5,v6))
def Abj(R:Type)(k:Nat)(rf:FT [.sv .node,Yc1,.bool] [.bool]):Px R:=pxO [(68,cA rf)] [] [(7,An k Acy (J6 rf))] []
noncomputable def Am5(R:Type)(k:Nat)(rf:FT [.sv .node,Yc1,.bool] [.bool]):Px R:=pxO [(105,cA Bdf),(106,cA A1w),(107,cA A7l),(68,cA rf),(108,A0 40 200 (Abj R k rf) Tryz.f108)] [] [] []
def F8(k:Nat)(rf:FT [.sv .node,Yc1,.bool] [.bool])(x:HV [.sv .node,Yc1,.bool]):Ya1 (HV [.bool]):=match x with
 |(n,d,e)=>
 let j:=λ(p:Bool)=>
  cond (p) (
  some false) (
  (Bdp n.path).bind λx=>
   cond (!x) (
   some false) (
   cond (decide (n.kind=0)) (
    (Mc n false false false false).bind λm=>
    some m) (
    cond (decide (n.kind=1)) (
    (Mc n true true false false).bind λo=>
     cond (o) (
     some (Yi (wr .i64 (d+(n.path.length:Int))) e)) (
     some false)) (
    cond (decide (n.kind=4)) (
     (Mc n false false false true).bind λq=>
     cond (q) (
      some (decide ((n.hash.length:Int)=32))) (
      some false)) (
     cond (decide (n.kind=2)) (
     (Mc n true false true false).bind λr=>
      cond (!r) (
      some false) (
      cond (decide ((n.path.length:Int)=0)) (
       some false) (
       cond (!decide ((n.kids.length:Int)=1)) (
       some false) (
       chk (inb 0 n.kids.length) (
        let i:=λ(a:Bool)=>
        cond (a) (
         (rf ((at' .node n.kids 0),(wr .i64 (d+(n.path.length:Int))),e)).bind λs=>
         some s) (
         some false)
        cond (decide ((at' .node n.kids 0).kind=3)) (
        i true) (
        i (decide ((at' .node n.kids 0).kind=4)))))))) (
     cond (decide (n.kind=3)) (
      (Mc n false n.has true false).bind λt=>
      let g:=λ(b:Bool)=>
       cond (b) (
       cond (!decide ((n.kids.length:Int)=16)) (
        some false) (
        let l:=λ(c:Int)=>
        Aj (λh=>J6 rf h (λe u=>match u with|(_,_,v9,f,_,_,_)=>match e with
         |.exit 0=>
         cond (f) (
          some (decide (2<=v9))) (
          some false)
         |_=>none)) k (d,e,c,true,n.kids,(n.kids.length:Int),0)
        cond (n.has) (
        l 1) (
        l 0))) (
       some false)
      cond (t) (
       cond (!n.has) (
       g true) (
       g (Yi d e))) (
       g false)) (
      some false)))))))
 cond (decide (400<d)) (
  j true) (
  j (decide (4000<(n.val.length:Int))))
theorem A3h(k:Nat)(rf:FT [.sv .node,Yc1,.bool] [.bool])(c:FO 68 [.sv .node,Yc1,.bool] [.bool] rf):FO 68 [.sv .node,Yc1,.bool] [.bool] (F8 k rf):=fR (px:=Am5 _ k rf) (n:=0) Tryz.func68 rfl (λcx H=>by have d:Lv cx (Abj (HV [.bool]) k rf):=lv H (c1 H c Ae) Aa Ab;have a:=lO H d (b:=lp Tryz.f108 0) (k:=k) (n:=0) (s:=Acy) (step:=J6 rf) (λ_ _ _ (_,_,_,_,_,_,_)=>by kernel_rfl) Ai;have e:Lv cx (Am5 (HV [.bool]) k rf):=lv H (c1 H Bvf (c1 H Bkv (c1 H Bi7 (c1 H c (As (cR H d Tryz.func108 rfl (n:=1) (A4 Ai a)) Ae))))) Aa Ab;exact⟨e,Ai⟩) λ(_,_,_)=>by kernel_rfl
def A0a(n:NodeS)(d:Int)(e:Bool):Ya1 Bool:=Aj (F8 100) 500 (n,d,e)
def Ar7:FT [.sv .node,Yc1,.bool] [.bool]:=λx=>A0a x.1 x.2.1 x.2.2
theorem A8f:FO 68 [.sv .node,Yc1,.bool] [.bool] Ar7:=.fin0 (FnOk.rec' (Sx.enters_of Tryz.func68 rfl rfl) (λrf a=>A3h 100 rf a) 500) λ_ _ _ b=>b
def Bbw(R:Type):Px R:=pxO [(68,cA Ar7)] [] [] []
def O2(x:HV [.sv .node]):Ya1 (HV [Yc1]):=match x with|n=>(A0a n 0 true).bind λx=>cond (!x) (some 2) (some 0)
theorem A5m:FO 29 [.sv .node] [Yc1] (O2):=fR (px:=Bbw _) (n:=0) Tryz.func29 rfl (λ_ H=>⟨lv H (c1 H A8f Ae) Aa Ab,Ai⟩) λ_=>by kernel_rfl
def O4(n:NodeS):Ya1 Int:=O2 n
def S9:FT [.sv .node] [Yc1]:=λx=>O4 x
theorem Xr:FO 29 [.sv .node] [Yc1] S9:=.fin0 A5m λ_ _ _ a=>a
noncomputable section
noncomputable def Wn:Sig:=⟨5,[(0,.sv .span),(1,.sv .node),(2,.sl .byte false),(3,.bool)],[(4,.yl 8)],[(2,.cells [Yc1]),(3,.cells [.sl .kv false]),(4,.cells [Yl1]),(5,.cells [Yc1]),(6,.cells [.sl .kv true]),(8,.rc 42 (rd Tryz.f114 0).1 (rd Tryz.f114 0).2.1 (rd Tryz.f114 0).2.2 [(6,.ptr 2 0),(8,.ptr 3 0),(9,.ptr 4 0),(10,.ptr 5 0),(11,.ptr 6 0)] 0)],9,9,0,[],[]⟩
noncomputable def Uu:Sig:=⟨1,[(0,.bool)],[],[(2,.cells [Yc1]),(3,.cells [.sl .kv false]),(4,.cells [Yl1]),(5,.cells [Yc1]),(6,.cells [.sl .kv true]),(8,.rc 42 (rd Tryz.f114 0).1 (rd Tryz.f114 0).2.1 (rd Tryz.f114 0).2.2 [(6,.ptr 2 0),(8,.ptr 3 0),(9,.ptr 4 0),(10,.ptr 5 0),(11,.ptr 6 0)] 0)],9,9,0,[],[]⟩
abbrev Pp:=SpanS×NodeS×Yb1 UInt8×Bool×Int×Yb1 KvS×Yb1 UInt8×Int×Yb1 KvS×Int
abbrev Hj:=Bool×Int×Yb1 KvS×Yb1 UInt8×Int×Yb1 KvS×Int
noncomputable def Awr:Sig:=⟨85,[(3,.bool),(10,.bool),(46,.int .i64),(47,.int .i64)],[(5,.ptr 9 0),(6,.ptr 10 0),(7,.ptr 11 0),(9,.ptr 12 0),(11,.fn 239 [.ptr 10 0,.ptr 9 0,.ptr 11 0,.ptr 12 0])],[(2,.cells [Yc1]),(3,.cells [.sl .kv false]),(4,.cells [Yl1]),(5,.cells [Yc1]),(6,.cells [.sl .kv true]),(8,.rc 42 (rd Tryz.f114 0).1 (rd Tryz.f114 0).2.1 (rd Tryz.f114 0).2.2 [(6,.ptr 2 0),(8,.ptr 3 0),(9,.ptr 4 0),(10,.ptr 5 0),(11,.ptr 6 0)] 0),(9,.one (.sv .span)),(10,.one (.sv .node)),(11,.cells [Yl1]),(12,.fx [.yl 8])],13,9,0,[],[]⟩
abbrev Q8:=Bool×Bool×Int×Int×Int×Yb1 KvS×Yb1 UInt8×Int×Yb1 KvS×Int×SpanS×NodeS×Yb1 UInt8
def Pb{R:Type}(rf:Pp->Ya1 Hj)(f:Q8->Ya1 R)(kx:Ex->Q8->Ya1 R)(v:Q8):Ya1 R:=match v with
 |(v,v1,v2,v3,w,w1,w2,w3,w4,w5,w6,w7,w8)=>
 cond (decide (v3<v2)) (
  let g:=λ(a:Int)=>
  let h:=λ(e:Yb1 UInt8)=>
   chk (inb a w7.kids.length) (
   (rf (w6,(at' .node w7.kids a),e,v,w,w1,w2,w3,w4,w5)).bind λ(m,i,j,k,b,c,d)=>
    cond (!m) (
    kx .ret (v,false,v2,v3,i,j,k,b,c,d,w6,w7,w8)) (
    f (v,v1,v2,(wr .i64 (v3+1)),i,j,k,b,c,d,w6,w7,w8)))
  cond (decide (w7.kind=3)) (
   (Ot w8).bind λl=>
   chk (decide (l.length+1<=Ah)) (
    h (l++[(UInt8.ofNat ((wr .u8 a):Int).toNat)]))) (
   h w8)
  cond (v) (
  g (wr .i64 ((wr .i64 ((w7.kids.length:Int)-1))-v3))) (
  g v3)) (
  kx (.exit 0) (v,v1,v2,v3,w,w1,w2,w3,w4,w5,w6,w7,w8))
def Aum(R:Type)(_k:Nat)(_rf:Pp->Ya1 Hj):Px R:=B4x [(240,cA Bcc),(241,cA A27)] [(69,qA E6)] [] []
noncomputable def Bff(R:Type)(k:Nat)(rf:Pp->Ya1 Hj):Px R:=B4x [(238,cA Av1),(151,cA H4),(204,Ct Wn Uu rf),(239,A0 80 400 (Aum R k rf) Tryz.f239)] [] [(10,An k Awr (Pb rf))] []
def N1(k:Nat)(rf:Pp->Ya1 Hj)(x:Pp):Ya1 (Hj):=match x with
 |(sp,n,way,back,m,r8,r9,e10,o11,jj)=>
 let u:=λ(q:Yb1 UInt8)=>
  cond (decide (n.kind=0)) (
  some (true,m,r8,r9,e10,o11,jj)) (
  (Ai1 sp q).bind λx=>
   cond (!x) (
   some (true,m,r8,r9,e10,o11,jj)) (
   cond (decide (n.kind=4)) (
    chk (decide (jj=0)) (
    chk (!(List.isEmpty q)) (
     some (false,m,[],q,80,o11,1)))) (
    let t:=λ(l:Yb1 KvS) (o:Int)=>
    Aj (λv=>Pb rf v (λe vz=>match vz with|(v4,v5,_,_,v8,v9,b,c,a,d,p,f,i)=>match e with
     |.ret=>
     some (v5,v8,v9,b,c,a,d)
     |.exit 0=>
     cond (!v4) (
      some (true,v8,v9,b,c,a,d)) (
      let z:=λ(r:Bool)=>
      cond (r) (
       some (true,v8,v9,b,c,a,d)) (
       (A4l p i).bind λs=>
       cond (!s) (
        some (true,v8,v9,b,c,a,d)) (
        (Afd i).bind λ(g,_)=>
        (C5 f.val).bind λh=>
         chk (decide (d=0)) (
         chk (decide (a.length+1<=Ah)) (
          cond (decide (((a++[(KvS.mk g h)]).length:Int)=v8)) (
          some (false,v8,v9,b,c,(a++[(KvS.mk g h)]),2)) (
          some (true,v8,v9,b,c,(a++[(KvS.mk g h)]),0))))))
      cond (!decide (f.kind=1)) (
      z (!f.has)) (
      z false))
     |_=>none)) k (back,false,(n.kids.length:Int),0,m,r8,r9,e10,l,o,sp,n,q)
    cond (!back) (
    let j:=λ(p2:Bool)=>
     cond (p2) (
     t o11 jj) (
     (A4l sp q).bind λx1=>
      cond (!x1) (
      t o11 jj) (
      (Afd q).bind λ(w,_)=>
       (C5 n.val).bind λy=>
       chk (decide (jj=0)) (
        chk (decide (o11.length+1<=Ah)) (
        cond (decide (((o11++[(KvS.mk w y)]).length:Int)=m)) (
         some (false,m,r8,r9,e10,(o11++[(KvS.mk w y)]),2)) (
         t (o11++[(KvS.mk w y)]) 0)))))
    cond (!decide (n.kind=1)) (
     j (!n.has)) (
     j false)) (
    t o11 jj))))
 cond (List.isEmpty way) (
  cond (List.isEmpty n.path) (
  u []) (
  chk (decide (0+n.path.length<=Ah)) (
   u ([]++n.path)))) (
  chk (decide (0+way.length<=Ah)) (
  chk (decide (([]++way).length+n.path.length<=Ah)) (
   u (([]++way)++n.path))))
theorem Btg(k:Nat)(rf:Pp->Ya1 Hj)(c:FM 204 Wn Uu rf):FM 204 Wn Uu (N1 k rf):=fRL (px:=Bff _ k rf) (n:=1) Tryz.func204 rfl (λcx H=>by have e:Lv cx (Aum (Hj) k rf):=B5p H (c1 H Bs3 (c1 H Bjo Ae)) (q1 H Eo Aa) Ab;have d:Lv cx (Bff (Hj) k rf):=B5p H (c1 H Bbl (c1 H Hd (l1 H c (As (cR H e Tryz.func239 rfl (n:=0) (Ai)) Ae)))) Aa Ab;have a:=lO H d (b:=lp Tryz.f204 0) (k:=k) (n:=0) (s:=Awr) (step:=Pb rf) (λ_ _ _ (_,_,_,_,_,_,_,_,_,_,_,_,_)=>by kernel_rfl) Ai;exact⟨d,(A4 Ai a)⟩) λ(_,_,_,_,_,_,_,_,_,_)=>by kernel_rfl
def walk(sp:SpanS)(n:NodeS)(way:Str)(back:Bool)(m:Int)(r8:Yb1 KvS)(r9:Str)(e10:Int)(a:Yb1 KvS)(b:Int):Ya1 Hj:=Aj (V:=Pp) (R:=Hj) (N1 100) 500 (sp,n,way,back,m,r8,r9,e10,a,b)
def A0s:Pp->Ya1 Hj:=λx=>walk x.1 x.2.1 x.2.2.1 x.2.2.2.1 x.2.2.2.2.1 x.2.2.2.2.2.1 x.2.2.2.2.2.2.1 x.2.2.2.2.2.2.2.1 x.2.2.2.2.2.2.2.2.1 x.2.2.2.2.2.2.2.2.2
theorem Byf:FM 204 Wn Uu A0s:=.fin0 (sg:=Wn) (so:=Uu) (FnLn.rec' (Sx.enters_of Tryz.func204 rfl rfl) (λrf a=>Btg 100 rf a) 500) λ_ _ _ b=>b
def Al3(R:Type):Px R:=pxO [] [] [] []
def Apg(R:Type):Px R:=pxO [(204,Ct Wn Uu A0s)] [] [] []
noncomputable def A6v(R:Type):Px R:=pxO [(29,cA S9),(158,A0 40 200 (Al3 R) Tryz.f158),(203,A0 80 200 (Apg R) Tryz.f203)] [] [] []
def Yj(x:HV [.sv .node,.sv .span,Yc1,.bool]):Ya1 (HV [.sl .kv false,Yl1,Yc1]):=match x with|(n,s,m,b)=>(O4 n).bind λx=>cond (!decide (x=0)) (some ([],[],2)) (cond (decide (m<0)) (some ([],[],2)) (cond (decide (m=0)) (some ([],[],0)) ((A0s (s,n,[],b,m,[],[],0,[],0)).bind λ(_,_,d,e,f,a,c)=>cond (decide (c=0)) (some (a,[],0)) (cond (decide (c=1)) (some (d,e,f)) (some (a,[],0))))))
theorem Bmd:FO 114 [.sv .node,.sv .span,Yc1,.bool] [.sl .kv false,Yl1,Yc1] (Yj):=fRD (px:=A6v _) Tryz.func114 rfl (λcx H=>by have a:Lv cx (Al3 (HV [.sl .kv false,Yl1,Yc1])):=lv H Ae Aa Ab;have b:Lv cx (Apg (HV [.sl .kv false,Yl1,Yc1])):=lv H (l1 H Byf Ae) Aa Ab;have c:Lv cx (A6v (HV [.sl .kv false,Yl1,Yc1])):=lv H (c1 H Xr (As (cR H a Tryz.func158 rfl (n:=0) (Ai)) (As (cR H b Tryz.func203 rfl (n:=0) (Ai)) Ae))) Aa Ab;exact c) λ(_,_,_,_)=>by kernel_rfl
def Bnw(n:NodeS)(s:SpanS)(m:Int)(b:Bool):Ya1 (Yb1 KvS×Str×Int):=Yj (n,s,m,b)
def Bcg:FT [.sv .node,.sv .span,Yc1,.bool] [.sl .kv false,Yl1,Yc1]:=λx=>Bnw x.1 x.2.1 x.2.2.1 x.2.2.2
theorem Bst:FO 114 [.sv .node,.sv .span,Yc1,.bool] [.sl .kv false,Yl1,Yc1] Bcg:=.fin0 Bmd λ_ _ _ a=>a
def Bkk(R:Type):Px R:=pxO [] [(115,qA Bv7),(114,qA Bcg)] [] []
def S5(x:HV [.sv .node,Yl1,Yl1,Yc1]):Ya1 (HV [.sl .kv false,Yl1,Yc1]):=match x with|(n,lo,hi,m)=>(B27 lo hi).bind λx=>(Bnw n x m false).bind λ(a,b,c)=>some (a,b,c)
theorem Bb4:FO 76 [.sv .node,Yl1,Yl1,Yc1] [.sl .kv false,Yl1,Yc1] (S5):=fR (px:=Bkk _) (n:=0) Tryz.func76 rfl (λ_ H=>⟨lv H Ae (q1 H Bzp (q1 H Bst Aa)) Ab,Ai⟩) λ(_,_,_,_)=>by kernel_rfl
def Axj(n:NodeS)(lo hi:Str)(m:Int):Ya1 (Yb1 KvS×Str×Int):=S5 (n,lo,hi,m)
def A3m:FT [.sv .node,Yl1,Yl1,Yc1] [.sl .kv false,Yl1,Yc1]:=λx=>Axj x.1 x.2.1 x.2.2.1 x.2.2.2
theorem Bhl:FO 76 [.sv .node,Yl1,Yl1,Yc1] [.sl .kv false,Yl1,Yc1] A3m:=.fin0 Bb4 λ_ _ _ a=>a
end
def Asf:Sig:=⟨36,[(6,.sl .byte true),(25,.sl .bytes false),(26,.int .i64),(27,.int .i64)],[],[],0,0,0,[],[]⟩
abbrev Acm:=Yb1 UInt8×Yb1 (Yb1 UInt8)×Int×Int
def Yg{R:Type}(e:Acm->Ya1 R)(kx:Ex->Acm->Ya1 R)(v:Acm):Ya1 R:=match v with|(c,b,d,a)=>cond (decide (a<d)) (chk (inb a b.length) (chk (decide (c.length+(at' .bytes b a).length<=Ah)) (e ((c++(at' .bytes b a)),b,d,(wr .i64 (a+1)))))) (kx (.exit 2) (c,b,d,a))
def Ato:Sig:=⟨36,[(0,.sl .bytes false),(3,.int .i64),(9,.sl .bytes false),(10,.int .i64),(11,.int .i64)],[],[],0,0,0,[],[]⟩
abbrev Adc:=Yb1 (Yb1 UInt8)×Int×Yb1 (Yb1 UInt8)×Int×Int
def Yf{R:Type}(a:Adc->Ya1 R)(kx:Ex->Adc->Ya1 R)(v:Adc):Ya1 R:=match v with|(v,v1,v2,v3,v4)=>cond (decide (v4<v3)) (chk (inb v4 v2.length) (cond (decide ((wr .i64 (v1+((at' .bytes v2 v4).length:Int)))<0)) (none) (a (v,(wr .i64 (v1+((at' .bytes v2 v4).length:Int))),v2,v3,(wr .i64 (v4+1)))))) (kx (.exit 0) (v,v1,v2,v3,v4))
def Bd5(R:Type)(k:Nat):Px R:=pxO [(199,Aao .byte)] [] [(3,An k Ato (Yf)),(11,An k Asf (Yg))] []
def Aey(k:Nat)(x:HV [.sl .bytes false]):Ya1 (HV [.sl .byte true]):=match x with
 |l=>
 Aj (λb=>Yf b (λe c=>match c with|(v5,v6,_,_,_)=>match e with
  |.exit 0=>
  chk (decide ((0:Int)<=v6)&&decide (v6<=(2000000:Int))) (
   Aj (λb=>Yg b (λe c=>match c with|(a,_,_,_)=>match e with
   |.exit 2=>some a
   |_=>none)) k ([],v5,(v5.length:Int),0))
  |_=>none)) k (l,0,l,(l.length:Int),0)
theorem Bnk(k:Nat):FO 154 [.sl .bytes false] [.sl .byte true] (Aey k):=fR (px:=Bd5 _ k) (n:=2) Tryz.func154 rfl (λcx H=>by have d:Lv cx (Bd5 (HV [.sl .byte true]) k):=lv H (As (Aw7 H Alw) Ae) Aa Ab;have a:=lO H d (b:=lp Tryz.f154 0) (k:=k) (n:=0) (s:=Ato) (step:=Yf) (λ_ _ _ (_,_,_,_,_)=>by kernel_rfl) Ai;have c:=lO H d (b:=lp Tryz.f154 1) (k:=k) (n:=0) (s:=Asf) (step:=Yg) (λ_ _ _ (_,_,_,_)=>by kernel_rfl) Ai;exact⟨d,(A4 (A4 Ai a) c)⟩) λ_=>by kernel_rfl
def A0l(l:Yb1 Str):Ya1 Str:=Aey 100 l
def Bbm:FT [.sl .bytes false] [.sl .byte true]:=λx=>A0l x
theorem Bgp:FO 154 [.sl .bytes false] [.sl .byte true] Bbm:=.fin 0 Bnk λ_ _ _ a=>⟨100,a⟩
def Aib:Sig:=⟨36,[(21,.sl .node false),(22,.int .i64),(23,.int .i64)],[(2,.ptr 1 0),(3,.ptr 2 0)],[(1,.cells [Yc1,.sl .byte true,.bool,.sl .byte true,.sl .node true,.sl .byte true]),(2,.cells [Yc1,Yl1,.bool,Yl1,.sl .node true,Yl1])],3,0,0,[],[]⟩
abbrev O0:=Yb1 NodeS×Int×Int×Int×Yb1 UInt8×Bool×Yb1 UInt8×Yb1 NodeS×Yb1 UInt8×Int×Yb1 UInt8×Bool×Yb1 UInt8×Yb1 NodeS×Yb1 UInt8
def Nh{R:Type}(rf:FT [.sv .node] [.sv .node])(b:O0->Ya1 R)(kx:Ex->O0->Ya1 R)(v:O0):Ya1 R:=match v with|(v,v1,v2,w,w1,w2,w3,w4,w5,w6,w7,w8,w9,a,w11)=>cond (decide (v2<v1)) (chk (inb v2 v.length) ((rf (at' .node v v2)).bind λc=>chk (decide (a.length+1<=Ah)) (b (v,v1,(wr .i64 (v2+1)),w,w1,w2,w3,w4,w5,w6,w7,w8,w9,(a++[c]),w11)))) (kx (.exit 0) (v,v1,v2,w,w1,w2,w3,w4,w5,w6,w7,w8,w9,a,w11))
def Ast(R:Type)(k:Nat)(rf:FT [.sv .node] [.sv .node]):Px R:=pxO [] [(69,qA E6),(30,qA rf)] [(3,An k Aib (Nh rf))] []
def Hb(k:Nat)(rf:FT [.sv .node] [.sv .node])(x:HV [.sv .node]):Ya1 (HV [.sv .node]):=match x with
 |n=>
 (C5 n.path).bind λx=>
  (C5 n.val).bind λi=>
  (C5 n.hash).bind λj=>
   Aj (λh=>Nh rf h (λe l=>match l with|(_,_,_,_,_,_,_,_,_,a,b,c,d,f,g)=>match e with
   |.exit 0=>some (NodeS.mk a b c d f g)
   |_=>none)) k (n.kids,(n.kids.length:Int),0,0,[],false,[],[],[],n.kind,x,n.has,i,[],j)
theorem Bb5(k:Nat)(rf:FT [.sv .node] [.sv .node])(c:FO 30 [.sv .node] [.sv .node] rf):FO 30 [.sv .node] [.sv .node] (Hb k rf):=fR (px:=Ast _ k rf) (n:=1) Tryz.func30 rfl (λcx H=>by have d:Lv cx (Ast (HV [.sv .node]) k rf):=lv H Ae (q1 H Eo (q1 H c Aa)) Ab;have a:=lO H d (b:=lp Tryz.f30 0) (k:=k) (n:=0) (s:=Aib) (step:=Nh rf) (λ_ _ _ (_,_,_,_,_,_,_,_,_,_,_,_,_,_,_)=>by kernel_rfl) Ai;exact⟨d,(A4 Ai a)⟩) λ_=>by kernel_rfl
def Amt(n:NodeS):Ya1 NodeS:=Aj (Hb 100) 500 n
def Aog:FT [.sv .node] [.sv .node]:=λx=>Amt x
theorem As6:FO 30 [.sv .node] [.sv .node] Aog:=.fin0 (FnOk.rec' (Sx.enters_of Tryz.func30 rfl rfl) (λrf a=>Bb5 100 rf a) 500) λ_ _ _ b=>b
def Bxb(R:Type)(rf:FT [.sv .node,Yl1,Yl1] [Yl1,.bool,.nl .byte]):Px R:=pxO [(151,cA H4),(152,cA Bex),(153,cA A0v)] [(69,qA E6),(154,qA Bbm),(110,qA rf)] [] []
def Ff(rf:FT [.sv .node,Yl1,Yl1] [Yl1,.bool,.nl .byte])(x:HV [.sv .node,Yl1,Yl1]):Ya1 (HV [Yl1,.bool,.nl .byte]):=match x with|(n,p,w)=>cond (decide (n.kind=4)) ((Ot w).bind λ_=>none) (cond (decide (n.kind=1)) ((C5 n.val).bind λb=>some (b,(beq n.path p),())) (cond (decide (n.kind=2)) ((Bja p n.path).bind λc=>cond (!c) (some ([],false,())) (chk (inb 0 n.kids.length) (chk (upto (n.path.length:Int) p.length p.length) ((A0l [w,n.path]).bind λd=>(rf ((at' .node n.kids 0),(p.drop ((n.path.length:Int):Int).toNat),d)).bind λ(e,f,_)=>some (e,f,()))))) (cond (decide (n.kind=3)) (cond (decide ((p.length:Int)=0)) ((C5 n.val).bind λg=>some (g,n.has,())) (chk (inb 0 p.length) (chk (inb ((at' .byte p 0).toNat:Int) n.kids.length) (chk (upto 1 p.length p.length) (chk (upto 0 1 p.length) ((A0l [w,(p.take (1:Int).toNat)]).bind λh=>(rf ((at' .node n.kids ((at' .byte p 0).toNat:Int)),(p.drop (1:Int).toNat),h)).bind λ(i,a,_)=>some (i,a,()))))))) (some ([],false,())))))
theorem Bnv(rf:FT [.sv .node,Yl1,Yl1] [Yl1,.bool,.nl .byte])(a:FO 110 [.sv .node,Yl1,Yl1] [Yl1,.bool,.nl .byte] rf):FO 110 [.sv .node,Yl1,Yl1] [Yl1,.bool,.nl .byte] (Ff rf):=fR (px:=Bxb _ rf) (n:=0) Tryz.func110 rfl (λ_ H=>⟨lv H (c1 H Hd (c1 H Ba5 (c1 H Ayn Ae))) (q1 H Eo (q1 H Bgp (q1 H a Aa))) Ab,Ai⟩) λ(_,_,_)=>by kernel_rfl
def B4p(n:NodeS)(p w:Str):Ya1 (Str×Bool×Unit):=Aj Ff 500 (n,p,w)
def Bwl:FT [.sv .node,Yl1,Yl1] [Yl1,.bool,.nl .byte]:=λx=>B4p x.1 x.2.1 x.2.2
theorem Bxa:FO 110 [.sv .node,Yl1,Yl1] [Yl1,.bool,.nl .byte] Bwl:=.fin0 (FnOk.rec' (Sx.enters_of Tryz.func110 rfl rfl) (λrf a=>Bnv rf a) 500) λ_ _ _ b=>b
def Bhx(R:Type):Px R:=pxO [(29,cA S9)] [] [] []
def R8(x:HV [.sv .node,Yl1,Yl1]):Ya1 (HV [.bool]):=match x with|(n,k,v)=>(O4 n).bind λx=>cond (decide (x=0)) (cond (decide ((k.length:Int)<=200)) (some (decide ((v.length:Int)<=4000))) (some false)) (some false)
theorem A99:FO 109 [.sv .node,Yl1,Yl1] [.bool] (R8):=fR (px:=Bhx _) (n:=0) Tryz.func109 rfl (λ_ H=>⟨lv H (c1 H Xr Ae) Aa Ab,Ai⟩) λ(_,_,_)=>by kernel_rfl
def Alh(n:NodeS)(k v:Str):Ya1 Bool:=R8 (n,k,v)
def Aqj:FT [.sv .node,Yl1,Yl1] [.bool]:=λx=>Alh x.1 x.2.1 x.2.2
theorem Ar6:FO 109 [.sv .node,Yl1,Yl1] [.bool] Aqj:=.fin0 A99 λ_ _ _ a=>a
def B05(R:Type):Px R:=pxO [(109,cA Aqj)] [(111,qA Bd1),(110,qA Bwl)] [] []
def Ae6(x:HV [.sv .node,Yl1]):Ya1 (HV [Yl1,.bool,.nl .byte,Yc1]):=match x with|(n,k)=>(Alh n k []).bind λx=>cond (!x) (some ([],false,(),2)) ((nof k).bind λa=>(B4p n a []).bind λ(b,c,_)=>cond (!c) (some ([],false,(),0)) (some (b,true,(),0)))
theorem Brh:FO 71 [.sv .node,Yl1] [Yl1,.bool,.nl .byte,Yc1] (Ae6):=fR (px:=B05 _) (n:=0) Tryz.func71 rfl (λ_ H=>⟨lv H (c1 H Ar6 Ae) (q1 H Baz (q1 H Bxa Aa)) Ab,Ai⟩) λ(_,_)=>by kernel_rfl
def B0u(n:NodeS)(k:Str):Ya1 (Str×Bool×Unit×Int):=Ae6 (n,k)
def Boh:FT [.sv .node,Yl1] [Yl1,.bool,.nl .byte,Yc1]:=λx=>B0u x.1 x.2
theorem Bx1:FO 71 [.sv .node,Yl1] [Yl1,.bool,.nl .byte,Yc1] Boh:=.fin0 Brh λ_ _ _ a=>a
def Bqg(R:Type):Px R:=pxO [(151,cA H4),(69,cA E6)] [] [] []
def Ze(x:HV [Yl1,Yl1]):Ya1 (HV [.sv .node]):=match x with|(p,v)=>(Ot p).bind λx=>(C5 v).bind λa=>some (NodeS.mk 1 x false a [] [])
theorem Bmm:FO 155 [Yl1,Yl1] [.sv .node] (Ze):=fR (px:=Bqg _) (n:=0) Tryz.func155 rfl (λ_ H=>⟨lv H (c1 H Hd (c1 H Eo Ae)) Aa Ab,Ai⟩) λ(_,_)=>by kernel_rfl
def Ac2(p v:Str):Ya1 NodeS:=Ze (p,v)
def Aju:FT [Yl1,Yl1] [.sv .node]:=λx=>Ac2 x.1 x.2
theorem Akd:FO 155 [Yl1,Yl1] [.sv .node] Aju:=.fin0 Bmm λ_ _ _ a=>a
def Bg3(R:Type):Px R:=pxO [] [(151,qA H4)] [] []
def Sm(x:HV [Yl1,.sv .node]):Ya1 (HV [.sv .node]):=match x with|(p,n)=>cond (decide ((p.length:Int)=0)) (some n) ((Ot p).bind λx=>some (NodeS.mk 2 x false [] [n] []))
theorem A8t:FO 202 [Yl1,.sv .node] [.sv .node] (Sm):=fR (px:=Bg3 _) (n:=0) Tryz.func202 rfl (λ_ H=>⟨lv H Ae (q1 H Hd Aa) Ab,Ai⟩) λ(_,_)=>by kernel_rfl
def Mh(p:Str)(n:NodeS):Ya1 NodeS:=Sm (p,n)
def Ang:FT [Yl1,.sv .node] [.sv .node]:=λx=>Mh x.1 x.2
theorem Awt:FO 202 [Yl1,.sv .node] [.sv .node] Ang:=.fin0 A8t λ_ _ _ a=>a
def Al0(R:Type):Px R:=pxO [(69,cA E6)] [(155,qA Aju)] [] []
def Am7(R:Type):Px R:=pxO [(69,cA E6)] [(155,qA Aju)] [] []
noncomputable def A1c(R:Type):Px R:=pxO [(200,cA A8x),(202,cA Ang),(201,Uy 40 200 (Al0 R) Tryz.f201 (A0 40 400 (Am7 R) Tryz.f201))] [(202,qA Ang)] [] []
def P9(x:HV [.sv .node,Yl1,Yl1]):Ya1 (HV [.sv .node]):=match x with|(n,p,v)=>(Bzy n.path p).bind λx=>cond (decide (n.kind=1)) (chk (upto x n.path.length n.path.length) (cond (decide (((n.path.drop (x:Int).toNat).length:Int)=0)) ((C5 n.val).bind λk=>chk (upto x p.length p.length) (cond (decide (((p.drop (x:Int).toNat).length:Int)=0)) ((C5 v).bind λl=>chk (upto 0 x p.length) (chk (decide ((0:Int)<=0)&&decide ((0:Int)<=16)&&decide (16<=((List.replicate (16:Int).toNat (zer .node)).length:Int))) ((Mh (p.take (x:Int).toNat) (NodeS.mk 3 [] true l (cut (List.replicate (16:Int).toNat (zer .node)) 0 16) [])).bind λm=>some m))) (chk (inb 0 ((p.drop (x:Int).toNat).length)) (chk (upto 1 (p.drop (x:Int).toNat).length (p.drop (x:Int).toNat).length) ((Ac2 ((p.drop (x:Int).toNat).drop (1:Int).toNat) v).bind λi=>chk (inO ((at' .byte (p.drop (x:Int).toNat) 0).toNat:Int) 16) (chk (inb (0+((at' .byte (p.drop (x:Int).toNat) 0).toNat:Int)) ((List.replicate (16:Int).toNat (zer .node)).length)) (chk (upto 0 x p.length) (chk (decide ((0:Int)<=0)&&decide ((0:Int)<=16)&&decide (16<=(((List.replicate (16:Int).toNat (zer .node)).set ((0+((at' .byte (p.drop (x:Int).toNat) 0).toNat:Int)):Int).toNat i).length:Int))) ((Mh (p.take (x:Int).toNat) (NodeS.mk 3 [] true k (cut ((List.replicate (16:Int).toNat (zer .node)).set ((0+((at' .byte (p.drop (x:Int).toNat) 0).toNat:Int)):Int).toNat i) 0 16) [])).bind λo=>some o))))))))) (chk (inb 0 ((n.path.drop (x:Int).toNat).length)) (chk (upto 1 (n.path.drop (x:Int).toNat).length (n.path.drop (x:Int).toNat).length) ((Ac2 ((n.path.drop (x:Int).toNat).drop (1:Int).toNat) n.val).bind λg=>chk (inO ((at' .byte (n.path.drop (x:Int).toNat) 0).toNat:Int) 16) (chk (inb (0+((at' .byte (n.path.drop (x:Int).toNat) 0).toNat:Int)) ((List.replicate (16:Int).toNat (zer .node)).length)) (chk (upto x p.length p.length) (cond (decide (((p.drop (x:Int).toNat).length:Int)=0)) ((C5 v).bind λq=>chk (upto 0 x p.length) (chk (decide ((0:Int)<=0)&&decide ((0:Int)<=16)&&decide (16<=(((List.replicate (16:Int).toNat (zer .node)).set ((0+((at' .byte (n.path.drop (x:Int).toNat) 0).toNat:Int)):Int).toNat g).length:Int))) ((Mh (p.take (x:Int).toNat) (NodeS.mk 3 [] true q (cut ((List.replicate (16:Int).toNat (zer .node)).set ((0+((at' .byte (n.path.drop (x:Int).toNat) 0).toNat:Int)):Int).toNat g) 0 16) [])).bind λb=>some b))) (chk (inb 0 ((p.drop (x:Int).toNat).length)) (chk (upto 1 (p.drop (x:Int).toNat).length (p.drop (x:Int).toNat).length) ((Ac2 ((p.drop (x:Int).toNat).drop (1:Int).toNat) v).bind λj=>chk (inO ((at' .byte (p.drop (x:Int).toNat) 0).toNat:Int) 16) (chk (inb (0+((at' .byte (p.drop (x:Int).toNat) 0).toNat:Int)) (((List.replicate (16:Int).toNat (zer .node)).set ((0+((at' .byte (n.path.drop (x:Int).toNat) 0).toNat:Int)):Int).toNat g).length)) (chk (upto 0 x p.length) (chk (decide ((0:Int)<=0)&&decide ((0:Int)<=16)&&decide (16<=((((List.replicate (16:Int).toNat (zer .node)).set ((0+((at' .byte (n.path.drop (x:Int).toNat) 0).toNat:Int)):Int).toNat g).set ((0+((at' .byte (p.drop (x:Int).toNat) 0).toNat:Int)):Int).toNat j).length:Int))) ((Mh (p.take (x:Int).toNat) (NodeS.mk 3 [] false [] (cut (((List.replicate (16:Int).toNat (zer .node)).set ((0+((at' .byte (n.path.drop (x:Int).toNat) 0).toNat:Int)):Int).toNat g).set ((0+((at' .byte (p.drop (x:Int).toNat) 0).toNat:Int)):Int).toNat j) 0 16) [])).bind λc=>some c))))))))))))))) (chk (inb x n.path.length) (chk (upto (wr .i64 (x+1)) n.path.length n.path.length) (chk (inb 0 n.kids.length) ((Mh (n.path.drop ((wr .i64 (x+1)):Int).toNat) (at' .node n.kids 0)).bind λh=>chk (inO ((at' .byte n.path x).toNat:Int) 16) (chk (inb (0+((at' .byte n.path x).toNat:Int)) ((List.replicate (16:Int).toNat (zer .node)).length)) (chk (upto x p.length p.length) (cond (decide (((p.drop (x:Int).toNat).length:Int)=0)) ((C5 v).bind λd=>chk (upto 0 x p.length) (chk (decide ((0:Int)<=0)&&decide ((0:Int)<=16)&&decide (16<=(((List.replicate (16:Int).toNat (zer .node)).set ((0+((at' .byte n.path x).toNat:Int)):Int).toNat h).length:Int))) ((Mh (p.take (x:Int).toNat) (NodeS.mk 3 [] true d (cut ((List.replicate (16:Int).toNat (zer .node)).set ((0+((at' .byte n.path x).toNat:Int)):Int).toNat h) 0 16) [])).bind λe=>some e))) (chk (inb 0 ((p.drop (x:Int).toNat).length)) (chk (upto 1 (p.drop (x:Int).toNat).length (p.drop (x:Int).toNat).length) ((Ac2 ((p.drop (x:Int).toNat).drop (1:Int).toNat) v).bind λa=>chk (inO ((at' .byte (p.drop (x:Int).toNat) 0).toNat:Int) 16) (chk (inb (0+((at' .byte (p.drop (x:Int).toNat) 0).toNat:Int)) (((List.replicate (16:Int).toNat (zer .node)).set ((0+((at' .byte n.path x).toNat:Int)):Int).toNat h).length)) (chk (upto 0 x p.length) (chk (decide ((0:Int)<=0)&&decide ((0:Int)<=16)&&decide (16<=((((List.replicate (16:Int).toNat (zer .node)).set ((0+((at' .byte n.path x).toNat:Int)):Int).toNat h).set ((0+((at' .byte (p.drop (x:Int).toNat) 0).toNat:Int)):Int).toNat a).length:Int))) ((Mh (p.take (x:Int).toNat) (NodeS.mk 3 [] false [] (cut (((List.replicate (16:Int).toNat (zer .node)).set ((0+((at' .byte n.path x).toNat:Int)):Int).toNat h).set ((0+((at' .byte (p.drop (x:Int).toNat) 0).toNat:Int)):Int).toNat a) 0 16) [])).bind λf=>some f))))))))))))))
theorem Bg8:FO 156 [.sv .node,Yl1,Yl1] [.sv .node] (P9):=fR (px:=A1c _) (n:=0) Tryz.func156 rfl (λcx H=>by have a:Lv cx (Al0 (HV [.sv .node])):=lv H (c1 H Eo Ae) (q1 H Akd Aa) Ab;have b:Lv cx (Am7 (HV [.sv .node])):=lv H (c1 H Eo Ae) (q1 H Akd Aa) Ab;have c:Lv cx (A1c (HV [.sv .node])):=lv H (c1 H Bfg (c1 H Awt (As (A5z (cR H a Tryz.func201 rfl (n:=0) (Ai)) (cR H b Tryz.func201 rfl (n:=0) (Ai))) Ae))) (q1 H Awt Aa) Ab;exact⟨c,Ai⟩) λ(_,_,_)=>by kernel_rfl
def Aqp(n:NodeS)(p v:Str):Ya1 NodeS:=P9 (n,p,v)
def Bd8:FT [.sv .node,Yl1,Yl1] [.sv .node]:=λx=>Aqp x.1 x.2.1 x.2.2
theorem Bsu:FO 156 [.sv .node,Yl1,Yl1] [.sv .node] Bd8:=.fin0 Bg8 λ_ _ _ a=>a
def Bxn(R:Type)(rf:FT [.sv .node,Yl1,Yl1,Yl1] [.sv .node,.nl .byte]):Px R:=pxO [(155,cA Aju),(152,cA Bex),(156,cA Bd8),(153,cA A0v),(157,X5 .node),(69,cA E6)] [(151,qA H4),(154,qA Bbm),(112,qA rf)] [] []
def I1(rf:FT [.sv .node,Yl1,Yl1,Yl1] [.sv .node,.nl .byte])(x:HV [.sv .node,Yl1,Yl1,Yl1]):Ya1 (HV [.sv .node,.nl .byte]):=match x with|(n,p,v,w)=>cond (decide (n.kind=4)) ((Ot w).bind λ_=>none) (cond (decide (n.kind=0)) ((Ac2 p v).bind λe=>some (e,())) (cond (decide (n.kind=1)) (cond (beq n.path p) ((Ac2 p v).bind λf=>some (f,())) ((Aqp n p v).bind λg=>some (g,()))) (cond (decide (n.kind=2)) ((Bja p n.path).bind λh=>cond (!h) ((Aqp n p v).bind λi=>some (i,())) (chk (inb 0 n.kids.length) (chk (upto (n.path.length:Int) p.length p.length) ((A0l [w,n.path]).bind λj=>(rf ((at' .node n.kids 0),(p.drop ((n.path.length:Int):Int).toNat),v,j)).bind λ(k,_)=>some ((NodeS.mk n.kind n.path n.has n.val [k] n.hash),()))))) (chk (decide (n.kids.length<=2000000)) (cond (List.isEmpty n.kids) (cond (decide ((p.length:Int)=0)) ((C5 v).bind λl=>some ((NodeS.mk n.kind n.path true l [] n.hash),())) (chk (inb 0 p.length) (chk (inb ((at' .byte p 0).toNat:Int) 0) (chk (upto 1 p.length p.length) (chk (upto 0 1 p.length) ((A0l [w,(p.take (1:Int).toNat)]).bind λb=>(rf ((at' .node [] ((at' .byte p 0).toNat:Int)),(p.drop (1:Int).toNat),v,b)).bind λ(_,_)=>chk (inb 0 p.length) (chk (inb ((at' .byte p 0).toNat:Int) 0) (none)))))))) (cond (decide ((p.length:Int)=0)) ((C5 v).bind λc=>chk (decide ((0:Int)<=0)&&decide ((0:Int)<=(n.kids.length:Int))&&decide ((0+(n.kids.length:Int))<=(n.kids.length:Int))) (some ((NodeS.mk n.kind n.path true c (cut n.kids 0 (0+(n.kids.length:Int))) n.hash),()))) (chk (inb 0 p.length) (chk (inO ((at' .byte p 0).toNat:Int) (n.kids.length:Int)) (chk (inb (0+((at' .byte p 0).toNat:Int)) n.kids.length) (chk (upto 1 p.length p.length) (chk (upto 0 1 p.length) ((A0l [w,(p.take (1:Int).toNat)]).bind λd=>(rf ((at' .node n.kids (0+((at' .byte p 0).toNat:Int))),(p.drop (1:Int).toNat),v,d)).bind λ(a,_)=>chk (inb 0 p.length) (chk (inO ((at' .byte p 0).toNat:Int) (n.kids.length:Int)) (chk (inb (0+((at' .byte p 0).toNat:Int)) n.kids.length) (chk (decide ((0:Int)<=0)&&decide ((0:Int)<=(n.kids.length:Int))&&decide ((0+(n.kids.length:Int))<=((n.kids.set ((0+((at' .byte p 0).toNat:Int)):Int).toNat a).length:Int))) (some ((NodeS.mk n.kind n.path n.has n.val (cut (n.kids.set ((0+((at' .byte p 0).toNat:Int)):Int).toNat a) 0 (0+(n.kids.length:Int))) n.hash),())))))))))))))))))
theorem Bt6(rf:FT [.sv .node,Yl1,Yl1,Yl1] [.sv .node,.nl .byte])(a:FO 112 [.sv .node,Yl1,Yl1,Yl1] [.sv .node,.nl .byte] rf):FO 112 [.sv .node,Yl1,Yl1,Yl1] [.sv .node,.nl .byte] (I1 rf):=fR (px:=Bxn _ rf) (n:=0) Tryz.func112 rfl (λ_ H=>⟨lv H (c1 H Akd (c1 H Ba5 (c1 H Bsu (c1 H Ayn (As (cCl H Agx Aca) (c1 H Eo Ae)))))) (q1 H Hd (q1 H Bgp (q1 H a Aa))) Ab,Ai⟩) λ(_,_,_,_)=>by kernel_rfl
def B3o(n:NodeS)(p v w:Str):Ya1 (NodeS×Unit):=Aj I1 500 (n,p,v,w)
def Bsj:FT [.sv .node,Yl1,Yl1,Yl1] [.sv .node,.nl .byte]:=λx=>B3o x.1 x.2.1 x.2.2.1 x.2.2.2
theorem Bw8:FO 112 [.sv .node,Yl1,Yl1,Yl1] [.sv .node,.nl .byte] Bsj:=.fin0 (FnOk.rec' (Sx.enters_of Tryz.func112 rfl rfl) (λrf a=>Bt6 rf a) 500) λ_ _ _ b=>b
def Bxv(R:Type):Px R:=pxO [(109,cA Aqj),(30,cA Aog),(111,cA Bd1),(112,cA Bsj)] [] [] []
def Aek(x:HV [.sv .node,Yl1,Yl1]):Ya1 (HV [.sv .node,.nl .byte,Yc1]):=match x with|(n,k,v)=>(Alh n k v).bind λx=>cond (!x) (some ((NodeS.mk 0 [] false [] [] []),(),2)) ((Amt n).bind λa=>(nof k).bind λb=>(B3o a b v []).bind λ(c,_)=>some (c,(),0))
theorem Brf:FO 73 [.sv .node,Yl1,Yl1] [.sv .node,.nl .byte,Yc1] (Aek):=fR (px:=Bxv _) (n:=0) Tryz.func73 rfl (λ_ H=>⟨lv H (c1 H Ar6 (c1 H As6 (c1 H Baz (c1 H Bw8 Ae)))) Aa Ab,Ai⟩) λ(_,_,_)=>by kernel_rfl
def Bx9(n:NodeS)(k v:Str):Ya1 (NodeS×Unit×Int):=Aek (n,k,v)
def Boj:FT [.sv .node,Yl1,Yl1] [.sv .node,.nl .byte,Yc1]:=λx=>Bx9 x.1 x.2.1 x.2.2
theorem Bzt:FO 73 [.sv .node,Yl1,Yl1] [.sv .node,.nl .byte,Yc1] Boj:=.fin0 Brf λ_ _ _ a=>a
noncomputable section
def Ai5:Sig:=⟨2,[(1,.sl .byte false)],[(0,.ptr 0 0)],[(0,.cells [Yc1,Yl1,.bool,Yl1,.sl .node false,Yl1,.sl .stt false,Yl1])],1,1,0,[],[]⟩
def Ajh:Sig:=⟨3,[(0,.sl .byte false),(1,.bool),(2,.int .i64)],[],[(0,.cells [Yc1,Yl1,.bool,Yl1,.sl .node false,Yl1,.sl .stt false,Yl1])],1,1,0,[],[]⟩
abbrev Brr:=Yb1 UInt8×Int×Yb1 UInt8×Bool×Yb1 UInt8×Yb1 NodeS×Yb1 UInt8×Yb1 NodeS×Yb1 UInt8
abbrev Ayv:=Yb1 UInt8×Bool×Int×Int×Yb1 UInt8×Bool×Yb1 UInt8×Yb1 NodeS×Yb1 UInt8×Yb1 NodeS×Yb1 UInt8
def Asq(R:Type):Px R:=pxO [] [] [] []
noncomputable def Bcw(R:Type):Px R:=pxO [(71,cA Boh),(72,A0 80 400 (Asq R) Tryz.f72)] [] [] []
def Um(x:Brr):Ya1 (Ayv):=match x with|(k,a,b,c,d,e,f,g,h)=>(B0u (NodeS.mk a b c d e f) k).bind λ(x,j,_,i)=>cond (decide (i=80)) (some (x,j,i,a,b,c,d,e,f,g,[])) (some (x,j,i,a,b,c,d,e,f,g,h))
theorem Bs2:FM 32 Ai5 Ajh (Um):=fRL (px:=Bcw _) (n:=0) Tryz.func32 rfl (λcx H=>by have a:Lv cx (Asq (Ayv)):=lv H Ae Aa Ab;have b:Lv cx (Bcw (Ayv)):=lv H (c1 H Bx1 (As (cR H a Tryz.func72 rfl (n:=0) (Ai)) Ae)) Aa Ab;exact⟨b,Ai⟩) λ(_,_,_,_,_,_,_,_,_)=>by kernel_rfl
def Yx:Brr->Ya1 Ayv:=λx=>Um x
theorem Bf0:FM 32 Ai5 Ajh (Yx):=Bs2
def A0z:Sig:=⟨3,[(1,.sl .byte false),(2,.sl .byte false)],[(0,.ptr 0 0)],[(0,.cells [Yc1,Yl1,.bool,Yl1,.sl .node false,Yl1,.sl .stt false,Yl1])],1,1,0,[],[]⟩
def Az2:Sig:=⟨1,[(0,.int .i64)],[],[(0,.cells [Yc1,Yl1,.bool,Yl1,.sl .node false,Yl1,.sl .stt false,Yl1])],1,1,0,[],[]⟩
abbrev Bv2:=Yb1 UInt8×Yb1 UInt8×Int×Yb1 UInt8×Bool×Yb1 UInt8×Yb1 NodeS×Yb1 UInt8×Yb1 NodeS×Yb1 UInt8
abbrev A0j:=Int×Int×Yb1 UInt8×Bool×Yb1 UInt8×Yb1 NodeS×Yb1 UInt8×Yb1 NodeS×Yb1 UInt8
def Au0(R:Type):Px R:=pxO [] [] [] []
noncomputable def Bcd(R:Type):Px R:=pxO [(73,cA Boj),(72,A0 80 400 (Au0 R) Tryz.f72)] [] [] []
def Ua(x:Bv2):Ya1 (A0j):=match x with|(k,v,a,b,c,d,e,f,g,h)=>(Bx9 (NodeS.mk a b c d e f) k v).bind λ(x,_,i)=>cond (decide (i=0)) (cond (decide (i=80)) (some (i,x.kind,x.path,x.has,x.val,x.kids,x.hash,g,[])) (some (i,x.kind,x.path,x.has,x.val,x.kids,x.hash,g,h))) (cond (decide (i=80)) (some (i,a,b,c,d,e,f,g,[])) (some (i,a,b,c,d,e,f,g,h)))
theorem Brw:FM 33 A0z Az2 (Ua):=fRL (px:=Bcd _) (n:=0) Tryz.func33 rfl (λcx H=>by have a:Lv cx (Au0 (A0j)):=lv H Ae Aa Ab;have b:Lv cx (Bcd (A0j)):=lv H (c1 H Bzt (As (cR H a Tryz.func72 rfl (n:=0) (Ai)) Ae)) Aa Ab;exact⟨b,Ai⟩) λ(_,_,_,_,_,_,_,_,_,_)=>by kernel_rfl
def Ay3:Bv2->Ya1 A0j:=λx=>Ua x
theorem Byx:FM 33 A0z Az2 (Ay3):=Brw
def V2:Sig:=⟨4,[(1,.sl .byte false),(2,.sl .byte false),(3,.int .i64)],[(0,.ptr 0 0)],[(0,.cells [Yc1,Yl1,.bool,Yl1,.sl .node false,Yl1,.sl .stt false,Yl1])],1,1,0,[],[]⟩
def Vn:Sig:=⟨2,[(0,.sl .kv false),(1,.int .i64)],[],[(0,.cells [Yc1,Yl1,.bool,Yl1,.sl .node false,Yl1,.sl .stt false,Yl1])],1,1,0,[],[]⟩
abbrev A7e:=Yb1 UInt8×Yb1 UInt8×Int×Int×Yb1 UInt8×Bool×Yb1 UInt8×Yb1 NodeS×Yb1 UInt8×Yb1 NodeS×Yb1 UInt8
abbrev Abs:=Yb1 KvS×Int×Int×Yb1 UInt8×Bool×Yb1 UInt8×Yb1 NodeS×Yb1 UInt8×Yb1 NodeS×Yb1 UInt8
def Ahh(R:Type):Px R:=pxO [] [] [] []
noncomputable def As1(R:Type):Px R:=pxO [(76,cA A3m),(72,A0 80 400 (Ahh R) Tryz.f72)] [] [] []
def Le(x:A7e):Ya1 (Abs):=match x with|(lo,hi,m,a,b,c,d,e,f,g,h)=>(Axj (NodeS.mk a b c d e f) lo hi m).bind λ(x,j,i)=>cond (decide (i=80)) (chk (decide (0+j.length<=Ah)) (some (x,i,a,b,c,d,e,f,g,([]++j)))) (some (x,i,a,b,c,d,e,f,g,h))
theorem A96:FM 37 V2 Vn (Le):=fRL (px:=As1 _) (n:=0) Tryz.func37 rfl (λcx H=>by have a:Lv cx (Ahh (Abs)):=lv H Ae Aa Ab;have b:Lv cx (As1 (Abs)):=lv H (c1 H Bhl (As (cR H a Tryz.func72 rfl (n:=0) (Ai)) Ae)) Aa Ab;exact⟨b,Ai⟩) λ(_,_,_,_,_,_,_,_,_,_,_)=>by kernel_rfl
def Kq:A7e->Ya1 Abs:=λx=>Le x
theorem At8:FM 37 V2 Vn (Kq):=A96
end
def tbL(R:Type):Yb1 (Nat×Fa R):=[(38,cA Abe),(69,cA E6),(151,cA H4),(157,X5 .node),(199,Aao .byte),(113,Aao .val),(70,Aao .kv),(124,cA Acv)]
theorem Bo9(H:HX cx):∀g f,(g,f)∈tbL R->Hg cx g f:=(c1 H (Anb) (c1 H (Eo) (c1 H (Hd) (As (cCl H Agx Aca) (As (Aw7 H Alw) (As (Aw7 H Ak7) (As (Aw7 H Av7) (c1 H (Av5) Ae))))))))
def tbT(R:Type)(g:Nat):Ya1 (Fa R):=tbl (tbL R) g
def tqL(R:Type):Yb1 (Nat×Ez R):=[(69,qA E6),(151,qA H4)]
theorem Bol(H:HX cx):∀g f,(g,f)∈tqL R->Nu cx g f:=(q1 H (Eo) (q1 H (Hd) Aa))
def tqT(R:Type)(g:Nat):Ya1 (Ez R):=tbl (tqL R) g
def swL:Yb1 (Nat×(Sig×Sig)):=[(32,(⟨2,[(1,.sl .byte false)],[(0,.ptr 0 0)],[(0,.cells [Yc1,Yl1,.bool,Yl1,.sl .node false,Yl1,.sl .stt true,Yl1])],1,1,0,[],[]⟩,⟨3,[(0,.sl .byte false),(1,.bool),(2,.int .i64)],[],[(0,.cells [Yc1,Yl1,.bool,Yl1,.sl .node false,Yl1,.sl .stt true,Yl1])],1,1,0,[],[]⟩)),(13,(⟨3,[(1,.sv .tbl),(2,.sl .val false)],[(0,.ptr 0 0)],[(0,.cells [Yc1,Yl1,.bool,Yl1,.sl .node false,Yl1,.sl .stt true,Yl1])],1,1,0,[],[]⟩,⟨1,[(0,.int .i64)],[],[(0,.cells [Yc1,Yl1,.bool,Yl1,.sl .node false,Yl1,.sl .stt true,Yl1])],1,1,0,[],[]⟩)),(18,(⟨4,[(1,.sv .tbl),(2,.str),(3,.sv .val)],[(0,.ptr 0 0)],[(0,.cells [Yc1,Yl1,.bool,Yl1,.sl .node false,Yl1,.sl .stt true,Yl1])],1,1,0,[],[]⟩,⟨2,[(0,.sl .vals false),(1,.int .i64)],[],[(0,.cells [Yc1,Yl1,.bool,Yl1,.sl .node false,Yl1,.sl .stt true,Yl1])],1,1,0,[],[]⟩)),(21,(⟨3,[(1,.sv .tbl),(2,.sl .val false)],[(0,.ptr 0 0)],[(0,.cells [Yc1,Yl1,.bool,Yl1,.sl .node false,Yl1,.sl .stt true,Yl1])],1,1,0,[],[]⟩,⟨3,[(0,.sl .val false),(1,.bool),(2,.int .i64)],[],[(0,.cells [Yc1,Yl1,.bool,Yl1,.sl .node false,Yl1,.sl .stt true,Yl1])],1,1,0,[],[]⟩)),(59,(⟨3,[(1,.sl .byte false),(2,.sl .vals false)],[(0,.ptr 0 0)],[(0,.cells [.sl .kv true,Yc1])],1,1,0,[],[]⟩,⟨0,[],[],[(0,.cells [.sl .kv true,Yc1])],1,1,0,[],[]⟩))]
def swT(g:Nat):Ya1 (Sig×Sig):=tbl swL g
def fnL:Yb1 Nat:=[8,9,12,13,16,18,21,24,25,26,29,30,31,32,33,34,35,36,37,39,41,45,46,47,48,52,53,54,55,56,57,58,59,68,71,72,73,74,75,76,77,80,81,82,86,87,88,89,90,91,92,93,94,95,96,105,106,107,108,109,110,111,112,114,115,116,117,123,125,129,130,131,132,133,134,135,136,137,138,139,140,149,150,152,153,154,155,156,158,159,160,161,162,168,176,177,178,179,180,181,182,183,184,185,186,187,188,189,190,191,192,198,200,201,202,203,204,205,206,211,212,213,214,215,216,217,218,219,220,221,222,223,224,225,227,228,229,230,231,232,233,238,239,240,241,251,252,253,254,255,256,257,258,259,260,261,262,263,264,265,266,267,268,272,277,278]
noncomputable def Bey(g:Nat):Ya1 Func:=match fnL.contains g with|true=>Tryz.prog.funcs.toList[g]?|false=>none
theorem B37:(fnL.all λg=>match Tryz.prog.funcs.toList[g]? with
  |some fn=> !(fn.name == "runtime.NumGoroutine")&&match fn.body with|some c=>Bw fn.ntmps c|none=>false
  |none=>true)=true:=by kernel_rfl
theorem A1x:Ag0 Tryz.prog Bey:=by
 intro g fn h;unfold Bey at h;split at h
 ·rename_i hc;have a:=Zg2.1 B37 g (by simpa using hc);rw[h]at a;simp only[Zb1,Bool.not_eq_true']at a;refine⟨by simpa using h,a.1,?_⟩;cases hb:fn.body with|none=>rw[hb]at a;simp at a|some c=>rw[hb]at a;exact⟨c,rfl,a.2⟩
 ·cases h
noncomputable def A5i(R:Type):Px R:=co (Ako ttL) glT Bey tbT tqT swT 3000 R
theorem Adl(a:cx.P=Tryz.prog)(e2:cx.el=elT)(b:cx.gl=glT):HX cx:=⟨a,e2,b,Ani Z0,follows⟩
theorem Bog:(swL.all λq=>lnB q.2.1 q.2.2)=true:=by kernel_rfl
theorem B0p(R:Type)(cx:Cx)(a:cx.P=Tryz.prog)(e2:cx.el=elT)(b:cx.gl=glT):Lv2 cx (A5i R):=A1v follows (Ani Z0) A1x (λR cx a e2 b g f h=>Bo9 (Adl a e2 b) g f (Dw h)) (λR cx a e2 b g f h=>Bol (Adl a e2 b) g f (Dw h)) (λg q h=>Zg2.1 Bog (g,q) (Dw h)) 3000 R cx a e2 b
end Go.Proofs.YtcoaaebppfbbnaaGreatDoor
