/- Texts of the proof,one behind the other: Tj,Tk,Trl,Trm,Tro,Dba,Dbb,Dbc,Dbd,Roc,Rod,Roe,Rog,Zn,Zx,Roh,Roj,Kdo,Bya,Byb,Byc,Byd,Ub,AxFs,FrG. -/
import Derived.Test.YtcoaaebppfbbnaaGreatDoorU18
import Derived.Test.YtcoaaebppfbbnaaGreatDoorRows
import Derived.ProofKit
import Derived.ChangeMaps5
import Derived.ChangeAnyMap
import Derived.Test.YtcoaaebppfbbnaaGreatDoorCards
import Derived.Test.YtcoaaebppfbbnaaGreatDoorTie
import Derived.OpenShut
import Derived.Deep.DeepHandedRow
import Derived.Shelf.Vars
set_option linter.all false
namespace Go.Proofs.YtcoaaebppfbbnaaGreatDoor
open Go.Ax
theorem Bwk{a b:Yb1 KvS}(m:a.length<=500000)(hb:b.length<=500000):Bzk [a,b]=some (a++b):=by
 have f:decide ((0:Int)<(([a,b].length:Nat):Int))=true:=rfl;have d2:decide ((1:Int)<(([a,b].length:Nat):Int))=true:=rfl;have g:decide ((2:Int)<(([a,b].length:Nat):Int))=false:=rfl;have w1:wr .i64 (0+1)=1:=by decide
 have w2:wr .i64 (1+1)=2:=by decide
 have a0:at' .kvs [a,b] 0=a:=rfl;have a1:at' .kvs [a,b] 1=b:=rfl;have i0:inb 0 [a,b].length=true:=rfl;have i1:inb 1 [a,b].length=true:=rfl;have h:wr .i64 (0+(a.length:Int))=(a.length:Int):=by rw[Be (by simp only[inI];omega)];omega
 have i:wr .i64 ((a.length:Int)+(b.length:Int))=((a.length+b.length:Nat):Int):=by rw[Be (by simp only[inI];omega)];omega
 have p1:decide ((a.length:Int)<0)=false:=Zd1 (by omega);have p2:decide (((a.length+b.length:Nat):Int)<0)=false:=Zd1 (by omega);have q1:decide ((0:Int)<=((a.length+b.length:Nat):Int))=true:=Ze1 (by omega);have j:decide (((a.length+b.length:Nat):Int)<=2000000)=true:=Ze1 (by omega);have k:decide (([]:Yb1 KvS).length+a.length<=Ah)=true:=Ze1 (by simp only[Ah,Zi1];omega);have l:decide (([]++a:Yb1 KvS).length+b.length<=Ah)=true:=Ze1 (by simp only[Ah,Zf2];omega);have d:∀{R:Type}(kx:Ex->Acz->Ya1 R),Aj (λc=>Y7 c kx) 100 ([a,b],0,[a,b],(([a,b].length:Nat):Int),0)=kx (.exit 0) ([a,b],((a.length+b.length:Nat):Int),[a,b],(([a,b].length:Nat):Int),2):=λkx=>by rw[show(100:Nat)=97+1+1+1 from rfl,Au];simp only[Y7,f,Af,i0,chk,a0,h,p1,Ag,w1];rw[Au];simp only[Y7,d2,Af,i1,chk,a1,i,p2,Ag,w2];rw[Au];simp only[Y7,g,Ag]
 have e:∀{R:Type}(kx:Ex->Ado->Ya1 R),Aj (λc=>Yk c kx) 100 ([],[a,b],(([a,b].length:Nat):Int),0)=kx (.exit 2) ([]++a++b,[a,b],(([a,b].length:Nat):Int),2):=λkx=>by rw[show(100:Nat)=97+1+1+1 from rfl,Au];simp only[Yk,f,Af,i0,chk,a0,k,w1];rw[Au];simp only[Yk,d2,Af,i1,chk,a1,l,w2];rw[Au];simp only[Yk,g,Ag]
 simp only[Bzk,Af6];rw[d];simp only[q1,j,Bool.and_true,chk,Af];rw[e];simp
def M1(tb:Tbl)(r:Yb1 Val)(t:T):Int×T:=cond (decide ((Aqt tb r).2=0)) (match Rm t (Dd tb r::Fw tb r tb.cols r)with|some j=>(if j=0 then 180 else 181,t)|none=>(0,Ij t (Fx tb r))) ((Aqt tb r).2,t)
variable{r:Yb1 Val}{tb:Tbl}
theorem Be4(h:(Aqt tb r).2=0)(b:Ey tb r=0\/Ey tb r≠0):Ey tb r=0/\(Fx tb r).all Alb=true/\Aqt tb r=(Fx tb r,0):=by
 unfold Aqt at *;cases a:decide (Ey tb r=0)with
 |false=>rw[a]at h;exact absurd h (of_decide_eq_false a)
 |true=>rw[a]at h;cases c:(Fx tb r).all Alb with|false=>rw[c]at h;cases h|true=>exact⟨of_decide_eq_true a,rfl,rfl⟩
theorem Al1{p:KvS}:Alb p=true↔Bj4 p:=by simp[Alb,Bj4]
variable{g:Yb1 NodeS}{h:Str}{t:T}
theorem B59(m:Qt tb r=some (Ey tb r))(hb:Gr r)(l:t.Wf 0)(k:Nat)(q : 600<k) :
  N8 k (tb,r,t.node.kind,t.node.path,t.node.has,t.node.val,t.node.kids,t.node.hash,g,h)=some ((M1 tb r t).1,(M1 tb r t).2.node.kind,(M1 tb r t).2.node.path,(M1 tb r t).2.node.has,(M1 tb r t).2.node.val,(M1 tb r t).2.node.kids,(M1 tb r t).2.node.hash,g,h):=by
 simp only[N8,B0n m hb,Zc1,M1];cases n:decide ((Aqt tb r).2=0)with
 |false=>rfl
 |true=>
  obtain⟨d,e,c⟩:=Be4 (of_decide_eq_true n) (Classical.em _);have f:=Ft d;have a:A2d tb r=some (⟨[Dd tb r],eKv (Dd tb r)⟩,⟨tb.idx.map (F9 tb r),Hq 0 (tb.idx.map (F9 tb r))⟩,⟨Fw tb r tb.cols r,Hq 0 (Fw tb r tb.cols r)⟩,⟨Ic tb r tb.cols r,Hq 0 (Ic tb r tb.cols r)⟩):=Bch f hb 5000 (by omega);have s:=Tl (V5 d).1;have u:=Ai6 (t:=tb) (r:=r) tb.cols r;have i:(Aqt tb r).1.length<=400:=by rw[c];have:=(Ku (V5 d).1).2.2.1;have v:=Ai7 (t:=tb) (r:=r) tb.cols r;simp only[Fx,Zf1,Zh1,List.length_map];omega
  have b:∀p,p∈Fx tb r->Bj4 p:=λp a=>Al1.1 (Zg2.1 e p a);simp only[Zt1,Ag,Af,a,Zc1,Bwk (show [Dd tb r].length<=500000 by simp) (show(Fw tb r tb.cols r).length<=500000 by omega)];have o:∀p,p∈[Dd tb r]++Fw tb r tb.cols r->p.key.length<=200:=λp a=>by
   refine(b p ?_).1;simp only[Fx,List.mem_cons,List.mem_append,List.not_mem_nil,or_false]at a ⊢;rcases a with a|a
   ·exact .inl a
   ·exact .inr (.inr (.inl a))
  refine(Ave l (by simp only[Zh1,List.length_singleton];omega) o k 0 (by omega) (by simp only[Zh1,List.length_singleton];omega)).trans ?_;simp only[Zq1,List.singleton_append];cases Rm t (Dd tb r::Fw tb r tb.cols r)with
  |some j=>simp only[Nat.zero_add]
  |none=>
   simp only[];rw[c];have i:(Fx tb r).length<=400:=by rw[c]at i;exact i
   refine(Awj (by omega) b k 0 t l (by omega) (by omega)).trans ?_;simp only[Zq1]
theorem B22(a:Qt tb r=some (Ey tb r))(hb:Gr r)(b:t.Wf 0) :
  A0m (tb,r,t.node.kind,t.node.path,t.node.has,t.node.val,t.node.kids,t.node.hash,g,h)=some ((M1 tb r t).1,(M1 tb r t).2.node.kind,(M1 tb r t).2.node.path,(M1 tb r t).2.node.has,(M1 tb r t).2.node.val,(M1 tb r t).2.node.kids,(M1 tb r t).2.node.hash,g,h):=B59 a hb b 5000 (by omega)
abbrev vgR:=Int×Int×Int
def vgX:Ex->Rz->Ya1 vgR:=λe f=>match f with|(_,a,b,c,_,d,_,_,_)=>match e with|.ret=>some (a,b,c)|.exit 0=>some (0,0,d)|_=>none
theorem Bz6{b:Str}{p:Nat}(c:p<=b.length)(hb:b.length<=1000000):Ar0 b (p:Int)=Aj (λa=>Pd a vgX) 100 ((p:Int),0,0,0,0,10,b.drop p,((b.drop p).length:Int),0):=by simp only[Ar0,Afg];rw[Zd1 (show ¬(p:Int)<0 by omega),Ag,Zd1 (show ¬(b.length:Int)<(p:Int) by omega),Ag,show upto (p:Int) b.length b.length=true by simp[upto,Zb1];omega];rfl
theorem A73{n:Nat}(h:n<256):(UInt8.ofNat n).toNat=n:=by simp_all
theorem B3n:∀c:Nat,c<256->wr .u64 (Ht .u8 (c:Int) 127)=((c % 128:Nat):Int):=by decide +kernel
variable{i:Nat}
theorem B5w{x:Nat}(hi:i<=9)(h:x*2 ^ (7*i)<18446744073709551616):W0 .u64 (x:Int) (wr .i64 (7*(i:Int)))=((x*2 ^ (7*i):Nat):Int):=by
 have e:(wr .i64 (7*(i:Int))).toNat=7*i:=by rw[Be (by simp[inI];omega)];omega
 show wr .u64 ((x:Int)*2 ^ min (wr .i64 (7*(i:Int))).toNat IntKind.u64.bits)=_;rw[e,Nat.min_eq_left (by simp[IntKind.bits];omega),<-Af3 h];simp
variable{a:Nat}
theorem B6p{x:Nat}(c:a<2 ^ (7*i))(h:a+x*2 ^ (7*i)<18446744073709551616):ior .u64 (a:Int) ((x*2 ^ (7*i):Nat):Int)=((a+x*2 ^ (7*i):Nat):Int):=by
 have d:(BitVec.ofInt 64 ((x*2 ^ (7*i):Nat):Int)).toNat=x*2 ^ (7*i):=by simp only[BitVec.toNat_ofInt];omega
 have e:(BitVec.ofInt 64 (a:Int)).toNat=a:=by simp only[BitVec.toNat_ofInt];omega
 have f:a ||| x*2 ^ (7*i)=a+x*2 ^ (7*i):=by have:=Nat.shiftLeft_add_eq_or_of_lt (i:=7*i) (b:=a) c x;rw[Nat.shiftLeft_eq]at this;rw[Nat.or_comm,<-this];omega
 show IntKind.wrap .u64 (((BitVec.ofInt 64 (a:Int) ||| BitVec.ofInt 64 ((x*2 ^ (7*i):Nat):Int)).toNat:Nat):Int)=_;rw[BitVec.toNat_or,d,e,f];exact Af3 h
theorem A22{p:Int}{l:Str}(hi:i<l.length)(d:i<=9)(f:ln l.length)(g:a<2 ^ (7*i))(h:a+(l[i].toNat % 128)*2 ^ (7*i)<18446744073709551616)(b:Rz->Ya1 vgR) :
  Pd b vgX (p,0,0,0,(a:Int),10,l,(l.length:Int),(i:Int))=if(i=9/\1<l[i].toNat)\/(l[i].toNat=0/\0<i)then some (0,0,11)else if l[i].toNat<128 then some (((a+(l[i].toNat % 128)*2 ^ (7*i):Nat):Int),wr .i64 (wr .i64 (p+i)+1),0)else b (p,0,0,0,((a+(l[i].toNat % 128)*2 ^ (7*i):Nat):Int),10,l,(l.length:Int),((i+1:Nat):Int)):=by
 have hc:=l[i].toNat_lt;have e:ior .u64 (a:Int) (W0 .u64 (wr .u64 (Ht .u8 (l[i].toNat:Int) 127)) (wr .i64 (7*(i:Int))))=((a+(l[i].toNat % 128)*2 ^ (7*i):Nat):Int):=by rw[B3n _ hc,B5w d (by omega),B6p g h]
 have c1:decide (0<=wr .i64 (7*(i:Int)))=true:=by rw[Be (by simp[inI];omega)];exact Ze1 (by omega)
 simp only[Pd,Cs hi,Af,Ao hi,chk,Al (c:=.byte) hi,Am hi f,vgX,c1,e]
 grind
theorem Bd4{p:Nat}{l r:Str}(w:p+l.length<=1000000):∀(k i a m f:Nat),i+k=9->l.drop i=Dh k m++r->a<2 ^ (7*i)->a+m*2 ^ (7*i)<18446744073709551616->(0<i->0<m)->k<f ->
  Aj (λc=>Pd c vgX) f ((p:Int),0,0,0,(a:Int),10,l,(l.length:Int),(i:Int))=some (((a+m*2 ^ (7*i):Nat):Int),((p+i+(Dh k m).length:Nat):Int),0)
 |_,_,_,_,0,_,_,_,_,_,h=>by omega
 |k,i,a,m,f+1,hk,hd,ha,hm,h0,hf=>by
  have g:=congrArg List.length hd;have z:=F2 k m;rw[Za2,Zh1]at g;have hi:i<l.length:=by omega
  have j:ln l.length:=by simp[ln];omega
  have o:l[i]=(Dh k m++r)[0]'(by simp;omega):=by
   have:(l.drop i)[0]'(by rw[Za2];omega)=l[i]:=by simp
   rw[<-this];simp only[hd]
  have w1:wr .i64 (wr .i64 ((p:Int)+i)+1)=((p+i+1:Nat):Int):=by rw[Be (n:=(p:Int)+i) (by simp[inI];omega),Be (by simp[inI];omega)];omega
  rw[Au];have b:m<128->Dh k m=[UInt8.ofNat m]->Pd (Aj (λc=>Pd c vgX) f) vgX ((p:Int),0,0,0,(a:Int),10,l,(l.length:Int),(i:Int))=some (((a+m*2 ^ (7*i):Nat):Int),((p+i+(Dh k m).length:Nat):Int),0):=λd e=>by
   have q:l[i].toNat=m:=by rw[o];simp only[e];exact A73 (by omega)
   rw[A22 hi (by omega) j ha (by rw[q,Nat.mod_eq_of_lt d];exact hm),q,Nat.mod_eq_of_lt d,if_neg,if_pos d,w1,e]
   ·rfl
   ·rintro(⟨s,t⟩|⟨t,x⟩)
    ·subst s;have : 2*2 ^ (7*9)<=m*2 ^ (7*9):=Nat.mul_le_mul_right _ t;omega
    ·have:=h0 x;omega
  cases k with
  |zero=>
   have s:i=9:=by omega
   subst s;exact b (by omega) rfl
  |succ k=>
   by_cases d:m<128
   ·exact b d (by simp[Dh,d])
   ·have e:Dh (k+1) m=UInt8.ofNat (m % 128+128)::Dh k (m / 128):=by simp[Dh,d]
    have q:l[i].toNat=m % 128+128:=by rw[o];simp only[e];exact A73 (by omega)
    have u:(m % 128+128) % 128=m % 128:=by omega
    have v : 2 ^ (7*(i+1))=128*2 ^ (7*i):=by rw[Nat.mul_add,Nat.pow_add];omega
    have hq:m % 128*2 ^ (7*i)+(m / 128)*2 ^ (7*(i+1))=m*2 ^ (7*i):=by rw[v,<-Nat.mul_assoc,<-Nat.add_mul];congr 1;omega
    have hle:m % 128*2 ^ (7*i)<=127*2 ^ (7*i):=Nat.mul_le_mul_right _ (by omega);rw[A22 hi (by omega) j ha (by rw[q,u];omega),q,u,if_neg (by omega),if_neg (by omega)];have y:=Bd4 (r:=r) w k (i+1) (a+m % 128*2 ^ (7*i)) (m / 128) f (by omega) (by rw[<-List.drop_drop,hd,e];simp) (by rw[v];omega) (by omega) (by omega) (by omega)
    rw[y,e];simp only[Zf1,Za1,Zp1];refine⟨by congr 1;omega,by congr 1;omega,trivial⟩
theorem Ay9{b r:Str}{p n:Nat}(hd:b.drop p=Dh 9 n++r)(a:n<18446744073709551616)(hb:b.length<=1000000):Ar0 b (p:Int)=some ((n:Int),((p+(Dh 9 n).length:Nat):Int),0)/\p+(Dh 9 n).length+r.length=b.length:=by have c:=congrArg List.length hd;have d:=F2 9 n;rw[Za2,Zh1]at c;refine⟨?_,by omega⟩;rw[Bz6 (by omega) hb];have:=Bd4 (p:=p) (l:=b.drop p) (r:=r) (by rw[Za2];omega) 9 0 0 n 100 rfl (by simpa using hd) (by simp) (by simpa using a) (by omega) (by omega);simpa using this
theorem wrI(n:Int):wr .i64 n=(n+9223372036854775808) % 18446744073709551616-9223372036854775808:=by simp only[wr,IntKind.wrap_i64]
theorem B41{n:Int}(h:inI n=true):Qg .i64 (wr .i64 (Ek .u64 (zz n:Int) 1)) (wr .i64 (0-(wr .i64 (Ht .u64 (zz n:Int) 1))))=n:=by
 have d:=Bs5 h;simp[inI]at h;have c:Ek .u64 (zz n:Int) 1=((zz n / 2:Nat):Int):=by show(zz n:Int).fdiv 2=_;rw[Int.fdiv_eq_ediv_of_nonneg _ (by omega)];omega
 have e2:Ht .u64 (zz n:Int) 1=((zz n % 2:Nat):Int):=by show wr .u64 (((BitVec.ofInt 64 (zz n:Int) &&& BitVec.ofInt 64 1).toNat:Nat):Int)=_;rw[BitVec.toNat_and,show(BitVec.ofInt 64 1).toNat=1 by decide,Nat.and_one_is_mod,BitVec.toNat_ofInt,wrU];omega
 rw[c,e2,Be (n:=((zz n / 2:Nat):Int)) (by simp[inI];omega),Be (n:=((zz n % 2:Nat):Int)) (by simp[inI];omega)];by_cases a:n<0
 ·have z:zz n % 2=1:=by simp only[zz,if_pos a];omega
  have b:((zz n / 2:Nat):Int) = -n-1:=by simp only[zz,if_pos a];omega
  rw[z,b,show wr .i64 (0-((1:Nat):Int)) = -1 by decide];show wr .i64 (((BitVec.ofInt 64 (-n-1) ^^^ BitVec.ofInt 64 (-1)).toNat:Nat):Int)=_;rw[show BitVec.ofInt 64 (-1)=BitVec.allOnes 64 by decide,BitVec.xor_allOnes,BitVec.toNat_not,BitVec.toNat_ofInt,wrI];omega
 ·have z:zz n % 2=0:=by simp only[zz,if_neg a];omega
  have b:((zz n / 2:Nat):Int)=n:=by simp only[zz,if_neg a];omega
  rw[z,b,show wr .i64 (0-((0:Nat):Int))=0 by decide,B5r];show wr .i64 (((BitVec.ofInt 64 n).toNat:Nat):Int)=_;rw[BitVec.toNat_ofInt,wrI];omega
theorem Bzn{b r:Str}{p:Nat}{n:Int}(h:inI n=true)(hd:b.drop p=Dh 9 (zz n)++r)(hb:b.length<=1000000):Bcu b (p:Int)=some (n,((p+(Dh 9 (zz n)).length:Nat):Int),0):=by simp only[Bcu,Ym,(Ay9 hd (Bs5 h) hb).1,Zc1,B41 h]
def wvJ(q:Str)(q1 e:Int)(v:Val):Ya1 Abz:=
 let f:=λ(p2:Bool)=>cond p2 (some (v,q,q1,11)) ((Np (v,q,q1,e)).bind λ(c,a,b,d)=>cond (!c) (some (v,a,b,11)) (some (v,a,b,d)))
 cond (decide (e=0)) (f (!decide (Cn v=0))) (f false)
def wvB(x:Int)(b:Str)(p e:Int):Ya1 Abz:=
 cond (decide (x=1)) (wvJ b p e (Val.mk x 0 [])) (
  cond (decide (x=2)) ((Q3 (b,p,e)).bind λ(i,k,l,m)=>wvJ k l m (Val.mk x (wr .i64 i) [])) (
  cond (decide (x=3)) ((Of (b,p,e)).bind λ(n,o,a,c)=>wvJ o a c (Val.mk x n [])) (
   let j:=λ(p1:Bool)=>cond p1 ((Vk (b,p,e)).bind λ(d,f,g,h)=>wvJ f g h (Val.mk x 0 d)) (wvJ b p 11 (Val.mk x 0 []))
   cond (decide (x=4)) (j (decide (x=4))) (j (decide (x=5))))))
theorem Bil(b:Str)(p e:Int):Sp (b,p,e)=(Q3 (b,p,e)).bind λ(x,c,d,a)=>cond (!decide (a=0)) (some (Val.mk (wr .i64 x) 0 [],c,d,a)) (wvB (wr .i64 x) c d a):=rfl
def wdX:Ex->Aak->Ya1 (Yb1 Val×Int):=λe b=>match b with|(v4,v5,_,_,_,v9,a)=>match e with|.exit 1=>cond (decide (a=0)) (cond (decide (v9<(v4.length:Int))) (some ([],11)) (cond (!decide (a=0)) (some ([],a)) (some (v5,0)))) (cond (!decide (a=0)) (some ([],a)) (some (v5,0)))|_=>none
theorem Bqf{l:Yb1 Val}(a:l.length<=4000):(H6 l).1.length<=110000:=by
 simp only[H6];cases h:l.all (λv=>Aq v)with
 |false=>simp
 |true=>rw[Af];cases hd:decide (100<(l.length:Int))with|true=>simp|false=>have:=of_decide_eq_false hd;have b:=Awp h;have c:=F2 9 l.length;simp only[Ag,Zh1];omega
def okR(r:Yb1 Val):Bool:=decide ((H6 r).2=0)
theorem Bwu{b r s:Str}{p:Nat}(hd:b.drop p=(Dh 5 s.length++s)++r)(hb:b.length<=1000000):Bdz b (p:Int)=some (s,((p+(Dh 5 s.length++s).length:Nat):Int),0)/\b.drop (p+(Dh 5 s.length++s).length)=r:=by
 have f:=congrArg List.length hd;simp only[Za2,Zh1]at f;have a:=hd;rw[Zj1,<-A85 (show s.length<128 ^ 6 by omega)]at a;obtain⟨c,d⟩:=Ay9 a (by omega) hb;rw[A85 (show s.length<128 ^ 6 by omega)]at a c d;rw[Zh1]at d;have e:b.drop (p+(Dh 5 s.length).length)=s++r:=by rw[<-List.drop_drop,a,List.drop_left]
 refine⟨?_,by rw[<-List.drop_drop,hd,List.drop_left]⟩;obtain⟨q,hq⟩:∃q,q=p+(Dh 5 s.length).length:=⟨_,rfl⟩;rw[<-hq]at c d e;simp only[Bdz,X4,c,Zc1,decide_true,Zt1,Ag];rw[Zd1 (by omega),Ag,Be (n:=(b.length:Int)-q) (by simp[inI];omega),show(b.length:Int)-(q:Int)=((b.length-q:Nat):Int) by omega,Af3 (by omega),Zd1 (by omega),Ag,Be (n:=(s.length:Int)) (by simp[inI];omega),Be (by simp[inI];omega)];have g:upto (q:Int) ((q:Int)+(s.length:Int)) b.length=true:=by simp[upto,Zb1];omega
 have hc:cut b (q:Int) ((q:Int)+(s.length:Int))=s:=by simp only[cut,Int.toNat_natCast];rw[e,show((q:Int)+(s.length:Int)).toNat-q=s.length by omega,List.take_left]
 rw[g,hc,chk,Af,Ze1 (show 0+s.length<=Ah by simp[Ah];omega),chk,Af,Zh1,show(q:Int)+(s.length:Int)=((p+((Dh 5 s.length).length+s.length):Nat):Int) by omega];rfl
theorem A66{n:Int}(h : 0<=n/\n<256):((b8 n).toNat:Int)=n:=by obtain⟨m,rfl⟩:=Int.eq_ofNat_of_zero_le h.1;rw[b8,Bri,Int.toNat_natCast,A73 (Nat.mod_lt _ (by omega))];omega
variable{c:UInt8}
theorem A1a{b r:Str}{p:Nat}(hd:b.drop p=c::r)(hb:b.length<=1000000):Q3 (b,(p:Int),0)=some ((c.toNat:Int),b,((p+1:Nat):Int),0)/\b.drop (p+1)=r/\p<b.length:=by
 have d:=congrArg List.length hd;simp only[Za2,Zf1]at d;have a:p<b.length:=by omega
 rw[List.drop_eq_getElem_cons a]at hd;obtain⟨e,f⟩:=List.cons.inj hd;refine⟨?_,f,a⟩;simp only[Q3,Aeg];rw[Zd1 (show ¬(p:Int)=(b.length:Int) by omega),Ag,Be (n:=(p:Int)+1) (by simp[inI];omega),show(p:Int)+1-1=(p:Int) by omega,Be (n:=(p:Int)) (by simp[inI];omega),Ao a,chk,Af,Al (c:=.byte) a,e];rfl
theorem Auy{b r s:Str}{p:Nat}(hd:b.drop p=(Dh 5 s.length++s)++r)(d:s.length<=1000)(hb:b.length<=1000000):Vk (b,(p:Int),0)=some (s,b,((p+(Dh 5 s.length++s).length:Nat):Int),0):=by have a:=hd;rw[Zj1,<-A85 (show s.length<128 ^ 6 by omega)]at a;obtain⟨c,_⟩:=Ay9 a (by omega) hb;simp only[Vk,Z5,c,(Bwu hd hb).1,Zc1];rw[Zd1 (show ¬(1000:Int)<(s.length:Int) by omega)];rfl
variable{q:Int}
theorem Ac0{b:Str}{v:Val}(h:Aq v=true):wvJ b q 0 v=some (v,b,q,0):=by simp only[wvJ,vch,h,Np,J4];cases decide (v.kind=4)<;>rfl
theorem Axs{v:Val}(h:Aq v=true):(v.kind=1->v.n=0/\v.s=[])/\(v.kind=2->(v.n=0\/v.n=1)/\v.s=[])/\(v.kind=3->v.s=[])/\(v.kind=4\/v.kind=5->v.n=0):=by
 obtain⟨k,n,s⟩:=v;refine⟨λa=>?_,λa=>?_,λa=>?_,λa=>?_⟩
 ·simp only at a;subst a;by_cases b:n=0<;>simp[Aq,b]at h ⊢ <;> grind
 ·simp only at a;subst a;by_cases b:n=0<;>by_cases c:n=1<;>simp[Aq,b,c]at h ⊢ <;> grind
 ·simp only at a;subst a;simp[Aq]at h ⊢
  grind
 ·rcases a with a|a<;>(simp only at a;subst a;by_cases b:n=0<;>simp[Aq,b]at h ⊢)
theorem A8b{b r:Str}{p:Nat}{v:Val}(h:Aq v=true)(i:inI v.n=true)(hd:b.drop p=Po v++r)(hb:b.length<=1000000):Sp (b,(p:Int),0)=some (v,b,((p+(Po v).length:Nat):Int),0)/\b.drop (p+(Po v).length)=r:=by
 refine⟨?_,by rw[<-List.drop_drop,hd,List.drop_left]⟩;have c:=hd;rw[Po,Zb2]at c;obtain⟨w1,w2,w3⟩:=A1a c hb;obtain⟨j,l,m,e⟩:=Axs h;have d:=Aif h;have f:wr .i64 ((b8 v.kind).toNat:Int)=v.kind:=by rw[A66 (by omega),Be (by simp[inI];omega)]
 rw[Bil,w1,Zc1];simp only[f,decide_true,Zt1,Ag];simp only[wvB];obtain⟨k,n,s⟩:=v;simp only at j l m e d w2 ⊢;rcases d with rfl|rfl|rfl|rfl|rfl
 ·obtain⟨rfl,rfl⟩:=j rfl;exact Ac0 h
 ·obtain⟨o,rfl⟩:=l rfl;have w2:b.drop (p+1)=b8 n::r:=by rw[w2];rfl
  obtain⟨a,_,_⟩:=A1a w2 hb;rw[Zd1 (by decide),Ag,Ze1 (by decide),Af,a,Zc1];simp only[A66 (show 0<=n/\n<256 by omega),Be (show inI n by simpa using i)];exact Ac0 h
 ·obtain rfl:=m rfl;have w2:b.drop (p+1)=Dh 9 (zz n)++r:=by rw[w2];rfl
  have a:=Bzn i w2 hb;rw[Zd1 (by decide),Ag,Zd1 (by decide),Ag,Ze1 (by decide),Af];simp only[Of,Qk,a,Zc1];rw[Ac0 h,Po];simp only[if_neg (show ¬(3:Int)=2 by decide),if_true,Zf1,Za1,Zp1,true_and,and_true];omega
 ·obtain rfl:=e (.inl rfl);have g:=Kj h (.inl rfl);have w2:b.drop (p+1)=(Dh 5 s.length++s)++r:=by rw[w2];rfl
  have a:=Auy w2 g hb;rw[Zd1 (by decide),Ag,Zd1 (by decide),Ag,Zd1 (by decide),Ag,Ze1 (by decide),Af,Af,a,Zc1];simp only;rw[Ac0 h,Po];simp only[if_neg (show ¬(4:Int)=2 by decide),if_neg (show ¬(4:Int)=3 by decide),true_or,if_true,Zf1,Za1,Zp1,true_and,and_true];omega
 ·obtain rfl:=e (.inr rfl);have g:=Kj h (.inr rfl);have w2:b.drop (p+1)=(Dh 5 s.length++s)++r:=by rw[w2];rfl
  have a:=Auy w2 g hb;rw[Zd1 (by decide),Ag,Zd1 (by decide),Ag,Zd1 (by decide),Ag,Zd1 (by decide),Ag,Ze1 (by decide),Af,a,Zc1];simp only;rw[Ac0 h,Po];simp only[if_neg (show ¬(5:Int)=2 by decide),if_neg (show ¬(5:Int)=3 by decide),or_true,if_true,Zf1,Za1,Zp1,true_and,and_true];omega
theorem Boc{b:Str}{n:Nat}(hb:b.length<=1000000)(d:n<=100):∀(l:Yb1 Val) (k p:Nat) (acc:Yb1 Val),b.drop p=Lz l->p<=b.length->l.length<k->acc.length+l.length=n->(∀v,v∈l->Aq v=true/\inI v.n=true)->Aj (λa=>Af2 a wdX) k (b,acc,(n:Int),(acc.length:Int),b,(p:Int),0)=some (acc++l,0)
 |_,0,_,_,_,_,h,_,_=>by omega
 |[],k+1,p,acc,hd,hp,_,ha,_=>by have:=congrArg List.length hd;simp[Lz]at this ha;rw[Au];simp only[Af2,Zd1 (show ¬(acc.length:Int)<(n:Int) by omega),Ag,wdX,Zd1 (show ¬(p:Int)<(b.length:Int) by omega),List.append_nil];rfl
 |v::l,k+1,p,acc,hd,hp,hk,ha,hv=>by simp only[Zf1]at hk ha;rw[Za]at hd;obtain⟨v1,v2⟩:=hv v (by simp);obtain⟨e,f⟩:=A8b v1 v2 hd hb;have g:=congrArg List.length hd;simp only[Za2,Zh1]at g;have c:=Boc hb d l k (p+(Po v).length) (acc++[v]) f (by omega) (by omega) (by simp;omega) λx i=>hv x (by simp[i]);rw[Au];simp only[Af2,Ze1 (show(acc.length:Int)<(n:Int) by omega),Af,e,Zc1,chk,Ze1 (show acc.length+1<=Ah by simp[Ah];omega),decide_true,Zt1,Ag,show(acc.length:Int)+1=((acc.length+1:Nat):Int) by omega,Af3 (show acc.length+1<18446744073709551616 by omega)];rw[Zh1]at c;exact c.trans (by rw[Zj1];rfl)
theorem Buu{l:Yb1 Val}(h:okR l=true):(∀v,v∈l->Aq v=true)/\l.length<=100/\(H6 l).1=Dh 9 l.length++Lz l:=by
 have h:=of_decide_eq_true h;cases a:l.all (λv=>Aq v)with
 |false=>simp[H6,a]at h
 |true=>cases b:decide (100<(l.length:Int))with|true=>simp[H6,a,b]at h|false=>have:=of_decide_eq_false b;refine⟨λv hv=>Zg2.1 a v hv,by omega,by simp[H6,a,b]⟩
theorem A3a{l:Yb1 Val}(h:okR l=true)(a:∀v,v∈l->inI v.n=true):Ba2 (H6 l).1=some (l,0):=by obtain⟨c,d,e⟩:=Buu h;have f:(H6 l).1.length<=110000:=Bqf (by omega);rw[e]at f ⊢;have g:=(Ay9 (b:=Dh 9 l.length++Lz l) (p:=0) rfl (show l.length<18446744073709551616 by omega) (by omega)).1;simp only[Ba2,Ae8];rw[show Ar0 (Dh 9 l.length++Lz l) 0=_ from g,Zc1,Ze1 rfl,Zt1,Ag,Zd1 (show ¬(100:Int)<(l.length:Int) by omega),Ag];exact Boc (n:=l.length) (by omega) d l 5000 _ [] (by rw[Nat.zero_add,List.drop_left]) (by simp) (by omega) (by simp) λv hv=>⟨c v hv,a v hv⟩
theorem A4p(f:FitR tb r):okR r=true:=by have a:r.all (λv=>Aq v)=true:=Zg2.2 f.right;have b:decide (100<(r.length:Int))=false:=Zd1 (by have:=f.len;have:=f.ncols;omega);exact Ze1 (by simp[H6,a,b])
theorem A41(b:Qt tb r=some (Ey tb r))(a:Ey tb r=0)(hb:Gr r):Agi tb (Dd tb r).val=some (r,0):=by have c:Ba2 (Dd tb r).val=some (r,0):=A3a (A4p (Ft a)) hb;simp only[Agi,Y9,c,Zc1,b,a,decide_true,Zt1,Ag]
theorem Beh(h:c≠255):(c+1).toNat=c.toNat+1:=by have a:c.toNat≠255:=λe=>h (UInt8.toNat_inj.1 e);have b:=c.toNat_lt;rw[UInt8.toNat_add];have:(1:UInt8).toNat=1:=rfl;omega
theorem Beg:∀(b k:Str),(A7 b k).isSome=true↔¬k<b/\(nxt b=[]\/k<nxt b)
 |[],k=>by simp[A7,nxt]
 |c::l,[]=>by have:=List.nil_lt_cons c l;simp[A7]
 |c::l,x::k=>by
  simp only[A7,nxt,List.cons_lt_cons_iff];have j:=x.toNat_lt;by_cases e:c=x
  ·subst e;have f:=Beg l k;simp only[if_true,f,Xb,Nat.lt_irrefl,false_or,true_and];by_cases a:nxt l=[]
   ·simp only[a,if_true,true_or,and_true];by_cases hc:c=255
    ·simp[hc]
    ·have:=Beh hc;simp only[hc,if_false,List.cons_lt_cons_iff,Xb,this];simp
   ·simp[a,List.cons_lt_cons_iff,Xb]
  ·have g:c.toNat≠x.toNat:=λh=>e (UInt8.toNat_inj.1 h);have e2:¬x=c:=λh=>e h.symm;simp only[e,if_false,e2,false_and,or_false,Xb];by_cases d:x.toNat<c.toNat
   ·simp[d]
   ·by_cases a:nxt l=[]
    ·simp only[a,if_true];by_cases hc:c=255
     ·subst hc;have:(255:UInt8).toNat=255:=rfl;omega
     ·have:=Beh hc;simp only[hc,if_false,List.cons_lt_cons_iff,Xb,this];have i:¬x.toNat<c.toNat+1:=by omega
      simp[i]
    ·simp only[a,if_false,List.cons_lt_cons_iff,Xb,e2,false_and,or_false];simp[d]
variable{k:Str}
theorem Awc(h:t.Wf 0){b v:Str}:KvS.mk k v∈range t b (nxt b)↔t.get k=some v/\(A7 b k).isSome=true:=by rw[mem_range h,Beg]
theorem Aw1{R:Type}{kx:Ex->Vz->Ya1 R}{tb:Tbl}{l:Yb1 KvS}{dec:KvS->Yb1 Val}{a:Int}{b:Str}{c:Bool}{d:Str}{e:Yb1 NodeS}{f:Str}{g:Yb1 NodeS}{h:Str}(n:l.length<=100000)(hd:∀p,p∈l->Agi tb p.val=some (dec p,0)):∀(k i:Nat) (acc:Yb1 (Yb1 Val)),i<=l.length->l.length-i<k->acc.length<=i ->
  Aj (λm=>U0 m kx) k (acc,false,l,(l.length:Int),(i:Int),a,b,c,d,e,f,g,h,tb)=kx (.exit 0) (acc++(l.drop i).map dec,false,l,(l.length:Int),(l.length:Int),a,b,c,d,e,f,g,h,tb)
 |0,_,_,_,hk,_=>by omega
 |k+1,i,acc,hi,hk,ha=>by
  rw[Au];by_cases j:i<l.length
  ·have c1:(i:Int)<(l.length:Int):=by omega
   have c2:acc.length+1<=Ah:=by simp only[Ah];omega
   simp only[U0,c1,decide_true,Af,Ao j,chk,Al (c:=.kv) j,hd _ (List.getElem_mem j),Zc1,Zt1,Ag,c2,Am j (show ln l.length by simp[ln];omega)];rw[Aw1 (kx:=kx) n hd k (i+1) (acc++[dec l[i]]) (by omega) (by omega) (by simp;omega),List.drop_eq_getElem_cons j,Zw1,Zj1];rfl
  ·have e:i=l.length:=by omega
   subst e;have c1:¬(l.length:Int)<(l.length:Int):=by omega
   simp only[U0,c1,decide_false,Ag,Zc2,List.map_nil,List.append_nil]
def B2(tb:Tbl):Str:=Bz [wV [114],wV tb.name]
theorem B3d{dec:KvS->Yb1 Val}(hc:Gu tb=some 0)(d:Aq (wV tb.name)=true)(e:(B2 tb).length<=900)(a:(nxt (B2 tb)).length<=900)(f:t.Wf 0)(n:t.size<=100000)(hd:∀p,p∈range t (B2 tb) (nxt (B2 tb))->Agi tb p.val=some (dec p,0))(b:(range t (B2 tb) (nxt (B2 tb))).length<=100000)(k:Nat)(o:(range t (B2 tb) (nxt (B2 tb))).length<k) :
  Io k (tb,t.node.kind,t.node.path,t.node.has,t.node.val,t.node.kids,t.node.hash,g,h)=some ((range t (B2 tb) (nxt (B2 tb))).map dec,0,t.node.kind,t.node.path,t.node.has,t.node.val,t.node.kids,t.node.hash,g,h):=by
 have i:Ia [[114],tb.name]=some [wV [114],wV tb.name]:=G5 (by simp);have j:W2 [[wV [114],wV tb.name]]=some (B2 tb,0):=Ir (by simp) (λv hv=>by
  simp only[Zz1,List.flatten_nil,List.append_nil,List.mem_cons,List.not_mem_nil,or_false]at hv;rcases hv with rfl|rfl
  ·exact Ki.1
  ·exact d) (by simp)
 have l:Ag2 (B2 tb)=some (nxt (B2 tb)):=by simp only[Ag2,Ze1 (show(B2 tb).length<=2000000 by omega),Af]
 have c:=Aw6 (t:=t) (g:=g) (h:=h) (lo:=B2 tb) (hi:=nxt (B2 tb)) (m:=9223372036854775807) f e a (by omega) (by simp only[Ah];omega);have c:Kq (B2 tb,nxt (B2 tb),9223372036854775807,t.node.kind,t.node.path,t.node.has,t.node.val,t.node.kids,t.node.hash,g,h)=_:=c;simp only[Io,hc,i,j,l,c,Zc1,decide_true,Zt1,Ag];refine(Aw1 b hd k 0 [] (by omega) (by omega) (by simp)).trans ?_;simp only[Zq1,Zf2];rfl
def Xm(l:Yb1 Val):Prop:=l.all Aq=true/\∀v,v∈l->inI v.n
theorem B1m(a:Yb1 Val):Bz (wV [114]::a)=4::114::0::1::Bz a:=rfl
theorem B2a(a:Yb1 Val):Bz (wV [105]::a)=4::105::0::1::Bz a:=rfl
theorem B5b(a:Yb1 Val):Bz (wV [117]::a)=4::117::0::1::Bz a:=rfl
theorem B5k(a:Yb1 Val):Bz (wV [102]::a)=4::102::0::1::Bz a:=rfl
def Xq(k:Str):UInt8:=k.getD 1 0
theorem Aqe(t:Tbl)(r:Yb1 Val):Xq (Dd t r).key=114:=by simp only[Dd,B1m];rfl
theorem B34(t:Tbl)(r:Yb1 Val)(x:Idx):Xq (F9 t r x).key=105:=by simp only[F9,B2a];rfl
theorem Aaf{t:Tbl}{r:Yb1 Val}:∀{cs:Yb1 Col}{vs:Yb1 Val}{p:KvS},p∈Fw t r cs vs->Xq p.key=117/\p.val=(H6 (pkV t r)).1
 |[],_,p,h=>by simp[Fw]at h
 |_::_,[],p,h=>by simp[Fw]at h
 |c::cs,v::vs,p,h=>by
  simp only[Fw]at h;cases hc:(c.unique && !decide (v.kind=1))with
  |false=>rw[hc]at h;exact Aaf h
  |true=>
   rw[hc]at h;rcases List.mem_cons.1 h with rfl|h
   ·exact⟨by simp only[Afp,B5b];rfl,rfl⟩
   ·exact Aaf h
theorem Acr{t:Tbl}{r:Yb1 Val}:∀{cs:Yb1 Col}{vs:Yb1 Val}{p:KvS},p∈Ic t r cs vs->Xq p.key=102/\p.val=[]
 |[],_,p,h=>by simp[Ic]at h
 |_::_,[],p,h=>by simp[Ic]at h
 |c::cs,v::vs,p,h=>by
  simp only[Ic]at h;cases hc:(!decide (c.ref=[]) && !decide (v.kind=1))with
  |false=>rw[hc]at h;exact Acr h
  |true=>
   rw[hc]at h;rcases List.mem_cons.1 h with rfl|h
   ·exact⟨by simp only[Ae4,B5k];rfl,rfl⟩
   ·exact Acr h
theorem Ns{t:Tbl}{p:KvS}(h:p∈Fx t r):p=Dd t r\/(Xq p.key=105/\p.val=[])\/(p∈Fw t r t.cols r/\Xq p.key=117/\p.val=(H6 (pkV t r)).1)\/(Xq p.key=102/\p.val=[]):=by
 simp only[Fx,List.mem_cons,List.mem_append,List.mem_map]at h;rcases h with h|⟨x,_,rfl⟩|h|h
 ·exact .inl h
 ·exact .inr (.inl ⟨B34 t r x,rfl⟩)
 ·exact .inr (.inr (.inl ⟨h,Aaf h⟩))
 ·exact .inr (.inr (.inr (Acr h)))
theorem Bwf{t:Tbl}{p q:KvS}(f:p∈Fx t r)(g:q∈Fx t r)(h:p.key=q.key):p.val=q.val:=by
 have e:=congrArg Xq h;rcases Ns f with rfl|⟨a,b⟩|⟨_,a,b⟩|⟨a,b⟩<;>rcases Ns g with rfl|⟨c,d⟩|⟨_,c,d⟩|⟨c,d⟩<;>first
  |rfl
  |exact b.trans d.symm
  |(simp only[Aqe]at e;rw[c]at e;exact absurd e (by decide))
  |(simp only[Aqe]at e;rw[a]at e;exact absurd e (by decide))
  |(rw[a,c]at e;exact absurd e (by decide))
theorem Bzf{v:Str}:(Ij t (Fx tb r)).get k=some v↔KvS.mk k v∈Fx tb r\/((∀p,p∈Fx tb r->p.key≠k)/\t.get k=some v):=by
 rw[Ams];cases h:(Fx tb r).reverse.find? (λp=>decide (p.key=k))with
 |some p=>
  have c:=List.mem_reverse.1 (List.mem_of_find?_eq_some h);have b:p.key=k:=by simpa using List.find?_some h
  simp only[Za1];constructor
  ·rintro rfl;left;rw[<-b];exact c
  ·rintro(a|⟨a,_⟩)
   ·exact Bwf c a b
   ·exact absurd b (a p c)
 |none=>
  have c:=List.find?_eq_none.1 h;have b:∀p,p∈Fx tb r->p.key≠k:=λp d e=>c p (List.mem_reverse.2 d) (Ze1 e);constructor
  ·exactλh=>.inr ⟨b,h⟩
  ·rintro(a|⟨_,a⟩)
   ·exact absurd rfl (b _ a)
   ·exact a
theorem Alr{t:T}:∀{l:Yb1 KvS},Rm t l=none↔∀p,p∈l->t.get p.key=none
 |[]=>by simp[Rm]
 |p::l=>by simp only[Rm];cases h:t.get p.key with|some v=>simp[h]|none=>simp[h,Alr (l:=l)]
theorem Btv(a:Ey tb r=0):(Fx tb r).length<=400:=by have b:=(Tl (V5 a).1).1;have c:=(Ku (V5 a).1).2.2.1;have d:=Ai6 (t:=tb) (r:=r) tb.cols r;have e:=Ai7 (t:=tb) (r:=r) tb.cols r;simp only[Fx,Zf1,Zh1,List.length_map];omega
def Fit(tb:Tbl)(r:Yb1 Val):Prop:=Ey tb r=0/\(Fx tb r).all Alb=true/\Gr r
structure Db (tb:Tbl) (rs:List (List Val)) (t:T):Prop where
 wf:t.Wf 0
 size:t.size<=400*rs.length
 fit:∀r,r∈rs->Fit tb r
 has:∀k v,t.get k=some v↔∃r,r∈rs/\KvS.mk k v∈Fx tb r
 apart:rs.Pairwise λr s=>(Dd tb r).key≠(Dd tb s).key/\∀p,p∈Fw tb r tb.cols r->∀q,q∈Fw tb s tb.cols s->p.key≠q.key
theorem B5y(tb:Tbl):Db tb [] .no:=⟨Nat.zero_le _,Nat.zero_le _,λ_ h=>(by cases h),λk v=>(by simp[B3q]),List.Pairwise.nil⟩
theorem Aka(tb:Tbl)(r:Yb1 Val):Dd tb r∈Fx tb r:=by simp[Fx]
theorem B4a{p:KvS}(h:p∈Fw tb r tb.cols r):p∈Fx tb r:=by simp[Fx,h]
variable{rs:Yb1 (Yb1 Val)}
theorem B39(d:Db tb rs t)(hb:Gr r):((M1 tb r t).1=0/\Db tb (rs++[r]) (M1 tb r t).2)\/((M1 tb r t).1≠0/\(M1 tb r t).2=t):=by
 unfold M1;cases x:decide ((Aqt tb r).2=0)with
 |false=>exact .inr ⟨of_decide_eq_false x,rfl⟩
 |true=>
  obtain⟨y,m,_⟩:=Be4 (of_decide_eq_true x) (Classical.em _);simp only[Af];cases z:Rm t (Dd tb r::Fw tb r tb.cols r)with
  |some j=>refine .inr ⟨?_,rfl⟩;simp only;split<;>decide
  |none=>
   have o:=Alr.1 z;have n:∀p,p∈Fx tb r->Bj4 p:=λp i=>Al1.1 (Zg2.1 m p i);refine .inl ⟨rfl,Ar3 d.wf n,?_,?_,?_,?_⟩
   ·have h1:=Agj (Fx tb r) t;have h2:=Btv y;have h3:=d.size;simp only[Zh1,List.length_singleton];omega
   ·intro s g;rcases List.mem_append.1 g with g|g
    ·exact d.fit s g
    ·rw[List.mem_singleton.1 g];exact⟨y,m,hb⟩
   ·intro k v;rw[Bzf,d.has];constructor
    ·rintro(h|⟨_,s,g,h⟩)
     ·exact⟨r,by simp,h⟩
     ·exact⟨s,by simp[g],h⟩
    ·rintro⟨s,g,h⟩;rcases List.mem_append.1 g with g|g
     ·by_cases i:∀p,p∈Fx tb r->p.key≠k
      ·exact .inr ⟨i,s,g,h⟩
      ·left;obtain⟨p,i⟩:=Classical.not_forall.1 i;obtain⟨i,e⟩:=Classical.not_imp.1 i;have e:=Classical.not_not.1 e;have u:=(d.has k v).2 ⟨s,g,h⟩;have key:p.val=v:=by
        have l:Xq p.key=Xq k:=by rw[e]
        rcases Ns i with rfl|⟨a,b⟩|⟨hu,_,_⟩|⟨a,b⟩
        ·rw[<-e,o _ (by simp)]at u;cases u
        ·rcases Ns h with h|⟨_,f⟩|⟨_,c,_⟩|⟨c,_⟩
         ·have:=congrArg (λq:KvS=>Xq q.key) h;simp only[Aqe]at this;rw[<-l,a]at this;exact absurd this (by decide)
         ·exact b.trans f.symm
         ·simp only at c;rw[<-l,a]at c;exact absurd c (by decide)
         ·simp only at c;rw[<-l,a]at c;exact absurd c (by decide)
        ·rw[<-e,o _ (by simp[hu])]at u;cases u
        ·rcases Ns h with h|⟨c,_⟩|⟨_,c,_⟩|⟨_,f⟩
         ·have:=congrArg (λq:KvS=>Xq q.key) h;simp only[Aqe]at this;rw[<-l,a]at this;exact absurd this (by decide)
         ·simp only at c;rw[<-l,a]at c;exact absurd c (by decide)
         ·simp only at c;rw[<-l,a]at c;exact absurd c (by decide)
         ·exact b.trans f.symm
       have:p=KvS.mk k v:=by cases p;simp_all
       rw[<-this];exact i
     ·rw[List.mem_singleton.1 g]at h;exact .inl h
   ·rw[List.pairwise_append];refine⟨d.apart,List.pairwise_singleton _ _,λs g r' w=>?_⟩;rw[List.mem_singleton.1 w];refine⟨λe=>?_,λp i q hq e=>?_⟩
    ·have:=(d.has (Dd tb s).key (Dd tb s).val).2 ⟨s,g,Aka tb s⟩;rw[e,o _ (by simp)]at this;cases this
    ·have:=(d.has p.key p.val).2 ⟨s,g,B4a i⟩;rw[e,o _ (by simp[hq])]at this;cases this
theorem Bbo(tb:Tbl)(r:Yb1 Val):(Dd tb r).key=B2 tb++Bz (pkV tb r):=by simp only[Dd,B2,Bz,List.flatMap_cons,List.flatMap_nil,Zj1,Zf2,List.append_nil]
theorem Ro(d:Db tb rs t){p:KvS}:p∈range t (B2 tb) (nxt (B2 tb))↔∃s,s∈rs/\p=Dd tb s:=by
 obtain⟨k,v⟩:=p;rw[Awc d.wf,d.has];constructor
 ·rintro⟨⟨s,a,h⟩,f⟩;obtain⟨z,g⟩:=Option.isSome_iff_exists.1 f;have b:=Bm.1 g;have e:Xq k=114:=by rw[b,B2,B1m];rfl
  rcases Ns h with h|⟨c,_⟩|⟨_,c,_⟩|⟨c,_⟩
  ·exact⟨s,a,h⟩
  ·simp only at c;rw[e]at c;exact absurd c (by decide)
  ·simp only at c;rw[e]at c;exact absurd c (by decide)
  ·simp only at c;rw[e]at c;exact absurd c (by decide)
 ·rintro⟨s,a,h⟩;have b:k=(Dd tb s).key:=by rw[<-h]
  exact⟨⟨s,a,by rw[h];exact Aka tb s⟩,by rw[b,Bbo,Fg];rfl⟩
def Bim(p:KvS):Yb1 Val:=((Ba2 p.val).getD ([],0)).1
theorem Tn(h:Fit tb r):Bim (Dd tb r)=r:=by have a:Ba2 (Dd tb r).val=some (r,0):=A3a (A4p (Ft h.1)) h.2.2;unfold Bim;rw[a];rfl
theorem Bl6(d:Db tb rs t)(a:∀r,Qt tb r=some (Ey tb r)):∀p,p∈range t (B2 tb) (nxt (B2 tb))->Agi tb p.val=some (Bim p,0):=λp b=>by obtain⟨s,c,rfl⟩:=(Ro d).1 b;have h:=d.fit s c;rw[Tn h];exact A41 (a s) h.1 h.2.2
theorem Mk{α:Type}:∀{a b:Yb1 α},a.Nodup->(∀x,x∈a->x∈b)->a.length<=b.length
 |[],_,_,_=>Nat.zero_le _
 |x::a,b,c,h=>by
  obtain⟨u,w,rfl⟩:=List.append_of_mem (h x (by simp));have c:=List.nodup_cons.1 c;have:=Mk (a:=a) (b:=u++w) c.2 λy e=>by
   have:=h y (by simp[e]);simp only[List.mem_append,List.mem_cons]at this ⊢;rcases this with d|rfl|d
   ·exact .inl d
   ·exact absurd e c.1
   ·exact .inr d
  simp only[Zh1,Zf1]at this ⊢;omega
theorem Azf:∀a:Str,¬a<a
 |[]=>List.not_lt_nil _
 |x::a=>λh=>by
  rcases List.cons_lt_cons_iff.1 h with h|⟨_,h⟩
  ·rw[Xb]at h;omega
  ·exact Azf a h
def Ev(tb:Tbl)(t:T):Yb1 (Yb1 Val):=(range t (B2 tb) (nxt (B2 tb))).map Bim
variable{s:Yb1 Val}
theorem Jb(d:Db tb rs t):s∈Ev tb t↔s∈rs:=by
 unfold Ev;rw[List.mem_map];constructor
 ·rintro⟨p,b,rfl⟩;obtain⟨s,a,rfl⟩:=(Ro d).1 b;rw[Tn (d.fit s a)];exact a
 ·exactλa=>⟨Dd tb s,(Ro d).2 ⟨s,a,rfl⟩,Tn (d.fit s a)⟩
theorem Ahv(d:Db tb rs t):(Ev tb t).Pairwise λr s=>(Dd tb r).key<(Dd tb s).key:=by unfold Ev;rw[List.pairwise_map];refine(Adf d.wf _ _).imp_of_mem ?_;intro p q b c h;obtain⟨s,e,rfl⟩:=(Ro d).1 b;obtain⟨s',a,rfl⟩:=(Ro d).1 c;rw[Tn (d.fit s e),Tn (d.fit s' a)];exact h
theorem Apw(d:Db tb rs t):(Ev tb t).length=rs.length:=by
 refine Nat.le_antisymm (Mk ?_ λx c=>(Jb d).1 c) (Mk ?_ λx c=>(Jb d).2 c)
 ·exact(Ahv d).imp λ{a b} h e=>by subst e;exact Azf _ h
 ·exact d.apart.imp λ{a b} h e=>by subst e;exact h.1 rfl
theorem Bcn{a b:Yb1 Val}(j:a.length=b.length)(m:a.length<=1000):∀(k i:Nat),i<=a.length->a.length-i<k ->
  Aj (λd=>Un d (λe n=>match n with|(v3,v4,v5)=>match e with
  |.exit 0=>
  let l:=λ(p4:Bool)=>
   cond (p4) (
   chk (inb v5 v3.length) (
    chk (inb v5 v4.length) (
    some (A9q (at' .val v3 v5) (at' .val v4 v5))))) (
   cond (decide (v5<(v4.length:Int))) (
    some (-1)) (
    cond (decide (v5<(v3.length:Int))) (
    some 1) (
    some 0)))
  cond (decide (v5<(v3.length:Int))) (
   l (decide (v5<(v4.length:Int)))) (
   l false)
  |_=>none)) k (a,b,(i:Int))=some (H5 Gs (a.drop i) (b.drop i))
 |0,_,_,hk=>by omega
 |k+1,i,hi,hk=>by
  rw[Au];by_cases h:i<a.length
  ·have f:i<b.length:=by omega
   have c1:(i:Int)<(a.length:Int):=by omega
   have c2:(i:Int)<(b.length:Int):=by omega
   rw[List.drop_eq_getElem_cons h,List.drop_eq_getElem_cons f];simp only[Un,c1,c2,decide_true,Af,Ao h,Ao f,chk,Al (c:=.val) h,Al (c:=.val) f,Am h (show ln a.length by simp[ln];omega),H5];by_cases e:a[i]=b[i]
   ·have o:=Bcn j m k (i+1) (by omega) (by omega);simp only[e,decide_true,Af,(vcmp_lin.eq _ _).2 rfl,Gf];exact o
   ·have g:Gs a[i] b[i]≠0:=Bfl e;simp only[e,decide_false,Ag,Gf,Bin,g,if_false]
  ·have e:i=a.length:=by omega
   subst e;have c1:¬(a.length:Int)<(a.length:Int):=by omega
   have c2:¬(a.length:Int)<(b.length:Int):=by omega
   simp only[Un,c1,c2,decide_false,Ag];rw[Zc2,j,Zc2];rfl
theorem Bvv{a b:Yb1 Val}(c:a.length=b.length)(d:a.length<=1000):Be5 a b=some (H5 Gs a b):=Bcn c d 5000 0 (by omega) (by omega)
theorem Aea{cols:Yb1 Col}{row:Yb1 Val}:∀{l:Yb1 Str}{acc:Yb1 Val},(∀s,s∈l->¬B3 cols s<0)->(Bg cols row l acc).1.length=acc.length+l.length
 |[],acc,_=>by simp[Bg]
 |s::l,acc,h=>by
  have a:=h s (by simp);have b:=Aea (row:=row) (l:=l) (acc:=acc++[at' .val row (B3 cols s)]) λx c=>h x (by simp[c]);have e:(acc++[at' .val row (B3 cols s)]).length=acc.length+1:=by simp
  simp only[Bg,a,decide_false,Ag,b,e,Zf1];omega
theorem Bry(h:Fit tb r):(pkV tb r).length=tb.key.length:=by have:=Aea (row:=r) (acc:=[]) (Ft h.1).key;simpa[pkV]using this
theorem Aqv{cols:Yb1 Col}{row:Yb1 Val}{P:Val->Prop}(b:∀v,v∈row->P v)(c:P (zer .val)):∀{l:Yb1 Str}{acc:Yb1 Val},(∀v,v∈acc->P v)->∀v,v∈(Bg cols row l acc).1->P v
 |[],acc,ha,v,hv=>ha v hv
 |s::l,acc,ha,v,hv=>by
  simp only[Bg]at hv;cases hc:decide (B3 cols s<0)with
  |true=>rw[hc]at hv;cases hv
  |false=>
   rw[hc]at hv;refine Aqv b c (λx a=>?_) v hv;rcases List.mem_append.1 a with a|a
   ·exact ha x a
   ·rw[List.mem_singleton.1 a];unfold at';rw[List.getD_eq_getElem?_getD];cases d:row[(B3 cols s).toNat]? with|none=>exact c|some w=>exact b w (List.mem_of_getElem? d)
theorem Bu8(h:Fit tb r):Xm (pkV tb r):=by have f:=Ft h.1;exact⟨Zg2.2 (Wj f),Aqv (P:=λv=>inI v.n) (λv hv=>by simpa using h.2.2 v hv) (by show inI 0;simp[inI]) λv hv=>by cases hv⟩
section
variable {t:Tbl}{r:Yb1 Val}
end
mutual
theorem Bjm:∀e:Xpr,A1 e=xsz e
 |.mk _ _ _ l=>by simp only[A1,xsz,esizes_xszs l]
theorem esizes_xszs:∀l:Yb1 Xpr,esizes l=xszs l
 |[]=>rfl
 |x::l=>by simp only[esizes,xszs,Bjm x,esizes_xszs l]
end
def RM:Nat×Nat:=(1048576,1048576)
section
variable {t:Tbl}{r:Yb1 Val}
theorem Bt5(a:SmTbl RM t)(b:esizes t.checks<=900000):Fo t=true:=by
 have c:=a.cols.1;have d:=a.key.1;have f:=a.checks.1;have g:=a.idx.1;simp only[RM]at c d f g;have e:∀x,x∈t.checks->A1 x<=2000000:=λx b=>by have:=Bi b;omega
 have e2:∀x,x∈t.idx->x.cols.length<=2000000:=λx b=>by have:=(a.idx.2 x b).2.1;simp only[RM]at this;omega
 show((decide (t.cols.length<=2000000)&&(decide (([]:Yb1 SetE).length<=2000000)&&(decide (t.key.length<=2000000)&&(decide (t.checks.length<=2000000)&&t.checks.all λe=>decide (A1 e<=2000000)))))&&(decide (t.idx.length<=2000000)&&t.idx.all λx=>decide (x.cols.length<=2000000)))=true;simp only[Zb1,Zg1,Zg2,Zi1];exact⟨⟨by omega,by omega,by omega,by omega,e⟩,by omega,e2⟩
theorem Bww(a:SmTbl RM t)(b:esizes t.checks<=900000):FewR t:=by
 have c:=a.cols.1;have d:=a.key.1;have e:=a.name;simp only[RM]at c d e;refine⟨⟨?_,?_,?_,?_,?_,?_,?_,?_,?_⟩,λx b=>?_⟩
 ·simp only[Ed];omega
 ·simp only[Ed];omega
 ·simp[Ed]
 ·simp[Ed]
 ·simp only[Ed,Zi1];omega
 ·simp[Ed,A1,esizes]
 ·simp only[Ed];omega
 ·simp[Ed]
 ·simp[Ed]
 ·have g:=a.idx.2 x b;have f:=g.1;have h:=g.2.1;simp only[RM]at f h;refine⟨?_,?_,?_,?_,?_,?_,?_,?_,?_⟩
  ·simp[B1]
  ·simp only[B1];omega
  ·simp[B1]
  ·simp[B1]
  ·simp only[B1];omega
  ·simp[B1,A1,esizes]
  ·simp[B1,esizes]
  ·simp[B1]
  ·simp[B1]
theorem Blz(a:Fo t=true)(k:Nat)(b : 4000<k):I0 k (t,r)=some (Ey t r):=by cases h:Ee t with|false=>simp only[I0,Gu,a,Af,Zc1,Ey,h];rfl|true=>obtain⟨c,d,e,_⟩:=Tl h;exact Byv (by omega) (by omega) (by omega) a b
theorem Agc(a:Fo t=true):Qt t r=some (Ey t r):=Blz a 5000 (by omega)
end
theorem Bef{R:Type}{kx:Ex->V4->Ya1 R}{l:Yb1 (Yb1 Val)}{i:Nat}(hi:i<l.length)(b:l[i].length<=1048576):∀(k c:Nat) (n:Int),c<=l[i].length->l[i].length-c<k->∃m,Aj (λrc=>Abk rc kx) k (l,n,(i:Int),(c:Int))=kx (.exit 2) (l,m,(i:Int),(l[i].length:Int))
 |0,_,_,_,h=>by omega
 |k+1,c,n,hc,hk=>by
  have a:ln l[i].length:=by simp only[ln];omega
  rw[Au];simp only[Abk,Ao hi,chk,Af,Al (c:=.vals) hi];by_cases h:c<l[i].length
  ·simp only[Cs h,Ao h,Af,Am h a];exact Bef hi b k (c+1) _ h (by omega)
  ·obtain rfl:c=l[i].length:=by omega
   simp only[C4,Ag];exact⟨n,rfl⟩
theorem Bgu{R:Type}{kx:Ex->Uo->Ya1 R}{l:Yb1 (Yb1 Val)}{K:Nat}(f : 1100000<K)(g:l.length<=1048576)(d:∀r,r∈l->r.length<=1048576):∀(k i:Nat) (n:Int),i<=l.length->l.length-i<k->∃m,Aj (λa=>Qj K a kx) k (l,n,(i:Int))=kx (.exit 0) (l,m,(l.length:Int))
 |0,_,_,_,h=>by omega
 |k+1,i,n,hi,hk=>by
  have b:ln l.length:=by simp only[ln];omega
  rw[Au];by_cases h:i<l.length
  ·simp only[Qj,Cs h,Af,Ao h,chk,Al (c:=.vals) h];have hm:=d _ (List.getElem_mem h);have j:=λn=>Bef (R:=R) (kx:=λe o=>match o with|(v7,v8,v9,_)=>match e with
    |.exit 2=>Aj (λa=>Qj K a kx) k (v7,v8,(wr .i64 (v9+1)))
    |_=>none) h hm K 0 n (Nat.zero_le _) (by omega)
   obtain⟨m,e⟩:=j (wr .i64 ((wr .i64 (n+1))+(l[i].length:Int)));obtain⟨p,e2⟩:=Bgu (kx:=kx) f g d k (i+1) m (by omega) (by omega);refine⟨p,e.trans ?_⟩;simp only[Am h b];exact e2
  ·obtain rfl:i=l.length:=by omega
   simp only[Qj,C4,Ag];exact⟨n,rfl⟩
theorem B4d{t:Tbl}{l:Yb1 (Yb1 Val)}(f:l.length<=1048576)(g:∀r,r∈l->r.length<=1048576)(k:Nat)(i : 1100000<k):∃b,Ou k (t,l)=some b/\(b=false->l.length<=24):=by
 simp only[Ou];obtain⟨m,e⟩:=Bgu (kx:=λe j=>match j with|(a,c,_)=>match e with
  |.exit 0=>
  cond (decide (250<=c)) (
   some true) (
   some (decide (24<(a.length:Int))))
  |_=>none) i f g k 0 (A0p t 200) (Nat.zero_le _) (by omega)
 refine⟨cond (decide (250<=m)) true (decide (24<(l.length:Int))),e.trans ?_,λh=>?_⟩
 ·simp only;cases decide (250<=m)<;>rfl
 ·cases d:decide (250<=m)with|true=>rw[d]at h;cases h|false=>rw[d]at h;have:=of_decide_eq_false h;omega
theorem Bys{t:Tbl}{l:Yb1 (Yb1 Val)}(a:l.length<=1048576)(c:∀r,r∈l->r.length<=1048576):∃b,Bvi t l=some b/\(b=false->l.length<=24):=B4d a c 2000000 (by omega)
theorem Bj6{s:Str}(h:B7 s=true):s.length<=30:=by simp only[Lp.nameF,Zb1,Zg1,Lp.runTo]at h;have a:=h.2;simp at a;omega
theorem Azw:∀s:Str,(nxt s).length<=s.length
 |[]=>Zn1 _
 |c::l=>by
  have:=Azw l;simp only[nxt];split
  ·split<;>simp
  ·simp only[Zf1];omega
theorem B0v(h:B7 tb.name=true):(B2 tb).length<=900:=by have a:=Bj6 h;have b:=A65 [wV [114],wV tb.name];have e:vsz [wV [114],wV tb.name]=1+1+(tb.name.length+1+0):=rfl;simp only[B2];omega
theorem Byi(d:Db tb rs t)(a:Fo tb=true)(b:Ee tb=true)(i:rs.length<=200)(k:Nat)(j : 200<k) :
  Io k (tb,t.node.kind,t.node.path,t.node.has,t.node.val,t.node.kids,t.node.hash,g,h)=some (Ev tb t,0,t.node.kind,t.node.path,t.node.has,t.node.val,t.node.kids,t.node.hash,g,h):=by
 have c:=(Tl b).2.2.2.1;have e:=B0v c;have f:=Azw (B2 tb);have l:(range t (B2 tb) (nxt (B2 tb))).length=rs.length:=by have:=Apw d;simpa only[Ev,List.length_map]using this
 have hd:=d.size;have hc:Gu tb=some 0:=by simp only[Gu,a,Af,b]
 exact B3d hc (E5 c) e (by omega) d.wf (by omega) (Bl6 d λr=>Agc a) (by omega) k (by omega)
theorem B32(n:UInt8):decide ((c.toNat:Int)=(n.toNat:Int))=decide (c=n):=by refine Zy1.2 ⟨λe=>UInt8.toNat_inj.1 (by omega),λe=>by rw[e]⟩
theorem A4g{b:Str}{x:UInt8}{l:Str}(h:b.drop i=x::l):∃a:i<b.length,b[i]=x/\b.drop (i+1)=l:=by
 have a:i<b.length:=by have:=congrArg List.length h;simp only[Za2,Zf1]at this;omega
 rw[List.drop_eq_getElem_cons a]at h;exact⟨a,(List.cons.inj h).1,(List.cons.inj h).2⟩
def okt(kind:Int)(s:Str):Bool:=decide (Cn (Val.mk kind 0 s)=0)
theorem Bwq{kind:Int}(a:kind=4\/kind=5){s:Str}:okt kind s=true↔s.length<=1000/\(kind=4->Hv s=true):=by simp only[okt,Zg1,Km,Dq];rcases a with rfl|rfl<;>simp
theorem Bcr{kind:Int}(a:kind=4\/kind=5){s t:Str}(h:okt kind (s++t)=true):okt kind s=true:=by rw[Bwq a]at h ⊢;obtain⟨b,c⟩:=h;refine⟨by simp at b;omega,λd=>?_⟩;have:=c d;simp only[Hv,List.all_append,Zb1]at this ⊢;exact this.1
theorem Yd{R:Type}{kx:Ex->Uj->Ya1 R}{b:Str}{kind:Int}{rest:Str}{c:Str×Int->Ya1 R}(p:kind=4\/kind=5)(hb:b.length<=1000000)(r:∀s n o i,kx .ret (b,kind,s,n,o,i)=c (s,n)) :
  ∀(k i:Nat) (t s:Str) (n:Int) (o:Str),b.drop i=esc t++0::1::rest->b.length-i<k->o.length<=i->okt kind (o++t)=true->Aj (λu=>P7 u kx) k (b,kind,s,n,o,(i:Int))=c (o++t,((i+(esc t).length+2:Nat):Int))
 |0,i,_,_,_,_,_,h,_,_=>by omega
 |k+1,i,[],s,n,o,hd,h,ho,hok=>by
  obtain⟨a,f,g⟩:=A4g (hd:b.drop i=0::1::rest);obtain⟨d,v,_⟩:=A4g g;rw[Au];have j:decide ((i:Int)<(b.length:Int))=true:=Ze1 (by omega);have e2:wr .i64 ((i:Int)+1)=((i+1:Nat):Int):=Am a (by simp only[ln];omega);have w:wr .i64 (((i+1:Nat):Int)+1)=((i+2:Nat):Int):=by rw[Be (by simp only[inI];omega)];rfl
  have y:decide (((i+1:Nat):Int)=(b.length:Int))=false:=Zd1 (by omega);have l:decide ((((0:UInt8).toNat:Nat):Int)=0)=true:=rfl;have z:decide ((((1:UInt8).toNat:Nat):Int)=1)=true:=rfl;simp only[P7,j,Af,Ao a,chk,Al (c:=.byte) a,e2,f,l,y,Ag,Ao d,Al (c:=.byte) d,v,z,w,r];simp[esc]
 |k+1,i,x::t,s,n,o,hd,h,ho,hok=>by
  rw[Au];by_cases q:x=0
  ·subst q;rw[H0]at hd;obtain⟨a,f,g⟩:=A4g (hd:b.drop i=0::(255::(esc t++0::1::rest)));obtain⟨d,v,g4⟩:=A4g g;have j:decide ((i:Int)<(b.length:Int))=true:=Ze1 (by omega);have e2:wr .i64 ((i:Int)+1)=((i+1:Nat):Int):=Am a (by simp only[ln];omega);have e3:decide (o.length+1<=Ah)=true:=Ze1 (by simp only[Ah];omega);have w:wr .i64 (((i+1:Nat):Int)+1)=((i+2:Nat):Int):=by rw[Be (by simp only[inI];omega)];rfl
   have y:decide (((i+1:Nat):Int)=(b.length:Int))=false:=Zd1 (by omega);have l:decide ((((0:UInt8).toNat:Nat):Int)=0)=true:=rfl;have z:decide ((((255:UInt8).toNat:Nat):Int)=1)=false:=rfl;have z2:decide ((((255:UInt8).toNat:Nat):Int)=255)=true:=rfl;have z3:UInt8.ofNat (((0:UInt8).toNat:Nat):Int).toNat=0:=rfl;have m:okt kind (o++[0]++t)=true:=by simpa using hok
   have e:decide (Cn (Val.mk kind 0 (o++[0]))=0)=true:=Bcr p m;have ih:=Yd p hb r k (i+2) t s n (o++[0]) g4 (by omega) (by simp;omega) m;simp only[P7,j,Af,Ao a,chk,Al (c:=.byte) a,e2,f,l,y,Ag,Ao d,Al (c:=.byte) d,v,z,z2,z3,e3,e,Zt1,w,ih];rw[H0];simp only[Zj1,List.singleton_append,Zf1];congr 3;omega
  ·rw[Fb q]at hd;obtain⟨a,f,g⟩:=A4g (hd:b.drop i=x::(esc t++0::1::rest));have j:decide ((i:Int)<(b.length:Int))=true:=Ze1 (by omega);have e2:wr .i64 ((i:Int)+1)=((i+1:Nat):Int):=Am a (by simp only[ln];omega);have e3:decide (o.length+1<=Ah)=true:=Ze1 (by simp only[Ah];omega);have e4:UInt8.ofNat (x.toNat:Int).toNat=x:=by simp
   have l:decide ((x.toNat:Int)=0)=false:=by have:=B32 (c:=x) 0;rw[Zd1 q]at this;exact this
   have m:okt kind (o++[x]++t)=true:=by simpa using hok
   have e:decide (Cn (Val.mk kind 0 (o++[x]))=0)=true:=Bcr p m;have ih:=Yd p hb r k (i+1) t s n (o++[x]) g (by omega) (by simp;omega) m;simp only[P7,j,Af,Ao a,chk,Al (c:=.byte) a,e2,f,l,Ag,e4,e3,e,Zt1,ih];rw[Fb q];simp only[Zj1,List.singleton_append,Zf1];congr 3;omega
variable{rest:Str}
theorem Bwx{kind:Int}(d:kind=4\/kind=5){s:Str}(a:okt kind s=true)(m:Nat)(hb:(esc s++0::1::rest).length<m)(b:(esc s++0::1::rest).length<=1000000):P6 m (esc s++0::1::rest,kind)=some (s,(((esc s).length+2:Nat):Int)):=by simp only[P6];refine(Yd (c:=λq=>some q) d b (λ_ _ _ _=>rfl) m 0 s [] 0 [] rfl (by omega) (Zn1 _) (by simpa using a)).trans ?_;simp only[Zf2,Nat.zero_add]
theorem Bum{kind:Int}(b:kind=4\/kind=5){s:Str}(a:okt kind s=true)(hb:(esc s++0::1::rest).length<2000):Bn7 (esc s++0::1::rest) kind=some (s,(((esc s).length+2:Nat):Int)):=Bwx b a 2000 hb (by omega)
theorem B0f{x:Nat}(d:x<256 ^ i)(hi:i<8):x*256+c.toNat<256 ^ (i+1)/\x*256+c.toNat<18446744073709551616:=by
 have e:=c.toNat_lt;have a : 256 ^ (i+1)<=256 ^ 8:=Nat.pow_le_pow_right (by omega) (by omega);rw[show(256:Nat) ^ 8=18446744073709551616 from rfl]at a;have b:x*256+c.toNat<256 ^ (i+1):=by rw[Nat.pow_succ];omega
 exact⟨b,Zx1 b a⟩
theorem B5f{v:Nat}(h:v<9223372036854775808):wr .i64 (v:Int)=v:=Be (by simp only[inI];omega)
theorem B40{v:Nat}(h : 9223372036854775808<=v)(a:v<18446744073709551616):wr .i64 (v:Int)=v-18446744073709551616:=by have e:(v:Int) % 2 ^ 64=v:=Int.emod_eq_of_lt (by omega) (by omega);simp only[wr,IntKind.wrap,IntKind.signed,IntKind.bits,Bool.true_and,e];rw[if_pos (Ze1 (by omega))];omega
theorem Bqb{x:Nat}(h:x*256+c.toNat<18446744073709551616):ior .u64 (W0 .u64 (x:Int) 8) (wr .u64 (c.toNat:Int))=((x*256+c.toNat:Nat):Int):=by
 have hc:=c.toNat_lt;have a:x*256<18446744073709551616:=Nat.lt_of_le_of_lt (Nat.le_add_right _ _) h;have d:W0 .u64 (x:Int) 8=((x*256:Nat):Int):=by
  have e:(2:Int) ^ min (8:Int).toNat (IntKind.bits .u64)=256:=rfl;have d:(x:Int)*256=((x*256:Nat):Int):=by omega
  simp only[W0];rw[e,d];exact Ji a
 have e2:wr .u64 (c.toNat:Int)=(c.toNat:Int):=Ji (by omega);have f:(BitVec.ofInt 64 ((x*256:Nat):Int)).toNat=x*256:=by simp;omega
 have g:(BitVec.ofInt 64 (c.toNat:Int)).toNat=c.toNat:=by simp
 have j:x*256 ||| c.toNat=x*256+c.toNat:=by have:=Nat.shiftLeft_add_eq_or_of_lt (i:=8) (b:=c.toNat) (by omega) x;rw[Nat.shiftLeft_eq]at this;exact this.symm
 rw[d,e2];show IntKind.wrap .u64 (((BitVec.ofInt 64 ((x*256:Nat):Int) ||| BitVec.ofInt 64 (c.toNat:Int)).toNat:Nat):Int)=_;rw[BitVec.toNat_or,f,g,j];exact Ji h
theorem B47{n:Int}(a:inI n):wr .i64 (Qg .u64 ((Qw (Ko n):Nat):Int) 9223372036854775808)=n:=by
 have e:=Apx a;simp only[inI]at a;generalize Qw (Ko n)=v at *;have c:(BitVec.ofInt 64 ((v:Nat):Int)).toNat=v:=by simp;omega
 have e2:(BitVec.ofInt 64 (9223372036854775808:Int)).toNat=2 ^ 63:=by decide
 have d:Qg .u64 ((v:Nat):Int) 9223372036854775808=IntKind.wrap .u64 ((v ^^^ 2 ^ 63:Nat):Int):=by show IntKind.wrap .u64 (((BitVec.ofInt 64 ((v:Nat):Int) ^^^ BitVec.ofInt 64 (9223372036854775808:Int)).toNat:Nat):Int)=_;rw[BitVec.toNat_xor,c,e2]
 rw[d];by_cases hv:v<2 ^ 63
 ·rw[Be0 hv,Ji (by omega),B40 (by omega) (by omega)];omega
 ·obtain⟨b,rfl⟩:∃b,v=b+2 ^ 63:=⟨v-2 ^ 63,by omega⟩;rw[<-Be0 (x:=b) (by omega),Nat.xor_assoc,Nat.xor_self,Nat.xor_zero,Ji (by omega),B5f (by omega)];omega
theorem Avl{R:Type}{kx:Ex->Ab5->Ya1 R}{l:Str}{w w1:Val}{c:Nat->Ya1 R}(hb:l.length=8)(f:∀n:Nat,kx (.exit 1) ((n:Int),l,8,8,w,w1)=c n) :
  ∀(k i x:Nat),i<=8->8-i<k->x<256 ^ i->Aj (λb=>Af8 b kx) k ((x:Int),l,8,(i:Int),w,w1)=c (Ahu x (l.drop i))
 |0,i,_,_,h,_=>by omega
 |k+1,i,x,hi,h,hx=>by
  rw[Au];by_cases a:i<l.length
  ·have g:=B0f (c:=l[i]) hx (by omega);have j:=Avl hb f k (i+1) (x*256+l[i].toNat) (by omega) (by omega) g.1;have d:decide ((i:Int)<8)=true:=Ze1 (by omega);have e2:wr .i64 ((i:Int)+1)=((i+1:Nat):Int):=Am a (by simp only[ln];omega);simp only[Af8,d,Af,Ao a,chk,Al (c:=.byte) a,e2,Bqb g.2,j];rw[Ak a,Xt]
  ·have e:i=8:=by omega
   subst e;have d:decide (((8:Nat):Int)<8)=false:=rfl;simp only[Af8,d,Ag,Zk1 (show l.length<=8 by omega)];exact f x
theorem B2s(c:UInt8)(l:Str):inb 0 (c::l).length=true:=by simp[inb]
theorem B3z{v:Val}(hv:Aq v=true)(l:inI v.n)(o:(Eh v++rest).length<2000)(m:Nat)(hm : 8<m):He m (Eh v++rest)=some (v,((Eh v).length:Int)):=by
 obtain⟨a,n,s⟩:=v;rcases Dq.1 hv with ⟨e,d,e2⟩|⟨e,d,e2⟩|⟨e,d⟩|g
 ·simp only at e d e2;subst e d e2;have q:Eh (Val.mk 1 0 [])++rest=(1:UInt8)::rest:=rfl;rw[q];simp only[He,B2s,show at' .byte ((1:UInt8)::rest) 0=1 from rfl,show wr .i64 (((1:UInt8).toNat:Nat):Int)=1 from rfl,chk,Af];rfl
 ·simp only at e d e2;subst e e2;rcases d with rfl|rfl
  ·have a1:decide (((((2:UInt8)::0::rest:Str).length:Nat):Int)=1)=false:=Zd1 (by simp only[Zf1];omega);have h:inb 1 ((2:UInt8)::0::rest:Str).length=true:=by simp[inb];omega
   have q:Eh (Val.mk 2 0 [])++rest=(2:UInt8)::0::rest:=rfl;rw[q];simp only[He,B2s,show at' .byte ((2:UInt8)::0::rest) 0=2 from rfl,show wr .i64 (((2:UInt8).toNat:Nat):Int)=2 from rfl,chk,Af,a1,h,show at' .byte ((2:UInt8)::0::rest) 1=0 from rfl]
   first|rfl|(dsimp;rfl)
  ·have a1:decide (((((2:UInt8)::1::rest:Str).length:Nat):Int)=1)=false:=Zd1 (by simp only[Zf1];omega);have h:inb 1 ((2:UInt8)::1::rest:Str).length=true:=by simp[inb];omega
   have q:Eh (Val.mk 2 1 [])++rest=(2:UInt8)::1::rest:=rfl;rw[q];simp only[He,B2s,show at' .byte ((2:UInt8)::1::rest) 0=2 from rfl,show wr .i64 (((2:UInt8).toNat:Nat):Int)=2 from rfl,chk,Af,a1,h,show at' .byte ((2:UInt8)::1::rest) 1=1 from rfl]
   first|rfl|(dsimp;rfl)
 ·simp only at e d l;subst e d;have q:Eh (Val.mk 3 n [])++rest=(3:UInt8)::(Ko n++rest):=rfl;rw[q];have b:(Ko n).length=8:=Bp5 n;have f:((3:UInt8)::(Ko n++rest):Str).length=9+rest.length:=by simp only[Zf1,Zh1,b];omega
  have a1:decide (((((3:UInt8)::(Ko n++rest):Str).length:Nat):Int)<9)=false:=Zd1 (by rw[f];omega);have h:upto 1 9 ((3:UInt8)::(Ko n++rest):Str).length=true:=by rw[f];simp[upto];omega
  have r:cut ((3:UInt8)::(Ko n++rest)) 1 9=Ko n:=by show(Ko n++rest).take 8=_;exact List.take_left' b
  have t:(((Ko n).length:Nat):Int)=8:=by rw[b];rfl
  have i0:inb 0 ((3:UInt8)::(Ko n++rest):Str).length=true:=by rw[f];simp[inb];omega
  simp only[He,i0,show at' .byte ((3:UInt8)::(Ko n++rest)) 0=3 from rfl,show wr .i64 (((3:UInt8).toNat:Nat):Int)=3 from rfl,chk,Af,show decide ((3:Int)=1)=false from rfl,show decide ((3:Int)=2)=false from rfl,Ag,a1,h,r,t];refine(Avl (c:=λx=>some (Val.mk 3 (wr .i64 (Qg .u64 (x:Int) 9223372036854775808)) [],9)) b (λ_=>rfl) m 0 0 (by omega) (by omega) (by simp)).trans ?_;have p:=B47 l;simp only[Qw]at p;rw[Zq1,p];rfl
 ·have i:a=4\/a=5:=by rcases g with ⟨e,_⟩|⟨e,_⟩<;>simp only at e<;>omega
  have j:n=0:=by rcases g with ⟨_,e,_⟩|⟨_,e,_⟩<;>exact e
  subst j;have k:okt a s=true:=Ze1 (Km.2 hv);obtain⟨u,hu,hu2⟩:∃u:UInt8,(u.toNat:Int)=a/\UInt8.ofNat a.toNat=u:=by rcases i with rfl|rfl<;>exact⟨_,rfl,rfl⟩
  have q:Eh (Val.mk a 0 s)++rest=u::(esc s++0::1::rest):=by rw[Eh,Ju i];simp[hu2]
  have w:(Eh (Val.mk a 0 s)).length=(esc s).length+3:=by rw[Eh,Ju i];simp
  rw[q]at o ⊢;rw[w];simp only[Zf1]at o;have y:=Bum (rest:=rest) i k (by omega);have e2:wr .i64 a=a:=Be (by simp only[inI];omega);have i0:inb 0 (u::(esc s++0::1::rest)).length=true:=by simp[inb];omega
  have up:upto 1 (((u::(esc s++0::1::rest)).length:Nat):Int) (u::(esc s++0::1::rest)).length=true:=by simp[upto];omega
  have z:(u::(esc s++0::1::rest)).drop (1:Int).toNat=esc s++0::1::rest:=rfl;have ps:decide ((0:Int)<(((esc s).length+2:Nat):Int))=true:=Ze1 (by omega);have w3:wr .i64 ((((esc s).length+2:Nat):Int)+1)=(((esc s).length+3:Nat):Int):=by rw[Be (by simp only[inI,Zh1]at *;omega)];omega
  have n1:decide (a=1)=false:=Zd1 (by omega);have n2:decide (a=2)=false:=Zd1 (by omega);have n3:decide (a=3)=false:=Zd1 (by omega);simp only[He,i0,show at' .byte (u::(esc s++0::1::rest)) 0=u from rfl,hu,e2,chk,Af,n1,n2,n3,Ag,up,z,y,Zc1,ps,w3];rcases i with rfl|rfl<;>rfl
theorem Byl{v:Val}(hv:Aq v=true)(a:inI v.n)(b:(Eh v++rest).length<2000):Bw5 (Eh v++rest)=some (v,((Eh v).length:Int)):=B3z hv a b 2000 (by omega)
theorem A4x(v:Val) : 0<(Eh v).length:=by simp[Eh]
theorem Atw{R:Type}{kx:Ex->Abr->Ya1 R}{b:Str}{q:Yb1 Val}{e:Int}(hb:b.length<2000) :
  ∀(l:Yb1 Val) (k i:Nat) (o:Yb1 Val),Xm l->b.drop i=Bz l->i<=b.length->l.length<k->o.length<=i->Aj (λc=>Aet c kx) k (b,q,e,o,(i:Int))=kx (.exit 0) (b,q,e,o++l,(b.length:Int))
 |_,0,i,_,_,_,_,h,_=>by omega
 |[],k+1,i,o,hr,hd,hi,h,ho=>by
  have:i=b.length:=by have:=congrArg List.length hd;simp[Bz]at this;omega
  subst this;rw[Au];simp only[Aet,Zd1 (show ¬(b.length:Int)<(b.length:Int) by omega),Ag,List.append_nil]
 |v::l,k+1,i,o,hr,hd,hi,h,ho=>by
  have hd:b.drop i=Eh v++Bz l:=by rw[hd,Mx]
  have a:=congrArg List.length hd;have t:=A4x v;simp only[Za2,Zh1]at a;have d:Aq v=true:=Zg2.1 hr.1 v (by simp);have f:Xm l:=⟨Zg2.2 λw g=>Zg2.1 hr.1 w (by simp[g]),λw g=>hr.2 w (by simp[g])⟩;have j:decide ((i:Int)<(b.length:Int))=true:=Ze1 (by omega);have e2:upto (i:Int) (b.length:Int) b.length=true:=by rw[Sw];simp;omega
  have m:Bw5 (b.drop i)=some (v,((Eh v).length:Int)):=by rw[hd];exact Byl d (hr.2 v (by simp)) (by simp only[Zh1];omega)
  have n:decide (o.length+1<=Ah)=true:=Ze1 (by simp only[Ah];omega);have p:wr .i64 ((i:Int)+((Eh v).length:Int))=((i+(Eh v).length:Nat):Int):=by rw[Be (by simp only[inI];omega)];omega
  have r:decide ((0:Int)<((Eh v).length:Int))=true:=Ze1 (by omega);have s:=Atw (kx:=kx) (q:=q) (e:=e) hb l k (i+(Eh v).length) (o++[v]) f (by rw[<-List.drop_drop,hd,List.drop_left]) (by omega) (by simp at h;omega) (by simp;omega);rw[Au];simp only[Aet,j,Af,e2,chk,Int.toNat_natCast,m,Zc1,n,p,r,s];simp
theorem B4v{l:Yb1 Val}(a:Xm l)(b:(Bz l).length<2000)(m:Nat)(hm:l.length<m):T2 m (Bz l)=some (l,0):=by simp only[T2];refine(Atw b l m 0 [] a rfl (by omega) hm (by simp)).trans ?_;simp only[Zf2]
theorem Bdt:∀l:Yb1 Val,l.length<=(Bz l).length
 |[]=>Zn1 _
 |v::l=>by have:=Bdt l;have:=A4x v;rw[Mx];simp only[Zf1,Zh1];omega
theorem B03{l:Yb1 Val}(a:Xm l)(b:(Bz l).length<2000):Btu (Bz l)=some (l,0):=B4v a b 2000 (by have:=Bdt l;omega)
section
variable {tb:Tbl}{rs:Yb1 (Yb1 Val)}{t:T}{g:Yb1 NodeS}{h:Str}
theorem Ak1(f:Fit tb s){p:KvS}(a:p∈Fx tb s):p.key.length<=200:=(Al1.1 (Zg2.1 f.2.1 p a)).1
theorem B4i(d:Db tb rs t)(c:Fo tb=true)(hm:s∈rs):Ai3 (tb,pkV tb s,t.node.kind,t.node.path,t.node.has,t.node.val,t.node.kids,t.node.hash,g,h)=some (s,true,0,t.node.kind,t.node.path,t.node.has,t.node.val,t.node.kids,t.node.hash,g,h):=by
 have f:=d.fit s hm;have e:=(V5 f.1).1;have hc:Gu tb=some 0:=by simp only[Gu,c,Af,e]
 have i:Ia [[114],tb.name]=some [wV [114],wV tb.name]:=G5 (by simp);have j:=A6q (Ft f.1);have l:((pkV tb s).length:Int)=(tb.key.length:Int):=by rw[Bry f]
 have m:=Ak1 f (Aka tb s);have c2:¬ 200<((Dd tb s).key.length:Int):=by omega
 have b:=Bfe (t:=t) (g:=g) (h:=h) (k:=(Dd tb s).key) d.wf m;have a:t.get (Dd tb s).key=some (Dd tb s).val:=(d.has _ _).2 ⟨s,hm,Aka tb s⟩;have b:Yx ((Dd tb s).key,t.node.kind,t.node.path,t.node.has,t.node.val,t.node.kids,t.node.hash,g,h)=_:=b;rw[a]at b;have n:=A41 (tb:=tb) (r:=s) (Agc c) f.1 f.2.2;show Ph _=_;simp only[Ph,hc,i,j,l,c2,b,Zc1,decide_true,decide_false,Zt1,Ag,Option.getD_some,Option.isSome_some,n]
def B0d(tb:Tbl)(t:T)(n:Nat)(p:KvS):Yb1 Val:=Bim ⟨[],(t.get (Bz (wV [114]::wV tb.name::((Btu p.key).getD ([],0)).1.drop n))).getD []⟩
theorem B5u(hb:Gr s){l:Yb1 Str}:∀v,v∈(Bg tb.cols s l []).1->inI v.n:=Aqv (P:=λv=>inI v.n) (λv hv=>by simpa using hb v hv) (by show inI 0;simp[inI]) λv hv=>by cases hv
theorem Bw3(s:Str):inI (wV s).n:=by show inI 0;simp[inI]
variable{x:Idx}
theorem Z2(f:Fit tb s)(a:x∈tb.idx):Xm (wV [105]::wV x.name::((Bg tb.cols s x.cols []).1++pkV tb s)):=by
 refine⟨Zg2.2 (Avc (Ft f.1) a).1,λv hv=>?_⟩;rcases List.mem_cons.1 hv with rfl|hv
 ·exact Bw3 _
 rcases List.mem_cons.1 hv with rfl|hv
 ·exact Bw3 _
 rcases List.mem_append.1 hv with hv|hv
 ·exact B5u f.2.2 v hv
 ·exact(Bu8 f).2 v hv
theorem Bgq(f:Fit tb s)(a:x∈tb.idx):Btu (F9 tb s x).key=some (wV [105]::wV x.name::((Bg tb.cols s x.cols []).1++pkV tb s),0):=by have:=Ak1 f (p:=F9 tb s x) (by simp only[Fx,List.mem_cons,List.mem_append,List.mem_map];exact .inr (.inl ⟨x,a,rfl⟩));exact B03 (Z2 f a) (by show(F9 tb s x).key.length<2000;omega)
theorem Bee(f:Fit tb s)(a:x∈tb.idx):(Bg tb.cols s x.cols []).1.length=x.cols.length:=by have:=Aea (row:=s) (acc:=[]) ((Ft f.1).idx x a).2.2;simpa using this
theorem A1n(f:Fit tb s)(a:x∈tb.idx):(wV [105]::wV x.name::((Bg tb.cols s x.cols []).1++pkV tb s)).drop (2+x.cols.length)=pkV tb s:=by rw[show 2+x.cols.length=x.cols.length+1+1 by omega,List.drop_succ_cons,List.drop_succ_cons,<-Bee f a,List.drop_left]
theorem Adr(d:Db tb rs t)(hm:s∈rs)(b:x∈tb.idx):B0d tb t (2+x.cols.length) (F9 tb s x)=s:=by have f:=d.fit s hm;have a:t.get (Dd tb s).key=some (Dd tb s).val:=(d.has _ _).2 ⟨s,hm,Aka tb s⟩;simp only[Dd]at a;simp only[B0d,Bgq f b,Option.getD_some,A1n f b,a];have:=Tn f;simpa only[Dd,Bim]using this
theorem Bgg{R:Type}{kx:Ex->Aji->Ya1 R}{z:Yb1 (Yb1 Val)}{e:Int}{x:Idx}(d:Db tb rs t)(o:Fo tb=true)(b:x∈tb.idx){L:Yb1 KvS}(q:∀p,p∈L->∃s,s∈rs/\p=F9 tb s x)(u:L.length<=100000):∀(k i:Nat) (acc:Yb1 (Yb1 Val)),i<=L.length->L.length-i<k->acc.length<=i ->
  Aj (λj=>Asa j kx) k (z,e,acc,((2+x.cols.length:Nat):Int),L,(L.length:Int),(i:Int),t.node.kind,t.node.path,t.node.has,t.node.val,t.node.kids,t.node.hash,g,h,tb)=kx (.exit 0) (z,e,acc++(L.drop i).map (B0d tb t (2+x.cols.length)),((2+x.cols.length:Nat):Int),L,(L.length:Int),(L.length:Int),t.node.kind,t.node.path,t.node.has,t.node.val,t.node.kids,t.node.hash,g,h,tb)
 |0,_,_,_,hk,_=>by omega
 |k+1,i,acc,hi,hk,ha=>by
  rw[Au];by_cases a:i<L.length
  ·have c1:(i:Int)<(L.length:Int):=by omega
   have c2:acc.length+1<=Ah:=by simp only[Ah];omega
   obtain⟨s,hm,r⟩:=q _ (List.getElem_mem a);have f:=d.fit s hm;have v:=((Ft f.1).idx x b).2.1;have l:=Bee f b;have m:=Bry f;have w:=(Ft f.1).nkey;have hd:=Bgq f b;have n:=B4i (g:=g) (h:=h) d o hm;have w1:wr .i64 (((2+x.cols.length:Nat):Int)+(tb.key.length:Int))=((2+x.cols.length+tb.key.length:Nat):Int):=by rw[Be (by simp only[inI];omega)];omega
   have y:(wV [105]::wV x.name::((Bg tb.cols s x.cols []).1++pkV tb s)).length=2+x.cols.length+tb.key.length:=by simp only[Zf1,Zh1,l,m];omega
   have u1:upto ((2+x.cols.length:Nat):Int) ((2+x.cols.length+tb.key.length:Nat):Int) (2+x.cols.length+tb.key.length)=true:=by rw[Sw];simp
   simp only[Asa,c1,decide_true,Af,Ao a,chk,Al (c:=.kv) a,r,hd,Zc1,Zt1,Ag,y,w1,u1,Int.toNat_natCast,A1n f b,n,c2,Am a (show ln L.length by simp[ln];omega)];rw[Bgg (kx:=kx) d o b q u k (i+1) (acc++[s]) (by omega) (by omega) (by simp;omega),List.drop_eq_getElem_cons a,Zw1,Zj1,r,Adr d hm b];rfl
  ·have e:i=L.length:=by omega
   subst e;have c1:¬(L.length:Int)<(L.length:Int):=by omega
   simp only[Asa,c1,decide_false,Ag,Zc2,List.map_nil,List.append_nil]
theorem Bdm{R:Type}{kx:Ex->Ajm->Ya1 R}{l:Yb1 Idx}{w:Int}{a:Int}{b:Str}{c:Bool}{d:Str}{e:Yb1 NodeS}{f:Str}{v:Val}{j:Nat}(r:j<l.length)(s:l.length<=100)(q:∀m (hm:m<j),(l[m]'(by omega)).name≠l[j].name):∀(k i:Nat),i<=j->l.length-i<k ->
  Aj (λo=>Asz o kx) k (l,w,(l.length:Int),(i:Int),a,b,c,d,e,f,g,h,tb,l[j].name,v)=kx .ret (l,(j:Int),(l.length:Int),(j:Int),a,b,c,d,e,f,g,h,tb,l[j].name,v)
 |0,_,_,hk=>by omega
 |k+1,i,hi,hk=>by
  rw[Au];have n:i<l.length:=by omega
  have c1:(i:Int)<(l.length:Int):=by omega
  by_cases e:i=j
  ·subst e;simp only[Asz,c1,decide_true,Af,Ao n,chk,Al (c:=.idx) n]
  ·have p:=q i (by omega);simp only[Asz,c1,decide_true,Af,Ao n,chk,Al (c:=.idx) n,p,decide_false,Ag,Am n (show ln l.length by simp[ln];omega)];exact Bdm r s q k (i+1) (by omega) (by omega)
theorem Ts:∀{l:Yb1 Idx},A6 l=true->∀j (a:j<l.length) m (hm:m<j),(l[m]'(by omega)).name≠l[j].name
 |[],_,j,a,_,_=>by cases a
 |x::l,hs,0,_,m,hm=>by omega
 |x::l,hs,j+1,a,m,hm=>by simp only[A6,Zb1,Zg2]at hs;cases m with|zero=>exact Azt (hs.1 _ (List.getElem_mem (by simpa using a)))|succ m=>exact Ts hs.2 j (by simpa using a) m (by omega)
theorem Bwm{l:Yb1 Idx}(a:A6 l=true){y:Idx}(b:x∈l)(c:y∈l)(h:x.name=y.name):x=y:=by
 obtain⟨i,hi,rfl⟩:=List.getElem_of_mem b;obtain⟨j,d,rfl⟩:=List.getElem_of_mem c;rcases Nat.lt_trichotomy i j with e|e|e
 ·exact absurd h (Ts a j d i e)
 ·subst e;rfl
 ·exact absurd h.symm (Ts a i hi j e)
def I9(x:Idx)(v:Val):Str:=Bz [wV [105],wV x.name,v]
def first(tb:Tbl)(x:Idx)(s:Yb1 Val):Val:=at' .val (Bg tb.cols s (x.cols.take 1) []).1 0
theorem Ao7{cols:Yb1 Col}{row:Yb1 Val}:∀(l:Yb1 Str) (acc:Yb1 Val),(∀s,s∈l->¬B3 cols s<0)->(Bg cols row l acc).1=acc++l.map λs=>at' .val row (B3 cols s)
 |[],acc,_=>by simp[Bg]
 |s::l,acc,h=>by have a:=h s (by simp);have b:=Ao7 (row:=row) l (acc++[at' .val row (B3 cols s)]) λx c=>h x (by simp[c]);simp only[Bg,a,decide_false,Ag,b,Zw1,Zj1,List.singleton_append]
theorem Ach(hc:∀n,n∈x.cols->¬B3 tb.cols n<0)(b:x.cols≠[]):(Bg tb.cols s x.cols []).1=first tb x s::((Bg tb.cols s x.cols []).1).drop 1/\(Bg tb.cols s (x.cols.take 1) []).1=[first tb x s]:=by
 have d:=Ao7 (row:=s) x.cols [] hc;have e:=Ao7 (row:=s) (x.cols.take 1) [] λn f=>hc n (List.mem_of_mem_take f);cases c:x.cols with
 |nil=>exact absurd c b
 |cons a l=>rw[c]at d e;simp only[first,c];rw[d,e];simp[at']
end
section
variable {tb:Tbl}{rs:Yb1 (Yb1 Val)}{t:T}{g:Yb1 NodeS}{h:Str}
variable{x:Idx}
theorem M0(g:Ee tb=true)(h:x∈tb.idx):B7 x.name=true/\x.cols.length<=100/\x.cols≠[]/\∀s,s∈x.cols->¬B3 tb.cols s<0:=by
 have f:=(Ku g).2.2.2 x h;simp only[Jf,Zb1]at f;obtain⟨a,i⟩:=f;simp only[Bn,B1,Zb1]at a;have b:(B7 tb.name&&C7 (x.cols.length:Int)&&Dn x.cols)=true:=a.2;simp only[Zb1]at b;obtain⟨c,_⟩:=Abf b.2;refine⟨a.1.1,c,λe=>?_,λs j=>?_⟩
 ·have:=b.1.2;rw[e]at this;exact absurd this (by decide)
 ·have d:(!decide (B3 tb.cols s<0))=true:=Zg2.1 i s j;simpa using d
theorem B24{a b:Str}(h:wV a=wV b):a=b:=congrArg Val.s h
theorem Aul(b:Ee tb=true)(c:x∈tb.idx)(f:Fit tb s):Aq (first tb x s)=true/\inI (first tb x s).n:=by
 obtain⟨_,_,d,a⟩:=M0 b c;have e:=(Ach (s:=s) a d).1;have hm:first tb x s∈(Bg tb.cols s x.cols []).1:=by rw[e];exact Zr1
 exact⟨Oz (Ft f.1) a _ (Ft f.1).right _ hm,B5u f.2.2 _ hm⟩
theorem Avf(a:Ee tb=true)(b:x∈tb.idx)(s:Yb1 Val):∃z,(F9 tb s x).key=I9 x (first tb x s)++z/\wV [105]::wV x.name::((Bg tb.cols s x.cols []).1++pkV tb s)=[wV [105],wV x.name,first tb x s]++(((Bg tb.cols s x.cols []).1).drop 1++pkV tb s):=by
 obtain⟨_,_,c,d⟩:=M0 a b;have f:=(Ach (s:=s) d c).1;have e:wV [105]::wV x.name::((Bg tb.cols s x.cols []).1++pkV tb s)=[wV [105],wV x.name,first tb x s]++(((Bg tb.cols s x.cols []).1).drop 1++pkV tb s):=by
  conv=>lhs;rw[f]
  simp
 refine⟨Bz (((Bg tb.cols s x.cols []).1).drop 1++pkV tb s),?_,e⟩;simp only[F9,I9];rw[e,Je]
theorem Afk(b:Ee tb=true)(c:x∈tb.idx){v:Val}(hv:Aq v=true)(d:inI v.n):Xm [wV [105],wV x.name,v]:=by
 refine⟨?_,λw a=>?_⟩
 ·simp only[Zv1,List.all_nil,Ki.2.1,E5 (M0 b c).1,hv,Bool.and_self]
 ·simp only[List.mem_cons,List.not_mem_nil,or_false]at a;rcases a with rfl|rfl|rfl
  ·exact Bw3 _
  ·exact Bw3 _
  ·exact d
theorem R9(d:Db tb rs t)(b:Ee tb=true)(a:x∈tb.idx){v:Val}(hv:Aq v=true)(m:inI v.n){p:KvS}:p∈range t (I9 x v) (nxt (I9 x v))↔∃s,s∈rs/\first tb x s=v/\p=F9 tb s x:=by
 obtain⟨k,u⟩:=p;rw[Awc d.wf,d.has];constructor
 ·rintro⟨⟨s,e,hm⟩,o⟩;have f:=d.fit s e;obtain⟨z,h⟩:=Option.isSome_iff_exists.1 o;have g:=Bm.1 h;have i:Xq k=105:=by rw[g,I9,B2a];rfl
  simp only[Fx,List.mem_cons,List.mem_append,List.mem_map]at hm;rcases hm with hm|⟨y,j,hm⟩|hm|hm
  ·have:=congrArg (λq:KvS=>Xq q.key) hm;simp only[Aqe]at this;rw[i]at this;exact absurd this (by decide)
  ·have r:Bz (wV [105]::wV y.name::((Bg tb.cols s y.cols []).1++pkV tb s))=k:=congrArg KvS.key hm;have e2:=(A1e (Afk b a hv m).1 (Z2 f j).1 (Afk b a hv m).2 (Z2 f j).2).1 (by rw[r,g];exact List.prefix_append _ _);obtain⟨w,c⟩:=e2;simp only[Zb2,Zf2,Ze2]at c;obtain⟨_,e3,l⟩:=c;have e5:=Bwm (Ku b).2.1 a j (B24 e3);subst e5;obtain⟨_,_,h3,h4⟩:=M0 b a;have h1:=(Ach (s:=s) h4 h3).1;rw[h1]at l;simp only[Zb2,Ze2]at l;exact⟨s,e,l.1.symm,hm.symm⟩
  ·have:=(Aaf hm).1;simp only at this;rw[i]at this;exact absurd this (by decide)
  ·have:=(Acr hm).1;simp only at this;rw[i]at this;exact absurd this (by decide)
 ·rintro⟨s,e,hf,hm⟩;obtain⟨z,h,_⟩:=Avf b a s;have g:k=(F9 tb s x).key:=by rw[<-hm]
  refine⟨⟨s,e,?_⟩,?_⟩
  ·rw[hm];simp only[Fx,List.mem_cons,List.mem_append,List.mem_map];exact .inr (.inl ⟨x,a,rfl⟩)
  ·rw[g,h,hf,Fg];rfl
def byL(tb:Tbl)(t:T)(x:Idx)(v:Val):Yb1 (Yb1 Val):=(range t (I9 x v) (nxt (I9 x v))).map (B0d tb t (2+x.cols.length))
theorem A02(d:Db tb rs t)(e:Ee tb=true)(b:x∈tb.idx){v:Val}(hv:Aq v=true)(f:inI v.n):s∈byL tb t x v↔s∈rs/\first tb x s=v:=by
 unfold byL;rw[List.mem_map];constructor
 ·rintro⟨p,g,rfl⟩;obtain⟨s,a,c,rfl⟩:=(R9 d e b hv f).1 g;rw[Adr d a b];exact⟨a,c⟩
 ·rintro⟨a,c⟩;exact⟨F9 tb s x,(R9 d e b hv f).2 ⟨s,a,c,rfl⟩,Adr d a b⟩
theorem Akb(d:Db tb rs t)(c:Ee tb=true)(a:x∈tb.idx){v:Val}(hv:Aq v=true)(f:inI v.n):(byL tb t x v).Nodup:=by unfold byL List.Nodup;rw[List.pairwise_map];refine(Adf d.wf _ _).imp_of_mem ?_;intro p q g i h e;obtain⟨s,j,_,rfl⟩:=(R9 d c a hv f).1 g;obtain⟨s',b,_,rfl⟩:=(R9 d c a hv f).1 i;rw[Adr d j a,Adr d b a]at e;subst e;exact Azf _ h
theorem Bpo(d:Db tb rs t)(a:Ee tb=true)(b:x∈tb.idx){v:Val}(hv:Aq v=true)(c:inI v.n):(byL tb t x v).length<=rs.length:=Mk (Akb d a b hv c) λ_ e=>((A02 d a b hv c).1 e).1
theorem B6x(d:Db tb rs t)(hs:Fo tb=true)(a:Ee tb=true)(hr:rs.length<=200)(b:x∈tb.idx)(hm:s∈rs)(k:Nat)(hk : 300<k) :
  Rk k (tb,x.name,first tb x s,t.node.kind,t.node.path,t.node.has,t.node.val,t.node.kids,t.node.hash,g,h)=some (byL tb t x (first tb x s),0,t.node.kind,t.node.path,t.node.has,t.node.val,t.node.kids,t.node.hash,g,h):=by
 have f:=d.fit s hm;obtain⟨hv,n⟩:=Aul a b f;obtain⟨z,hz,_⟩:=Avf a b s;have o:=Ak1 f (p:=F9 tb s x) (by simp only[Fx,List.mem_cons,List.mem_append,List.mem_map];exact .inr (.inl ⟨x,b,rfl⟩));have i:=Bpo d a b hv n;have q:=λp=>(R9 d a b hv n (p:=p)).1;rw[hz,Zh1]at o;unfold byL at i ⊢;rw[List.length_map]at i;generalize a4:first tb x s=v at *;have hp:(I9 x v).length<=200:=by omega
 have a5:=Azw (I9 x v);have hc:Gu tb=some 0:=by simp only[Gu,hs,Af,a]
 have a6:v.s.length<=1000:=by
  rcases Dq.1 hv with ⟨_,_,e⟩|⟨_,_,e⟩|⟨_,e⟩|⟨_,_,e,_⟩|⟨_,_,e⟩<;>first
   |(rw[e];simp)
   |omega
 have r:A20 [v]=some (Bz [v],0):=by have:decide (vsz [v]<=1000000)=true:=Ze1 (by simp only[vsz];omega);simp only[A20,this,Af,Zv1,List.all_nil,hv,Bool.and_self]
 have u:Ia [[105],x.name]=some [wV [105],wV x.name]:=G5 (by simp);have h2:W2 [[wV [105],wV x.name],[v]]=some (I9 x v,0):=Ir (by simp) (λw hw=>by have:=(Afk a b hv n).1;exact Zg2.1 this w (by simpa using hw)) (by simp)
 have y:Ag2 (I9 x v)=some (nxt (I9 x v)):=by simp only[Ag2,Ze1 (show(I9 x v).length<=2000000 by omega),Af]
 have hd:=d.size;have h4:=Aw6 (t:=t) (g:=g) (h:=h) (lo:=I9 x v) (hi:=nxt (I9 x v)) (m:=9223372036854775807) d.wf (by omega) (by omega) (by omega) (by simp only[Ah];omega);have h4:Kq (I9 x v,nxt (I9 x v),9223372036854775807,t.node.kind,t.node.path,t.node.has,t.node.val,t.node.kids,t.node.hash,g,h)=_:=h4;obtain⟨j,l,a2⟩:=List.getElem_of_mem b;have a3:=(Ku a).2.2.1;have a7:=(M0 a b).2.1;simp only[Rk,hc,r,Zc1,decide_true,Zt1,Ag];subst a2;refine(Bdm l a3 (Ts (Ku a).2.1 j l) k 0 (Nat.zero_le _) (by omega)).trans ?_;have c1:¬(j:Int)<0:=by omega
 have w1:wr .i64 (2+((tb.idx[j].cols.length:Nat):Int))=((2+tb.idx[j].cols.length:Nat):Int):=by rw[Be (by simp only[inI];omega)];omega
 simp only[c1,decide_false,Ag,u,h2,y,h4,Zc1,decide_true,Zt1,Ao l,chk,Af,Al (c:=.idx) l,w1];refine(Bgg d hs b (λp hp=>by obtain⟨s,u,_,y⟩:=q p hp;exact⟨s,u,y⟩) (by omega) k 0 [] (Nat.zero_le _) (by omega) (by simp)).trans ?_
 simp only[Zq1,Zf2]
end
theorem Bak{R:Type}{kx:Ex->Pe->Ya1 R}{tb:Tbl}{l:Yb1 (Yb1 Val)}{q:Int}{b:Bool}{g:Yb1 NodeS}{h:Str}(p:l.length<=1000)(j:∀r,Qt tb r=some (Ey tb r))(hb:∀r,r∈l->Gr r):∀(k i:Nat) (rs:Yb1 (Yb1 Val)) (t:T),Db tb rs t->rs.length<=i->i<=l.length->l.length-i<k ->
  ∃f t',Db tb f t'/\f.length<=l.length/\Aj (λm=>Alm m kx) k (l,q,b,(i:Int),tb,t.node.kind,t.node.path,t.node.has,t.node.val,t.node.kids,t.node.hash,g,h)=kx (.exit 0) (l,q,b,(l.length:Int),tb,t'.node.kind,t'.node.path,t'.node.has,t'.node.val,t'.node.kids,t'.node.hash,g,h)
 |0,_,_,_,_,_,_,hk=>by omega
 |k+1,i,rs,t,d,hn,hi,hk=>by
  rw[Au];by_cases a:i<l.length
  ·have c1:(i:Int)<(l.length:Int):=by omega
   have n:=B22 (t:=t) (g:=g) (h:=h) (j l[i]) (hb _ (List.getElem_mem a)) d.wf;simp only[Alm,c1,decide_true,Af,Ao a,chk,Al (c:=.vals) a,n,Zc1,Am a (show ln l.length by simp[ln];omega)];rcases B39 d (hb _ (List.getElem_mem a))with ⟨s,o⟩|⟨s,o⟩
   ·exact Bak (kx:=kx) (b:=b) (g:=g) (h:=h) p j hb k (i+1) _ _ o (by simp;omega) (by omega) (by omega)
   ·rw[o];exact Bak (kx:=kx) (b:=b) (g:=g) (h:=h) p j hb k (i+1) rs t d (by omega) (by omega) (by omega)
  ·have e:i=l.length:=by omega
   subst e;have c1:¬(l.length:Int)<(l.length:Int):=by omega
   refine⟨rs,t,d,hn,?_⟩;simp only[Alm,c1,decide_false,Ag]
section
variable {tb:Tbl}{rs L BY:Yb1 (Yb1 Val)}{t:T}{x:Idx}{g:Yb1 NodeS}{h:Str}{b:Bool}
theorem Ap5{R:Type}{kx:Ex->Qf->Ya1 R}{i f n:Int}{xv:Yb1 Val}{a:Nat}(o:a<L.length)(d:∀s,s∈BY->s.length=L[a].length)(q:L[a].length<=1000)(r:BY.length<=1000):∀(k j m:Nat),j<=BY.length->BY.length-j<k->m<=j ->
  Aj (λp=>Amg p kx) k (b,L,i,xv,BY,f,n,(a:Int),(m:Int),(j:Int),tb,t.node.kind,t.node.path,t.node.has,t.node.val,t.node.kids,t.node.hash,g,h,x)=kx (.exit 6) (b,L,i,xv,BY,f,n,(a:Int),((m+(BY.drop j).countP (λs=>decide (s=L[a])):Nat):Int),(BY.length:Int),tb,t.node.kind,t.node.path,t.node.has,t.node.val,t.node.kids,t.node.hash,g,h,x)
 |0,_,_,_,hk,_=>by omega
 |k+1,j,m,hj,hk,hm=>by
  rw[Au];by_cases l:j<BY.length
  ·have c1:(j:Int)<(BY.length:Int):=by omega
   have u:=d _ (List.getElem_mem l);have v:Be5 BY[j] L[a]=some (H5 Gs BY[j] L[a]):=Bvv u (by omega);have w1:wr .i64 ((m:Int)+1)=((m+1:Nat):Int):=by rw[Be (by simp only[inI];omega)];omega
   simp only[Amg,c1,decide_true,Af,Ao l,Ao o,chk,Al (c:=.vals) l,Al (c:=.vals) o,v,Zc1,Am l (show ln BY.length by simp[ln];omega),w1];rw[List.drop_eq_getElem_cons l,List.countP_cons];by_cases e:BY[j]=L[a]
   ·have z:H5 Gs L[a] L[a]=0:=(vrows_lin.eq _ _).2 rfl;simp only[e,z,decide_true,Af,if_true];rw[Ap5 (kx:=kx) o d q r k (j+1) (m+1) (by omega) (by omega) (by omega),show m+1+(BY.drop (j+1)).countP (λs=>decide (s=L[a]))=m+((BY.drop (j+1)).countP (λs=>decide (s=L[a]))+1) by omega]
   ·have z:¬H5 Gs BY[j] L[a]=0:=λz=>e ((vrows_lin.eq _ _).1 z);simp only[z,decide_false,Ag,e,Zj2,if_false,Nat.add_zero];exact Ap5 (kx:=kx) o d q r k (j+1) m (by omega) (by omega) (by omega)
  ·have e:j=BY.length:=by omega
   subst e;have c1:¬(BY.length:Int)<(BY.length:Int):=by omega
   simp only[Amg,c1,decide_false,Ag,Zc2,List.countP_nil,Nat.add_zero]
theorem Awh:∀{l:Yb1 (Yb1 Val)}{a:Yb1 Val},l.Nodup->a∈l->l.countP (λs=>decide (s=a))=1
 |s::l,a,b,hm=>by
  have b:=List.nodup_cons.1 b;rw[List.countP_cons];rcases List.mem_cons.1 hm with rfl|hm
  ·have:l.countP (λs=>decide (s=a))=0:=List.countP_eq_zero.2 λs d=>by have:¬s=a:=λe=>b.1 (e▸d);simpa using this
   simp[this]
  ·have c:¬s=a:=λe=>b.1 (e▸hm);rw[Awh b.2 hm];simp[c]
theorem Anq{R:Type}{kx:Ex->Pq->Ya1 R}{i f:Int}{v0:Val}{m:Nat}(hm : 1000<m)(u:tb.cols.length<=100)(z : 0<x.cols.length)(j:∀s,(Bg tb.cols s (x.cols.take 1) []).1=[first tb x s])(l:∀s,s∈L->s.length=tb.cols.length)(p:∀s,s∈BY->s.length=tb.cols.length)(hL:L.length<=1000)(v:BY.length<=1000)(r:BY.Nodup)(o:∀s,s∈L->first tb x s=v0->s∈BY):∀(k a n:Nat),a<=L.length->L.length-a<k->n<=a ->
  Aj (λy=>Ana m y kx) k (b,L,i,[v0],BY,f,(n:Int),(a:Int),tb,t.node.kind,t.node.path,t.node.has,t.node.val,t.node.kids,t.node.hash,g,h,x)=kx (.exit 4) (b,L,i,[v0],BY,f,((n+(L.drop a).countP (λs=>decide (first tb x s=v0)):Nat):Int),(L.length:Int),tb,t.node.kind,t.node.path,t.node.has,t.node.val,t.node.kids,t.node.hash,g,h,x)
 |0,_,_,_,hk,_=>by omega
 |k+1,a,n,hj,hk,hn=>by
  rw[Au];by_cases d:a<L.length
  ·have c1:(a:Int)<(L.length:Int):=by omega
   have h1:=l _ (List.getElem_mem d);have p1:A34 tb L[a] (x.cols.take 1)=some (Bg tb.cols L[a] (x.cols.take 1) []):=Bdv (by rw[List.length_take];omega) h1 _ (by omega);have u1:upto 0 1 x.cols.length=true:=by simp[upto];omega
   have w1:wr .i64 ((n:Int)+1)=((n+1:Nat):Int):=by rw[Be (by simp only[inI];omega)];omega
   have z0:∀w:Val,at' .val [w] 0=w:=λ_=>rfl;have i0:∀w:Val,inb 0 [w].length=true:=λ_=>rfl;have tk:(1:Int).toNat=1:=rfl;simp only[Ana,c1,decide_true,Af,u1,Ao d,chk,Al (c:=.vals) d,tk,p1,Zc1,j,z0,i0,w1,Am d (show ln L.length by simp[ln];omega)];rw[List.drop_eq_getElem_cons d,List.countP_cons];by_cases e:first tb x L[a]=v0
   ·have hc:=Awh r (o _ (List.getElem_mem d) e);simp only[e,decide_true,Zt1,Ag,if_true];refine(Ap5 d (λs hs=>by rw[p s hs,h1]) (by omega) v m 0 0 (Nat.zero_le _) (by omega) (Zn1 _)).trans ?_;have one:((0+(BY.drop 0).countP (λs=>decide (s=L[a])):Nat):Int)=1:=by rw[Zq1,hc];rfl
    simp only[one,decide_true,Zt1,Ag,Am d (show ln L.length by simp[ln];omega)];rw[Anq (kx:=kx) hm u z j l p hL v r o k (a+1) (n+1) (by omega) (by omega) (by omega),show n+1+(L.drop (a+1)).countP (λs=>decide (first tb x s=v0))=n+((L.drop (a+1)).countP (λs=>decide (first tb x s=v0))+1) by omega]
   ·have e2:¬v0=first tb x L[a]:=λq=>e q.symm;simp only[e,e2,decide_false,Zs1,Af,Zj2,if_false,Nat.add_zero];exact Anq (kx:=kx) hm u z j l p hL v r o k (a+1) n (by omega) (by omega) (by omega)
  ·have e:a=L.length:=by omega
   subst e;have c1:¬(L.length:Int)<(L.length:Int):=by omega
   simp only[Ana,c1,decide_false,Ag,Zc2,List.countP_nil,Nat.add_zero]
theorem Btw(d:Db tb rs t)(f:Ee tb=true)(g:x∈tb.idx){v:Val}(hv:Aq v=true)(i:inI v.n):(Ev tb t).countP (λs=>decide (first tb x s=v))=(byL tb t x v).length:=by
 have j:(Ev tb t).Nodup:=(Ahv d).imp λ{a b} h e=>by subst e;exact Azf _ h
 rw[List.countP_eq_length_filter];refine Nat.le_antisymm (Mk (j.filter _) λs c=>?_) (Mk (Akb d f g hv i) λs c=>?_)
 ·rw[List.mem_filter]at c;exact(A02 d f g hv i).2 ⟨(Jb d).1 c.1,by simpa using c.2⟩
 ·obtain⟨k,l⟩:=(A02 d f g hv i).1 c;rw[List.mem_filter];exact⟨(Jb d).2 k,by simpa using l⟩
theorem A6j{R:Type}{kx:Ex->Ov->Ya1 R}{m:Nat}(hm : 1000<m)(d:Db tb rs t)(o:Fo tb=true)(n:Ee tb=true)(hr:rs.length<=200)(p:x∈tb.idx):∀(k i:Nat),i<=(Ev tb t).length->(Ev tb t).length-i<k ->
  Aj (λz=>Ala m z kx) k (b,Ev tb t,(i:Int),tb,t.node.kind,t.node.path,t.node.has,t.node.val,t.node.kids,t.node.hash,g,h,x)=kx (.exit 2) (b,Ev tb t,((Ev tb t).length:Int),tb,t.node.kind,t.node.path,t.node.has,t.node.val,t.node.kids,t.node.hash,g,h,x)
 |0,_,_,hk=>by omega
 |k+1,i,hi,hk=>by
  rw[Au];have a7:=Apw d;obtain⟨x1,x2,x3,x4⟩:=M0 n p;have a2:=(Tl n).1;have q:=λs=>(Ach (s:=s) x4 x3).2;have f:∀s,s∈Ev tb t->s.length=tb.cols.length:=λs o=>(Ft (d.fit s ((Jb d).1 o)).1).len;have r : 0<x.cols.length:=by cases a3:x.cols with|nil=>exact absurd a3 x3|cons a l=>simp
  by_cases j:i<(Ev tb t).length
  ·have c1:(i:Int)<((Ev tb t).length:Int):=by omega
   have u:=(Jb d).1 (List.getElem_mem j);obtain⟨hv,y⟩:=Aul n p (d.fit _ u);have h1:=f _ (List.getElem_mem j);have p1:A34 tb (Ev tb t)[i] (x.cols.take 1)=some (Bg tb.cols (Ev tb t)[i] (x.cols.take 1) []):=Bdv (by rw[List.length_take];omega) h1 _ (by omega);have u1:upto 0 1 x.cols.length=true:=by simp[upto];omega
   have z0:∀w:Val,at' .val [w] 0=w:=λ_=>rfl;have i0:∀w:Val,inb 0 [w].length=true:=λ_=>rfl;have tk:(1:Int).toNat=1:=rfl;have a4:Bge (tb,x.name,first tb x (Ev tb t)[i],t.node.kind,t.node.path,t.node.has,t.node.val,t.node.kids,t.node.hash,g,h)=some (byL tb t x (first tb x (Ev tb t)[i]),0,t.node.kind,t.node.path,t.node.has,t.node.val,t.node.kids,t.node.hash,g,h):=B6x d o n hr p u 5000 (by omega);have a5:=Btw d n p hv y;have a8:=Bpo d n p hv y;have v:=λs=>A02 d n p hv y (s:=s);have a6:=Akb d n p hv y;simp only[Ala,c1,decide_true,Af,u1,Ao j,chk,Al (c:=.vals) j,tk,p1,Zc1,q,z0,i0,a4];generalize first tb x (Ev tb t)[i]=v0 at *;refine(Anq hm a2 r q f (λs o=>f s ((Jb d).2 ((v s).1 o).1)) (by omega) (by omega) a6 (λs o e=>(v s).2 ⟨(Jb d).1 o,e⟩) m 0 0 (Nat.zero_le _) (by omega) (Zn1 _)).trans ?_;simp only[Zq1,Nat.zero_add,a5,decide_true,Zt1,Ag,Am j (show ln (Ev tb t).length by simp[ln];omega)];exact A6j hm d o n hr p k (i+1) (by omega) (by omega)
  ·have e:i=(Ev tb t).length:=by omega
   have c1:¬((Ev tb t).length:Int)<((Ev tb t).length:Int):=by omega
   rw[e];simp only[Ala,c1,decide_false,Ag]
end
theorem B2b(q:Int){n:Nat}(b : 0<n)(c:n<=100):∃j:Nat,j<n/\wr .u64 ((n:Nat):Int)=(n:Int)/\wr .i64 (Int.tmod (wr .u64 q) ((n:Nat):Int))=(j:Int):=by
 obtain⟨a,ha⟩:∃a:Nat,wr .u64 q=(a:Int):=by
  refine⟨(q % 18446744073709551616).toNat,?_⟩;have e:wr .u64 q=q % 18446744073709551616:=by simp[wr,IntKind.wrap,IntKind.bits,IntKind.signed]
  rw[e];omega
 have hm:a % n<n:=Nat.mod_lt _ b;refine⟨a % n,hm,Ji (by omega),?_⟩;rw[ha,show Int.tmod (a:Int) (n:Int)=((a % n:Nat):Int) from rfl];exact Be (by simp only[inI];omega)
theorem B5q{l:Yb1 (Yb1 Val)}(f:Fo tb=true)(i:Akk tb=some (cond (Ee tb) 0 2))(u:l.length<=1048576)(v:∀r,r∈l->r.length<=1048576)(w:∀r,r∈l->Gr r)(k:Nat)(hk : 2000<k)(_:k<1000000):Ace k (tb,l,q)=some true:=by
 obtain⟨b,hm,m⟩:=Bys (t:=tb) u v;simp only[Ace,hm,Zc1,Ajx,i];cases b with
 |true=>rfl
 |false=>
  have y:=m rfl;cases hi:decide ((tb.idx.length:Int)=0)with
  |true=>rfl
  |false=>
   cases n:Ee tb with
   |false=>rfl
   |true=>
    have a : 0<tb.idx.length:=by have:=of_decide_eq_false hi;omega
    have o:=(Ku n).2.2.1;obtain⟨j,p,w1,w2⟩:=B2b q a o;have c0:decide ((0:Int)=0)=true:=rfl;have c1:O4 (NodeS.mk 0 [] false [] [] [])=some 0:=Y1 (t:=.no) (Nat.zero_le _);have c2:Amt (NodeS.mk 0 [] false [] [] [])=some (NodeS.mk 0 [] false [] [] []):=Ash (t:=.no) (Nat.zero_le _);have z:∀r,Qt tb r=some (Ey tb r):=λr=>Agc f;simp only[Ag,Af,c1,c2,Zc1];obtain⟨rs,t,d,a2,e⟩:=Bak (kx:=_) (q:=q) (b:=false) (g:=[]) (h:=[]) (show l.length<=1000 by omega) z w k 0 [] .no (B5y tb) (Nat.zero_le _) (Nat.zero_le _) (by omega);refine e.trans ?_;clear e;have s:Ajb (tb,t.node.kind,t.node.path,t.node.has,t.node.val,t.node.kids,t.node.hash,[],[])=some (Ev tb t,0,t.node.kind,t.node.path,t.node.has,t.node.val,t.node.kids,t.node.hash,[],[]):=Byi d f n (by omega) 5000 (by omega);have a3:=Apw d;simp only[s,Zc1,w1,hi,Zs1,w2,Ao p,chk,Af,Al (c:=.idx) p];refine(A6j (x:=tb.idx[j]) (by omega) d f n (by omega) (List.getElem_mem p) k 0 (Nat.zero_le _) (by omega)).trans ?_;rfl
variable{H:Type}
theorem A5g(d:DataW H) : 1<=Rows.uptoBulk d:=by cases d with|lit l=>cases l<;>simp[Rows.uptoBulk]|_=>simp[Rows.uptoBulk]
theorem Ajj{H:Type}:∀{l:Yb1 (DataW H)}{d:DataW H},d∈l->Rows.uptoBulk d<=Rows.uptoBulkAll l
 |[],_,h=>by cases h
 |x::l,d,h=>by
  simp only[Rows.uptoBulkAll];rcases List.mem_cons.1 h with rfl|h
  ·omega
  ·have:=Ajj h;omega
theorem Au7{H:Type}:∀(l:Yb1 (DataW H)),l.length<=Rows.uptoBulkAll l
 |[]=>by simp[Rows.uptoBulkAll]
 |x::l=>by have:=A5g x;have:=Au7 l;simp only[Rows.uptoBulkAll,Zf1];omega
theorem Brm(P:Program)(R:Nat):Msr (H:=H) P (R,R) λ_ d=>Rows.uptoBulk d<=R where
 str:=λt s h=>by simp only[Rows.uptoBulk]at h;omega
 sl:=λt e l r a _ h b=>by simp only[Rows.uptoBulk]at h;have:=Au7 l;exact⟨by omega,λd hd=>by have:=Ajj hd;omega⟩
 agg:=λt fds l i fd d a h c hd=>by simp only[Rows.uptoBulk]at h;have:=Ajj (List.mem_of_getElem? hd);omega
theorem Vw{H:Type}:∀(l:Yb1 (DataW H)),Rows.uptoBulkAll l=(l.map Rows.uptoBulk).sum
 |[]=>by simp[Rows.uptoBulkAll]
 |x::l=>by simp[Rows.uptoBulkAll,Vw l]
theorem Bnd:Siz (H:=H) Rows.uptoBulk where
 one:=A5g
 sl:=λl r=>by rw[<-Vw,Rows.uptoBulk];omega
 agg:=λl=>by rw[<-Vw,Rows.uptoBulk];omega
variable{ds:Yb1 (DataW H)}
theorem B2j{a:Yb1 (DataW H)}(h:Rows.uptoSmall H (ds++a)=true):(ds.map Rows.uptoBulk).sum<=1048576:=by have h:Rows.uptoBulkAll (ds++a)<=1048576:=of_decide_eq_true h;rw[Vw,List.map_append,List.sum_append]at h;omega
theorem Byo(h:Rows.uptoSmall H ds=true){d:DataW H}(hd:ds[i]? = some d):Rows.uptoBulk d<=1048576:=by have h:Rows.uptoBulkAll ds<=1048576:=of_decide_eq_true h;have:=Ajj (List.mem_of_getElem? hd);omega
end Go.Proofs.YtcoaaebppfbbnaaGreatDoor
namespace Go.Ax
open Go.RowKit Go.ChangeShapes Go.WideShapes
section
variable {H:Type}{enc':TypeId×Value->H}{P:Program}{w:World}{base:Nat}{sp:Nat->Bool}{held:Bool}
theorem A3l{t k e:TypeId}{fuel:Nat}{cs:Yb1 Value}{ps:Yb1 MemPlace}(ht:P.underlying t=some (.map k e))(hk:P.underlying k=some (.int .i64))(he:P.underlying e=some .string){l:Yb1 (Int×Str)}(hl:∀p,p∈l->Wz l p.1=p.2)(a9:∀n,(∀p,p∈l->p.1≠n)->Wz l n=[])(h:DataW.trod enc' P w base sp held fuel t cs=some (.map (l.map λp=>(.int .i64 p.1,.lit (.string p.2))),ps)):∃b es a3,cs=[.map (some b)]/\w.heap[b]? = some (.map es a3)/\Bf5 l es.toList:=by
 rcases open_anymap ht h with ⟨_,hx⟩|⟨b,es,g,_,rfl,hb,_,_,_⟩
 ·cases hx
 cases fuel with
 |zero=>simp[DataW.trod]at h
 |succ n=>
  simp only[DataW.trod,ht,hb]at h
  ·split at h
   ·obtain⟨a,hm,u⟩:=Option.bind_eq_some_iff.1 h;split at u
    ·simp[ Zp1]at u;obtain⟨u,_⟩:=u;have c:=sorted_perm (a.map (·.1));rw[u]at c;have hx:∀(x:MapEntry) (y:(Lit×DataW H)×Yb1 MemPlace),((keyOf P k x.key).bind λkey=>if x.val.formed P e=true then(DataW.trod enc' P w base sp held n e x.val.cells.toList).map λy=>((key,y.1),y.2)else none)=some y->∃(m:Int) (s:ByteArray),x.key = .int .i64 m/\x.val = .string s/\s.size<=maxLen/\y.1=(.int .i64 m,.lit (.string s.data.toList)):=by
      intro x y d;obtain⟨key,o,d⟩:=Option.bind_eq_some_iff.1 d;split at d
      ·rename_i v;obtain⟨z,hz,rfl⟩:=Option.map_eq_some_iff.1 d;obtain⟨s,q,rfl,aa⟩:=DataW.trod_string he hz;have hv:x.val = .string s:=by
        cases a4:x.val<;>rw[a4]at q v<;>simp[Value.cells]at q
        ·rw[q]
        ·simp[Value.formed,he]at v
       have ab:∃m,x.key = .int .i64 m/\key = .int .i64 m:=by
        simp[keyOf]at o;cases a5:x.key<;>rw[a5]at o<;>simp[mapKey,hk]at o
        grind
       grind
      ·cases d
     have a2:∀x,x∈es.toList->∃(m:Int) (s:ByteArray),x.key = .int .i64 m/\x.val = .string s/\s.size<=maxLen/\(m,s.data.toList)∈l:=λx f=>by
      obtain⟨i,hi,rfl⟩:=List.getElem_of_mem f;obtain⟨y,d,hf⟩:=Lib.mapM_at hm i _ (Zo1 hi);obtain⟨m,s,r,h2,h3,h4⟩:=hx _ y hf;refine⟨m,s,r,h2,h3,?_⟩;have:y.1∈a.map (·.1):=List.mem_map.2 ⟨y,List.mem_of_getElem? d,rfl⟩
      grind
     have a8:∀p,p∈l->∃x,x∈es.toList/\x.key = .int .i64 p.1:=λp hp=>by
      have r:(Lit.int .i64 p.1,DataW.lit (H:=H) (.string p.2))∈a.map (·.1):=c.subset (List.mem_map.2 ⟨p,hp,rfl⟩);obtain⟨y,d,e⟩:=List.mem_map.1 r;obtain⟨x,f,hf⟩:=mapM_mem hm y d
      grind
     refine⟨b,es,g,rfl,hb,λn=>?_⟩;have a6:MapKept.IsKey (.int .i64) (.int .i64 n):=by simp[MapKept.IsKey]
     rcases MapKept.findNow_spec a6 es.toList 0 (λx f=>by obtain⟨m,s,r,_⟩:=a2 x f;rw[r];simp[MapKept.IsKey])with ⟨r,h2⟩|⟨j,x,r,h2,h3⟩
     ·grind
     ·obtain⟨m,s,g1,g2,g3,g4⟩:=a2 x (List.mem_of_getElem? h2);have a7:m=n:=by grind
      subst a7;have hg:=hl _ g4
      simp_all
    ·cases u
   ·cases h
end
theorem A5v{H:Type}{enc':TypeId×Value->H}{P:Program}{w:World}{base:Nat}{sp:Nat->Bool}{held:Bool}:∀{b:Yb1 TypeId}{vs:Yb1 Value}{ds:Yb1 (DataW H)}{ps:Yb1 MemPlace},DataW.TrodAll enc' P w base sp held b vs ds ps->ds.length=b.length:=by intro b;induction b with|nil=>intro vs ds ps h;cases vs<;>cases ds<;>simp[DataW.TrodAll]at h ⊢|cons t b c=>intro vs ds ps h;obtain⟨v,e,d,f,p,q,rfl,rfl,rfl,hd,a⟩:=trodAll_cons h;simp[c a]
end Go.Ax
namespace Go.Proofs.YtcoaaebppfbbnaaGreatDoor
open Go.Ax Go.ChangeShapes Go.WideShapes Go.ChangeAt Go.RowKit Go.ChangeMaps
theorem own:ownKnob Tryz.prog.godebug=none:=by kernel_rfl
def rdL:Yb1 Nat:=[3,4,9,5,56,109,54,161,112,28,24,22,23,110,43,107,106,59,25,27,30]
theorem B2c:rdB elT (Ako ttL) rdL=true:=by kernel_rfl
theorem B4g:szB Tryz.prog elT (Ako ttL) rdL=true:=by kernel_rfl
theorem Bzm:laidOutB Tryz.prog=true:=by kernel_rfl
def GlE(x:Vx)(g:Nat):Gv->Prop|.arr c xs=>∀i y,xs[i]? = some y->∀w',Chg x.S x.w w'->At w' c y g (i*csz c)|.map l=>∃r es a,(∀w',Chg x.S x.w w'->w'.cell? ⟨g,0,none⟩=some (.map (some r))/\w'.heap[r]? = some (.map es a))/\Bf5 l es.toList|.num k=>∃n,∀w',Chg x.S x.w w'->w'.cell? ⟨g,0,none⟩=some (.int k n)
theorem Dw{α:Type}:∀{L:Yb1 (Nat×α)}{g:Nat}{v : α},tbl L g=some v->(g,v)∈L
 |[],_,_,h=>by simp[tbl]at h
 |(k,u)::L,g,v,h=>by
  simp[tbl]at h;split at h
  ·simp_all
  ·exact Zu1 _ (Dw h)
theorem Byg{x:Vx}{L:Yb1 (Nat×Gv)}(h:∀p,p∈L->GlE x p.1 p.2):GlR x (tbl L):=⟨λ_ _ _ a=>h _ (Dw a),λ_ _ a=>h _ (Dw a),λ_ _ a=>h _ (Dw a)⟩
theorem A6a{P:Program}{w:World}:∀{l:Yb1 (String×DataW Unit)}{ps:Yb1 MemPlace},DataW.LaidVars P w l ps->∀x,x∈l->∃g t cs fuel p,P.globalNamed x.1=some g/\(P.globals[g]?).map (·.type)=some t/\w.var? P x.1=some cs/\DataW.trod (λ_=>()) P w 0 (λ_=>true) false fuel t cs.toList=some (x.2,p)
 |[],_,_,x,a=>by cases a
 |(n,d)::r,ps,h,x,a=>by
  obtain⟨g,t,cs,fuel,p,q,c,e,f,i,b,_⟩:=h;rcases List.mem_cons.1 a with rfl|a
  ·grind
  ·exact A6a b x a
theorem Bz2:∀p,p∈signsL->Wz signsL p.1=p.2:=by decide
theorem By5(l:Yb1 (Int×Str)):∀n,(∀p,p∈l->p.1≠n)->Wz l n=[]:=by
 induction l with
 |nil=>intro n _;rfl
 |cons p l b=>
  intro n h;obtain⟨k,s⟩:=p;have a:k≠n:=h (k,s) (by simp);simp[Wz,Zd1 a]
  grind
variable{W:World}
theorem Bh3{l:Yb1 (String×DataW Unit)}(h:laidMet Tryz.prog l W)(d:("exchequer/ast.signs",Rows.laid_exchequer_ast_signs)∈l):GlE (v0 elT C2 W) 2 (.map signsL):=by
 obtain⟨ps,o,_⟩:=h;obtain⟨r,t',cs,fuel,p,a,f,c,hd⟩:=A6a o _ d;obtain rfl:=Option.some.inj ((show Tryz.prog.globalNamed "exchequer/ast.signs" = some 2 by kernel_rfl).symm.trans a);obtain rfl:=Option.some.inj ((show(Tryz.prog.globals[2]?).map (·.type)=some 292 by kernel_rfl).symm.trans f);obtain⟨b,es,g,s,m,q⟩:=A3l (l:=signsL) (t:=292) (k:=3) (e:=9) (by kernel_rfl) (by kernel_rfl) (by kernel_rfl) Bz2 (By5 signsL) hd;have hc:=World.var?_cell a c 0;have i:cs = #[.map (some b)]:=by grind
 rw[i]at hc;have j:b<W.heap.size:=(Zh2.1 m).1;exact⟨b,es,g,λw' n=>⟨n.cell _ 0 _ hc (λh=>h),by rw[n.block b j (λ_ h=>h)];exact m⟩,q⟩
theorem By8(h:W.ShapedOpen Tryz.prog):GlE (v0 elT C2 W) 0 (.num .i64):=by obtain⟨m,hm⟩:=Go.Proofs.cell_of_shapedOpen_int (zero:= #[.int .i64 0]) (t:=3) (g:=0) h (of_decide_eq_true (by kernel_rfl)) (by kernel_rfl) rfl (by kernel_rfl) (by kernel_rfl) Tryz.underlying3;exact⟨m,λw' a=>a.cell _ 0 _ hm (λh=>h)⟩
def B1i(l:Yb1 (String×DataW Unit)):Prop:=(l.all λx=>x.2.handleName?.isNone)=true
 /\ ("exchequer/ast.signs",Rows.laid_exchequer_ast_signs)∈l
 /\ True
theorem By2{l:Yb1 (String×DataW Unit)}(a:B1i l)(b:laidMetH Tryz.prog l W)(f:W.ShapedOpen Tryz.prog):GlR (v0 elT C2 W) glT:=by
 have e:laidMet Tryz.prog l W:=by
  have h:(l.filter λx=>x.2.handleName?.isSome)=[]:=List.filter_eq_nil_iff.2 λx i=>by have:=Zg2.1 a.1 x i;rw[Option.isNone_iff_eq_none]at this;simp[this]
  unfold laidMetH at b;rw[h]at b;exact b
 replace a:=a.2;clear b;have _:=f;refine Byg λp c=>?_;have d:=Bh3 e a.1;replace a:=a.2;have g:=By8 f;simp only[List.mem_cons,List.not_mem_nil,or_false]at c
 repeat' (first|(rcases c with rfl|c)|subst c)
 all_goals assumption
def B5n:DataW Unit->Value|.lit (.int k n)=>.int k n|.lit (.string s)=>.string ⟨s.toArray⟩|_=>.int .u8 0
def Amo:DataW Unit->Yb1 Value|.agg l=>l.map B5n|_=>[]
def B2y:DataW Unit->Yb1 Value|.agg l=>l.flatMap Amo|_=>[]
def A87(vs:Yb1 Value):Obj->Obj|.cells _ t a=>.cells vs.toArray t a|o=>o
noncomputable def Br5(h:Array Obj):Array Obj:=
 let h:=(h.modify 4 (A87 (Amo Rows.laid_unicode_utf8_first))).modify 5 (A87 (B2y Rows.laid_unicode_utf8_acceptRanges));let h:=(h.modify 2 (A87 [.map (some h.size)])).push (.map ((signsL.zip (List.range 11)).map λp=>(⟨.int .i64 p.1.1,.string ⟨p.1.2.toArray⟩,p.2⟩:MapEntry)).toArray 11)
 h
noncomputable def Ady(os:Os):World:={ World.holding Tryz.prog os ⟨#[], #[],[]⟩with heap:=Br5 (World.holding Tryz.prog os ⟨#[], #[],[]⟩).heap }
set_option maxRecDepth 100000 in
theorem Ba6{H:Type}{R:Nat×Nat}{M:TypeId->DataW H->Prop}(hM:Msr Tryz.prog R M){enc:TypeId×Value->H}{f:FuncId}{fn:Func}{sa:Yb1 Sg}{F:FT sa [.bool]}{s:ChangeSpec}(n:FnOk Tryz.prog elT glT f sa [.bool] F){Z:HV sa->Prop}(hF:∀x,BdL sa x->SmL R sa x->Z x->F x=some true)
  (hr:fn.resultTypes = #[4]) (hv:s.vars=[]) (hf:∀ds,ds.length=fn.params.toList.length->(s.fn H ds).results=[.lit (.bool true)]/\(s.fn H ds).args=ds/\(s.fn H ds).vars=[])
  (o:As5 (Ako ttL) rdL fn.params.toList sa=true) (g:(fn.params.toList.all λt=>Tryz.prog.readableRec t&&Nat.blt t Tryz.prog.types.size)=true)
  {base:Nat}{args:Array Value}{ds gs:Yb1 (DataW H)}{b:Yb1 MemPlace}(k:∀(j:Nat) t v,fn.params[j]? = some t->args[j]? = some v->Value.okWide Tryz.prog W .any base t v)
  (r:DataW.Whole enc Tryz.prog fn.params.toList s.vars false W args.toList ds gs b) (u:GlR (v0 elT C2 W) glT) (w:ds.length=fn.params.toList.length->∀(i:Nat) (t:TypeId) (d:DataW H),fn.params.toList[i]? = some t->ds[i]? = some d->M t d) (hZ:∀x,(∀m,Siz m->szL sa x<=(ds.map m).sum)->Z x) :
  Calls Tryz.prog f args W λe W'=>∃v,e = .returned v/\s.post enc Tryz.prog fn false true false false W args v W':=by
 have y:=r;have z:=r.lt;obtain⟨p,q,hA,hV,rfl,a4,a5⟩:=r;rw[hv]at hV;obtain⟨rfl,rfl⟩:=trodVars_none hV;have c:=A5v hA;obtain⟨x,l,a2,a3⟩:=A43 hM (λt=>Ani Z0 t) B2c B4g 0 o (λj t v h1 h2=>k j t v (by simpa using h1) (by simpa using h2)) hA;have a:=n.calls (hF x (Ab2 l) (a2 (w c)) (hZ x a3)) u l;have e1:args.toList.toArray=args:=by simp
 rw[e1]at a;refine a.mono λen W'=>?_;rintro⟨rfl,hb⟩;refine⟨_,rfl,?_⟩;obtain⟨h1,h2,h3⟩:=hf ds c;have e2:ds++([]:Yb1 (DataW H))=ds:=by simp
 refine⟨ds,[],_,[],p,[],y,?_,?_,?_,hb.frame _,λh=>by cases h⟩
 ·rw[e2,h1,hr];exact trodAll_cons_mk (shut_bool Tryz.underlying4 _) trodAll_mk0
 ·rw[e2,h2];refine Asv Bzm hb (λt ht=>?_) (λx l=>z x (by simp[l])) hA;have:=Zg2.1 g t ht;simp at this;exact⟨this.1,by simpa using this.2⟩
 ·rw[e2,h3,hv];exact rfl
end Go.Proofs.YtcoaaebppfbbnaaGreatDoor
