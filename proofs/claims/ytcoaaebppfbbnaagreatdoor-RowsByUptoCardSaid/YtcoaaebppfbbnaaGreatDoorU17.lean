/- Texts of the proof,one behind the other: Trb,Tc,Td,Te,Tf,Tg,Th. -/
import Derived.Test.YtcoaaebppfbbnaaGreatDoorU16
set_option linter.all false
namespace Go.Proofs.YtcoaaebppfbbnaaGreatDoor
open Go.Ax
def Alc(x:UInt8):Str:=[UInt8.ofNat (x.toNat / 16),UInt8.ofNat (x.toNat % 16)]
def nib(b:Str):Str:=b.flatMap Alc
theorem Ajc:nib []=[]:=rfl
theorem I8(x:UInt8)(b:Str):nib (x::b)=Alc x++nib b:=rfl
theorem Hn:∀b:Str,(nib b).length=2*b.length
 |[]=>rfl
 |x::b=>by rw[I8,Zh1,Hn b];simp[Alc];omega
theorem Ay4{p:UInt8->Prop}(h:∀n:Fin 256,p (UInt8.ofNat n.val))(x:UInt8):p x:=by have:=h ⟨x.toNat,x.toNat_lt⟩;simpa using this
theorem hi4:∀n:Fin 256,UInt8.ofNat ((Ek .u8 ((UInt8.ofNat n.val).toNat:Int) 4):Int).toNat=UInt8.ofNat ((UInt8.ofNat n.val).toNat / 16):=by decide +kernel
theorem lo4:∀n:Fin 256,UInt8.ofNat ((Ht .u8 ((UInt8.ofNat n.val).toNat:Int) 15):Int).toNat=UInt8.ofNat ((UInt8.ofNat n.val).toNat % 16):=by decide +kernel
theorem jo4:∀n:Fin 256,UInt8.ofNat ((ior .u8 (W0 .u8 ((UInt8.ofNat ((UInt8.ofNat n.val).toNat / 16)).toNat:Int) 4) ((UInt8.ofNat ((UInt8.ofNat n.val).toNat % 16)).toNat:Int)):Int).toNat=UInt8.ofNat n.val:=by decide +kernel
theorem B0l(x:UInt8):[UInt8.ofNat ((Ek .u8 (x.toNat:Int) 4):Int).toNat,UInt8.ofNat ((Ht .u8 (x.toNat:Int) 15):Int).toNat]=Alc x:=by rw[Ay4 (p:=λx=>UInt8.ofNat ((Ek .u8 (x.toNat:Int) 4):Int).toNat=UInt8.ofNat (x.toNat / 16)) hi4 x,Ay4 (p:=λx=>UInt8.ofNat ((Ht .u8 (x.toNat:Int) 15):Int).toNat=UInt8.ofNat (x.toNat % 16)) lo4 x];rfl
theorem Afe:∀b:Str,hv (nib b)
 |[]=>Aaa
 |x::b=>by rw[I8,Fs];refine⟨?_,Afe b⟩;have:=x.toNat_lt;simp only[Alc,D2,UInt8.toNat_ofNat'];exact⟨by omega,by omega,Aaa⟩
theorem A68{R:Type}{kx:Ex->Ai2->Ya1 R}{b:Str}(hb:b.length<=100000):∀(k i:Nat) (acc:Str),i<=b.length->b.length-i<k->acc.length<=2*i ->
  Aj (λa=>As2 a kx) k (acc,b,(b.length:Int),(i:Int))=kx (.exit 0) (acc++nib (b.drop i),b,(b.length:Int),(b.length:Int))
 |0,_,_,_,h,_=>by omega
 |k+1,i,acc,hi,hk,ha=>by
  rw[Au];by_cases h:i<b.length
  ·have c1:decide ((i:Int)<(b.length:Int))=true:=Ze1 (by omega);have c2:decide (acc.length+2<=Ah)=true:=Ze1 (by simp only[Ah];omega);have d:=A68 (kx:=kx) hb k (i+1) (acc++Alc b[i]) (by omega) (by omega) (by simp[Alc];omega);simp only[As2,c1,Af,Ao h,chk,Al (c:=.byte) h,c2,Am h (show ln b.length by simp[ln];omega)];rw[B0l,d,List.drop_eq_getElem_cons h,I8,Zj1]
  ·have e:i=b.length:=by omega
   subst e;have c1:decide ((b.length:Int)<(b.length:Int))=false:=Zd1 (by omega);simp only[As2,c1,Ag,Zc2,Ajc,List.append_nil]
theorem B49{b:Str}{k:Nat}(hb:b.length<=100000)(c:b.length<k):Abg k b=some (nib b):=by
 have:=A68 (kx:=λe a=>match a with|(v4,_,_,_)=>match e with
  |.exit 0=>some v4
  |_=>none) hb k 0 [] (by omega) (by omega) (by simp)
 simp only[Abg];exact this
theorem A0t{b:Str}(hb:b.length<=1900):nof b=some (nib b):=B49 (by omega) (by omega)
theorem Au6{R:Type}{kx:Ex->Adn->Ya1 R}{b:Str}(hb:b.length<=100000)(h:hv b):∀(k i:Nat),i<=b.length->b.length-i<k ->
  Aj (λd=>Ad9 d kx) k (false,b,(b.length:Int),(i:Int))=kx (.exit 0) (false,b,(b.length:Int),(b.length:Int))
 |0,_,_,h=>by omega
 |k+1,i,hi,hk=>by
  rw[Au];by_cases a:i<b.length
  ·have c1:decide ((i:Int)<(b.length:Int))=true:=Ze1 (by omega);have:=h b[i] (List.getElem_mem a);have c2:decide (15<((b[i]).toNat:Int))=false:=Zd1 (by omega);simp only[Ad9,c1,Af,Ao a,chk,Al (c:=.byte) a,c2,Ag,Am a (show ln b.length by simp[ln];omega)];exact Au6 hb h k (i+1) (by omega) (by omega)
  ·have e:i=b.length:=by omega
   subst e;have c1:decide ((b.length:Int)<(b.length:Int))=false:=Zd1 (by omega);simp only[Ad9,c1,Ag]
theorem B36{b:Str}{k:Nat}(hb:b.length<=100000)(h:hv b)(c:b.length<k):Wl k b=some true:=by
 have:=Au6 (kx:=λe a=>match a with|(v4,_,_,_)=>match e with
  |.ret=>some v4
  |.exit 0=>some true
  |_=>none) hb h k 0 (by omega) (by omega)
 simp only[Wl];exact this
theorem Bw4{b:Str}(hb:b.length<=1900)(h:hv b):B23 b=some true:=B36 (by omega) h (by omega)
theorem Bdj:∀{b:Str}{i:Nat}(h:i<b.length) (a : 2*i<(nib b).length) (c : 2*i+1<(nib b).length),(nib b)[2*i]=UInt8.ofNat (b[i].toNat / 16)/\(nib b)[2*i+1]=UInt8.ofNat (b[i].toNat % 16)
 |x::b,0,_,_,_=>⟨rfl,rfl⟩
 |x::b,i+1,h,a,c=>by have d:=Bdj (b:=b) (i:=i) (by simpa using h) (by rw[Hn]at *;simp at h;omega) (by rw[Hn]at *;simp at h;omega);simpa[I8,Alc,show 2*(i+1)=2*i+1+1 by omega]using d
theorem Aow{R:Type}{kx:Ex->Wq->Ya1 R}{b:Str}(hb:b.length<=100000):∀(k i:Nat) (acc:Str),i<=b.length->b.length-i<k->acc.length<=i ->
  Aj (λa=>Wi a kx) k (nib b,acc,((2*i+1:Nat):Int))=kx (.exit 0) (nib b,acc++b.drop i,((2*b.length+1:Nat):Int))
 |0,_,_,_,h,_=>by omega
 |k+1,i,acc,hi,hk,ha=>by
  rw[Au];have j:=Hn b;by_cases h:i<b.length
  ·have c1:decide (((2*i+1:Nat):Int)<((nib b).length:Int))=true:=Ze1 (by omega);have c2:decide (acc.length+1<=Ah)=true:=Ze1 (by simp only[Ah];omega);have c3:wr .i64 (((2*i+1:Nat):Int)-1)=((2*i:Nat):Int):=by rw[Be (by simp only[inI];omega)];omega
   have c4:wr .i64 (((2*i+1:Nat):Int)+2)=((2*(i+1)+1:Nat):Int):=by rw[Be (by simp only[inI];omega)];omega
   have g:=Bdj h (by omega) (by omega);have d:=Aow (kx:=kx) hb k (i+1) (acc++[b[i]]) (by omega) (by omega) (by simp;omega);simp only[Wi,c1,Af,c3,Ao (show 2*i<(nib b).length by omega),Ao (show 2*i+1<(nib b).length by omega),chk,Al (c:=.byte) (show 2*i<(nib b).length by omega),Al (c:=.byte) (show 2*i+1<(nib b).length by omega),c2,c4,g.1,g.2];have f:=Ay4 (p:=λx=>UInt8.ofNat ((ior .u8 (W0 .u8 ((UInt8.ofNat (x.toNat / 16)).toNat:Int) 4) ((UInt8.ofNat (x.toNat % 16)).toNat:Int)):Int).toNat=x) jo4 b[i];rw[f,d,Zj1,List.drop_eq_getElem_cons h];rfl
  ·have e:i=b.length:=by omega
   subst e;have c1:decide (((2*b.length+1:Nat):Int)<((nib b).length:Int))=false:=Zd1 (by omega);simp only[Wi,c1,Ag,Zc2,List.append_nil]
theorem Biy{b:Str}(hb:b.length<=900):Afd (nib b)=some (b,0):=by
 have a:=Hn b;have c:Beq (nib b)=some b:=by
  have:=Aow (kx:=λe d=>match d with|(_,v4,_)=>match e with
   |.exit 0=>some v4
   |_=>none) (b:=b) (by omega) 2000 0 [] (by omega) (by omega) (by simp)
  simp only[Beq,Z7];exact this
 have c1:decide (Int.tmod ((nib b).length:Int) 2=1)=false:=Zd1 (by rw[a,Int.tmod_eq_emod_of_nonneg (by omega)];omega);simp only[Afd,Su,Bw4 (show(nib b).length<=1900 by omega) (Afe b),c,Zc1,Zt1,Ag,c1]
def com(a b:Str):Nat:=(Cq a b).1.length
theorem Bpv(x y:UInt8)(a b:Str):com (x::a) (y::b)=if x=y then com a b+1 else 0:=by simp only[com,Cq];split<;>simp
theorem B3w(a b:Str):com a b<=a.length/\com a b<=b.length:=by have h:=Ga a b;have c:=congrArg List.length h.1;have d:=congrArg List.length h.2;simp only[Zh1]at c d;unfold com;omega
theorem Atq{R:Type}{kx:Ex->Aa8->Ya1 R}{a b:Str}(l:a.length<=100000)(hb:b.length<=100000){m:Nat}(hm:m=min a.length b.length):∀(k i:Nat) (z:Int),i<=m->m-i<k ->
  ((i+com (a.drop i) (b.drop i)<m->Aj (λd=>Z6 d kx) k (a,b,z,(m:Int),(i:Int))=kx .ret (a,b,((i+com (a.drop i) (b.drop i):Nat):Int),(m:Int),((i+com (a.drop i) (b.drop i):Nat):Int))) /\
  (i+com (a.drop i) (b.drop i)=m->Aj (λd=>Z6 d kx) k (a,b,z,(m:Int),(i:Int))=kx (.exit 0) (a,b,z,(m:Int),(m:Int))))
 |0,_,_,_,h=>by omega
 |k+1,i,z,hi,hk=>by
  rw[Au];by_cases h:i<m
  ·have f:i<a.length:=by omega
   have g:i<b.length:=by omega
   have c1:decide ((i:Int)<(m:Int))=true:=Ze1 (by omega);have j:=Atq (kx:=kx) l hb hm k (i+1) z (by omega) (by omega);have n:ln m:=by simp[ln];omega
   simp only[Z6,c1,Af,Ao f,Ao g,chk,Al (c:=.byte) f,Al (c:=.byte) g,Am h n,List.drop_eq_getElem_cons f,List.drop_eq_getElem_cons g,Bpv];by_cases e:a[i]=b[i]
   ·simp only[e,if_true,decide_true,Zt1,Ag];simp only[show i+1+com (a.drop (i+1)) (b.drop (i+1))=i+(com (a.drop (i+1)) (b.drop (i+1))+1) by omega]at j;exact j
   ·have e2:¬(((a[i]).toNat:Int)=((b[i]).toNat:Int)):=λh=>e (UInt8.toNat_inj.1 (by omega));simp only[e,if_false,e2,decide_false,Zs1,Af,Nat.add_zero];exact⟨λ_=>by trivial,λh=>by omega⟩
  ·have e:i=m:=by omega
   subst e;have c1:decide ((i:Int)<(i:Int))=false:=Zd1 (by omega);simp only[Z6,c1,Ag];exact⟨λh=>by omega,λ_=>by trivial⟩
theorem A2l(a b:Nat):min2 (a:Int) (b:Int)=((min a b:Nat):Int):=by unfold min2;split<;>omega
variable{a:Str}
theorem B3f{b:Str}{k:Nat}(d:a.length<=1900)(hb:b.length<=1900)(f : 1900<k):Wb k (a,b)=some (com a b:Int):=by
 have hc:=B3w a b;have:=Atq (kx:=λe c=>match c with|(v5,v6,v7,_,_)=>match e with
  |.ret=>some v7
  |.exit 0=>some (min2 (v5.length:Int) (v6.length:Int))
  |_=>none) (a:=a) (b:=b) (by omega) (by omega) rfl k 0 0 (by omega) (by omega)
 rw[Zq1,Zq1,Nat.zero_add]at this;unfold Wb;simp only;rw[A2l a.length b.length];rcases Nat.lt_or_ge (com a b) (min a.length b.length)with h|h
 ·exact this.1 h
 ·have e:com a b=min a.length b.length:=by omega
  refine(this.2 e).trans ?_;simp only[A2l,e]
theorem A0f{b:Str}(c:a.length<=1900)(hb:b.length<=1900):Bzy a b=some (com a b:Int):=B3f c hb (by omega)
def Ain(a b:Str):Int:=if a<b then -1 else if a=b then 0 else 1
theorem B4s(s:Str){b:Str}:s++a<s++b↔a<b:=by induction s with|nil=>rfl|cons x s c=>simp[List.cons_lt_cons_iff,c]
theorem Adq{b:Str}(l:a.length<=1900)(hb:b.length<=1900):A9u a b=some (Ain a b):=by
 have i:=Ga a b;have j:=@G6 a b;have hc:com a b=(Cq a b).1.length:=rfl;simp only[A9u,Adx,A0f l hb,Zc1,hc];generalize Cq a b=z at i j;obtain⟨s,a',b'⟩:=z;simp only at i j;obtain⟨rfl,rfl⟩:=i;simp only[Zh1,Ain,B4s,Aav];cases a' with
 |nil=>cases b' with|nil=>simp|cons y b'=>have c1:decide ((s.length:Int)=((s.length+([]:Str).length:Nat):Int))=true:=Ze1 (by simp);have c2:decide ((s.length:Int)=((s.length+(y::b').length:Nat):Int))=false:=Zd1 (by simp only[Zf1];omega);simp only[c1,c2,Ag,Af];simp
 |cons x a'=>
  have c1:decide ((s.length:Int)=((s.length+(x::a').length:Nat):Int))=false:=Zd1 (by simp;omega);cases b' with
  |nil=>have c2:decide ((s.length:Int)<((s.length+([]:Str).length:Nat):Int))=false:=Zd1 (by simp);simp only[c1,c2,Ag];simp
  |cons y b'=>
   have f:=j (x:=x) (y:=y) rfl rfl;have c2:decide ((s.length:Int)<((s.length+(y::b').length:Nat):Int))=true:=Ze1 (by simp;omega);have i1:s.length<(s++x::a').length:=by simp
   have k:s.length<(s++y::b').length:=by simp
   have g:(s.length+(x::a').length)=(s++x::a').length:=by simp
   have d:(s.length+(y::b').length)=(s++y::b').length:=by simp
   simp only[c1,c2,Ag,Af];rw[g,d];simp only[Ao i1,Ao k,chk,Af,Al (c:=.byte) i1,Al (c:=.byte) k];rw[List.getElem_append_right (by omega),List.getElem_append_right (by omega)];simp only[Nat.sub_self,List.getElem_cons_zero,List.cons_lt_cons_iff];have m:x::a'≠y::b':=λe=>f (List.cons.inj e).1;by_cases e:x<y
   ·have:=UInt8.lt_iff_toNat_lt.1 e;simp[e,show((x.toNat:Int)<(y.toNat:Int)) by omega]
   ·have n:¬x.toNat<y.toNat:=λh=>e (UInt8.lt_iff_toNat_lt.2 h);simp[e,f,show ¬((x.toNat:Int)<(y.toNat:Int)) by omega]
theorem A0c(b a:Str):Bja b a=some (A7 a b).isSome:=by
 simp only[Bja,Adu];cases h:A7 a b with
 |some r=>
  have:=Bm.1 h;subst this;have c1:decide ((a.length:Int)<=((a++r).length:Int))=true:=Ze1 (by simp only[Zh1];omega);have c2:upto 0 (a.length:Int) (a++r).length=true:=by simp only[upto,Zh1,Zb1,Zg1];omega
  simp only[c1,c2,Af,chk,beq];simp
 |none=>
  cases c:decide ((a.length:Int)<=(b.length:Int))with
  |false=>rfl
  |true=>
   have c0:=of_decide_eq_true c;have c2:upto 0 (a.length:Int) b.length=true:=by simp[upto];omega
   simp only[c2,Af,chk,beq];have:¬b.take ((a.length:Int):Int).toNat=a:=λe=>by
    have:b=a++b.drop a.length:=by have d:=List.take_append_drop a.length b;simp at e;rw[e]at d;exact d.symm
    rw[Bm.2 this]at h;cases h
   simp only[this,decide_false];rfl
theorem Pv(a:Int)(b:Str)(c:Bool)(d:Str)(e:Yb1 NodeS)(g:Str):(NodeS.mk a b c d e g).kind=a:=rfl
theorem Aiv(a:Int)(b:Str)(c:Bool)(d:Str)(e:Yb1 NodeS)(g:Str):(NodeS.mk a b c d e g).path=b:=rfl
theorem A4u(a:Int)(b:Str)(c:Bool)(d:Str)(e:Yb1 NodeS)(g:Str):(NodeS.mk a b c d e g).has=c:=rfl
theorem A32(a:Int)(b:Str)(c:Bool)(d:Str)(e:Yb1 NodeS)(g:Str):(NodeS.mk a b c d e g).val=d:=rfl
theorem Jc(a:Int)(b:Str)(c:Bool)(d:Str)(e:Yb1 NodeS)(g:Str):(NodeS.mk a b c d e g).kids=e:=rfl
theorem B2f(a:Int)(b:Str)(c:Bool)(d:Str)(e:Yb1 NodeS)(g:Str):(NodeS.mk a b c d e g).hash=g:=rfl
def T.node:T->NodeS|.no=>NodeS.mk 0 [] false [] [] []|.lf p v=>NodeS.mk 1 p false v [] []|.way p k=>NodeS.mk 2 p false [] [k.node] []|.br o k=>NodeS.mk 3 [] o.isSome (o.getD []) ((List.range 16).map λi=>(k i).node) []
def A9(k:Nat->T):Yb1 NodeS:=(List.range 16).map λi=>(k i).node
theorem C3(k:Nat->T):(A9 k).length=16:=by simp[A9]
variable{i:Nat}
theorem Mr{k:Nat->T}(h:i<(A9 k).length):(A9 k)[i]=(k i).node:=by simp[A9]
theorem Pk(o:Ya1 Str)(k:Nat->T):(T.br o k).node=NodeS.mk 3 [] o.isSome (o.getD []) (A9 k) []:=rfl
variable{t:T}
theorem Nt{k:Nat->T}:(A9 k).set i t.node=A9 (upd k i t):=by
 refine List.ext_getElem (by simp[A9]) λj a b=>?_;rw[Mr,List.getElem_set];split
 ·rename_i e;subst e;rw[Iq]
 ·rename_i e;rw[Mi (Ne.symm e),Mr]
theorem Q4:List.replicate (16:Int).toNat (zer .node)=A9 nos:=rfl
theorem Bw1(t:T):decide (t.node.kind=0)=t.isNo:=by cases t<;>rfl
theorem Axv{d:Nat}(h:t.Wf d):hv t.node.path/\t.node.path.length<=400:=by cases t with|no=>exact⟨Aaa,by simp[T.node,NodeS.path]⟩|lf p v=>exact⟨h.1,by have:=h.2.1;simp only[T.node,NodeS.path];omega⟩|way p k=>exact⟨h.1,by have:=Wf.le h.2.2.2;simp only[T.node,NodeS.path];omega⟩|br o k=>exact⟨Aaa,by simp[T.node,NodeS.path]⟩
theorem Ayo{d:Nat}(h:t.Wf d):t.node.val.length<=4000:=by
 cases t with
 |no=>simp[T.node,NodeS.val]
 |lf p v=>exact h.2.2.2
 |way p k=>simp[T.node,NodeS.val]
 |br o k=>cases o with|none=>simp[T.node,NodeS.val]|some v=>exact(h.2.1 v rfl).2
theorem Apc{R:Type}{kx:Ex->Wv->Ya1 R}{b:Str}(hb:b.length<=100000)(h:hv b):∀(k i:Nat) (z:Int),i<=b.length->b.length-i<k ->
  Aj (λd=>Vg d kx) k (b,z,(b.length:Int),(i:Int))=kx (.exit 0) (b,z,(b.length:Int),(b.length:Int))
 |0,_,_,_,h=>by omega
 |k+1,i,z,hi,hk=>by
  rw[Au];by_cases a:i<b.length
  ·have c1:decide ((i:Int)<(b.length:Int))=true:=Ze1 (by omega);have:=h b[i] (List.getElem_mem a);have c2:decide (15<((b[i]).toNat:Int))=false:=Zd1 (by omega);simp only[Vg,c1,Af,Ao a,chk,Al (c:=.byte) a,c2,Ag,Am a (show ln b.length by simp[ln];omega)];exact Apc hb h k (i+1) z (by omega) (by omega)
  ·have e:i=b.length:=by omega
   subst e;have c1:decide ((b.length:Int)<(b.length:Int))=false:=Zd1 (by omega);simp only[Vg,c1,Ag]
theorem Bq2{b:Str}(hb:b.length<=1900)(h:hv b):Bdp b=some true:=by
 have:=Apc (kx:=λe a=>match a with|(_,v5,_,_)=>match e with
  |.ret=>some (!(decide (0<=v5)))
  |.exit 0=>some true
  |_=>none) (by omega) h 2000 0 0 (by omega) (by omega)
 simp only[Bdp,Xo];exact this
theorem Avu{d:Nat}(h:d<=400)(a:d % 2=0):Yi (d:Int) true=true:=by have c1:decide ((d:Int)<=400)=true:=Ze1 (by omega);have c2:decide (Int.tmod (d:Int) 2=0)=true:=Ze1 (by rw[Int.tmod_eq_emod_of_nonneg (by omega)];omega);simp only[Yi,c1,c2,Af,Zt1,Ag]
def cnt(k:Nat->T)(i:Nat):Nat:=((List.range 16).drop i).countP λi=> !(k i).isNo
theorem B1j{k:Nat->T}(h:i<16):cnt k i=(if(k i).isNo then 0 else 1)+cnt k (i+1):=by unfold cnt;rw[List.drop_eq_getElem_cons (show i<(List.range 16).length by simpa using h),List.countP_cons];simp only[List.getElem_range];cases (k i).isNo<;>simp<;>omega
theorem B1c(k:Nat->T):cnt k 16=0:=by unfold cnt;rw[show(List.range 16).drop 16=[] from rfl];rfl
theorem O8{R:Type}{rf:FT [.sv .node,Yc1,.bool] [.bool]}{kx:Ex->Lk->Ya1 R}{k:Nat->T}{d:Nat}(hd:d<=1000)(a:∀i,i<16->rf ((k i).node,((d+1:Nat):Int),true)=some true):∀(m i c:Nat),i<=16->16-i<m->c<=1000+i ->
  Aj (λb=>J6 rf b kx) m ((d:Int),true,(c:Int),true,A9 k,((A9 k).length:Int),(i:Int))=kx (.exit 0) ((d:Int),true,((c+cnt k i:Nat):Int),true,A9 k,((A9 k).length:Int),((A9 k).length:Int))
 |0,_,_,_,h,_=>by omega
 |m+1,i,c,hi,hm,hc=>by
  rw[Au];have f:=C3 k;by_cases h:i<16
  ·have c1:decide ((i:Int)<((A9 k).length:Int))=true:=Ze1 (by omega);have g:i<(A9 k).length:=by omega
   have w1:wr .i64 ((d:Int)+1)=((d+1:Nat):Int):=by rw[Be (by simp only[inI];omega)];omega
   have w2:wr .i64 ((c:Int)+1)=((c+1:Nat):Int):=by rw[Be (by simp only[inI];omega)];omega
   have w3:wr .i64 ((i:Int)+1)=((i+1:Nat):Int):=by rw[Be (by simp only[inI];omega)];omega
   simp only[J6,c1,Af,Ao g,chk,Al (c:=.node) g,Mr,w1,w2,w3,a i h,Zc1,Zt1,Ag,Bw1];cases j:(k i).isNo with|true=>simp only[Zt1,Ag];rw[O8 hd a m (i+1) c (by omega) (by omega) (by omega),B1j h,j];simp|false=>simp only[Zs1,Af];rw[O8 hd a m (i+1) (c+1) (by omega) (by omega) (by omega),B1j h,j];simp[Nat.add_assoc]
  ·have e:i=16:=by omega
   subst e;have c1:decide (((16:Nat):Int)<((A9 k).length:Int))=false:=Zd1 (by omega);simp only[J6,c1,Ag,B1c,Nat.add_zero];rw[f]
theorem Aed:∀(f:Nat) (t:T) (d:Nat),t.Wf d->401<=f+d->Aj (F8 100) f (t.node,(d:Int),true)=some true
 |0,t,d,h,hf=>by have:=Wf.le h;omega
 |f+1,t,d,h,hf=>by
  rw[Au];have hle:=Wf.le h;have m:=Axv h;have n:=Ayo h;have c1:decide (400<(d:Int))=false:=Zd1 (by omega);have c2:decide (4000<(t.node.val.length:Int))=false:=Zd1 (by omega);have c3:=Bq2 (b:=t.node.path) (by omega) m.1;simp only[F8,c1,c2,c3,Ag,Zc1,Zt1];cases t with
  |no=>rfl
  |lf p v=>
   have w:wr .i64 ((d:Int)+(p.length:Int))=((d+p.length:Nat):Int):=by have:=h.2.1;rw[Be (by simp only[inI];omega)];omega
   simp only[T.node,Pv,Aiv,w,Avu h.2.1 h.2.2.1];rfl
  |way p k=>
   have h4:=Wf.le h.2.2.2;have w:wr .i64 ((d:Int)+(p.length:Int))=((d+p.length:Nat):Int):=by rw[Be (by simp only[inI];omega)];omega
   have q : 0<p.length:=List.length_pos_iff.2 h.2.1;have c4:¬((p.length:Int)=0):=by omega
   have r:=Aed f k (d+p.length) h.2.2.2 (by omega);have s:decide (k.node.kind=3)=true:=by cases k with|br o k=>rfl|_=>cases h.2.2.1
   have j:at' .node [k.node] 0=k.node:=rfl;have u:inb 0 [k.node].length=true:=rfl;have x:Mc (NodeS.mk 2 p false [] [k.node] []) true false true false=some true:=rfl;simp only[T.node,Pv,Aiv,Jc,w,c4,j,u,x,chk,s,r,Zc1,show ¬((2:Int)=0) by omega,show ¬((2:Int)=1) by omega,show ¬((2:Int)=4) by omega,decide_false,decide_true,Ag,Af,Zt1];rfl
  |br o k=>
   have h1:=h.1;have g:=λc hc=>O8 (rf:=Aj (F8 100) f) (kx:=λe y=>match y with|(_,_,v9,a,_,_,_)=>match e with
         |.exit 0=>
         cond (a) (
          some (decide (2<=v9))) (
          some false)
         |_=>none) (k:=k) (d:=d) (by omega) (λi hi=>Aed f (k i) (d+1) (h.2.2.2 i hi) (by omega)) 100 0 c (by omega) (by omega) hc
   have hm:=h.2.2.1;have c4:decide ((((A9 k).length:Nat):Int)=16)=true:=Ze1 (by rw[C3];rfl);have l:cnt k 0=(List.range 16).countP λi=> !(k i).isNo:=rfl;cases o with
   |none=>have j:Mc (NodeS.mk 3 [] false [] (A9 k) []) false false true false=some true:=rfl;have g:=g 0 (by omega);simp only[Pk,Pv,A4u,Jc,Option.isSome_none,Option.getD_none,j,c4,Zc1,Zt1,Zs1,Af,Ag,decide_false,show ¬((3:Int)=0) by omega,show ¬((3:Int)=1) by omega,show ¬((3:Int)=4) by omega,show ¬((3:Int)=2) by omega,decide_true];refine g.trans ?_;have:decide ((2:Int)<=((0+cnt k 0:Nat):Int))=true:=Ze1 (by rw[l];unfold Arw at hm;simp only[Option.isSome_none]at hm;simp at hm ⊢;omega);simp only[Af,this]
   |some v=>
    have j:Mc (NodeS.mk 3 [] true v (A9 k) []) false true true false=some true:=by have:decide ((3:Int)=3)=true:=rfl;simp[Mc,Q7,Aiv,Jc,B2f,A4u,Pv]
    have g:=g 1 (by omega);have z:=h.2.1 v rfl;simp only[Pk,Pv,A4u,Jc,Option.isSome_some,Option.getD_some,j,c4,Zc1,Zt1,Zs1,Af,Ag,decide_false,show ¬((3:Int)=0) by omega,show ¬((3:Int)=1) by omega,show ¬((3:Int)=4) by omega,show ¬((3:Int)=2) by omega,decide_true,Avu hle z.1];refine g.trans ?_;have:decide ((2:Int)<=((1+cnt k 0:Nat):Int))=true:=Ze1 (by rw[l];unfold Arw at hm;simp only[Option.isSome_some,if_true]at hm;omega);simp only[Af,this]
theorem Y1(h:t.Wf 0):O4 t.node=some 0:=by have:=Aed 500 t 0 h (by omega);simp only[O4,O2,A0a,show Aj (F8 100) 500 (t.node,0,true)=some true from this,Zc1];rfl
theorem D4{s:Str}(h:s.length<=2000000):C5 s=some s:=by simp only[C5,Ze1 h,Af]
theorem Ui{s:Str}(h:s.length<=2000000):Ot s=some s:=by simp only[Ot,Ze1 h,Af]
theorem Agz{R:Type}{rf:FT [.sv .node] [.sv .node]}{kx:Ex->O0->Ya1 R}{l:Yb1 NodeS}(d:l.length<=50)(a:∀x,x∈l->rf x=some x){w:Int}{w1:Str}{w2:Bool}{w3:Str}{w4:Yb1 NodeS}{w5:Str}{w6:Int}{w7:Str}{w8:Bool}{w9 w11:Str}:∀(m i:Nat) (acc:Yb1 NodeS),i<=l.length->l.length-i<m->acc.length<=i ->
  Aj (λb=>Nh rf b kx) m (l,(l.length:Int),(i:Int),w,w1,w2,w3,w4,w5,w6,w7,w8,w9,acc,w11)=kx (.exit 0) (l,(l.length:Int),(l.length:Int),w,w1,w2,w3,w4,w5,w6,w7,w8,w9,acc++l.drop i,w11)
 |0,_,_,_,h,_=>by omega
 |m+1,i,acc,hi,hm,ha=>by
  rw[Au];by_cases h:i<l.length
  ·have c1:decide ((i:Int)<(l.length:Int))=true:=Ze1 (by omega);have c2:decide (acc.length+1<=Ah)=true:=Ze1 (by simp only[Ah];omega);simp only[Nh,c1,Af,Ao h,chk,Al (c:=.node) h,a _ (List.getElem_mem h),Zc1,c2,Am h (show ln l.length by simp[ln];omega)];rw[Agz d a m (i+1) (acc++[l[i]]) (by omega) (by omega) (by simp;omega),List.drop_eq_getElem_cons h,Zj1];rfl
  ·have e:i=l.length:=by omega
   subst e;have c1:decide ((l.length:Int)<(l.length:Int))=false:=Zd1 (by omega);simp only[Nh,c1,Ag,Zc2,List.append_nil]
theorem Ak8:∀(f:Nat) (t:T) (d:Nat),t.Wf d->401<=f+d->Aj (Hb 100) f t.node=some t.node
 |0,t,d,h,hf=>by have:=Wf.le h;omega
 |f+1,t,d,h,hf=>by
  rw[Au];have hp:=Axv h;have z:=Ayo h;have u:t.node.hash=[]:=by cases t<;>rfl
  have y:t.node.kids.length<=50/\∀x,x∈t.node.kids->Aj (Hb 100) f x=some x:=by
   cases t with
   |no=>exact⟨by simp[T.node,Jc],λx s=>by cases s⟩
   |lf p v=>exact⟨by simp[T.node,Jc],λx s=>by cases s⟩
   |way p k=>
    have a2 : 0<p.length:=List.length_pos_iff.2 h.2.1;refine⟨by simp[T.node,Jc],λx s=>?_⟩;have:x=k.node:=by simpa[T.node,NodeS.kids]using s
    rw[this];exact Ak8 f k _ h.2.2.2 (by omega)
   |br o k=>refine⟨by simp[T.node,Jc],λx s=>?_⟩;obtain⟨i,hi,rfl⟩:=List.mem_map.1 (show x∈(List.range 16).map λi=>(k i).node from s);exact Ak8 f (k i) _ (h.2.2.2 i (List.mem_range.1 hi)) (by omega)
  have hl:=Agz (rf:=Aj (Hb 100) f) (kx:=λe vz=>match vz with|(_,_,_,_,_,_,_,_,_,j,l,m,n,q,r)=>match e with
   |.exit 0=>some (NodeS.mk j l m n q r)
   |_=>none) y.1 y.2 (w:=0) (w1:=[]) (w2:=false) (w3:=[]) (w4:=[]) (w5:=[]) (w6:=t.node.kind) (w7:=t.node.path) (w8:=t.node.has) (w9:=t.node.val) (w11:=[]) 100 0 [] (by omega) (by omega) (by simp)
  simp only[Hb,D4 (show t.node.path.length<=2000000 by omega),D4 (show t.node.val.length<=2000000 by omega),u,D4 (show([]:Str).length<=2000000 by simp),Zc1];refine hl.trans ?_;simp only[Zq1,Zf2];cases h4:t.node with|mk a b c d e g=>rw[h4]at u;simp only[B2f]at u;subst u;rfl
theorem Ash(h:t.Wf 0):Amt t.node=some t.node:=Ak8 500 t 0 h (by omega)
theorem Acw{b:Str}(m:a.length<=500000)(hb:b.length<=500000):A0l [a,b]=some (a++b):=by
 have f:decide ((0:Int)<(([a,b].length:Nat):Int))=true:=rfl;have d2:decide ((1:Int)<(([a,b].length:Nat):Int))=true:=rfl;have g:decide ((2:Int)<(([a,b].length:Nat):Int))=false:=rfl;have w1:wr .i64 (0+1)=1:=by decide
 have w2:wr .i64 (1+1)=2:=by decide
 have a0:at' .bytes [a,b] 0=a:=rfl;have a1:at' .bytes [a,b] 1=b:=rfl;have i0:inb 0 [a,b].length=true:=rfl;have i1:inb 1 [a,b].length=true:=rfl;have h:wr .i64 (0+(a.length:Int))=(a.length:Int):=by rw[Be (by simp only[inI];omega)];omega
 have i:wr .i64 ((a.length:Int)+(b.length:Int))=((a.length+b.length:Nat):Int):=by rw[Be (by simp only[inI];omega)];omega
 have p1:decide ((a.length:Int)<0)=false:=Zd1 (by omega);have p2:decide (((a.length+b.length:Nat):Int)<0)=false:=Zd1 (by omega);have q1:decide ((0:Int)<=((a.length+b.length:Nat):Int))=true:=Ze1 (by omega);have j:decide (((a.length+b.length:Nat):Int)<=2000000)=true:=Ze1 (by omega);have k:decide (([]:Str).length+a.length<=Ah)=true:=Ze1 (by simp only[Ah,Zi1];omega);have l:decide (([]++a:Str).length+b.length<=Ah)=true:=Ze1 (by simp only[Ah,Zf2];omega);have d:∀{R:Type}(kx:Ex->Adc->Ya1 R),Aj (λc=>Yf c kx) 100 ([a,b],0,[a,b],(([a,b].length:Nat):Int),0)=kx (.exit 0) ([a,b],((a.length+b.length:Nat):Int),[a,b],(([a,b].length:Nat):Int),2):=λkx=>by rw[show(100:Nat)=97+1+1+1 from rfl,Au];simp only[Yf,f,Af,i0,chk,a0,h,p1,Ag,w1];rw[Au];simp only[Yf,d2,Af,i1,chk,a1,i,p2,Ag,w2];rw[Au];simp only[Yf,g,Ag]
 have e:∀{R:Type}(kx:Ex->Acm->Ya1 R),Aj (λc=>Yg c kx) 100 ([],[a,b],(([a,b].length:Nat):Int),0)=kx (.exit 2) ([]++a++b,[a,b],(([a,b].length:Nat):Int),2):=λkx=>by rw[show(100:Nat)=97+1+1+1 from rfl,Au];simp only[Yg,f,Af,i0,chk,a0,k,w1];rw[Au];simp only[Yg,d2,Af,i1,chk,a1,l,w2];rw[Au];simp only[Yg,g,Ag]
 simp only[A0l,Aey];rw[d];simp only[q1,j,Bool.and_true,chk,Af];rw[e];simp
theorem Bbq:∀(f:Nat) (t:T) (d:Nat) (p w:Str),t.Wf d->hv p->w.length=d->d+p.length<=400->401<=f+d->∃u,Aj Ff f (t.node,p,w)=some (u,(t.look p).isSome,())/\∀v,t.look p=some v->u=v
 |0,t,d,p,w,h,_,_,_,hf=>by have:=Wf.le h;omega
 |f+1,t,d,p,w,h,hp,hw,hd,hf=>by
  rw[Au];cases t with
  |no=>exact⟨[],rfl,λv e=>by cases e⟩
  |lf q v=>
   have hb:C5 v=some v:=D4 (by have:=h.2.2.2;omega);refine⟨v,?_,λu e=>?_⟩
   ·simp only[Ff,T.node,Pv,Aiv,A32,hb,Zc1,beq,T.look,show ¬((1:Int)=4) by omega,decide_false,decide_true,Ag,Af];by_cases e:q=p<;>simp[e]
   ·simp only[T.look]at e;split at e
    ·cases e;rfl
    ·cases e
  |way q k=>
   have h4:=Wf.le h.2.2.2;have l : 0<q.length:=List.length_pos_iff.2 h.2.1;have m:Ff (Aj Ff f) (T.node (.way q k),p,w)=cond (!(A7 p q).isSome&&false || !(A7 q p).isSome) (some ([],false,())) (chk (upto (q.length:Int) p.length p.length) ((A0l [w,q]).bind λn=>(Aj Ff f (k.node,p.drop ((q.length:Int):Int).toNat,n)).bind λz=>some (z.1,z.2.1,()))):=by simp only[Ff,T.node,Pv,Aiv,Jc,A0c,Zc1,show ¬((2:Int)=4) by omega,show ¬((2:Int)=1) by omega,decide_false,decide_true,Ag,Af,Bool.and_false,Bool.false_or];rfl
   rw[m];simp only[T.look,Bool.and_false,Bool.false_or];cases s:A7 q p with
   |none=>exact⟨[],rfl,λv e=>by cases e⟩
   |some r=>
    have e:=Bm.1 s;subst e;have a:=Fs.1 hp;simp only[Zh1]at hd;have c1:upto (q.length:Int) ((q++r).length:Int) (q++r).length=true:=by simp only[upto,Zh1,Zb1,Zg1];omega
    obtain⟨u,b,g⟩:=Bbq f k (d+q.length) r (w++q) h.2.2.2 a.2 (by simp;omega) (by omega) (by omega);refine⟨u,?_,g⟩;have e2:(q++r).drop ((q.length:Int):Int).toNat=r:=by simp
    simp only[Option.isSome_some,Zt1,Ag,c1,chk,Af,Acw (show w.length<=500000 by omega) (show q.length<=500000 by omega),Zc1,e2,b]
  |br o k=>
   cases p with
   |nil=>have hb:C5 (o.getD [])=some (o.getD []):=D4 (by have:=Ayo h;simp only[T.node,A32]at this;omega);refine⟨o.getD [],?_,λv e=>by simp only[T.look]at e;rw[e];rfl⟩;simp only[Ff,Pk,Pv,A32,A4u,hb,Zc1,T.look];rfl
   |cons x p=>
    have i:=D2.1 hp;simp only[Zf1]at hd;obtain⟨u,b,g⟩:=Bbq f (k x.toNat) (d+1) p (w++[x]) (h.2.2.2 _ i.1) i.2 (by simp;omega) (by omega) (by omega);refine⟨u,?_,g⟩;have c0:decide (((x::p).length:Int)=0)=false:=Zd1 (by simp only[Zf1];omega);have a0:at' .byte (x::p) 0=x:=rfl;have i0:inb 0 (x::p).length=true:=by simp[inb]
    have j:x.toNat<(A9 k).length:=by rw[C3];exact i.1
    have y:upto 1 ((x::p).length:Int) (x::p).length=true:=by simp only[upto,Zf1,Zb1,Zg1];omega
    have u2:upto 0 1 (x::p).length=true:=by simp only[upto,Zf1,Zb1,Zg1];omega
    have t1:(x::p).take (1:Int).toNat=[x]:=rfl;have t2:(x::p).drop (1:Int).toNat=p:=rfl;simp only[Ff,Pk,Pv,Jc,T.look,show ¬((3:Int)=4) by omega,show ¬((3:Int)=1) by omega,show ¬((3:Int)=2) by omega,decide_false,decide_true,Ag,Af,c0,a0,i0,chk,Ao j,y,u2,t1,t2,Acw (show w.length<=500000 by omega) (show [x].length<=500000 by simp),Zc1,Al (c:=.node) j,Mr,b]
theorem N4:(List.replicate (α:=NodeS) (16:Int).toNat (zer .node):Yb1 NodeS)=A9 nos:=rfl
theorem M8: @List.replicate (El .node) (16:Int).toNat (zer .node)=A9 nos:=rfl
theorem Sa{p v:Str}(a:p.length<=2000000)(hv:v.length<=2000000):Ac2 p v=some (T.lf p v).node:=by simp only[Ac2,Ze,Ui a,D4 hv,Zc1,T.node]
theorem Kc{p:Str}(a:p.length<=2000000):Mh p t.node=some (Ng p t).node:=by
 cases p with
 |nil=>rfl
 |cons x p=>
  have c:¬(((x::p).length:Int)=0):=by simp only[Zf1];omega
  simp only[Mh,Sm,c,decide_false,Ag,Ui a,Zc1,Ng,T.node]
theorem Af4(k:Nat->T):cut (A9 k) 0 16=A9 k:=by unfold cut;rw[show(0:Int).toNat=0 from rfl,Zq1,List.take_of_length_le (by rw[C3];decide)]
theorem Apz(k:Nat->T):((16:Int)<=((A9 k).length:Int))=True:=by rw[C3];exact eq_true (by decide)
theorem Aqg:((0:Int)<=0)=True:=eq_true (by decide)
theorem Amq:((0:Int)<=16)=True:=eq_true (by decide)
section
variable {x:UInt8}{a:Str}{k:Nat->T}
theorem A62:at' .byte (x::a:Str) 0=x:=rfl
theorem Aq2:at' .byte (x::a) 0=x:=rfl
theorem A6k:inb 0 (x::a).length=true:=by simp[inb]
theorem A3f:upto 1 ((x::a).length:Int) (x::a).length=true:=by simp only[upto,Zf1,Zb1,Zg1];omega
theorem B4k:upto 0 1 (x::a).length=true:=by simp only[upto,Zf1,Zb1,Zg1];omega
theorem A6m:(x::a).drop (1:Int).toNat=a:=rfl
theorem B5s:(x::a).take (1:Int).toNat=[x]:=rfl
theorem A5l(h:x.toNat<16):inO (x.toNat:Int) 16=true:=by simp only[inO,Zb1,Zg1];omega
theorem A1f(h:x.toNat<16):inb (0+(x.toNat:Int)) (A9 k).length=true:=by rw[C3];simp only[inb,Zb1,Zg1];omega
theorem Blt:(0+(x.toNat:Int)).toNat=x.toNat:=by omega
theorem Bve:¬(((x::a).length:Int)=0):=by simp only[Zf1];omega
theorem Aqn:(([]:Str).length:Int)=0:=rfl
end
theorem Ad2(s a:Str):upto (s.length:Int) ((s++a).length:Int) (s++a).length=true:=by simp only[upto,Zh1,Zb1,Zg1];omega
theorem Acn(s a:Str):upto 0 (s.length:Int) (s++a).length=true:=by simp only[upto,Zh1,Zb1,Zg1];omega
theorem N6(s a:Str):(s++a).drop ((s.length:Int):Int).toNat=a:=by simp
theorem Ry(s a:Str):(s++a).take ((s.length:Int):Int).toNat=s:=by simp
theorem Ajk(v:Str)(k:Nat->T):NodeS.mk 3 [] true v (A9 k) []=(T.br (some v) k).node:=rfl
theorem Bej(k:Nat->T):NodeS.mk 3 [] false [] (A9 k) []=(T.br none k).node:=rfl
variable{q:Str}
theorem Bkm{u p v:Str}{d:Nat}(h:q≠p)(f:(T.lf q u).Wf d)(k:hv p)(hd:d+p.length<=400)(r:v.length<=4000):Aqp (T.lf q u).node p v=some (Abb q u p v).node:=by
 have g:=Ga q p;have i:=@G6 q p;have hc:com q p=(Cq q p).1.length:=rfl;have j:=f.2.1;unfold Aqp P9;dsimp only[El];simp only[T.node,Pv,Aiv,A32,A0f (show q.length<=1900 by omega) (show p.length<=1900 by omega),Zc1,hc,Abb];have l:=f.1;have t:=f.2.2.2;generalize Cq q p=z at g i;obtain⟨s,a,b⟩:=z;simp only at g i;obtain⟨rfl,rfl⟩:=g;simp only[Zh1]at j hd;have m:=(Fs.1 l).2;have hb:=(Fs.1 k).2;have n:C5 u=some u:=D4 (by omega);have o:C5 v=some v:=D4 (by omega);cases a with
 |nil=>cases b with|nil=>exact absurd rfl h|cons y b=>simp only[Zf1]at hd;have c:=(D2.1 hb).1;simp only[Ad2,Acn,N6,Ry,chk,Af,Ag,decide_true,decide_false,Aqn,Bve,n,Zc1,A6k,A3f,A6m,A62,Aq2,A5l c,Q4,N4,M8,A1f c,Blt,Sa (show b.length<=2000000 by omega) (show v.length<=2000000 by omega),Nt,Apz,Aqg,Amq,decide_true,Bool.and_self,Af4,Ajk,Kc (show s.length<=2000000 by omega),hold]
 |cons x a=>have e:=(D2.1 m).1;simp only[Zf1]at j;have l1:=Sa (show a.length<=2000000 by omega) (show u.length<=2000000 by omega);cases b with|nil=>simp only[Ad2,Acn,N6,Ry,chk,Af,Ag,decide_true,decide_false,Aqn,Bve,o,Zc1,A6k,A3f,A6m,A62,Aq2,A5l e,Q4,N4,M8,A1f e,Blt,l1,Nt,Apz,Aqg,Amq,decide_true,Bool.and_self,Af4,Ajk,Kc (show s.length<=2000000 by omega),hold]|cons y b=>have c:=(D2.1 hb).1;simp only[Zf1]at hd;simp only[Ad2,Acn,N6,Ry,chk,Af,Ag,decide_true,decide_false,Aqn,Bve,Zc1,A6k,A3f,A6m,A62,Aq2,A5l e,A5l c,Q4,N4,M8,A1f e,A1f c,Blt,l1,Sa (show b.length<=2000000 by omega) (show v.length<=2000000 by omega),Nt,Apz,Aqg,Amq,decide_true,Bool.and_self,Af4,Bej,Kc (show s.length<=2000000 by omega),hold]
theorem Bhv{k:T}{p v:Str}{d:Nat}(h:A7 q p=none)(g:(T.way q k).Wf d)(u:hv p)(hd:d+p.length<=400)(hl:v.length<=4000):Aqp (T.way q k).node p v=some (Aah q k p v).node:=by
 have f:=Ga q p;have i:=@G6 q p;have hc:com q p=(Cq q p).1.length:=rfl;have j:=Wf.le g.2.2.2;unfold Aqp P9;dsimp only[El];simp only[T.node,Pv,Aiv,Jc,A0f (show q.length<=1900 by omega) (show p.length<=1900 by omega),Zc1,hc,Aah];have w:=g.1;generalize Cq q p=z at f i;obtain⟨s,a,b⟩:=z;simp only at f i;obtain⟨rfl,rfl⟩:=f;simp only[Zh1]at j hd;have ha:=(Fs.1 w).2;have hb:=(Fs.1 u).2;have bv:C5 v=some v:=D4 (by omega);cases a with
 |nil=>simp[Fg]at h
 |cons x a=>
  have e:=(D2.1 ha).1;simp only[Zf1]at j;have i1:s.length<(s++x::a).length:=by simp
  have l:(s++x::a)[s.length]'i1=x:=by rw[List.getElem_append_right (by omega)];simp
  have w1:wr .i64 ((s.length:Int)+1)=((s.length+1:Nat):Int):=by rw[Be (by simp only[inI];omega)];omega
  have m:upto ((s.length+1:Nat):Int) ((s++x::a).length:Int) (s++x::a).length=true:=by simp only[upto,Zh1,Zf1,Zb1,Zg1];omega
  have n:(s++x::a).drop (((s.length+1:Nat):Int):Int).toNat=a:=by rw[Int.toNat_natCast,show s++x::a=(s++[x])++a by simp,List.drop_left' (by simp)]
  have k0:at' .node [k.node] 0=k.node:=rfl;have o:inb 0 [k.node].length=true:=rfl;have t1:=Kc (t:=k) (show a.length<=2000000 by omega);have e2:¬((2:Int)=1):=by omega
  cases b with|nil=>simp only[e2,decide_false,Ag,Ao i1,chk,Af,w1,m,o,n,k0,t1,Zc1,Al (c:=.byte) i1,l,A5l e,Q4,N4,M8,A1f e,Ad2,Acn,N6,Ry,Aqn,decide_true,bv,Blt,Nt,Apz,Aqg,Amq,decide_true,Bool.and_self,Af4,Ajk,Kc (show s.length<=2000000 by omega),hold]|cons y b=>have r:=(D2.1 hb).1;simp only[Zf1]at hd;simp only[e2,decide_false,Ag,Ao i1,chk,Af,w1,m,o,n,k0,t1,Zc1,Al (c:=.byte) i1,l,A5l e,A5l r,Q4,N4,M8,A1f e,A1f r,Ad2,Acn,N6,Ry,Bve,A6k,A3f,A6m,A62,Aq2,Blt,Sa (show b.length<=2000000 by omega) (show v.length<=2000000 by omega),Nt,Apz,Aqg,Amq,decide_true,Bool.and_self,Af4,Bej,Kc (show s.length<=2000000 by omega),hold]
theorem Bb8:∀(f:Nat) (t:T) (d:Nat) (p v w:Str),t.Wf d->hv p->w.length=d->d+p.length<=400->v.length<=4000->401<=f+d->Aj I1 f (t.node,p,v,w)=some ((t.put p v).node,())
 |0,t,d,p,v,w,h,_,_,_,_,hf=>by have:=Wf.le h;omega
 |f+1,t,d,p,v,w,h,hp,hw,hd,hl,hf=>by
  rw[Au];have lf:=Sa (show p.length<=2000000 by omega) (show v.length<=2000000 by omega);cases t with
  |no=>simp only[I1,T.node,Pv,show ¬((0:Int)=4) by omega,decide_false,decide_true,Ag,Af,lf,Zc1,T.put]
  |lf q u=>
   simp only[I1,show((T.lf q u).node).kind=1 from rfl,show((T.lf q u).node).path=q from rfl,show ¬((1:Int)=4) by omega,show ¬((1:Int)=0) by omega,decide_false,decide_true,Ag,Af,T.put,beq,lf,Zc1];by_cases e:q=p
   ·simp only[e,decide_true,Af,if_true]
   ·simp only[e,decide_false,Ag,if_false,Bkm e h hp hd hl,Zc1]
  |way q k=>have h4:=Wf.le h.2.2.2;have a2 : 0<q.length:=List.length_pos_iff.2 h.2.1;have k0:at' .node [k.node] 0=k.node:=rfl;have k1:inb 0 [k.node].length=true:=rfl;simp only[I1,show((T.way q k).node).kind=2 from rfl,show((T.way q k).node).path=q from rfl,show((T.way q k).node).kids=[k.node] from rfl,show((T.way q k).node).has=false from rfl,show((T.way q k).node).val=[] from rfl,show((T.way q k).node).hash=[] from rfl,show ¬((2:Int)=4) by omega,show ¬((2:Int)=0) by omega,show ¬((2:Int)=1) by omega,decide_false,decide_true,Ag,Af,T.put,A0c,Zc1,k0,k1,chk];cases hs:A7 q p with|none=>simp only[Option.isSome_none,Zs1,Af,Bhv hs h hp hd hl,Zc1]|some r=>have e:=Bm.1 hs;subst e;have l:=Fs.1 hp;simp only[Zh1]at hd;have m:=Bb8 f k (d+q.length) r v (w++q) h.2.2.2 l.2 (by simp;omega) (by omega) hl (by omega);simp only[Option.isSome_some,Zt1,Ag,Ad2,Af,Acw (show w.length<=500000 by omega) (show q.length<=500000 by omega),Zc1,N6,m,T.node]
  |br o k=>
   have n:(A9 k).length<=2000000:=by rw[C3];omega
   have s:List.isEmpty (A9 k)=false:=rfl;have b:∀a:Nat->T,cut (A9 a) 0 (0+((A9 k).length:Int))=A9 a:=λa=>by rw[C3];exact Af4 a
   have g:(0:Int)<=((A9 k).length:Int):=by rw[C3];decide
   have i:∀a:Nat->T,(0+((A9 k).length:Int))<=((A9 a).length:Int):=λa=>by rw[C3,C3];decide
   simp only[I1,Pk,Pv,Aiv,A4u,A32,Jc,B2f,show ¬((3:Int)=4) by omega,show ¬((3:Int)=0) by omega,show ¬((3:Int)=1) by omega,show ¬((3:Int)=2) by omega,decide_false,decide_true,Ag,n,chk,Af,s];cases p with
   |nil=>simp only[Aqn,decide_true,Af,D4 (show v.length<=2000000 by omega),Zc1,b,g,i,Aqg,decide_true,Bool.and_self,Af,T.put,Ajk]
   |cons x p=>
    have j:=D2.1 hp;simp only[Zf1]at hd;have m:=Bb8 f (k x.toNat) (d+1) p v (w++[x]) (h.2.2.2 _ j.1) j.2 (by simp;omega) (by omega) hl (by omega);have ho:inO (x.toNat:Int) ((A9 k).length:Int)=true:=by rw[C3];exact A5l j.1
    have y:at' .node (A9 k) (0+(x.toNat:Int))=(k x.toNat).node:=by
     have z:x.toNat<(A9 k).length:=by rw[C3];exact j.1
     rw[Int.zero_add,Al (c:=.node) z,Mr]
    simp only[Bve,decide_false,Ag,A6k,Af,A62,Aq2,ho,A1f j.1,A3f,B4k,B5s,A6m,Acw (show w.length<=500000 by omega) (show [x].length<=500000 by simp),Zc1,y,m,Blt,Nt,b,g,i,Aqg,decide_true,Bool.and_self,Af,T.put,Pk]
variable{k:Str}
theorem Awy{v:Str}(h:t.Wf 0)(a:k.length<=200)(hv:v.length<=4000):Alh t.node k v=some true:=by have c1:decide ((k.length:Int)<=200)=true:=Ze1 (by omega);have c2:decide ((v.length:Int)<=4000)=true:=Ze1 (by omega);simp only[Alh,R8,Y1 h,Zc1,decide_true,Af,c1,c2]
theorem Bxi(h:t.Wf 0)(b:k.length<=200):B0u t.node k=some ((t.look (nib k)).getD [],(t.look (nib k)).isSome,(),0):=by have d:=Hn k;obtain⟨u,a,c⟩:=Bbq 500 t 0 (nib k) [] h (Afe k) rfl (by omega) (by omega);have a:B4p t.node (nib k) []=some (u,(t.look (nib k)).isSome,()):=a;simp only[B0u,Ae6,Awy h b (show([]:Str).length<=4000 by simp),A0t (show k.length<=1900 by omega),Zc1,Zt1,Ag,a];cases e:t.look (nib k)with|none=>rfl|some v=>rw[c v e];rfl
theorem Byt{v:Str}(h:t.Wf 0)(a:k.length<=200)(hv:v.length<=4000):Bx9 t.node k v=some ((t.put (nib k) v).node,(),0):=by have c:=Hn k;have b:B3o t.node (nib k) v []=some ((t.put (nib k) v).node,()):=Bb8 500 t 0 (nib k) v [] h (Afe k) rfl (by omega) hv (by omega);simp only[Bx9,Aek,Awy h a hv,Ash h,A0t (show k.length<=1900 by omega),Zc1,Zt1,Ag,b]
theorem Buc{v:Str}(h:t.Wf 0)(a:k.length<=200)(hv:v.length<=4000):(t.put (nib k) v).Wf 0:=(Bbg h (Afe k) (by have:=Hn k;omega) (by have:=Hn k;omega) hv).1
def Aio(s:SpanS)(q:Str):Bool:=decide (0<=Ain q s.low)&&(s.op||decide (Ain q s.high<0))
def Afi(s:SpanS)(w:Str):Bool:=(decide (0<=Ain w s.low)||(A7 w s.low).isSome)&&(s.op||decide (Ain (if w.length % 2=1 then w++[0]else w) s.high<0))
theorem Ax2{b:Str}:Ain a b<0↔a<b:=by
 unfold Ain;split
 ·simp_all
 ·split<;>simp_all
theorem A81{b:Str} : 0<=Ain a b↔¬a<b:=by rw[<-Ax2];omega
variable{s:SpanS}{w:Str}
theorem Bok(a:w.length<=1900)(b:s.low.length<=1900)(c:s.high.length<=1900):A4l s w=some (Aio s w):=by simp only[A4l,Xx,Adq a b,Adq a c,Zc1,Aio];cases decide (0<=Ain w s.low)<;>cases s.op<;>rfl
theorem Bar(d:w.length<=1800)(b:s.low.length<=1900)(a:s.high.length<=1900):Ai1 s w=some (Afi s w):=by
 have c3:decide (w.length+1<=Ah)=true:=Ze1 (by simp only[Ah];omega);have c:UInt8.ofNat (0:Int).toNat=0:=rfl;simp only[Ai1,O9,Adq (show w.length<=1900 by omega) b,A0c,Ui (show w.length<=2000000 by omega),Adq (show(w++[0]).length<=1900 by simp;omega) a,Adq (show w.length<=1900 by omega) a,Zc1,Afi,c3,chk,Af,c];have e:decide (Int.tmod (w.length:Int) 2=1)=decide (w.length % 2=1):=by
  rw[Int.tmod_eq_emod_of_nonneg (by omega)];by_cases h:w.length % 2=1
  ·rw[Ze1 h,Ze1 (by omega)]
  ·rw[Zd1 h,Zd1 (by omega)]
 rw[e];by_cases h:w.length % 2=1
 ·simp only[h,decide_true,Af,if_true];cases decide (0<=Ain w s.low)<;>cases (A7 w s.low).isSome<;>cases s.op<;>rfl
 ·simp only[h,decide_false,Ag,if_false];cases decide (0<=Ain w s.low)<;>cases (A7 w s.low).isSome<;>cases s.op<;>rfl
theorem Bwd:∀{w l:Str},w<l->(A7 w l).isSome=true\/∀r,w++r<l
 |[],l,_=>.inl (by simp[A7])
 |x::w,[],h=>absurd h (List.not_lt_nil _)
 |x::w,y::l,h=>by
  rcases List.cons_lt_cons_iff.1 h with a|⟨e,a⟩
  ·exact .inr λr=>List.cons_lt_cons_iff.2 (.inl a)
  ·rcases Bwd a with b|b
   ·exact .inl (by simpa[A7,e]using b)
   ·exact .inr λr=>List.cons_lt_cons_iff.2 (.inr ⟨e,b r⟩)
theorem Bo7:∀{w r h:Str},w++r<h->w<h
 |[],_,[],h=>absurd h (List.not_lt_nil _)
 |[],_,y::h,_=>List.nil_lt_cons y h
 |x::w,_,[],h=>absurd h (List.not_lt_nil _)
 |x::w,r,y::h,hl=>by
  rcases List.cons_lt_cons_iff.1 hl with a|⟨rfl,a⟩
  ·exact List.cons_lt_cons_iff.2 (.inl a)
  ·exact List.cons_lt_cons_iff.2 (.inr ⟨rfl,Bo7 a⟩)
theorem Xb{x y:UInt8}:x<y↔x.toNat<y.toNat:=UInt8.lt_iff_toNat_lt
theorem Bcy:∀{w r h:Str}{x:UInt8},w++x::r<h->w++[0]<h
 |[],_,[],_,h=>absurd h (List.not_lt_nil _)
 |[],r,y::h,x,hl=>by
  rcases List.cons_lt_cons_iff.1 hl with a|⟨rfl,a⟩
  ·refine List.cons_lt_cons_iff.2 (.inl ?_);rw[Xb]at *;have:(0:UInt8).toNat=0:=rfl;omega
  ·by_cases e:x=0
   ·subst e;refine List.cons_lt_cons_iff.2 (.inr ⟨rfl,?_⟩);cases h with|nil=>exact absurd a (List.not_lt_nil _)|cons z h=>exact List.nil_lt_cons z h
   ·refine List.cons_lt_cons_iff.2 (.inl ?_);rw[Xb];have:(0:UInt8).toNat=0:=rfl;have:x.toNat≠0:=λh=>e (UInt8.toNat_inj.1 h);omega
 |x::w,_,[],_,h=>absurd h (List.not_lt_nil _)
 |x::w,r,y::h,z,hl=>by
  rcases List.cons_lt_cons_iff.1 hl with a|⟨rfl,a⟩
  ·exact List.cons_lt_cons_iff.2 (.inl a)
  ·exact List.cons_lt_cons_iff.2 (.inr ⟨rfl,Bcy a⟩)
theorem Bvj{r:Str}(c:(w++r).length % 2=0)(h:Aio s (w++r)=true):Afi s w=true:=by
 simp only[Aio,Zb1,Zd2,Zg1,Ax2,A81]at h;simp only[Afi,Zb1,Zd2,Zg1,Ax2,A81];refine⟨?_,?_⟩
 ·by_cases e:w<s.low
  ·rcases Bwd e with b|b
   ·exact .inr b
   ·exact absurd (b r) h.1
  ·exact .inl e
 ·rcases h.2 with a|a
  ·exact .inl a
  ·right;split
   ·rename_i d;cases r with|nil=>simp at c;omega|cons x r=>exact Bcy a
   ·exact Bo7 a
def Jn:Str->Str|x::y::l=>UInt8.ofNat (x.toNat*16+y.toNat)::Jn l|_=>[]
theorem Kg:∀b:Str,Jn (nib b)=b
 |[]=>rfl
 |x::b=>by have:=x.toNat_lt;rw[I8];simp only[Alc,Zb2,Zf2,Jn,Kg b,UInt8.toNat_ofNat',Ze2,and_true];rw[show x.toNat / 16 % 2 ^ 8*16+x.toNat % 16 % 2 ^ 8=x.toNat by omega];simp
theorem Age:∀{q:Str},hv q->q.length % 2=0->nib (Jn q)=q
 |[],_,_=>rfl
 |[_],_,h=>by simp at h
 |x::y::q,h,he=>by
  have a:=D2.1 h;have b:=D2.1 a.2;have c:=a.1;have d:=b.1;simp only[Jn,I8,Age b.2 (by simp at he;omega),Alc,UInt8.toNat_ofNat',Zb2,Zf2,Ze2,and_true];constructor
  ·apply UInt8.toNat_inj.1;simp only[UInt8.toNat_ofNat'];omega
  ·apply UInt8.toNat_inj.1;simp only[UInt8.toNat_ofNat'];omega
theorem Av4:∀q:Str,(Jn q).length<=q.length
 |[]=>by simp[Jn]
 |[_]=>by simp[Jn]
 |x::y::q=>by have:=Av4 q;simp only[Jn,Zf1];omega
theorem Avd(h:hv q)(a:q.length % 2=0)(c:q.length<=800):Afd q=some (Jn q,0):=by have:=Biy (b:=Jn q) (by have:=Av4 q;omega);rwa[Age h a]at this
def E8(s:SpanS)(t:T)(w:Str):Yb1 KvS:=((t.items w).filter λx=>Aio s x.1).map λx=>KvS.mk (Jn x.1) x.2
theorem Br3(s:SpanS)(o:Ya1 Str)(k:Nat->T)(w:Str):E8 s (.br o k) w=(match o with|some v=>if Aio s w then [KvS.mk (Jn w) v]else []|none=>[])++(List.range 16).flatMap λi=>E8 s (k i) (w++[UInt8.ofNat i]):=by unfold E8;simp only[T.items,List.filter_append,List.map_append,List.filter_flatMap,List.map_flatMap];congr 1;cases o with|none=>rfl|some v=>simp only[List.filter_cons,List.filter_nil];split<;>rfl
theorem Bbi{d:Nat}(h:t.Wf d)(g:w.length=d)(hm:Afi s (w++t.node.path)=false):E8 s t w=[]:=by
 unfold E8;rw[List.map_eq_nil_iff,List.filter_eq_nil_iff];rintro⟨q,v⟩ c a;obtain⟨r,rfl,f,b⟩:=(F5 h).1 c;have i:=(Ajd h f b).2.1;have:∃z,r=t.node.path++z:=by
  cases t with
  |no=>exact⟨r,rfl⟩
  |br o k=>exact⟨r,rfl⟩
  |lf p u=>
   simp only[T.look]at b;split at b
   ·rename_i e;exact⟨[],by simp[T.node,Aiv,e]⟩
   ·cases b
  |way p k=>
   simp only[T.look]at b;split at b
   ·rename_i z e;exact⟨z,Bm.1 e⟩
   ·cases b
 obtain⟨z,rfl⟩:=this;have a:Aio s (w++(t.node.path++z))=true:=a;rw[<-Zj1]at a;rw[Bvj (by simp only[Zh1]at *;omega) a]at hm;cases hm
theorem Bg9(s:SpanS)(t:T)(w:Str):(E8 s t w).length<=(t.items w).length:=by unfold E8;rw[List.length_map];exact List.length_filter_le ..
theorem Agg{R:Type}{rf:Pp->Ya1 Hj}{kx:Ex->Q8->Ya1 R}{sp:SpanS}{n:NodeS}{q:Str}{m:Int}{r8:Yb1 KvS}{r9:Str}{e10:Int}{B:Nat}{F:Nat->Yb1 KvS}(j:q.length<=1000)(l:n.kids.length<=50)
  (a:∀i (h:i<n.kids.length) o,o.length+(F i).length<=B->rf (sp,n.kids[i],(if n.kind=3 then q++[UInt8.ofNat i]else q),false,m,r8,r9,e10,o,0)=some (true,m,r8,r9,e10,o++F i,0)) :
  ∀(k i:Nat) (b:Bool) (o:Yb1 KvS),i<=n.kids.length->n.kids.length-i<k->o.length+(((List.range n.kids.length).drop i).flatMap F).length<=B ->
  Aj (λf=>Pb rf f kx) k (false,b,(n.kids.length:Int),(i:Int),m,r8,r9,e10,o,0,sp,n,q)=kx (.exit 0) (false,b,(n.kids.length:Int),(n.kids.length:Int),m,r8,r9,e10,o++((List.range n.kids.length).drop i).flatMap F,0,sp,n,q)
 |0,_,_,_,_,h,_=>by omega
 |k+1,i,b,o,hi,hk,hB=>by
  rw[Au];by_cases h:i<n.kids.length
  ·have c1:decide ((i:Int)<(n.kids.length:Int))=true:=Ze1 (by omega);have c2:decide (q.length+1<=Ah)=true:=Ze1 (by simp only[Ah];omega);have w1:wr .u8 (i:Int)=(i:Int):=IntWalk.u8_in _ (by omega);have hd:(List.range n.kids.length).drop i=i::(List.range n.kids.length).drop (i+1):=by rw[List.drop_eq_getElem_cons (by simpa using h)];simp
   rw[hd,List.flatMap_cons]at hB ⊢;simp only[Zh1]at hB;have d:=a i h o (by omega);have g:=Agg (kx:=kx) j l a k (i+1) b (o++F i) (by omega) (by omega) (by simp only[Zh1];omega);have p:UInt8.ofNat (wr .u8 (i:Int):Int).toNat=UInt8.ofNat i:=by rw[w1,Int.toNat_natCast]
   simp only[Pb,c1,Af,Ag,p,Ui (show q.length<=2000000 by omega),Zc1,c2,chk,Ao h,Al (c:=.node) h,Am h (show ln n.kids.length by simp[ln];omega)];by_cases e:n.kind=3
   ·simp only[e,if_true,decide_true,Af]at d ⊢;simp only[d,Zc1,Zt1,Ag,g,Zj1]
   ·simp only[e,if_false,decide_false,Ag]at d ⊢;simp only[d,Zc1,Zt1,Ag,g,Zj1]
  ·have e:i=n.kids.length:=by omega
   subst e;have c1:decide ((n.kids.length:Int)<(n.kids.length:Int))=false:=Zd1 (by omega);simp only[Pb,c1,Ag];rw[show(List.range n.kids.length).drop n.kids.length=[] from List.drop_of_length_le (by simp)];simp
theorem A76{sp:SpanS}(h1:sp.low.length<=1900)(h2:sp.high.length<=1900){m:Int}{r8:Yb1 KvS}{r9:Str}{e10:Int}{B:Nat}(hm:(B:Int)<m)(hB:B<=Ah):∀(f:Nat) (t:T) (d:Nat) (w:Str) (o:Yb1 KvS),t.Wf d->hv w->w.length=d->401<=f+d->o.length+(E8 sp t w).length<=B ->
  Aj (N1 100) f (sp,t.node,w,false,m,r8,r9,e10,o,0)=some (true,m,r8,r9,e10,o++E8 sp t w,0)
 |0,t,d,w,o,h,_,_,hf,_=>by have:=Wf.le h;omega
 |f+1,t,d,w,o,h,hw,hd,hf,a=>by
  rw[Au];have hp:=Axv h;have hle:=Wf.le h;have a8:=Ayo h;generalize r:Aj (N1 100) f=rf;unfold N1;dsimp -zeta only;extract_lets j5;have hq:∀J:Str->Ya1 Hj,(cond (List.isEmpty w) (cond (List.isEmpty t.node.path) (J []) (chk (decide (0+t.node.path.length<=Ah)) (J ([]++t.node.path)))) (chk (decide (0+w.length<=Ah)) (chk (decide (([]++w).length+t.node.path.length<=Ah)) (J (([]++w)++t.node.path)))))=J (w++t.node.path):=λJ=>by
   have c1:decide (0+t.node.path.length<=Ah)=true:=Ze1 (by simp only[Ah];omega);have c2:decide (0+w.length<=Ah)=true:=Ze1 (by simp only[Ah];omega);have c3:decide (([]++w).length+t.node.path.length<=Ah)=true:=Ze1 (by simp only[Ah,Zf2];omega);rw[c1,c2,c3];cases w with
   |nil=>cases a9:t.node.path with|nil=>rfl|cons x p=>rfl
   |cons x w=>rfl
  refine(hq j5).trans ?_;simp only[j5];have b:(w++t.node.path).length<=800:=by simp only[Zh1];omega
  have a2:=Bar (s:=sp) (w:=w++t.node.path) (by omega) h1 h2;have a3:=Bok (s:=sp) (w:=w++t.node.path) (by omega) h1 h2;simp only[a2,a3,Zc1];cases a4:Afi sp (w++t.node.path)with
  |false=>rw[Bbi h hd a4,List.append_nil];cases decide (t.node.kind=0)<;>rfl
  |true=>
   have u:∀n:Nat,n<=B->¬((n:Int)=m):=λn hn=>by omega
   cases t with
   |no=>simp[T.node,Pv,E8,T.items]
   |lf p v=>
    have g:E8 sp (.lf p v) w=if Aio sp (w++p)then [KvS.mk (Jn (w++p)) v]else []:=by simp only[E8,T.items,List.filter_cons,List.filter_nil];split<;>rfl
    have b:(w++p).length<=800:=b;rw[g]at a ⊢;have hn:=Avd (q:=w++p) (Fs.2 ⟨hw,h.1⟩) (by simp only[Zh1];have:=h.2.2.1;omega) b;have bv:C5 v=some v:=D4 (by have:=h.2.2.2;omega);simp only[T.node,Pv,Aiv,A4u,A32,Jc,show ¬((1:Int)=0) by omega,show ¬((1:Int)=4) by omega,decide_false,decide_true,Ag,Af,Zt1,Zs1,hn,bv,Zc1];cases c:Aio sp (w++p)with
    |false=>simp only[Zs1,Af];rw[show(100:Nat)=99+1 from rfl,Au];simp[Pb]
    |true=>
     rw[c]at a;simp only[if_true,List.length_singleton]at a;have c1:o.length+1<=Ah:=by omega
     have c2:=u (o++[KvS.mk (Jn (w++p)) v]).length (by simp only[Zh1,List.length_singleton];omega);simp only[Zt1,Ag,chk,Af,c1,c2,decide_true,decide_false,if_true];rw[show(100:Nat)=99+1 from rfl,Au];simp[Pb]
   |way p k=>
    have h4:=Wf.le h.2.2.2;have aa : 0<p.length:=List.length_pos_iff.2 h.2.1;have b:(w++p).length<=800:=b;have g:E8 sp (.way p k) w=E8 sp k (w++p):=rfl;rw[g]at a ⊢;simp only[T.node,Pv,Aiv,A4u,A32,Jc,show ¬((2:Int)=0) by omega,show ¬((2:Int)=4) by omega,show ¬((2:Int)=1) by omega,decide_false,decide_true,Ag,Af,Zt1,Zs1];have y:((List.range 1).drop 0).flatMap (λ_:Nat=>E8 sp k (w++p))=E8 sp k (w++p):=by simp[List.range_succ]
    refine(Agg (n:=NodeS.mk 2 p false [] [k.node] []) (B:=B) (F:=λ_=>E8 sp k (w++p)) (by omega) (by simp[Jc]) (λi hi o' j=>?_) 100 0 false o (by omega) (by simp[Jc]) (by rw[Jc,show [k.node].length=1 from rfl,y];exact a)).trans ?_
    ·have a5:i=0:=by simp[Jc]at hi;exact hi
     subst a5;rw[Pv,if_neg (by omega)];rw[<-r];exact A76 h1 h2 hm hB f k (d+p.length) (w++p) o' h.2.2.2 (Fs.2 ⟨hw,h.1⟩) (by simp only[Zh1];omega) (by omega) j
    ·simp only[Jc,show [k.node].length=1 from rfl,y];rfl
   |br o1 k=>
    have l:∀(kx:Ex->Q8->Ya1 Hj) (hs:Bool) (v:Str) (o:Yb1 KvS),o.length+((List.range 16).flatMap λi=>E8 sp (k i) (w++[UInt8.ofNat i])).length<=B->Aj (λa6=>Pb rf a6 kx) 100 (false,false,((A9 k).length:Int),0,m,r8,r9,e10,o,0,sp,NodeS.mk 3 [] hs v (A9 k) [],w)=kx (.exit 0) (false,false,((A9 k).length:Int),((A9 k).length:Int),m,r8,r9,e10,o++(List.range 16).flatMap (λi=>E8 sp (k i) (w++[UInt8.ofNat i])),0,sp,NodeS.mk 3 [] hs v (A9 k) [],w):=λkx hs v o a=>by
     refine(Agg (n:=NodeS.mk 3 [] hs v (A9 k) []) (B:=B) (F:=λi=>E8 sp (k i) (w++[UInt8.ofNat i])) (by omega) (by rw[Jc,C3];omega) (λi hi o' j=>?_) 100 0 false o (by omega) (by rw[Jc,C3];omega) (by rw[Jc,C3,Zq1];exact a)).trans ?_
     ·have z:i<16:=by rw[Jc,C3]at hi;exact hi
      rw[Pv,if_pos rfl];simp only[Jc,Mr];rw[<-r];refine A76 h1 h2 hm hB f (k i) (d+1) (w++[UInt8.ofNat i]) o' (h.2.2.2 i z) (Fs.2 ⟨hw,D2.2 ⟨?_,Aaa⟩⟩) (by simp only[Zh1,List.length_singleton];omega) (by omega) j;rw[UInt8.toNat_ofNat'];omega
     ·simp only[Jc,C3,Zq1]
    have a7:(T.br o1 k).node.path=[]:=rfl;rw[Br3]at a ⊢;have hn:=λe=>Avd (q:=w) hw e (by omega);simp only[a7,List.append_nil,Pk,Pv,Aiv,A4u,A32,Jc,show ¬((3:Int)=0) by omega,show ¬((3:Int)=4) by omega,show ¬((3:Int)=1) by omega,decide_false,decide_true,Ag,Af,Zt1,Zs1]at b a ⊢;cases o1 with
    |none=>simp only[Option.isSome_none,Zs1,Af,Option.getD_none,Zf2]at a ⊢;rw[l _ _ _ _ a];rfl
    |some v=>
     have he:=h.2.1 v rfl;have bv:C5 v=some v:=D4 (by omega);simp only[Option.isSome_some,Zt1,Ag,Option.getD_some,hn (by omega),bv,Zc1]at a ⊢;cases c:Aio sp w with
     |false=>rw[c]at a;simp only[Zs1,Af,Zj2,if_false,Zf2]at a ⊢;rw[l _ _ _ _ a];rfl
     |true=>
      rw[c]at a;simp only[if_true,Zh1,List.length_singleton]at a;have c1:o.length+1<=Ah:=by omega
      have c2:=u (o++[KvS.mk (Jn w) v]).length (by simp only[Zh1,List.length_singleton];omega);simp only[Zt1,Ag,chk,Af,c1,c2,decide_true,decide_false,if_true];rw[l _ _ _ _ (by simp only[Zh1,List.length_singleton];omega)];simp only[Zj1];rfl
variable{hi:Str}{lo:Str}{m:Int}
theorem Bh0(h:t.Wf 0)(c:lo.length<=900)(d:hi.length<=900)(hm:((t.items []).length:Int)<m)(b:(t.items []).length<=Ah):Axj t.node lo hi m=some (E8 (SpanS.mk (nib lo) (nib hi) (decide ((hi.length:Int)=0))) t [],[],0):=by
 have l1:=Hn lo;have e:=Hn hi;have a:=A76 (sp:=SpanS.mk (nib lo) (nib hi) (decide ((hi.length:Int)=0))) (r8:=[]) (r9:=[]) (e10:=0) (by show(nib lo).length<=1900;omega) (by show(nib hi).length<=1900;omega) hm b 500 t 0 [] [] h Aaa rfl (by omega) (by have:=Bg9 (SpanS.mk (nib lo) (nib hi) (decide ((hi.length:Int)=0))) t [];simp only[Zi1];omega);have a:A0s (SpanS.mk (nib lo) (nib hi) (decide ((hi.length:Int)=0)),t.node,[],false,m,[],[],0,[],0)=some (true,m,[],[],0,[]++E8 (SpanS.mk (nib lo) (nib hi) (decide ((hi.length:Int)=0))) t [],0):=a;have c1:¬m<0:=by omega
 have c2:¬m=0:=by omega
 simp only[Axj,S5,B27,Af7,A0t (show lo.length<=1900 by omega),A0t (show hi.length<=1900 by omega),Zc1,Bnw,Yj,Y1 h,decide_true,Zt1,Ag,c1,c2,decide_false,a,Af,Zf2]
theorem B1d{b:Str}(h:nib a=nib b):a=b:=by rw[<-Kg a,<-Kg b,h]
theorem A9b:∀{a b:Str},nib a<nib b↔a<b
 |[],[]=>by simp[Ajc]
 |[],y::b=>by rw[Ajc,I8];exact⟨λ_=>List.nil_lt_cons y b,λ_=>List.nil_lt_cons _ _⟩
 |x::a,[]=>by rw[Ajc];exact⟨λh=>absurd h (List.not_lt_nil _),λh=>absurd h (List.not_lt_nil _)⟩
 |x::a,y::b=>by
  have f:=x.toNat_lt;have g:=y.toNat_lt;simp only[I8,Alc,Zb2,Zf2,List.cons_lt_cons_iff,A9b (a:=a) (b:=b),Xb,<-UInt8.toNat_inj,UInt8.toNat_ofNat'];constructor
  ·rintro(h|⟨h,d|⟨d,c⟩⟩)
   ·left;omega
   ·left;omega
   ·exact .inr ⟨by omega,c⟩
  ·rintro(h|⟨h,c⟩)
   ·by_cases e:x.toNat / 16=y.toNat / 16
    ·exact .inr ⟨by omega,.inl (by omega)⟩
    ·left;omega
   ·exact .inr ⟨by omega,.inr ⟨by omega,c⟩⟩
def T.get(t:T)(k:Str):Ya1 Str:=t.look (nib k)
theorem B02(t:T)(k v a:Str):(t.put (nib k) v).get a = if a = k then some v else t.get a:=by
 unfold T.get;rw[Am4];by_cases e:a = k
 ·simp[e]
 ·have:¬nib a = nib k:=λh=>e (B1d h);simp[e,this]
theorem B3q(k:Str):T.no.get k=none:=rfl
def range(t:T)(lo hi:Str):Yb1 KvS:=E8 (SpanS.mk (nib lo) (nib hi) (decide ((hi.length:Int)=0))) t []
theorem Bcx:Aio (SpanS.mk (nib lo) (nib hi) (decide ((hi.length:Int)=0))) (nib k)=true↔¬k<lo/\(hi=[]\/k<hi):=by simp only[Aio,Zb1,Zd2,Zg1,Ax2,A81,A9b];rw[show((hi.length:Int)=0)↔hi=[] from⟨λh=>List.length_eq_zero_iff.1 (by omega),λh=>by rw[h];rfl⟩]
theorem Al8(h:t.Wf 0){v:Str}(c:(q,v)∈t.items []):∃k,q=nib k/\t.get k=some v:=by obtain⟨r,e,a,b⟩:=(F5 h).1 c;have e:q=r:=e;subst e;have d:=(Ajd h a b).2.1;have:=Age a (by omega);exact⟨Jn q,this.symm,by unfold T.get;rw[this];exact b⟩
theorem mem_range(h:t.Wf 0){v:Str}:KvS.mk k v∈range t lo hi↔t.get k=some v/\¬k<lo/\(hi=[]\/k<hi):=by
 unfold range E8;simp only[List.mem_map,List.mem_filter];constructor
 ·rintro⟨⟨q,u⟩,⟨c,a⟩,e⟩;obtain⟨d,rfl,b⟩:=Al8 h c;simp only[Kg,KvS.mk.injEq]at e;obtain⟨rfl,rfl⟩:=e;exact⟨b,Bcx.1 a⟩
 ·rintro⟨b,a⟩;exact⟨(nib k,v),⟨(F5 h).2 ⟨nib k,rfl,Afe k,b⟩,Bcx.2 a⟩,by simp[Kg]⟩
theorem Adf(h:t.Wf 0)(lo hi:Str):(range t lo hi).Pairwise λa b=>a.key<b.key:=by unfold range E8;rw[List.pairwise_map];refine((P3 h).filter _).imp_of_mem ?_;rintro⟨q,v⟩ ⟨e,f⟩ d hb c;obtain⟨k,rfl,_⟩:=Al8 h (List.mem_filter.1 d).1;obtain⟨g,rfl,_⟩:=Al8 h (List.mem_filter.1 hb).1;simp only[Kg];exact A9b.1 c
theorem Bf2(f g:Nat->Nat)(i:Nat)(h:∀j,j≠i->g j=f j)(hi:g i<=f i+1):∀l:Yb1 Nat,l.Nodup->(l.map g).sum<=(l.map f).sum+1
 |[],_=>by simp
 |j::l,a=>by
  have a:=List.nodup_cons.1 a;simp only[Zw1,List.sum_cons];by_cases e:j=i
  ·subst e;have:l.map g=l.map f:=List.map_congr_left λx b=>h x λe=>a.1 (e▸b);rw[this];omega
  ·have:=Bf2 f g i h hi l a.2;rw[h j e];omega
theorem A3d:∀l:Yb1 Nat,(l.map λ_=>0).sum=0
 |[]=>rfl
 |_::l=>by rw[Zw1,List.sum_cons,A3d l]
def T.size:T->Nat|.no=>0|.lf _ _=>1|.way _ k=>k.size|.br o k=>(if o.isSome then 1 else 0)+((List.range 16).map λi=>(k i).size).sum
theorem P4:∀(t:T) (w:Str),(t.items w).length=t.size
 |.no,w=>rfl
 |.lf _ _,w=>rfl
 |.way p k,w=>P4 k (w++p)
 |.br o k,w=>by
  have a:∀l:Yb1 Nat,(l.flatMap λi=>(k i).items (w++[UInt8.ofNat i])).length=(l.map λi=>(k i).size).sum:=λl=>by induction l with|nil=>rfl|cons i l b=>rw[List.flatMap_cons,Zh1,b,P4 (k i),Zw1,List.sum_cons]
  simp only[T.items,T.size,Zh1,a];cases o with|none=>simp only[Zi1,Option.isSome_none,Zj2,if_false]|some v=>simp only[List.length_singleton,Option.isSome_some,if_true]
theorem Apj(k:Nat->T)(i:Nat)(t:T)(h:t.size<=(k i).size+1):((List.range 16).map λj=>(upd k i t j).size).sum<=((List.range 16).map λj=>(k j).size).sum+1:=Bf2 (λj=>(k j).size) (λj=>(upd k i t j).size) i (λj a=>by rw[Mi a]) (by rw[Iq];exact h) _ List.nodup_range
theorem A57:((List.range 16).map λj=>(nos j).size).sum=0:=by decide
theorem Y5(s:Str)(t:T):(Ng s t).size=t.size:=by cases s<;>rfl
theorem Aew(o:Ya1 Str)(k:Nat->T)(b v:Str):(hold o k b v).size<=(T.br o k).size+1:=by cases b with|nil=>simp only[hold,T.size,Option.isSome_some,if_true];split<;>omega|cons x b=>have:=Apj k x.toNat (.lf b v) (by simp[T.size]);simp only[hold,T.size];omega
theorem Ap2:∀(t:T) (p v:Str),(t.put p v).size<=t.size+1
 |.no,p,v=>by simp[T.put,T.size]
 |.lf q u,p,v=>by
  simp only[T.put];split
  ·simp[T.size]
  ·unfold Abb;split<;>rw[Y5]
   ·refine Nat.le_trans (Aew ..) ?_;simp only[T.size,A57];simp
   ·rename_i x a b _;refine Nat.le_trans (Aew ..) ?_;have:=Apj nos x.toNat (.lf a u) (by simp[T.size]);rw[A57]at this;simp only[T.size,Option.isSome_none];simp;omega
 |.way q k,p,v=>by
  simp only[T.put];split
  ·exact Ap2 k _ v
  ·unfold Aah;split
   ·simp[T.size]
   ·rename_i x a b _;rw[Y5];refine Nat.le_trans (Aew ..) ?_;have g:∀f:Nat->Nat,(∀j,j≠x.toNat->f j=0)->∀l:Yb1 Nat,l.Nodup->(l.map f).sum<=f x.toNat:=λf d l=>by
     induction l with
     |nil=>intro _;simp
     |cons j l h=>
      intro c;have c:=List.nodup_cons.1 c;simp only[Zw1,List.sum_cons];by_cases e:j=x.toNat
      ·subst e;have:(l.map f).sum=0:=by have:l.map f=l.map λ_=>0:=List.map_congr_left λy i=>d y λe=>c.1 (e▸i);rw[this];exact A3d l
       omega
      ·rw[d j e];have:=h c.2;omega
    have:=g (λj=>(upd nos x.toNat (Ng a k) j).size) (λj m=>by simp only[Mi m];rfl) (List.range 16) List.nodup_range;simp only[Iq,Y5]at this;simp only[T.size,Option.isSome_none];simp;omega
 |.br o k,[],v=>by simp only[T.put,T.size,Option.isSome_some,if_true];split<;>omega
 |.br o k,x::p,v=>by have:=Apj k x.toNat ((k x.toNat).put p v) (Ap2 (k x.toNat) p v);simp only[T.put,T.size];omega
theorem Ao9(n:NodeS):NodeS.mk n.kind n.path n.has n.val n.kids n.hash=n:=by cases n;rfl
section
variable {t:T}{g:Yb1 NodeS}{h:Str}
theorem Bfe(a:t.Wf 0)(b:k.length<=200):Um (k,t.node.kind,t.node.path,t.node.has,t.node.val,t.node.kids,t.node.hash,g,h)=some ((t.get k).getD [],(t.get k).isSome,0,t.node.kind,t.node.path,t.node.has,t.node.val,t.node.kids,t.node.hash,g,h):=by simp only[Um,Ao9,Bxi a b,Zc1,show ¬((0:Int)=80) by omega,decide_false,Ag,T.get]
theorem Bx3{v:Str}(a:t.Wf 0)(b:k.length<=200)(hv:v.length<=4000):Ua (k,v,t.node.kind,t.node.path,t.node.has,t.node.val,t.node.kids,t.node.hash,g,h)=some (0,(t.put (nib k) v).node.kind,(t.put (nib k) v).node.path,(t.put (nib k) v).node.has,(t.put (nib k) v).node.val,(t.put (nib k) v).node.kids,(t.put (nib k) v).node.hash,g,h):=by simp only[Ua,Ao9,Byt a b hv,Zc1,show ¬((0:Int)=80) by omega,decide_false,decide_true,Ag,Af]
theorem Aw6(a:t.Wf 0)(b:lo.length<=900)(c:hi.length<=900)(hm:(t.size:Int)<m)(d:t.size<=Ah):Le (lo,hi,m,t.node.kind,t.node.path,t.node.has,t.node.val,t.node.kids,t.node.hash,g,h)=some (range t lo hi,0,t.node.kind,t.node.path,t.node.has,t.node.val,t.node.kids,t.node.hash,g,h):=by have:=Bh0 a b c (m:=m) (by rw[P4];exact hm) (by rw[P4];exact d);simp only[Le,Ao9,this,Zc1,show ¬((0:Int)=80) by omega,decide_false,Ag,range]
end
end Go.Proofs.YtcoaaebppfbbnaaGreatDoor
