/- Texts of the proof,one behind the other: Trb,Tc,Td,Te,Tf,Tg,Th. -/
import Derived.Test.YtcoaaebppfbbnaaGreatDoorK16
set_option linter.all false
namespace Go.Proofs.YtcoaaebppfbbnaaGreatDoor
open Go.Ax
def Ahs(x:UInt8):Str:=[UInt8.ofNat (x.toNat / 16),UInt8.ofNat (x.toNat % 16)]
def nib(b:Str):Str:=b.flatMap Ahs
theorem Af4:nib []=[]:=rfl
theorem H7(x:UInt8)(b:Str):nib (x::b)=Ahs x++nib b:=rfl
theorem G1:∀b:Str,(nib b).length=2*b.length
 |[]=>rfl
 |x::b=>by rw[H7,Zh1,G1 b];simp[Ahs];omega
theorem As3{p:UInt8->Prop}(h:∀n:Fin 256,p (UInt8.ofNat n.val))(x:UInt8):p x:=by have:=h ⟨x.toNat,x.toNat_lt⟩;simpa using this
theorem hi4:∀n:Fin 256,UInt8.ofNat ((D5 .u8 ((UInt8.ofNat n.val).toNat:Int) 4):Int).toNat=UInt8.ofNat ((UInt8.ofNat n.val).toNat / 16):=by decide +kernel
theorem lo4:∀n:Fin 256,UInt8.ofNat ((G9 .u8 ((UInt8.ofNat n.val).toNat:Int) 15):Int).toNat=UInt8.ofNat ((UInt8.ofNat n.val).toNat % 16):=by decide +kernel
theorem jo4:∀n:Fin 256,UInt8.ofNat ((ior .u8 (Afp .u8 ((UInt8.ofNat ((UInt8.ofNat n.val).toNat / 16)).toNat:Int) 4) ((UInt8.ofNat ((UInt8.ofNat n.val).toNat % 16)).toNat:Int)):Int).toNat=UInt8.ofNat n.val:=by decide +kernel
theorem Brb(x:UInt8):[UInt8.ofNat ((D5 .u8 (x.toNat:Int) 4):Int).toNat,UInt8.ofNat ((G9 .u8 (x.toNat:Int) 15):Int).toNat]=Ahs x:=by rw[As3 (p:=λx=>UInt8.ofNat ((D5 .u8 (x.toNat:Int) 4):Int).toNat=UInt8.ofNat (x.toNat / 16)) hi4 x,As3 (p:=λx=>UInt8.ofNat ((G9 .u8 (x.toNat:Int) 15):Int).toNat=UInt8.ofNat (x.toNat % 16)) lo4 x];rfl
theorem Acx:∀b:Str,hv (nib b)
 |[]=>Xk
 |x::b=>by rw[H7,E6];refine⟨?_,Acx b⟩;have:=x.toNat_lt;simp only[Ahs,Dl,UInt8.toNat_ofNat'];exact⟨by omega,by omega,Xk⟩
theorem A0s{R:Type}{kx:Ex->Afw->Option R}{b:Str}(hb:b.length<=100000):∀(k i:Nat) (acc:Str),i<=b.length->b.length-i<k->acc.length<=2*i ->
  Aj (λrec=>Ano rec kx) k (acc,b,(b.length:Int),(i:Int))=kx (.exit 0) (acc++nib (b.drop i),b,(b.length:Int),(b.length:Int))
 |0,_,_,_,h,_=>by omega
 |k+1,i,acc,hi,hk,ha=>by
  rw[Ay];by_cases h:i<b.length
  ·have c1:decide ((i:Int)<(b.length:Int))=true:=Ze1 (by omega);have c2:decide (acc.length+2<=Ah)=true:=Ze1 (by simp only[Ah];omega);have ih:=A0s (kx:=kx) hb k (i+1) (acc++Ahs b[i]) (by omega) (by omega) (by simp[Ahs];omega);simp only[Ano,c1,Af,As h,chk,Al (c :=.byte) h,c2,An h (show ln b.length by simp[ln];omega)];rw[Brb,ih,List.drop_eq_getElem_cons h,H7,Zj1]
  ·have e:i=b.length:=by omega
   subst e;have c1:decide ((b.length:Int)<(b.length:Int))=false:=Zd1 (by omega);simp only[Ano,c1,Ag,Zc2,Af4,List.append_nil]
theorem Bvp{b:Str}{k:Nat}(hb:b.length<=100000)(hk:b.length<k):Yp k b=some (nib b):=by
 have:=A0s (kx:=λe vz=>match vz with|(v4,_,_,_)=>match e with
  |.exit 0=>some v4
  |_=>none) hb k 0 [] (by omega) (by omega) (by simp)
 simp only[Yp];exact this
theorem Auo{b:Str}(hb:b.length<=1900):nof b=some (nib b):=Bvp (by omega) (by omega)
theorem Api{R:Type}{kx:Ex->Aa3->Option R}{b:Str}(hb:b.length<=100000)(h:hv b):∀(k i:Nat),i<=b.length->b.length-i<k ->
  Aj (λrec=>Abp rec kx) k (false,b,(b.length:Int),(i:Int))=kx (.exit 0) (false,b,(b.length:Int),(b.length:Int))
 |0,_,_,h=>by omega
 |k+1,i,hi,hk=>by
  rw[Ay];by_cases hl:i<b.length
  ·have c1:decide ((i:Int)<(b.length:Int))=true:=Ze1 (by omega);have:=h b[i] (List.getElem_mem hl);have c2:decide (15<((b[i]).toNat:Int))=false:=Zd1 (by omega);simp only[Abp,c1,Af,As hl,chk,Al (c :=.byte) hl,c2,Ag,An hl (show ln b.length by simp[ln];omega)];exact Api hb h k (i+1) (by omega) (by omega)
  ·have e:i=b.length:=by omega
   subst e;have c1:decide ((b.length:Int)<(b.length:Int))=false:=Zd1 (by omega);simp only[Abp,c1,Ag]
theorem Buk{b:Str}{k:Nat}(hb:b.length<=100000)(h:hv b)(hk:b.length<k):Um k b=some true:=by
 have:=Api (kx:=λe vz=>match vz with|(v4,_,_,_)=>match e with
  |.ret=>some v4
  |.exit 0=>some true
  |_=>none) hb h k 0 (by omega) (by omega)
 simp only[Um];exact this
theorem Bn1{b:Str}(hb:b.length<=1900)(h:hv b):Btk b=some true:=Buk (by omega) h (by omega)
theorem A6m:∀{b:Str}{i:Nat}(h:i<b.length) (h1 : 2*i<(nib b).length) (h2 : 2*i+1<(nib b).length),(nib b)[2*i]=UInt8.ofNat (b[i].toNat / 16)/\(nib b)[2*i+1]=UInt8.ofNat (b[i].toNat % 16)
 |x::b,0,_,_,_=>⟨rfl,rfl⟩
 |x::b,i+1,h,h1,h2=>by have ih:=A6m (b:=b) (i:=i) (by simpa using h) (by rw[G1] at *;simp at h;omega) (by rw[G1] at *;simp at h;omega);simpa[H7,Ahs,show 2*(i+1)=2*i+1+1 by omega] using ih
theorem Akl{R:Type}{kx:Ex->Uq->Option R}{b:Str}(hb:b.length<=100000):∀(k i:Nat) (acc:Str),i<=b.length->b.length-i<k->acc.length<=i ->
  Aj (λrec=>Uk rec kx) k (nib b,acc,((2*i+1:Nat):Int))=kx (.exit 0) (nib b,acc++b.drop i,((2*b.length+1:Nat):Int))
 |0,_,_,_,h,_=>by omega
 |k+1,i,acc,hi,hk,ha=>by
  rw[Ay];have hn:=G1 b;by_cases h:i<b.length
  ·have c1:decide (((2*i+1:Nat):Int)<((nib b).length:Int))=true:=Ze1 (by omega);have c2:decide (acc.length+1<=Ah)=true:=Ze1 (by simp only[Ah];omega);have c3:wr .i64 (((2*i+1:Nat):Int)-1)=((2*i:Nat):Int):=by rw[B3 (by simp only[inI];omega)];omega
   have c4:wr .i64 (((2*i+1:Nat):Int)+2)=((2*(i+1)+1:Nat):Int):=by rw[B3 (by simp only[inI];omega)];omega
   have g:=A6m h (by omega) (by omega);have ih:=Akl (kx:=kx) hb k (i+1) (acc++[b[i]]) (by omega) (by omega) (by simp;omega);simp only[Uk,c1,Af,c3,As (show 2*i<(nib b).length by omega),As (show 2*i+1<(nib b).length by omega),chk,Al (c :=.byte) (show 2*i<(nib b).length by omega),Al (c :=.byte) (show 2*i+1<(nib b).length by omega),c2,c4,g.1,g.2];have hj:=As3 (p:=λx=>UInt8.ofNat ((ior .u8 (Afp .u8 ((UInt8.ofNat (x.toNat / 16)).toNat:Int) 4) ((UInt8.ofNat (x.toNat % 16)).toNat:Int)):Int).toNat=x) jo4 b[i];rw[hj,ih,Zj1,List.drop_eq_getElem_cons h];rfl
  ·have e:i=b.length:=by omega
   subst e;have c1:decide (((2*b.length+1:Nat):Int)<((nib b).length:Int))=false:=Zd1 (by omega);simp only[Uk,c1,Ag,Zc2,List.append_nil]
theorem Ba7{b:Str}(hb:b.length<=900):Acw (nib b)=some (b,0):=by
 have hn:=G1 b;have h2:A7k (nib b)=some b:=by
  have:=Akl (kx:=λe vz=>match vz with|(_,v4,_)=>match e with
   |.exit 0=>some v4
   |_=>none) (b:=b) (by omega) 2000 0 [] (by omega) (by omega) (by simp)
  simp only[A7k,Xf];exact this
 have c1:decide (Int.tmod ((nib b).length:Int) 2=1)=false:=Zd1 (by rw[hn,Int.tmod_eq_emod_of_nonneg (by omega)];omega);simp only[Acw,Qy,Bn1 (show(nib b).length<=1900 by omega) (Acx b),h2,Zc1,Zt1,Ag,c1]
def com(a b:Str):Nat:=(B6 a b).1.length
theorem Bha(x y:UInt8)(a b:Str):com (x::a) (y::b)=if x=y then com a b+1 else 0:=by simp only[com,B6];split<;>simp
theorem Buc(a b:Str):com a b<=a.length/\com a b<=b.length:=by have h:=Ft a b;have h1:=congrArg List.length h.1;have h2:=congrArg List.length h.2;simp only[Zh1] at h1 h2;unfold com;omega
theorem Aoa{R:Type}{kx:Ex->Yk->Option R}{a b:Str}(ha:a.length<=100000)(hb:b.length<=100000){m:Nat}(hm:m=min a.length b.length):∀(k i:Nat) (z:Int),i<=m->m-i<k ->
  ((i+com (a.drop i) (b.drop i)<m->Aj (λrec=>Xe rec kx) k (a,b,z,(m:Int),(i:Int))=kx .ret (a,b,((i+com (a.drop i) (b.drop i):Nat):Int),(m:Int),((i+com (a.drop i) (b.drop i):Nat):Int))) /\
  (i+com (a.drop i) (b.drop i)=m->Aj (λrec=>Xe rec kx) k (a,b,z,(m:Int),(i:Int))=kx (.exit 0) (a,b,z,(m:Int),(m:Int))))
 |0,_,_,_,h=>by omega
 |k+1,i,z,hi,hk=>by
  rw[Ay];by_cases h:i<m
  ·have h1:i<a.length:=by omega
   have h2:i<b.length:=by omega
   have c1:decide ((i:Int)<(m:Int))=true:=Ze1 (by omega);have ih:=Aoa (kx:=kx) ha hb hm k (i+1) z (by omega) (by omega);have hl:ln m:=by simp[ln];omega
   simp only[Xe,c1,Af,As h1,As h2,chk,Al (c :=.byte) h1,Al (c :=.byte) h2,An h hl,List.drop_eq_getElem_cons h1,List.drop_eq_getElem_cons h2,Bha];by_cases e:a[i]=b[i]
   ·simp only[e,if_true,decide_true,Zt1,Ag];simp only[show i+1+com (a.drop (i+1)) (b.drop (i+1))=i+(com (a.drop (i+1)) (b.drop (i+1))+1) by omega] at ih;exact ih
   ·have e2:¬(((a[i]).toNat:Int)=((b[i]).toNat:Int)):=λh=>e (UInt8.toNat_inj.1 (by omega));simp only[e,if_false,e2,decide_false,Zs1,Af,Nat.add_zero];exact⟨λ_=>by trivial,λh=>by omega⟩
  ·have e:i=m:=by omega
   subst e;have c1:decide ((i:Int)<(i:Int))=false:=Zd1 (by omega);simp only[Xe,c1,Ag];exact⟨λh=>by omega,λ_=>by trivial⟩
theorem Awd(a b:Nat):min2 (a:Int) (b:Int)=((min a b:Nat):Int):=by unfold min2;split<;>omega
theorem Btv{a b:Str}{k:Nat}(ha:a.length<=1900)(hb:b.length<=1900)(hk : 1900<k):Ue k (a,b)=some (com a b:Int):=by
 have hc:=Buc a b;have:=Aoa (kx:=λe vz=>match vz with|(v5,v6,v7,_,_)=>match e with
  |.ret=>some v7
  |.exit 0=>some (min2 (v5.length:Int) (v6.length:Int))
  |_=>none) (a:=a) (b:=b) (by omega) (by omega) rfl k 0 0 (by omega) (by omega)
 rw[Zq1,Zq1,Nat.zero_add] at this;unfold Ue;simp only;rw[Awd a.length b.length];rcases Nat.lt_or_ge (com a b) (min a.length b.length) with h|h
 ·exact this.1 h
 ·have e:com a b=min a.length b.length:=by omega
  refine(this.2 e).trans ?_;simp only[Awd,e]
theorem At8{a b:Str}(ha:a.length<=1900)(hb:b.length<=1900):Bqp a b=some (com a b:Int):=Btv ha hb (by omega)
def Afk(a b:Str):Int:=if a<b then -1 else if a=b then 0 else 1
theorem Bmd(s:Str){a b:Str}:s++a<s++b↔a<b:=by induction s with|nil=>rfl|cons x s ih=>simp[List.cons_lt_cons_iff,ih]
theorem Aa5{a b:Str}(ha:a.length<=1900)(hb:b.length<=1900):A3a a b=some (Afk a b):=by
 have hs:=Ft a b;have hn :=@Gj a b;have hc:com a b=(B6 a b).1.length:=rfl;simp only[A3a,Abd,At8 ha hb,Zc1,hc];generalize B6 a b=z at hs hn;obtain⟨s,a',b'⟩:=z;simp only at hs hn;obtain⟨rfl,rfl⟩:=hs;simp only[Zh1,Afk,Bmd,X8];cases a' with
 |nil =>cases b' with|nil=>simp|cons y b' =>have c1:decide ((s.length:Int)=((s.length+([]:Str).length:Nat):Int))=true:=Ze1 (by simp);have c2:decide ((s.length:Int)=((s.length+(y::b').length:Nat):Int))=false:=Zd1 (by simp only[Zf1];omega);simp only[c1,c2,Ag,Af];simp
 |cons x a' =>
  have c1:decide ((s.length:Int)=((s.length+(x::a').length:Nat):Int))=false:=Zd1 (by simp;omega);cases b' with
  |nil =>have c2:decide ((s.length:Int)<((s.length+([]:Str).length:Nat):Int))=false:=Zd1 (by simp);simp only[c1,c2,Ag];simp
  |cons y b' =>
   have hne:=hn (x:=x) (y:=y) rfl rfl;have c2:decide ((s.length:Int)<((s.length+(y::b').length:Nat):Int))=true:=Ze1 (by simp;omega);have i1:s.length<(s++x::a').length:=by simp
   have i2:s.length<(s++y::b').length:=by simp
   have hlen:(s.length+(x::a').length)=(s++x::a').length:=by simp
   have hlen2:(s.length+(y::b').length)=(s++y::b').length:=by simp
   simp only[c1,c2,Ag,Af];rw[hlen,hlen2];simp only[As i1,As i2,chk,Af,Al (c :=.byte) i1,Al (c :=.byte) i2];rw[List.getElem_append_right (by omega),List.getElem_append_right (by omega)];simp only[Nat.sub_self,List.getElem_cons_zero,List.cons_lt_cons_iff];have hn2:x::a'≠y::b':=λe=>hne (List.cons.inj e).1;by_cases e:x<y
   ·have:=UInt8.lt_iff_toNat_lt.1 e;simp[e,show((x.toNat:Int)<(y.toNat:Int)) by omega]
   ·have h1:¬x.toNat<y.toNat:=λh=>e (UInt8.lt_iff_toNat_lt.2 h);simp[e,hne,show ¬((x.toNat:Int)<(y.toNat:Int)) by omega]
theorem At5(b a:Str):Bbi b a=some (A3 a b).isSome:=by
 simp only[Bbi,Aa8];cases h:A3 a b with
 |some r =>
  have:=Bi.1 h;subst this;have c1:decide ((a.length:Int)<=((a++r).length:Int))=true:=Ze1 (by simp only[Zh1];omega);have c2:upto 0 (a.length:Int) (a++r).length=true:=by simp only[upto,Zh1,Zb1,Zg1];omega
  simp only[c1,c2,Af,chk,beq];simp
 |none =>
  cases c:decide ((a.length:Int)<=(b.length:Int)) with
  |false=>rfl
  |true =>
   have c0:=of_decide_eq_true c;have c2:upto 0 (a.length:Int) b.length=true:=by simp[upto];omega
   simp only[c2,Af,chk,beq];have:¬b.take ((a.length:Int):Int).toNat=a:=λe=>by
    have:b=a++b.drop a.length:=by have h3:=List.take_append_drop a.length b;simp at e;rw[e] at h3;exact h3.symm
    rw[Bi.2 this] at h;cases h
   simp only[this,decide_false];rfl
theorem Nz(a:Int)(b:Str)(c:Bool)(d:Str)(e:List NodeS)(g:Str):(NodeS.mk a b c d e g).kind=a:=rfl
theorem Aft(a:Int)(b:Str)(c:Bool)(d:Str)(e:List NodeS)(g:Str):(NodeS.mk a b c d e g).path=b:=rfl
theorem Ayj(a:Int)(b:Str)(c:Bool)(d:Str)(e:List NodeS)(g:Str):(NodeS.mk a b c d e g).has=c:=rfl
theorem Axw(a:Int)(b:Str)(c:Bool)(d:Str)(e:List NodeS)(g:Str):(NodeS.mk a b c d e g).val=d:=rfl
theorem Ia(a:Int)(b:Str)(c:Bool)(d:Str)(e:List NodeS)(g:Str):(NodeS.mk a b c d e g).kids=e:=rfl
theorem Bsz(a:Int)(b:Str)(c:Bool)(d:Str)(e:List NodeS)(g:Str):(NodeS.mk a b c d e g).hash=g:=rfl
def T.node:T->NodeS
 |.no=>NodeS.mk 0 [] false [] [] []
 |.lf p v=>NodeS.mk 1 p false v [] []
 |.way p k=>NodeS.mk 2 p false [] [k.node] []
 |.br o k=>NodeS.mk 3 [] o.isSome (o.getD []) ((List.range 16).map λi=>(k i).node) []
def A5(k:Nat->T):List NodeS:=(List.range 16).map λi=>(k i).node
theorem Ca(k:Nat->T):(A5 k).length=16:=by simp[A5]
theorem La{k:Nat->T}{i:Nat}(h:i<(A5 k).length):(A5 k)[i]=(k i).node:=by simp[A5]
theorem Np(o:Option Str)(k:Nat->T):(T.br o k).node=NodeS.mk 3 [] o.isSome (o.getD []) (A5 k) []:=rfl
theorem L9{k:Nat->T}{i:Nat}{t:T}:(A5 k).set i t.node=A5 (upd k i t):=by
 refine List.ext_getElem (by simp[A5]) λj h1 h2 =>?_;rw[La,List.getElem_set];split
 ·rename_i e;subst e;rw[Hw]
 ·rename_i e;rw[K4 (Ne.symm e),La]
theorem Pp:List.replicate (16:Int).toNat (zer .node)=A5 nos:=rfl
theorem Bnz(t:T):decide (t.node.kind=0)=t.isNo:=by cases t<;>rfl
theorem Arw{t:T}{d:Nat}(h:t.Wf d):hv t.node.path/\t.node.path.length<=400:=by cases t with|no=>exact⟨Xk,by simp[T.node,NodeS.path]⟩|lf p v=>exact⟨h.1,by have:=h.2.1;simp only[T.node,NodeS.path];omega⟩|way p k=>exact⟨h.1,by have:=Wf.le h.2.2.2;simp only[T.node,NodeS.path];omega⟩|br o k=>exact⟨Xk,by simp[T.node,NodeS.path]⟩
theorem Ass{t:T}{d:Nat}(h:t.Wf d):t.node.val.length<=4000:=by
 cases t with
 |no=>simp[T.node,NodeS.val]
 |lf p v=>exact h.2.2.2
 |way p k=>simp[T.node,NodeS.val]
 |br o k=>cases o with|none=>simp[T.node,NodeS.val]|some v=>exact(h.2.1 v rfl).2
theorem Akx{R:Type}{kx:Ex->Uv->Option R}{b:Str}(hb:b.length<=100000)(h:hv b):∀(k i:Nat) (z:Int),i<=b.length->b.length-i<k ->
  Aj (λrec=>S7 rec kx) k (b,z,(b.length:Int),(i:Int))=kx (.exit 0) (b,z,(b.length:Int),(b.length:Int))
 |0,_,_,_,h=>by omega
 |k+1,i,z,hi,hk=>by
  rw[Ay];by_cases hl:i<b.length
  ·have c1:decide ((i:Int)<(b.length:Int))=true:=Ze1 (by omega);have:=h b[i] (List.getElem_mem hl);have c2:decide (15<((b[i]).toNat:Int))=false:=Zd1 (by omega);simp only[S7,c1,Af,As hl,chk,Al (c :=.byte) hl,c2,Ag,An hl (show ln b.length by simp[ln];omega)];exact Akx hb h k (i+1) z (by omega) (by omega)
  ·have e:i=b.length:=by omega
   subst e;have c1:decide ((b.length:Int)<(b.length:Int))=false:=Zd1 (by omega);simp only[S7,c1,Ag]
theorem Bic{b:Str}(hb:b.length<=1900)(h:hv b):A6r b=some true:=by
 have:=Akx (kx:=λe vz=>match vz with|(_,v5,_,_)=>match e with
  |.ret=>some (!(decide (0<=v5)))
  |.exit 0=>some true
  |_=>none) (by omega) h 2000 0 0 (by omega) (by omega)
 simp only[A6r,Vk];exact this
theorem Ap1{d:Nat}(h:d<=400)(h2:d % 2=0):Wb (d:Int) true=true:=by have c1:decide ((d:Int)<=400)=true:=Ze1 (by omega);have c2:decide (Int.tmod (d:Int) 2=0)=true:=Ze1 (by rw[Int.tmod_eq_emod_of_nonneg (by omega)];omega);simp only[Wb,c1,c2,Af,Zt1,Ag]
def cnt(k:Nat->T)(i:Nat):Nat:=((List.range 16).drop i).countP λi => !(k i).isNo
theorem Br2{k:Nat->T}{i:Nat}(h:i<16):cnt k i=(if(k i).isNo then 0 else 1)+cnt k (i+1):=by unfold cnt;rw[List.drop_eq_getElem_cons (show i<(List.range 16).length by simpa using h),List.countP_cons];simp only[List.getElem_range];cases (k i).isNo<;>simp<;>omega
theorem Brv(k:Nat->T):cnt k 16=0:=by unfold cnt;rw[show(List.range 16).drop 16=[] from rfl];rfl
theorem Nc{R:Type}{rf:FT [.sv .node,.int .i64,.bool] [.bool]}{kx:Ex->J9->Option R}{k:Nat->T}{d:Nat}(hd:d<=1000)(hrf:∀i,i<16->rf ((k i).node,((d+1:Nat):Int),true)=some true):∀(m i c:Nat),i<=16->16-i<m->c<=1000+i ->
  Aj (λrec=>I4 rf rec kx) m ((d:Int),true,(c:Int),true,A5 k,((A5 k).length:Int),(i:Int))=kx (.exit 0) ((d:Int),true,((c+cnt k i:Nat):Int),true,A5 k,((A5 k).length:Int),((A5 k).length:Int))
 |0,_,_,_,h,_=>by omega
 |m+1,i,c,hi,hm,hc=>by
  rw[Ay];have hkl:=Ca k;by_cases h:i<16
  ·have c1:decide ((i:Int)<((A5 k).length:Int))=true:=Ze1 (by omega);have h':i<(A5 k).length:=by omega
   have w1:wr .i64 ((d:Int)+1)=((d+1:Nat):Int):=by rw[B3 (by simp only[inI];omega)];omega
   have w2:wr .i64 ((c:Int)+1)=((c+1:Nat):Int):=by rw[B3 (by simp only[inI];omega)];omega
   have w3:wr .i64 ((i:Int)+1)=((i+1:Nat):Int):=by rw[B3 (by simp only[inI];omega)];omega
   simp only[I4,c1,Af,As h',chk,Al (c :=.node) h',La,w1,w2,w3,hrf i h,Zc1,Zt1,Ag,Bnz];cases hn:(k i).isNo with|true =>simp only[Zt1,Ag];rw[Nc hd hrf m (i+1) c (by omega) (by omega) (by omega),Br2 h,hn];simp|false =>simp only[Zs1,Af];rw[Nc hd hrf m (i+1) (c+1) (by omega) (by omega) (by omega),Br2 h,hn];simp[Nat.add_assoc]
  ·have e:i=16:=by omega
   subst e;have c1:decide (((16:Nat):Int)<((A5 k).length:Int))=false:=Zd1 (by omega);simp only[I4,c1,Ag,Brv,Nat.add_zero];rw[hkl]
theorem Abt:∀(f:Nat) (t:T) (d:Nat),t.Wf d->401<=f+d->Aj (Fs 100) f (t.node,(d:Int),true)=some true
 |0,t,d,h,hf=>by have:=Wf.le h;omega
 |f+1,t,d,h,hf=>by
  rw[Ay];have hle:=Wf.le h;have hp:=Arw h;have hv1:=Ass h;have c1:decide (400<(d:Int))=false:=Zd1 (by omega);have c2:decide (4000<(t.node.val.length:Int))=false:=Zd1 (by omega);have c3:=Bic (b:=t.node.path) (by omega) hp.1;simp only[Fs,c1,c2,c3,Ag,Zc1,Zt1];cases t with
  |no=>rfl
  |lf p v =>
   have w:wr .i64 ((d:Int)+(p.length:Int))=((d+p.length:Nat):Int):=by have:=h.2.1;rw[B3 (by simp only[inI];omega)];omega
   simp only[T.node,Nz,Aft,w,Ap1 h.2.1 h.2.2.1];rfl
  |way p k =>
   have h4:=Wf.le h.2.2.2;have w:wr .i64 ((d:Int)+(p.length:Int))=((d+p.length:Nat):Int):=by rw[B3 (by simp only[inI];omega)];omega
   have hp0 : 0<p.length:=List.length_pos_iff.2 h.2.1;have c4:¬((p.length:Int)=0):=by omega
   have ih:=Abt f k (d+p.length) h.2.2.2 (by omega);have hk:decide (k.node.kind=3)=true:=by cases k with|br o k=>rfl|_=>cases h.2.2.1
   have c5:at' .node [k.node] 0=k.node:=rfl;have c6:inb 0 [k.node].length=true:=rfl;have c7:Kv (NodeS.mk 2 p false [] [k.node] []) true false true false=some true:=rfl;simp only[T.node,Nz,Aft,Ia,w,c4,c5,c6,c7,chk,hk,ih,Zc1,show ¬((2:Int)=0) by omega,show ¬((2:Int)=1) by omega,show ¬((2:Int)=4) by omega,decide_false,decide_true,Ag,Af,Zt1];rfl
  |br o k =>
   have h1:=h.1;have hl:=λc hc=>Nc (rf:=Aj (Fs 100) f) (kx:=λe vz=>match vz with|(_,_,v9,a,_,_,_)=>match e with
         |.exit 0 =>
         cond (a) (
          some (decide (2<=v9))) (
          some false)
         |_=>none) (k:=k) (d:=d) (by omega) (λi hi=>Abt f (k i) (d+1) (h.2.2.2 i hi) (by omega)) 100 0 c (by omega) (by omega) hc
   have hm:=h.2.2.1;have c4:decide ((((A5 k).length:Nat):Int)=16)=true:=Ze1 (by rw[Ca];rfl);have hc0:cnt k 0=(List.range 16).countP λi => !(k i).isNo:=rfl;cases o with
   |none =>have c5:Kv (NodeS.mk 3 [] false [] (A5 k) []) false false true false=some true:=rfl;have hl:=hl 0 (by omega);simp only[Np,Nz,Ayj,Ia,Option.isSome_none,Option.getD_none,c5,c4,Zc1,Zt1,Zs1,Af,Ag,decide_false,show ¬((3:Int)=0) by omega,show ¬((3:Int)=1) by omega,show ¬((3:Int)=4) by omega,show ¬((3:Int)=2) by omega,decide_true];refine hl.trans ?_;have:decide ((2:Int)<=((0+cnt k 0:Nat):Int))=true:=Ze1 (by rw[hc0];unfold Ams at hm;simp only[Option.isSome_none] at hm;simp at hm ⊢;omega);simp only[Af,this]
   |some v =>
    have c5:Kv (NodeS.mk 3 [] true v (A5 k) []) false true true false=some true:=by have:decide ((3:Int)=3)=true:=rfl;simp[Kv,Ps,Aft,Ia,Bsz,Ayj,Nz]
    have hl:=hl 1 (by omega);have he:=h.2.1 v rfl;simp only[Np,Nz,Ayj,Ia,Option.isSome_some,Option.getD_some,c5,c4,Zc1,Zt1,Zs1,Af,Ag,decide_false,show ¬((3:Int)=0) by omega,show ¬((3:Int)=1) by omega,show ¬((3:Int)=4) by omega,show ¬((3:Int)=2) by omega,decide_true,Ap1 hle he.1];refine hl.trans ?_;have:decide ((2:Int)<=((1+cnt k 0:Nat):Int))=true:=Ze1 (by rw[hc0];unfold Ams at hm;simp only[Option.isSome_some,if_true] at hm;omega);simp only[Af,this]
theorem Wt{t:T}(h:t.Wf 0):M6 t.node=some 0:=by have:=Abt 500 t 0 h (by omega);simp only[M6,M4,At3,show Aj (Fs 100) 500 (t.node,0,true)=some true from this,Zc1];rfl
theorem Dn{s:Str}(h:s.length<=2000000):Cb s=some s:=by simp only[Cb,Ze1 h,Af]
theorem R1{s:Str}(h:s.length<=2000000):Mw s=some s:=by simp only[Mw,Ze1 h,Af]
theorem Aec{R:Type}{rf:FT [.sv .node] [.sv .node]}{kx:Ex->M2->Option R}{l:List NodeS}(hl:l.length<=50)(hrf:∀x,x∈l->rf x=some x){w:Int}{w1:Str}{w2:Bool}{w3:Str}{w4:List NodeS}{w5:Str}{w6:Int}{w7:Str}{w8:Bool}{w9 w11:Str}:∀(m i:Nat) (acc:List NodeS),i<=l.length->l.length-i<m->acc.length<=i ->
  Aj (λrec=>Ly rf rec kx) m (l,(l.length:Int),(i:Int),w,w1,w2,w3,w4,w5,w6,w7,w8,w9,acc,w11)=kx (.exit 0) (l,(l.length:Int),(l.length:Int),w,w1,w2,w3,w4,w5,w6,w7,w8,w9,acc++l.drop i,w11)
 |0,_,_,_,h,_=>by omega
 |m+1,i,acc,hi,hm,ha=>by
  rw[Ay];by_cases h:i<l.length
  ·have c1:decide ((i:Int)<(l.length:Int))=true:=Ze1 (by omega);have c2:decide (acc.length+1<=Ah)=true:=Ze1 (by simp only[Ah];omega);simp only[Ly,c1,Af,As h,chk,Al (c :=.node) h,hrf _ (List.getElem_mem h),Zc1,c2,An h (show ln l.length by simp[ln];omega)];rw[Aec hl hrf m (i+1) (acc++[l[i]]) (by omega) (by omega) (by simp;omega),List.drop_eq_getElem_cons h,Zj1];rfl
  ·have e:i=l.length:=by omega
   subst e;have c1:decide ((l.length:Int)<(l.length:Int))=false:=Zd1 (by omega);simp only[Ly,c1,Ag,Zc2,List.append_nil]
theorem Ahp:∀(f:Nat) (t:T) (d:Nat),t.Wf d->401<=f+d->Aj (Gp 100) f t.node=some t.node
 |0,t,d,h,hf=>by have:=Wf.le h;omega
 |f+1,t,d,h,hf=>by
  rw[Ay];have hp:=Arw h;have hv1:=Ass h;have h3:t.node.hash=[]:=by cases t<;>rfl
  have hk:t.node.kids.length<=50/\∀x,x∈t.node.kids->Aj (Gp 100) f x=some x:=by
   cases t with
   |no=>exact⟨by simp[T.node,Ia],λx hx=>by cases hx⟩
   |lf p v=>exact⟨by simp[T.node,Ia],λx hx=>by cases hx⟩
   |way p k =>
    have hp0 : 0<p.length:=List.length_pos_iff.2 h.2.1;refine⟨by simp[T.node,Ia],λx hx =>?_⟩;have:x=k.node:=by simpa[T.node,NodeS.kids] using hx
    rw[this];exact Ahp f k _ h.2.2.2 (by omega)
   |br o k =>refine⟨by simp[T.node,Ia],λx hx =>?_⟩;obtain⟨i,hi,rfl⟩:=List.mem_map.1 (show x∈(List.range 16).map λi=>(k i).node from hx);exact Ahp f (k i) _ (h.2.2.2 i (List.mem_range.1 hi)) (by omega)
  have hl:=Aec (rf:=Aj (Gp 100) f) (kx:=λe vz=>match vz with|(_,_,_,_,_,_,_,_,_,j,l,m,n,q,r)=>match e with
   |.exit 0 =>some (NodeS.mk j l m n q r)
   |_=>none) hk.1 hk.2 (w:=0) (w1:=[]) (w2:=false) (w3:=[]) (w4:=[]) (w5:=[]) (w6:=t.node.kind) (w7:=t.node.path) (w8:=t.node.has) (w9:=t.node.val) (w11:=[]) 100 0 [] (by omega) (by omega) (by simp)
  simp only[Gp,Dn (show t.node.path.length<=2000000 by omega),Dn (show t.node.val.length<=2000000 by omega),h3,Dn (show([]:Str).length<=2000000 by simp),Zc1];refine hl.trans ?_;simp only[Zq1,Zf2];cases h4:t.node with|mk a b c d e g=>rw[h4] at h3;simp only[Bsz] at h3;subst h3;rfl
theorem Am5{t:T}(h:t.Wf 0):Ai2 t.node=some t.node:=Ahp 500 t 0 h (by omega)
theorem Aac{a b:Str}(ha:a.length<=500000)(hb:b.length<=500000):Aue [a,b]=some (a++b):=by
 have d1:decide ((0:Int)<(([a,b].length:Nat):Int))=true:=rfl;have d2:decide ((1:Int)<(([a,b].length:Nat):Int))=true:=rfl;have d3:decide ((2:Int)<(([a,b].length:Nat):Int))=false:=rfl;have w1:wr .i64 (0+1)=1:=by decide
 have w2:wr .i64 (1+1)=2:=by decide
 have a0:at' .bytes [a,b] 0=a:=rfl;have a1:at' .bytes [a,b] 1=b:=rfl;have i0:inb 0 [a,b].length=true:=rfl;have i1:inb 1 [a,b].length=true:=rfl;have s1:wr .i64 (0+(a.length:Int))=(a.length:Int):=by rw[B3 (by simp only[inI];omega)];omega
 have s2:wr .i64 ((a.length:Int)+(b.length:Int))=((a.length+b.length:Nat):Int):=by rw[B3 (by simp only[inI];omega)];omega
 have p1:decide ((a.length:Int)<0)=false:=Zd1 (by omega);have p2:decide (((a.length+b.length:Nat):Int)<0)=false:=Zd1 (by omega);have q1:decide ((0:Int)<=((a.length+b.length:Nat):Int))=true:=Ze1 (by omega);have q2:decide (((a.length+b.length:Nat):Int)<=2000000)=true:=Ze1 (by omega);have m1:decide (([]:Str).length+a.length<=Ah)=true:=Ze1 (by simp only[Ah,Zi1];omega);have m2:decide (([]++a:Str).length+b.length<=Ah)=true:=Ze1 (by simp only[Ah,Zf2];omega);have go0:∀{R:Type}(kx:Ex->Aas->Option R),Aj (λrec=>V8 rec kx) 100 ([a,b],0,[a,b],(([a,b].length:Nat):Int),0)=kx (.exit 0) ([a,b],((a.length+b.length:Nat):Int),[a,b],(([a,b].length:Nat):Int),2):=λkx=>by rw[show(100:Nat)=97+1+1+1 from rfl,Ay];simp only[V8,d1,Af,i0,chk,a0,s1,p1,Ag,w1];rw[Ay];simp only[V8,d2,Af,i1,chk,a1,s2,p2,Ag,w2];rw[Ay];simp only[V8,d3,Ag]
 have go1:∀{R:Type}(kx:Ex->Z5->Option R),Aj (λrec=>V9 rec kx) 100 ([],[a,b],(([a,b].length:Nat):Int),0)=kx (.exit 2) ([]++a++b,[a,b],(([a,b].length:Nat):Int),2):=λkx=>by rw[show(100:Nat)=97+1+1+1 from rfl,Ay];simp only[V9,d1,Af,i0,chk,a0,m1,w1];rw[Ay];simp only[V9,d2,Af,i1,chk,a1,m2,w2];rw[Ay];simp only[V9,d3,Ag]
 simp only[Aue,Acd];rw[go0];simp only[q1,q2,Bool.and_true,chk,Af];rw[go1];simp
theorem A40:∀(f:Nat) (t:T) (d:Nat) (p w:Str),t.Wf d->hv p->w.length=d->d+p.length<=400->401<=f+d->∃u,Aj Ew f (t.node,p,w)=some (u,(t.look p).isSome,())/\∀v,t.look p=some v->u=v
 |0,t,d,p,w,h,_,_,_,hf=>by have:=Wf.le h;omega
 |f+1,t,d,p,w,h,hp,hw,hd,hf=>by
  rw[Ay];cases t with
  |no=>exact⟨[],rfl,λv e=>by cases e⟩
  |lf q v =>
   have hb:Cb v=some v:=Dn (by have:=h.2.2.2;omega);refine⟨v,?_,λu e =>?_⟩
   ·simp only[Ew,T.node,Nz,Aft,Axw,hb,Zc1,beq,T.look,show ¬((1:Int)=4) by omega,decide_false,decide_true,Ag,Af];by_cases e:q=p<;>simp[e]
   ·simp only[T.look] at e;split at e
    ·cases e;rfl
    ·cases e
  |way q k =>
   have h4:=Wf.le h.2.2.2;have hq0 : 0<q.length:=List.length_pos_iff.2 h.2.1;have ht:Ew (Aj Ew f) (T.node (.way q k),p,w)=cond (!(A3 p q).isSome&&false || !(A3 q p).isSome) (some ([],false,())) (chk (upto (q.length:Int) p.length p.length) ((Aue [w,q]).bind λx3=>(Aj Ew f (k.node,p.drop ((q.length:Int):Int).toNat,x3)).bind λz=>some (z.1,z.2.1,()))):=by simp only[Ew,T.node,Nz,Aft,Ia,At5,Zc1,show ¬((2:Int)=4) by omega,show ¬((2:Int)=1) by omega,decide_false,decide_true,Ag,Af,Bool.and_false,Bool.false_or];rfl
   rw[ht];simp only[T.look,Bool.and_false,Bool.false_or];cases hs:A3 q p with
   |none=>exact⟨[],rfl,λv e=>by cases e⟩
   |some r =>
    have e:=Bi.1 hs;subst e;have hpp:=E6.1 hp;simp only[Zh1] at hd;have c1:upto (q.length:Int) ((q++r).length:Int) (q++r).length=true:=by simp only[upto,Zh1,Zb1,Zg1];omega
    obtain⟨u,h1,h2⟩:=A40 f k (d+q.length) r (w++q) h.2.2.2 hpp.2 (by simp;omega) (by omega) (by omega);refine⟨u,?_,h2⟩;have e2:(q++r).drop ((q.length:Int):Int).toNat=r:=by simp
    simp only[Option.isSome_some,Zt1,Ag,c1,chk,Af,Aac (show w.length<=500000 by omega) (show q.length<=500000 by omega),Zc1,e2,h1]
  |br o k =>
   cases p with
   |nil =>have hb:Cb (o.getD [])=some (o.getD []):=Dn (by have:=Ass h;simp only[T.node,Axw] at this;omega);refine⟨o.getD [],?_,λv e=>by simp only[T.look] at e;rw[e];rfl⟩;simp only[Ew,Np,Nz,Axw,Ayj,hb,Zc1,T.look];rfl
   |cons x p =>
    have hx:=Dl.1 hp;simp only[Zf1] at hd;obtain⟨u,h1,h2⟩:=A40 f (k x.toNat) (d+1) p (w++[x]) (h.2.2.2 _ hx.1) hx.2 (by simp;omega) (by omega) (by omega);refine⟨u,?_,h2⟩;have c0:decide (((x::p).length:Int)=0)=false:=Zd1 (by simp only[Zf1];omega);have a0:at' .byte (x::p) 0=x:=rfl;have i0:inb 0 (x::p).length=true:=by simp[inb]
    have hk:x.toNat<(A5 k).length:=by rw[Ca];exact hx.1
    have u1:upto 1 ((x::p).length:Int) (x::p).length=true:=by simp only[upto,Zf1,Zb1,Zg1];omega
    have u2:upto 0 1 (x::p).length=true:=by simp only[upto,Zf1,Zb1,Zg1];omega
    have t1:(x::p).take (1:Int).toNat=[x]:=rfl;have t2:(x::p).drop (1:Int).toNat=p:=rfl;simp only[Ew,Np,Nz,Ia,T.look,show ¬((3:Int)=4) by omega,show ¬((3:Int)=1) by omega,show ¬((3:Int)=2) by omega,decide_false,decide_true,Ag,Af,c0,a0,i0,chk,As hk,u1,u2,t1,t2,Aac (show w.length<=500000 by omega) (show [x].length<=500000 by simp),Zc1,Al (c :=.node) hk,La,h1]
theorem Mj:(List.replicate (α:=NodeS) (16:Int).toNat (zer .node):List NodeS)=A5 nos:=rfl
theorem Lr: @List.replicate (El .node) (16:Int).toNat (zer .node)=A5 nos:=rfl
theorem Qn{p v:Str}(hp:p.length<=2000000)(hv:v.length<=2000000):Aai p v=some (T.lf p v).node:=by simp only[Aai,W5,R1 hp,Dn hv,Zc1,T.node]
theorem I9{p:Str}{t:T}(hp:p.length<=2000000):K3 p t.node=some (Lx p t).node:=by
 cases p with
 |nil=>rfl
 |cons x p =>
  have c:¬(((x::p).length:Int)=0):=by simp only[Zf1];omega
  simp only[K3,Qt,c,decide_false,Ag,R1 hp,Zc1,Lx,T.node]
theorem Adk(k:Nat->T):cut (A5 k) 0 16=A5 k:=by unfold cut;rw[show(0:Int).toNat=0 from rfl,Zq1,List.take_of_length_le (by rw[Ca];decide)]
theorem Ale(k:Nat->T):((16:Int)<=((A5 k).length:Int))=True:=by rw[Ca];exact eq_true (by decide)
theorem Alv:((0:Int)<=0)=True:=eq_true (by decide)
theorem Aiz:((0:Int)<=16)=True:=eq_true (by decide)
section
variable {x:UInt8}{a:Str}{k:Nat->T}
theorem A0n:at' .byte (x::a:Str) 0=x:=rfl
theorem Amc:at' .byte (x::a) 0=x:=rfl
theorem Az3:inb 0 (x::a).length=true:=by simp[inb]
theorem Aw9:upto 1 ((x::a).length:Int) (x::a).length=true:=by simp only[upto,Zf1,Zb1,Zg1];omega
theorem Bu0:upto 0 1 (x::a).length=true:=by simp only[upto,Zf1,Zb1,Zg1];omega
theorem Az8:(x::a).drop (1:Int).toNat=a:=rfl
theorem Bwa:(x::a).take (1:Int).toNat=[x]:=rfl
theorem Ay9(h:x.toNat<16):inO (x.toNat:Int) 16=true:=by simp only[inO,Zb1,Zg1];omega
theorem Au8(h:x.toNat<16):inb (0+(x.toNat:Int)) (A5 k).length=true:=by rw[Ca];simp only[inb,Zb1,Zg1];omega
theorem Bds:(0+(x.toNat:Int)).toNat=x.toNat:=by omega
theorem Bma:¬(((x::a).length:Int)=0):=by simp only[Zf1];omega
theorem Al1:(([]:Str).length:Int)=0:=rfl
end
theorem Abk(s a:Str):upto (s.length:Int) ((s++a).length:Int) (s++a).length=true:=by simp only[upto,Zh1,Zb1,Zg1];omega
theorem Z6(s a:Str):upto 0 (s.length:Int) (s++a).length=true:=by simp only[upto,Zh1,Zb1,Zg1];omega
theorem Ml(s a:Str):(s++a).drop ((s.length:Int):Int).toNat=a:=by simp
theorem Qd(s a:Str):(s++a).take ((s.length:Int):Int).toNat=s:=by simp
theorem Af9(v:Str)(k:Nat->T):NodeS.mk 3 [] true v (A5 k) []=(T.br (some v) k).node:=rfl
theorem A7f(k:Nat->T):NodeS.mk 3 [] false [] (A5 k) []=(T.br none k).node:=rfl
theorem Bcp{q u p v:Str}{d:Nat}(h:q≠p)(ht:(T.lf q u).Wf d)(hp:hv p)(hd:d+p.length<=400)(hl:v.length<=4000):Al2 (T.lf q u).node p v=some (Ym q u p v).node:=by
 have hs:=Ft q p;have hn :=@Gj q p;have hc:com q p=(B6 q p).1.length:=rfl;have h2:=ht.2.1;unfold Al2 Oa;dsimp only[El];simp only[T.node,Nz,Aft,Axw,At8 (show q.length<=1900 by omega) (show p.length<=1900 by omega),Zc1,hc,Ym];have hq:=ht.1;have hu:=ht.2.2.2;generalize B6 q p=z at hs hn;obtain⟨s,a,b⟩:=z;simp only at hs hn;obtain⟨rfl,rfl⟩:=hs;simp only[Zh1] at h2 hd;have ha:=(E6.1 hq).2;have hb:=(E6.1 hp).2;have bu:Cb u=some u:=Dn (by omega);have bv:Cb v=some v:=Dn (by omega);cases a with
 |nil =>cases b with|nil=>exact absurd rfl h|cons y b =>simp only[Zf1] at hd;have hy:=(Dl.1 hb).1;simp only[Abk,Z6,Ml,Qd,chk,Af,Ag,decide_true,decide_false,Al1,Bma,bu,Zc1,Az3,Aw9,Az8,A0n,Amc,Ay9 hy,Pp,Mj,Lr,Au8 hy,Bds,Qn (show b.length<=2000000 by omega) (show v.length<=2000000 by omega),L9,Ale,Alv,Aiz,decide_true,Bool.and_self,Adk,Af9,I9 (show s.length<=2000000 by omega),hold]
 |cons x a =>have hx:=(Dl.1 ha).1;simp only[Zf1] at h2;have l1:=Qn (show a.length<=2000000 by omega) (show u.length<=2000000 by omega);cases b with|nil =>simp only[Abk,Z6,Ml,Qd,chk,Af,Ag,decide_true,decide_false,Al1,Bma,bv,Zc1,Az3,Aw9,Az8,A0n,Amc,Ay9 hx,Pp,Mj,Lr,Au8 hx,Bds,l1,L9,Ale,Alv,Aiz,decide_true,Bool.and_self,Adk,Af9,I9 (show s.length<=2000000 by omega),hold]|cons y b =>have hy:=(Dl.1 hb).1;simp only[Zf1] at hd;simp only[Abk,Z6,Ml,Qd,chk,Af,Ag,decide_true,decide_false,Al1,Bma,Zc1,Az3,Aw9,Az8,A0n,Amc,Ay9 hx,Ay9 hy,Pp,Mj,Lr,Au8 hx,Au8 hy,Bds,l1,Qn (show b.length<=2000000 by omega) (show v.length<=2000000 by omega),L9,Ale,Alv,Aiz,decide_true,Bool.and_self,Adk,A7f,I9 (show s.length<=2000000 by omega),hold]
theorem Baa{q:Str}{k:T}{p v:Str}{d:Nat}(h:A3 q p=none)(ht:(T.way q k).Wf d)(hp:hv p)(hd:d+p.length<=400)(hl:v.length<=4000):Al2 (T.way q k).node p v=some (Xr q k p v).node:=by
 have hs:=Ft q p;have hn :=@Gj q p;have hc:com q p=(B6 q p).1.length:=rfl;have h2:=Wf.le ht.2.2.2;unfold Al2 Oa;dsimp only[El];simp only[T.node,Nz,Aft,Ia,At8 (show q.length<=1900 by omega) (show p.length<=1900 by omega),Zc1,hc,Xr];have hq:=ht.1;generalize B6 q p=z at hs hn;obtain⟨s,a,b⟩:=z;simp only at hs hn;obtain⟨rfl,rfl⟩:=hs;simp only[Zh1] at h2 hd;have ha:=(E6.1 hq).2;have hb:=(E6.1 hp).2;have bv:Cb v=some v:=Dn (by omega);cases a with
 |nil=>simp[Fj] at h
 |cons x a =>
  have hx:=(Dl.1 ha).1;simp only[Zf1] at h2;have i1:s.length<(s++x::a).length:=by simp
  have g1:(s++x::a)[s.length]'i1=x:=by rw[List.getElem_append_right (by omega)];simp
  have w1:wr .i64 ((s.length:Int)+1)=((s.length+1:Nat):Int):=by rw[B3 (by simp only[inI];omega)];omega
  have u1:upto ((s.length+1:Nat):Int) ((s++x::a).length:Int) (s++x::a).length=true:=by simp only[upto,Zh1,Zf1,Zb1,Zg1];omega
  have d1:(s++x::a).drop (((s.length+1:Nat):Int):Int).toNat=a:=by rw[Int.toNat_natCast,show s++x::a=(s++[x])++a by simp,List.drop_left' (by simp)]
  have k0:at' .node [k.node] 0=k.node:=rfl;have k1:inb 0 [k.node].length=true:=rfl;have t1:=I9 (t:=k) (show a.length<=2000000 by omega);have e2:¬((2:Int)=1):=by omega
  cases b with|nil =>simp only[e2,decide_false,Ag,As i1,chk,Af,w1,u1,k1,d1,k0,t1,Zc1,Al (c :=.byte) i1,g1,Ay9 hx,Pp,Mj,Lr,Au8 hx,Abk,Z6,Ml,Qd,Al1,decide_true,bv,Bds,L9,Ale,Alv,Aiz,decide_true,Bool.and_self,Adk,Af9,I9 (show s.length<=2000000 by omega),hold]|cons y b =>have hy:=(Dl.1 hb).1;simp only[Zf1] at hd;simp only[e2,decide_false,Ag,As i1,chk,Af,w1,u1,k1,d1,k0,t1,Zc1,Al (c :=.byte) i1,g1,Ay9 hx,Ay9 hy,Pp,Mj,Lr,Au8 hx,Au8 hy,Abk,Z6,Ml,Qd,Bma,Az3,Aw9,Az8,A0n,Amc,Bds,Qn (show b.length<=2000000 by omega) (show v.length<=2000000 by omega),L9,Ale,Alv,Aiz,decide_true,Bool.and_self,Adk,A7f,I9 (show s.length<=2000000 by omega),hold]
theorem A5j:∀(f:Nat) (t:T) (d:Nat) (p v w:Str),t.Wf d->hv p->w.length=d->d+p.length<=400->v.length<=4000->401<=f+d->Aj H2 f (t.node,p,v,w)=some ((t.put p v).node,())
 |0,t,d,p,v,w,h,_,_,_,_,hf=>by have:=Wf.le h;omega
 |f+1,t,d,p,v,w,h,hp,hw,hd,hl,hf=>by
  rw[Ay];have lf:=Qn (show p.length<=2000000 by omega) (show v.length<=2000000 by omega);cases t with
  |no =>simp only[H2,T.node,Nz,show ¬((0:Int)=4) by omega,decide_false,decide_true,Ag,Af,lf,Zc1,T.put]
  |lf q u =>
   simp only[H2,show((T.lf q u).node).kind=1 from rfl,show((T.lf q u).node).path=q from rfl,show ¬((1:Int)=4) by omega,show ¬((1:Int)=0) by omega,decide_false,decide_true,Ag,Af,T.put,beq,lf,Zc1];by_cases e:q=p
   ·simp only[e,decide_true,Af,if_true]
   ·simp only[e,decide_false,Ag,if_false,Bcp e h hp hd hl,Zc1]
  |way q k =>have h4:=Wf.le h.2.2.2;have hq0 : 0<q.length:=List.length_pos_iff.2 h.2.1;have k0:at' .node [k.node] 0=k.node:=rfl;have k1:inb 0 [k.node].length=true:=rfl;simp only[H2,show((T.way q k).node).kind=2 from rfl,show((T.way q k).node).path=q from rfl,show((T.way q k).node).kids=[k.node] from rfl,show((T.way q k).node).has=false from rfl,show((T.way q k).node).val=[] from rfl,show((T.way q k).node).hash=[] from rfl,show ¬((2:Int)=4) by omega,show ¬((2:Int)=0) by omega,show ¬((2:Int)=1) by omega,decide_false,decide_true,Ag,Af,T.put,At5,Zc1,k0,k1,chk];cases hs:A3 q p with|none=>simp only[Option.isSome_none,Zs1,Af,Baa hs h hp hd hl,Zc1]|some r =>have e:=Bi.1 hs;subst e;have hpp:=E6.1 hp;simp only[Zh1] at hd;have ih:=A5j f k (d+q.length) r v (w++q) h.2.2.2 hpp.2 (by simp;omega) (by omega) hl (by omega);simp only[Option.isSome_some,Zt1,Ag,Abk,Af,Aac (show w.length<=500000 by omega) (show q.length<=500000 by omega),Zc1,Ml,ih,T.node]
  |br o k =>
   have hk1:(A5 k).length<=2000000:=by rw[Ca];omega
   have hk2:List.isEmpty (A5 k)=false:=rfl;have hk3:∀k':Nat->T,cut (A5 k') 0 (0+((A5 k).length:Int))=A5 k':=λk'=>by rw[Ca];exact Adk k'
   have hk4:(0:Int)<=((A5 k).length:Int):=by rw[Ca];decide
   have hk5:∀k':Nat->T,(0+((A5 k).length:Int))<=((A5 k').length:Int):=λk'=>by rw[Ca,Ca];decide
   simp only[H2,Np,Nz,Aft,Ayj,Axw,Ia,Bsz,show ¬((3:Int)=4) by omega,show ¬((3:Int)=0) by omega,show ¬((3:Int)=1) by omega,show ¬((3:Int)=2) by omega,decide_false,decide_true,Ag,hk1,chk,Af,hk2];cases p with
   |nil =>simp only[Al1,decide_true,Af,Dn (show v.length<=2000000 by omega),Zc1,hk3,hk4,hk5,Alv,decide_true,Bool.and_self,Af,T.put,Af9]
   |cons x p =>
    have hx:=Dl.1 hp;simp only[Zf1] at hd;have ih:=A5j f (k x.toNat) (d+1) p v (w++[x]) (h.2.2.2 _ hx.1) hx.2 (by simp;omega) (by omega) hl (by omega);have ho:inO (x.toNat:Int) ((A5 k).length:Int)=true:=by rw[Ca];exact Ay9 hx.1
    have hat:at' .node (A5 k) (0+(x.toNat:Int))=(k x.toNat).node:=by
     have hlt:x.toNat<(A5 k).length:=by rw[Ca];exact hx.1
     rw[Int.zero_add,Al (c :=.node) hlt,La]
    simp only[Bma,decide_false,Ag,Az3,Af,A0n,Amc,ho,Au8 hx.1,Aw9,Bu0,Bwa,Az8,Aac (show w.length<=500000 by omega) (show [x].length<=500000 by simp),Zc1,hat,ih,Bds,L9,hk3,hk4,hk5,Alv,decide_true,Bool.and_self,Af,T.put,Np]
theorem Aq2{t:T}{k v:Str}(h:t.Wf 0)(hk:k.length<=200)(hv:v.length<=4000):Ahw t.node k v=some true:=by have c1:decide ((k.length:Int)<=200)=true:=Ze1 (by omega);have c2:decide ((v.length:Int)<=4000)=true:=Ze1 (by omega);simp only[Ahw,Qm,Wt h,Zc1,decide_true,Af,c1,c2]
theorem Bof{t:T}{k:Str}(h:t.Wf 0)(hk:k.length<=200):Bri t.node k=some ((t.look (nib k)).getD [],(t.look (nib k)).isSome,(),0):=by have hn:=G1 k;obtain⟨u,h1,h2⟩:=A40 500 t 0 (nib k) [] h (Acx k) rfl (by omega) (by omega);have h1:Bu5 t.node (nib k) []=some (u,(t.look (nib k)).isSome,()):=h1;simp only[Bri,Ack,Aq2 h hk (show([]:Str).length<=4000 by simp),Auo (show k.length<=1900 by omega),Zc1,Zt1,Ag,h1];cases e:t.look (nib k) with|none=>rfl|some v=>rw[h2 v e];rfl
theorem Bpl{t:T}{k v:Str}(h:t.Wf 0)(hk:k.length<=200)(hv:v.length<=4000):Bo5 t.node k v=some ((t.put (nib k) v).node,(),0):=by have hn:=G1 k;have h1:Bt3 t.node (nib k) v []=some ((t.put (nib k) v).node,()):=A5j 500 t 0 (nib k) v [] h (Acx k) rfl (by omega) hv (by omega);simp only[Bo5,Abz,Aq2 h hk hv,Am5 h,Auo (show k.length<=1900 by omega),Zc1,Zt1,Ag,h1]
theorem Bk9{t:T}{k v:Str}(h:t.Wf 0)(hk:k.length<=200)(hv:v.length<=4000):(t.put (nib k) v).Wf 0:=(A4s h (Acx k) (by have:=G1 k;omega) (by have:=G1 k;omega) hv).1
def Afm(s:SpanS)(q:Str):Bool:=decide (0<=Afk q s.low)&&(s.op||decide (Afk q s.high<0))
def Ac1(s:SpanS)(w:Str):Bool:=(decide (0<=Afk w s.low)||(A3 w s.low).isSome)&&(s.op||decide (Afk (if w.length % 2=1 then w++[0] else w) s.high<0))
theorem Ar6{a b:Str}:Afk a b<0↔a<b:=by
 unfold Afk;split
 ·simp_all
 ·split<;>simp_all
theorem A2h{a b:Str} : 0<=Afk a b↔¬a<b:=by rw[<-Ar6];omega
theorem Bf7{s:SpanS}{w:Str}(hw:w.length<=1900)(h1:s.low.length<=1900)(h2:s.high.length<=1900):Ayd s w=some (Afm s w):=by simp only[Ayd,Vt,Aa5 hw h1,Aa5 hw h2,Zc1,Afm];cases decide (0<=Afk w s.low)<;>cases s.op<;>rfl
theorem A33{s:SpanS}{w:Str}(hw:w.length<=1800)(h1:s.low.length<=1900)(h2:s.high.length<=1900):Afv s w=some (Ac1 s w):=by
 have c3:decide (w.length+1<=Ah)=true:=Ze1 (by simp only[Ah];omega);have hz:UInt8.ofNat (0:Int).toNat=0:=rfl;simp only[Afv,Nf,Aa5 (show w.length<=1900 by omega) h1,At5,R1 (show w.length<=2000000 by omega),Aa5 (show(w++[0]).length<=1900 by simp;omega) h2,Aa5 (show w.length<=1900 by omega) h2,Zc1,Ac1,c3,chk,Af,hz];have e:decide (Int.tmod (w.length:Int) 2=1)=decide (w.length % 2=1):=by
  rw[Int.tmod_eq_emod_of_nonneg (by omega)];by_cases h:w.length % 2=1
  ·rw[Ze1 h,Ze1 (by omega)]
  ·rw[Zd1 h,Zd1 (by omega)]
 rw[e];by_cases h:w.length % 2=1
 ·simp only[h,decide_true,Af,if_true];cases decide (0<=Afk w s.low)<;>cases (A3 w s.low).isSome<;>cases s.op<;>rfl
 ·simp only[h,decide_false,Ag,if_false];cases decide (0<=Afk w s.low)<;>cases (A3 w s.low).isSome<;>cases s.op<;>rfl
theorem Bm9:∀{w l:Str},w<l->(A3 w l).isSome=true\/∀r,w++r<l
 |[],l,_ =>.inl (by simp[A3])
 |x::w,[],h=>absurd h (List.not_lt_nil _)
 |x::w,y::l,h=>by
  rcases List.cons_lt_cons_iff.1 h with h1|⟨e,h1⟩
  ·exact .inr λr=>List.cons_lt_cons_iff.2 (.inl h1)
  ·rcases Bm9 h1 with h2|h2
   ·exact .inl (by simpa[A3,e] using h2)
   ·exact .inr λr=>List.cons_lt_cons_iff.2 (.inr ⟨e,h2 r⟩)
theorem Bgq:∀{w r h:Str},w++r<h->w<h
 |[],_,[],h=>absurd h (List.not_lt_nil _)
 |[],_,y::h,_=>List.nil_lt_cons y h
 |x::w,_,[],h=>absurd h (List.not_lt_nil _)
 |x::w,r,y::h,hl=>by
  rcases List.cons_lt_cons_iff.1 hl with h1|⟨rfl,h1⟩
  ·exact List.cons_lt_cons_iff.2 (.inl h1)
  ·exact List.cons_lt_cons_iff.2 (.inr ⟨rfl,Bgq h1⟩)
theorem Lk{x y:UInt8}:x<y↔x.toNat<y.toNat:=UInt8.lt_iff_toNat_lt
theorem A54:∀{w r h:Str}{x:UInt8},w++x::r<h->w++[0]<h
 |[],_,[],_,h=>absurd h (List.not_lt_nil _)
 |[],r,y::h,x,hl=>by
  rcases List.cons_lt_cons_iff.1 hl with h1|⟨rfl,h1⟩
  ·refine List.cons_lt_cons_iff.2 (.inl ?_);rw[Lk] at *;have:(0:UInt8).toNat=0:=rfl;omega
  ·by_cases e:x=0
   ·subst e;refine List.cons_lt_cons_iff.2 (.inr ⟨rfl,?_⟩);cases h with|nil=>exact absurd h1 (List.not_lt_nil _)|cons z h=>exact List.nil_lt_cons z h
   ·refine List.cons_lt_cons_iff.2 (.inl ?_);rw[Lk];have:(0:UInt8).toNat=0:=rfl;have:x.toNat≠0:=λh=>e (UInt8.toNat_inj.1 h);omega
 |x::w,_,[],_,h=>absurd h (List.not_lt_nil _)
 |x::w,r,y::h,z,hl=>by
  rcases List.cons_lt_cons_iff.1 hl with h1|⟨rfl,h1⟩
  ·exact List.cons_lt_cons_iff.2 (.inl h1)
  ·exact List.cons_lt_cons_iff.2 (.inr ⟨rfl,A54 h1⟩)
theorem Bmf{s:SpanS}{w r:Str}(he:(w++r).length % 2=0)(h:Afm s (w++r)=true):Ac1 s w=true:=by
 simp only[Afm,Zb1,Zd2,Zg1,Ar6,A2h] at h;simp only[Ac1,Zb1,Zd2,Zg1,Ar6,A2h];refine⟨?_,?_⟩
 ·by_cases e:w<s.low
  ·rcases Bm9 e with h1|h1
   ·exact .inr h1
   ·exact absurd (h1 r) h.1
  ·exact .inl e
 ·rcases h.2 with h2|h2
  ·exact .inl h2
  ·right;split
   ·rename_i ho;cases r with|nil=>simp at he;omega|cons x r=>exact A54 h2
   ·exact Bgq h2
def Ih:Str->Str
 |x::y::l=>UInt8.ofNat (x.toNat*16+y.toNat)::Ih l
 |_=>[]
theorem Jc:∀b:Str,Ih (nib b)=b
 |[]=>rfl
 |x::b=>by have:=x.toNat_lt;rw[H7];simp only[Ahs,Zb2,Zf2,Ih,Jc b,UInt8.toNat_ofNat',Ze2,and_true];rw[show x.toNat / 16 % 2 ^ 8*16+x.toNat % 16 % 2 ^ 8=x.toNat by omega];simp
theorem Adu:∀{q:Str},hv q->q.length % 2=0->nib (Ih q)=q
 |[],_,_=>rfl
 |[_],_,h=>by simp at h
 |x::y::q,h,he=>by
  have h1:=Dl.1 h;have h2:=Dl.1 h1.2;have hx:=h1.1;have hy:=h2.1;simp only[Ih,H7,Adu h2.2 (by simp at he;omega),Ahs,UInt8.toNat_ofNat',Zb2,Zf2,Ze2,and_true];constructor
  ·apply UInt8.toNat_inj.1;simp only[UInt8.toNat_ofNat'];omega
  ·apply UInt8.toNat_inj.1;simp only[UInt8.toNat_ofNat'];omega
theorem Aqb:∀q:Str,(Ih q).length<=q.length
 |[]=>by simp[Ih]
 |[_]=>by simp[Ih]
 |x::y::q=>by have:=Aqb q;simp only[Ih,Zf1];omega
theorem Apn{q:Str}(h:hv q)(he:q.length % 2=0)(hl:q.length<=800):Acw q=some (Ih q,0):=by have:=Ba7 (b:=Ih q) (by have:=Aqb q;omega);rwa[Adu h he] at this
def Et(s:SpanS)(t:T)(w:Str):List KvS:=((t.items w).filter λx=>Afm s x.1).map λx=>KvS.mk (Ih x.1) x.2
theorem Bjd(s:SpanS)(o:Option Str)(k:Nat->T)(w:Str):Et s (.br o k) w=(match o with|some v=>if Afm s w then [KvS.mk (Ih w) v] else []|none=>[])++(List.range 16).flatMap λi=>Et s (k i) (w++[UInt8.ofNat i]):=by unfold Et;simp only[T.items,List.filter_append,List.map_append,List.filter_flatMap,List.map_flatMap];congr 1;cases o with|none=>rfl|some v =>simp only[List.filter_cons,List.filter_nil];split<;>rfl
theorem A4u{s:SpanS}{t:T}{w:Str}{d:Nat}(h:t.Wf d)(hw:w.length=d)(hm:Ac1 s (w++t.node.path)=false):Et s t w=[]:=by
 unfold Et;rw[List.map_eq_nil_iff,List.filter_eq_nil_iff];rintro⟨q,v⟩ hq hin;obtain⟨r,rfl,hr,hl⟩:=(Fl h).1 hq;have he:=(Af5 h hr hl).2.1;have:∃z,r=t.node.path++z:=by
  cases t with
  |no=>exact⟨r,rfl⟩
  |br o k=>exact⟨r,rfl⟩
  |lf p u =>
   simp only[T.look] at hl;split at hl
   ·rename_i e;exact⟨[],by simp[T.node,Aft,e]⟩
   ·cases hl
  |way p k =>
   simp only[T.look] at hl;split at hl
   ·rename_i z e;exact⟨z,Bi.1 e⟩
   ·cases hl
 obtain⟨z,rfl⟩:=this;have hin:Afm s (w++(t.node.path++z))=true:=hin;rw[<-Zj1] at hin;rw[Bmf (by simp only[Zh1] at *;omega) hin] at hm;cases hm
theorem A9s(s:SpanS)(t:T)(w:Str):(Et s t w).length<=(t.items w).length:=by unfold Et;rw[List.length_map];exact List.length_filter_le ..
theorem Adw{R:Type}{rf:Nu->Option Gy}{kx:Ex->Pt->Option R}{sp:SpanS}{n:NodeS}{q:Str}{m:Int}{r8:List KvS}{r9:Str}{e10:Int}{B:Nat}{F:Nat->List KvS}(hq:q.length<=1000)(hn:n.kids.length<=50)
  (hrf:∀i (h:i<n.kids.length) o,o.length+(F i).length<=B->rf (sp,n.kids[i],(if n.kind=3 then q++[UInt8.ofNat i] else q),false,m,r8,r9,e10,o,0)=some (true,m,r8,r9,e10,o++F i,0)) :
  ∀(k i:Nat) (b:Bool) (o:List KvS),i<=n.kids.length->n.kids.length-i<k->o.length+(((List.range n.kids.length).drop i).flatMap F).length<=B ->
  Aj (λrec=>Nh rf rec kx) k (false,b,(n.kids.length:Int),(i:Int),m,r8,r9,e10,o,0,sp,n,q)=kx (.exit 0) (false,b,(n.kids.length:Int),(n.kids.length:Int),m,r8,r9,e10,o++((List.range n.kids.length).drop i).flatMap F,0,sp,n,q)
 |0,_,_,_,_,h,_=>by omega
 |k+1,i,b,o,hi,hk,hB=>by
  rw[Ay];by_cases h:i<n.kids.length
  ·have c1:decide ((i:Int)<(n.kids.length:Int))=true:=Ze1 (by omega);have c2:decide (q.length+1<=Ah)=true:=Ze1 (by simp only[Ah];omega);have w1:wr .u8 (i:Int)=(i:Int):=IntWalk.u8_in _ (by omega);have hd:(List.range n.kids.length).drop i=i::(List.range n.kids.length).drop (i+1):=by rw[List.drop_eq_getElem_cons (by simpa using h)];simp
   rw[hd,List.flatMap_cons] at hB ⊢;simp only[Zh1] at hB;have h1:=hrf i h o (by omega);have ih:=Adw (kx:=kx) hq hn hrf k (i+1) b (o++F i) (by omega) (by omega) (by simp only[Zh1];omega);have e1:UInt8.ofNat (wr .u8 (i:Int):Int).toNat=UInt8.ofNat i:=by rw[w1,Int.toNat_natCast]
   simp only[Nh,c1,Af,Ag,e1,R1 (show q.length<=2000000 by omega),Zc1,c2,chk,As h,Al (c :=.node) h,An h (show ln n.kids.length by simp[ln];omega)];by_cases e:n.kind=3
   ·simp only[e,if_true,decide_true,Af] at h1 ⊢;simp only[h1,Zc1,Zt1,Ag,ih,Zj1]
   ·simp only[e,if_false,decide_false,Ag] at h1 ⊢;simp only[h1,Zc1,Zt1,Ag,ih,Zj1]
  ·have e:i=n.kids.length:=by omega
   subst e;have c1:decide ((n.kids.length:Int)<(n.kids.length:Int))=false:=Zd1 (by omega);simp only[Nh,c1,Ag];rw[show(List.range n.kids.length).drop n.kids.length=[] from List.drop_of_length_le (by simp)];simp
theorem A1p{sp:SpanS}(h1:sp.low.length<=1900)(h2:sp.high.length<=1900){m:Int}{r8:List KvS}{r9:Str}{e10:Int}{B:Nat}(hm:(B:Int)<m)(hB:B<=Ah):∀(f:Nat) (t:T) (d:Nat) (w:Str) (o:List KvS),t.Wf d->hv w->w.length=d->401<=f+d->o.length+(Et sp t w).length<=B ->
  Aj (Mh 100) f (sp,t.node,w,false,m,r8,r9,e10,o,0)=some (true,m,r8,r9,e10,o++Et sp t w,0)
 |0,t,d,w,o,h,_,_,hf,_=>by have:=Wf.le h;omega
 |f+1,t,d,w,o,h,hw,hd,hf,ho=>by
  rw[Ay];have hp:=Arw h;have hle:=Wf.le h;have hv1:=Ass h;generalize hrf:Aj (Mh 100) f=rf;unfold Mh;dsimp -zeta only;extract_lets j5;have hq:∀J:Str->Option Gy,(cond (List.isEmpty w) (cond (List.isEmpty t.node.path) (J []) (chk (decide (0+t.node.path.length<=Ah)) (J ([]++t.node.path)))) (chk (decide (0+w.length<=Ah)) (chk (decide (([]++w).length+t.node.path.length<=Ah)) (J (([]++w)++t.node.path)))))=J (w++t.node.path):=λJ=>by
   have c1:decide (0+t.node.path.length<=Ah)=true:=Ze1 (by simp only[Ah];omega);have c2:decide (0+w.length<=Ah)=true:=Ze1 (by simp only[Ah];omega);have c3:decide (([]++w).length+t.node.path.length<=Ah)=true:=Ze1 (by simp only[Ah,Zf2];omega);rw[c1,c2,c3];cases w with
   |nil =>cases hpp:t.node.path with|nil=>rfl|cons x p=>rfl
   |cons x w=>rfl
  refine(hq j5).trans ?_;simp only[j5];have hql:(w++t.node.path).length<=800:=by simp only[Zh1];omega
  have hqm:=A33 (s:=sp) (w:=w++t.node.path) (by omega) h1 h2;have hqs:=Bf7 (s:=sp) (w:=w++t.node.path) (by omega) h1 h2;simp only[hqm,hqs,Zc1];cases hmt:Ac1 sp (w++t.node.path) with
  |false =>rw[A4u h hd hmt,List.append_nil];cases decide (t.node.kind=0)<;>rfl
  |true =>
   have hmx:∀n:Nat,n<=B->¬((n:Int)=m):=λn hn=>by omega
   cases t with
   |no=>simp[T.node,Nz,Et,T.items]
   |lf p v =>
    have hf1:Et sp (.lf p v) w=if Afm sp (w++p) then [KvS.mk (Ih (w++p)) v] else []:=by simp only[Et,T.items,List.filter_cons,List.filter_nil];split<;>rfl
    have hql:(w++p).length<=800:=hql;rw[hf1] at ho ⊢;have hn:=Apn (q:=w++p) (E6.2 ⟨hw,h.1⟩) (by simp only[Zh1];have:=h.2.2.1;omega) hql;have bv:Cb v=some v:=Dn (by have:=h.2.2.2;omega);simp only[T.node,Nz,Aft,Ayj,Axw,Ia,show ¬((1:Int)=0) by omega,show ¬((1:Int)=4) by omega,decide_false,decide_true,Ag,Af,Zt1,Zs1,hn,bv,Zc1];cases hin:Afm sp (w++p) with
    |false =>simp only[Zs1,Af];rw[show(100:Nat)=99+1 from rfl,Ay];simp[Nh]
    |true =>
     rw[hin] at ho;simp only[if_true,List.length_singleton] at ho;have c1:o.length+1<=Ah:=by omega
     have c2:=hmx (o++[KvS.mk (Ih (w++p)) v]).length (by simp only[Zh1,List.length_singleton];omega);simp only[Zt1,Ag,chk,Af,c1,c2,decide_true,decide_false,if_true];rw[show(100:Nat)=99+1 from rfl,Ay];simp[Nh]
   |way p k =>
    have h4:=Wf.le h.2.2.2;have hp0 : 0<p.length:=List.length_pos_iff.2 h.2.1;have hql:(w++p).length<=800:=hql;have hf1:Et sp (.way p k) w=Et sp k (w++p):=rfl;rw[hf1] at ho ⊢;simp only[T.node,Nz,Aft,Ayj,Axw,Ia,show ¬((2:Int)=0) by omega,show ¬((2:Int)=4) by omega,show ¬((2:Int)=1) by omega,decide_false,decide_true,Ag,Af,Zt1,Zs1];have hfl:((List.range 1).drop 0).flatMap (λ_:Nat=>Et sp k (w++p))=Et sp k (w++p):=by simp[List.range_succ]
    refine(Adw (n:=NodeS.mk 2 p false [] [k.node] []) (B:=B) (F:=λ_=>Et sp k (w++p)) (by omega) (by simp[Ia]) (λi hi o' ho' =>?_) 100 0 false o (by omega) (by simp[Ia]) (by rw[Ia,show [k.node].length=1 from rfl,hfl];exact ho)).trans ?_
    ·have hi0:i=0:=by simp[Ia] at hi;exact hi
     subst hi0;rw[Nz,if_neg (by omega)];rw[<-hrf];exact A1p h1 h2 hm hB f k (d+p.length) (w++p) o' h.2.2.2 (E6.2 ⟨hw,h.1⟩) (by simp only[Zh1];omega) (by omega) ho'
    ·simp only[Ia,show [k.node].length=1 from rfl,hfl];rfl
   |br o1 k =>
    have hlo:∀(kx:Ex->Pt->Option Gy) (hs:Bool) (v:Str) (o:List KvS),o.length+((List.range 16).flatMap λi=>Et sp (k i) (w++[UInt8.ofNat i])).length<=B->Aj (λrec=>Nh rf rec kx) 100 (false,false,((A5 k).length:Int),0,m,r8,r9,e10,o,0,sp,NodeS.mk 3 [] hs v (A5 k) [],w)=kx (.exit 0) (false,false,((A5 k).length:Int),((A5 k).length:Int),m,r8,r9,e10,o++(List.range 16).flatMap (λi=>Et sp (k i) (w++[UInt8.ofNat i])),0,sp,NodeS.mk 3 [] hs v (A5 k) [],w):=λkx hs v o ho=>by
     refine(Adw (n:=NodeS.mk 3 [] hs v (A5 k) []) (B:=B) (F:=λi=>Et sp (k i) (w++[UInt8.ofNat i])) (by omega) (by rw[Ia,Ca];omega) (λi hi o' ho' =>?_) 100 0 false o (by omega) (by rw[Ia,Ca];omega) (by rw[Ia,Ca,Zq1];exact ho)).trans ?_
     ·have hi16:i<16:=by rw[Ia,Ca] at hi;exact hi
      rw[Nz,if_pos rfl];simp only[Ia,La];rw[<-hrf];refine A1p h1 h2 hm hB f (k i) (d+1) (w++[UInt8.ofNat i]) o' (h.2.2.2 i hi16) (E6.2 ⟨hw,Dl.2 ⟨?_,Xk⟩⟩) (by simp only[Zh1,List.length_singleton];omega) (by omega) ho';rw[UInt8.toNat_ofNat'];omega
     ·simp only[Ia,Ca,Zq1]
    have hpn:(T.br o1 k).node.path=[]:=rfl;rw[Bjd] at ho ⊢;have hn:=λe=>Apn (q:=w) hw e (by omega);simp only[hpn,List.append_nil,Np,Nz,Aft,Ayj,Axw,Ia,show ¬((3:Int)=0) by omega,show ¬((3:Int)=4) by omega,show ¬((3:Int)=1) by omega,decide_false,decide_true,Ag,Af,Zt1,Zs1] at hql ho ⊢;cases o1 with
    |none =>simp only[Option.isSome_none,Zs1,Af,Option.getD_none,Zf2] at ho ⊢;rw[hlo _ _ _ _ ho];rfl
    |some v =>
     have he:=h.2.1 v rfl;have bv:Cb v=some v:=Dn (by omega);simp only[Option.isSome_some,Zt1,Ag,Option.getD_some,hn (by omega),bv,Zc1] at ho ⊢;cases hin:Afm sp w with
     |false =>rw[hin] at ho;simp only[Zs1,Af,Zj2,if_false,Zf2] at ho ⊢;rw[hlo _ _ _ _ ho];rfl
     |true =>
      rw[hin] at ho;simp only[if_true,Zh1,List.length_singleton] at ho;have c1:o.length+1<=Ah:=by omega
      have c2:=hmx (o++[KvS.mk (Ih w) v]).length (by simp only[Zh1,List.length_singleton];omega);simp only[Zt1,Ag,chk,Af,c1,c2,decide_true,decide_false,if_true];rw[hlo _ _ _ _ (by simp only[Zh1,List.length_singleton];omega)];simp only[Zj1];rfl
theorem Baf{t:T}{lo hi:Str}{m:Int}(h:t.Wf 0)(h1:lo.length<=900)(h2:hi.length<=900)(hm:((t.items []).length:Int)<m)(hB:(t.items []).length<=Ah):Arn t.node lo hi m=some (Et (SpanS.mk (nib lo) (nib hi) (decide ((hi.length:Int)=0))) t [],[],0):=by
 have l1:=G1 lo;have l2:=G1 hi;have hw:=A1p (sp:=SpanS.mk (nib lo) (nib hi) (decide ((hi.length:Int)=0))) (r8:=[]) (r9:=[]) (e10:=0) (by show(nib lo).length<=1900;omega) (by show(nib hi).length<=1900;omega) hm hB 500 t 0 [] [] h Xk rfl (by omega) (by have:=A9s (SpanS.mk (nib lo) (nib hi) (decide ((hi.length:Int)=0))) t [];simp only[Zi1];omega);have hw:Aun (SpanS.mk (nib lo) (nib hi) (decide ((hi.length:Int)=0)),t.node,[],false,m,[],[],0,[],0)=some (true,m,[],[],0,[]++Et (SpanS.mk (nib lo) (nib hi) (decide ((hi.length:Int)=0))) t [],0):=hw;have c1:¬m<0:=by omega
 have c2:¬m=0:=by omega
 simp only[Arn,Q5,Btn,Adn,Auo (show lo.length<=1900 by omega),Auo (show hi.length<=1900 by omega),Zc1,Bfk,Wc,Wt h,decide_true,Zt1,Ag,c1,c2,decide_false,hw,Af,Zf2]
theorem Brw{a b:Str}(h:nib a=nib b):a=b:=by rw[<-Jc a,<-Jc b,h]
theorem A2q:∀{a b:Str},nib a<nib b↔a<b
 |[],[]=>by simp[Af4]
 |[],y::b=>by rw[Af4,H7];exact⟨λ_=>List.nil_lt_cons y b,λ_=>List.nil_lt_cons _ _⟩
 |x::a,[]=>by rw[Af4];exact⟨λh=>absurd h (List.not_lt_nil _),λh=>absurd h (List.not_lt_nil _)⟩
 |x::a,y::b=>by
  have hx:=x.toNat_lt;have hy:=y.toNat_lt;simp only[H7,Ahs,Zb2,Zf2,List.cons_lt_cons_iff,A2q (a:=a) (b:=b),Lk,<-UInt8.toNat_inj,UInt8.toNat_ofNat'];constructor
  ·rintro(h|⟨h,h1|⟨h1,h2⟩⟩)
   ·left;omega
   ·left;omega
   ·exact .inr ⟨by omega,h2⟩
  ·rintro(h|⟨h,h2⟩)
   ·by_cases e:x.toNat / 16=y.toNat / 16
    ·exact .inr ⟨by omega,.inl (by omega)⟩
    ·left;omega
   ·exact .inr ⟨by omega,.inr ⟨by omega,h2⟩⟩
def T.get(t:T)(k:Str):Option Str:=t.look (nib k)
theorem Brn(t:T)(k v k':Str):(t.put (nib k) v).get k' = if k' = k then some v else t.get k':=by
 unfold T.get;rw[Ai9];by_cases e:k' = k
 ·simp[e]
 ·have:¬nib k' = nib k:=λh=>e (Brw h);simp[e,this]
theorem Bt5(k:Str):T.no.get k=none:=rfl
def range(t:T)(lo hi:Str):List KvS:=Et (SpanS.mk (nib lo) (nib hi) (decide ((hi.length:Int)=0))) t []
theorem A53{lo hi k:Str}:Afm (SpanS.mk (nib lo) (nib hi) (decide ((hi.length:Int)=0))) (nib k)=true↔¬k<lo/\(hi=[]\/k<hi):=by simp only[Afm,Zb1,Zd2,Zg1,Ar6,A2h,A2q];rw[show((hi.length:Int)=0)↔hi=[] from⟨λh=>List.length_eq_zero_iff.1 (by omega),λh=>by rw[h];rfl⟩]
theorem Aik{t:T}(h:t.Wf 0){q v:Str}(hq:(q,v)∈t.items []):∃k,q=nib k/\t.get k=some v:=by obtain⟨r,e,hr,hl⟩:=(Fl h).1 hq;have e:q=r:=e;subst e;have he:=(Af5 h hr hl).2.1;have:=Adu hr (by omega);exact⟨Ih q,this.symm,by unfold T.get;rw[this];exact hl⟩
theorem mem_range{t:T}(h:t.Wf 0){lo hi k v:Str}:KvS.mk k v∈range t lo hi↔t.get k=some v/\¬k<lo/\(hi=[]\/k<hi):=by
 unfold range Et;simp only[List.mem_map,List.mem_filter];constructor
 ·rintro⟨⟨q,u⟩,⟨hq,hs⟩,e⟩;obtain⟨k',rfl,hg⟩:=Aik h hq;simp only[Jc,KvS.mk.injEq] at e;obtain⟨rfl,rfl⟩:=e;exact⟨hg,A53.1 hs⟩
 ·rintro⟨hg,hs⟩;exact⟨(nib k,v),⟨(Fl h).2 ⟨nib k,rfl,Acx k,hg⟩,A53.2 hs⟩,by simp[Jc]⟩
theorem Aum{t:T}(h:t.Wf 0)(lo hi:Str):(range t lo hi).Pairwise λa b=>a.key<b.key:=by unfold range Et;rw[List.pairwise_map];refine((N6 h).filter _).imp_of_mem ?_;rintro⟨q,v⟩ ⟨q',v'⟩ ha hb hlt;obtain⟨k,rfl,_⟩:=Aik h (List.mem_filter.1 ha).1;obtain⟨k',rfl,_⟩:=Aik h (List.mem_filter.1 hb).1;simp only[Jc];exact A2q.1 hlt
theorem A8p(f g:Nat->Nat)(i:Nat)(h:∀j,j≠i->g j=f j)(hi:g i<=f i+1):∀l:List Nat,l.Nodup->(l.map g).sum<=(l.map f).sum+1
 |[],_=>by simp
 |j::l,hn=>by
  have hn:=List.nodup_cons.1 hn;simp only[Zw1,List.sum_cons];by_cases e:j=i
  ·subst e;have:l.map g=l.map f:=List.map_congr_left λx hx=>h x λe=>hn.1 (e▸hx);rw[this];omega
  ·have:=A8p f g i h hi l hn.2;rw[h j e];omega
theorem Aw6:∀l:List Nat,(l.map λ_=>0).sum=0
 |[]=>rfl
 |_::l=>by rw[Zw1,List.sum_cons,Aw6 l]
def T.size:T->Nat
 |.no=>0
 |.lf _ _=>1
 |.way _ k=>k.size
 |.br o k=>(if o.isSome then 1 else 0)+((List.range 16).map λi=>(k i).size).sum
theorem N7:∀(t:T) (w:Str),(t.items w).length=t.size
 |.no,w=>rfl
 |.lf _ _,w=>rfl
 |.way p k,w=>N7 k (w++p)
 |.br o k,w=>by
  have h1:∀l:List Nat,(l.flatMap λi=>(k i).items (w++[UInt8.ofNat i])).length=(l.map λi=>(k i).size).sum:=λl=>by induction l with|nil=>rfl|cons i l ih=>rw[List.flatMap_cons,Zh1,ih,N7 (k i),Zw1,List.sum_cons]
  simp only[T.items,T.size,Zh1,h1];cases o with|none=>simp only[Zi1,Option.isSome_none,Zj2,if_false]|some v=>simp only[List.length_singleton,Option.isSome_some,if_true]
theorem Ak4(k:Nat->T)(i:Nat)(t:T)(h:t.size<=(k i).size+1):((List.range 16).map λj=>(upd k i t j).size).sum<=((List.range 16).map λj=>(k j).size).sum+1 :=A8p (λj=>(k j).size) (λj=>(upd k i t j).size) i (λj hj=>by rw[K4 hj]) (by rw[Hw];exact h) _ List.nodup_range
theorem Azt:((List.range 16).map λj=>(nos j).size).sum=0:=by decide
theorem Wx(s:Str)(t:T):(Lx s t).size=t.size:=by cases s<;>rfl
theorem Acb(o:Option Str)(k:Nat->T)(b v:Str):(hold o k b v).size<=(T.br o k).size+1:=by cases b with|nil=>simp only[hold,T.size,Option.isSome_some,if_true];split<;>omega|cons x b =>have:=Ak4 k x.toNat (.lf b v) (by simp[T.size]);simp only[hold,T.size];omega
theorem Alh:∀(t:T) (p v:Str),(t.put p v).size<=t.size+1
 |.no,p,v=>by simp[T.put,T.size]
 |.lf q u,p,v=>by
  simp only[T.put];split
  ·simp[T.size]
  ·unfold Ym;split<;>rw[Wx]
   ·refine Nat.le_trans (Acb ..) ?_;simp only[T.size,Azt];simp
   ·rename_i x a b _;refine Nat.le_trans (Acb ..) ?_;have:=Ak4 nos x.toNat (.lf a u) (by simp[T.size]);rw[Azt] at this;simp only[T.size,Option.isSome_none];simp;omega
 |.way q k,p,v=>by
  simp only[T.put];split
  ·exact Alh k _ v
  ·unfold Xr;split
   ·simp[T.size]
   ·rename_i x a b _;rw[Wx];refine Nat.le_trans (Acb ..) ?_;have h1:∀f:Nat->Nat,(∀j,j≠x.toNat->f j=0)->∀l:List Nat,l.Nodup->(l.map f).sum<=f x.toNat:=λf hf l=>by
     induction l with
     |nil=>intro _;simp
     |cons j l ih =>
      intro hn;have hn:=List.nodup_cons.1 hn;simp only[Zw1,List.sum_cons];by_cases e:j=x.toNat
      ·subst e;have:(l.map f).sum=0:=by have:l.map f=l.map λ_=>0:=List.map_congr_left λy hy=>hf y λe=>hn.1 (e▸hy);rw[this];exact Aw6 l
       omega
      ·rw[hf j e];have:=ih hn.2;omega
    have:=h1 (λj=>(upd nos x.toNat (Lx a k) j).size) (λj hj=>by simp only[K4 hj];rfl) (List.range 16) List.nodup_range;simp only[Hw,Wx] at this;simp only[T.size,Option.isSome_none];simp;omega
 |.br o k,[],v=>by simp only[T.put,T.size,Option.isSome_some,if_true];split<;>omega
 |.br o k,x::p,v=>by have:=Ak4 k x.toNat ((k x.toNat).put p v) (Alh (k x.toNat) p v);simp only[T.put,T.size];omega
theorem Akv(n:NodeS):NodeS.mk n.kind n.path n.has n.val n.kids n.hash=n:=by cases n;rfl
section
variable {t:T}{g:List NodeS}{h:Str}
theorem Bqr{k:Str}(hw:t.Wf 0)(hk:k.length<=200):R2 (k,t.node.kind,t.node.path,t.node.has,t.node.val,t.node.kids,t.node.hash,g,h)=some ((t.get k).getD [],(t.get k).isSome,0,t.node.kind,t.node.path,t.node.has,t.node.val,t.node.kids,t.node.hash,g,h):=by simp only[R2,Akv,Bof hw hk,Zc1,show ¬((0:Int)=80) by omega,decide_false,Ag,T.get]
theorem Boz{k v:Str}(hw:t.Wf 0)(hk:k.length<=200)(hv:v.length<=4000):Rw (k,v,t.node.kind,t.node.path,t.node.has,t.node.val,t.node.kids,t.node.hash,g,h)=some (0,(t.put (nib k) v).node.kind,(t.put (nib k) v).node.path,(t.put (nib k) v).node.has,(t.put (nib k) v).node.val,(t.put (nib k) v).node.kids,(t.put (nib k) v).node.hash,g,h):=by simp only[Rw,Akv,Bpl hw hk hv,Zc1,show ¬((0:Int)=80) by omega,decide_false,decide_true,Ag,Af]
theorem Beh{lo hi:Str}{m:Int}(hw:t.Wf 0)(h1:lo.length<=900)(h2:hi.length<=900)(hm:(t.size:Int)<m)(hB:t.size<=Ah):J3 (lo,hi,m,t.node.kind,t.node.path,t.node.has,t.node.val,t.node.kids,t.node.hash,g,h)=some (range t lo hi,0,t.node.kind,t.node.path,t.node.has,t.node.val,t.node.kids,t.node.hash,g,h):=by have:=Baf hw h1 h2 (m:=m) (by rw[N7];exact hm) (by rw[N7];exact hB);simp only[J3,Akv,this,Zc1,show ¬((0:Int)=80) by omega,decide_false,Ag,range]
end
end Go.Proofs.YtcoaaebppfbbnaaGreatDoor
