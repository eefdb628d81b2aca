/- Texts of the proof,one behind the other: Trb,Tc,Td,Te,Tf,Tg,Th. -/
import Derived.Test.YtcoaaebppfbbnaaGreatDoorK16
set_option linter.all false
namespace Go.Proofs.YtcoaaebppfbbnaaGreatDoor
open Go.Ax
def Aku(x:UInt8):Str:=[UInt8.ofNat (x.toNat / 16),UInt8.ofNat (x.toNat % 16)]
def nib(b:Str):Str:=b.flatMap Aku
theorem Af3:nib []=[]:=rfl
theorem Ia(x:UInt8)(b:Str):nib (x::b)=Aku x++nib b:=rfl
theorem G8:∀b:Str,(nib b).length=2*b.length
 |[]=>rfl
 |x::b=>by rw[Ia,Zh1,G8 b];simp[Aku];omega
theorem Atp{p:UInt8->Prop}(h:∀n:Fin 256,p (UInt8.ofNat n.val))(x:UInt8):p x:=by have:=h ⟨x.toNat,x.toNat_lt⟩;simpa using this
theorem hi4:∀n:Fin 256,UInt8.ofNat ((D5 .u8 ((UInt8.ofNat n.val).toNat:Int) 4):Int).toNat=UInt8.ofNat ((UInt8.ofNat n.val).toNat / 16):=by decide +kernel
theorem lo4:∀n:Fin 256,UInt8.ofNat ((Gy .u8 ((UInt8.ofNat n.val).toNat:Int) 15):Int).toNat=UInt8.ofNat ((UInt8.ofNat n.val).toNat % 16):=by decide +kernel
theorem jo4:∀n:Fin 256,UInt8.ofNat ((ior .u8 (Afq .u8 ((UInt8.ofNat ((UInt8.ofNat n.val).toNat / 16)).toNat:Int) 4) ((UInt8.ofNat ((UInt8.ofNat n.val).toNat % 16)).toNat:Int)):Int).toNat=UInt8.ofNat n.val:=by decide +kernel
theorem Bp2(x:UInt8):[UInt8.ofNat ((D5 .u8 (x.toNat:Int) 4):Int).toNat,UInt8.ofNat ((Gy .u8 (x.toNat:Int) 15):Int).toNat]=Aku x:=by rw[Atp (p:=λx=>UInt8.ofNat ((D5 .u8 (x.toNat:Int) 4):Int).toNat=UInt8.ofNat (x.toNat / 16)) hi4 x,Atp (p:=λx=>UInt8.ofNat ((Gy .u8 (x.toNat:Int) 15):Int).toNat=UInt8.ofNat (x.toNat % 16)) lo4 x];rfl
theorem Ace:∀b:Str,hv (nib b)
 |[]=>V4
 |x::b=>by rw[Ia,E5];refine⟨?_,Ace b⟩;have:=x.toNat_lt;simp only[Aku,Dl,UInt8.toNat_ofNat'];exact⟨by omega,by omega,V4⟩
theorem Axz{R:Type}{kx:Ex->Agb->Option R}{b:Str}(hb:b.length<=100000):∀(k i:Nat) (acc:Str),i<=b.length->b.length-i<k->acc.length<=2*i ->
  Aj (λrec=>Aqo rec kx) k (acc,b,(b.length:Int),(i:Int))=kx (.exit 0) (acc++nib (b.drop i),b,(b.length:Int),(b.length:Int))
 |0,_,_,_,h,_=>by omega
 |k+1,i,acc,hi,hk,ha=>by
  rw[Ay];by_cases h:i<b.length
  ·have c1:decide ((i:Int)<(b.length:Int))=true:=Ze1 (by omega);have c2:decide (acc.length+2<=Ah)=true:=Ze1 (by simp only[Ah];omega);have ih:=Axz (kx:=kx) hb k (i+1) (acc++Aku b[i]) (by omega) (by omega) (by simp[Aku];omega);simp only[Aqo,c1,Af,As h,chk,Al (c :=.byte) h,c2,An h (show ln b.length by simp[ln];omega)];rw[Bp2,ih,List.drop_eq_getElem_cons h,Ia,Zj1]
  ·have e:i=b.length:=by omega
   subst e;have c1:decide ((b.length:Int)<(b.length:Int))=false:=Zd1 (by omega);simp only[Aqo,c1,Ag,Zc2,Af3,List.append_nil]
theorem Bwv{b:Str}{k:Nat}(hb:b.length<=100000)(hk:b.length<k):X0 k b=some (nib b):=by
 have:=Axz (kx:=λe vz=>match vz with|(v4,_,_,_)=>match e with
  |.exit 0=>some v4
  |_=>none) hb k 0 [] (by omega) (by omega) (by simp)
 simp only[X0];exact this
theorem Ar1{b:Str}(hb:b.length<=1900):nof b=some (nib b):=Bwv (by omega) (by omega)
theorem Ao2{R:Type}{kx:Ex->Y5->Option R}{b:Str}(hb:b.length<=100000)(h:hv b):∀(k i:Nat),i<=b.length->b.length-i<k ->
  Aj (λrec=>Ab3 rec kx) k (false,b,(b.length:Int),(i:Int))=kx (.exit 0) (false,b,(b.length:Int),(b.length:Int))
 |0,_,_,h=>by omega
 |k+1,i,hi,hk=>by
  rw[Ay];by_cases hl:i<b.length
  ·have c1:decide ((i:Int)<(b.length:Int))=true:=Ze1 (by omega);have:=h b[i] (List.getElem_mem hl);have c2:decide (15<((b[i]).toNat:Int))=false:=Zd1 (by omega);simp only[Ab3,c1,Af,As hl,chk,Al (c :=.byte) hl,c2,Ag,An hl (show ln b.length by simp[ln];omega)];exact Ao2 hb h k (i+1) (by omega) (by omega)
  ·have e:i=b.length:=by omega
   subst e;have c1:decide ((b.length:Int)<(b.length:Int))=false:=Zd1 (by omega);simp only[Ab3,c1,Ag]
theorem Bs2{b:Str}{k:Nat}(hb:b.length<=100000)(h:hv b)(hk:b.length<k):Rm k b=some true:=by
 have:=Ao2 (kx:=λe vz=>match vz with|(v4,_,_,_)=>match e with
  |.ret=>some v4
  |.exit 0=>some true
  |_=>none) hb h k 0 (by omega) (by omega)
 simp only[Rm];exact this
theorem Bon{b:Str}(hb:b.length<=1900)(h:hv b):Bs1 b=some true:=Bs2 (by omega) h (by omega)
theorem A73:∀{b:Str}{i:Nat}(h:i<b.length) (h1 : 2*i<(nib b).length) (h2 : 2*i+1<(nib b).length),(nib b)[2*i]=UInt8.ofNat (b[i].toNat / 16)/\(nib b)[2*i+1]=UInt8.ofNat (b[i].toNat % 16)
 |x::b,0,_,_,_=>⟨rfl,rfl⟩
 |x::b,i+1,h,h1,h2=>by have ih:=A73 (b:=b) (i:=i) (by simpa using h) (by rw[G8] at *;simp at h;omega) (by rw[G8] at *;simp at h;omega);simpa[Ia,Aku,show 2*(i+1)=2*i+1+1 by omega] using ih
theorem Akf{R:Type}{kx:Ex->Q9->Option R}{b:Str}(hb:b.length<=100000):∀(k i:Nat) (acc:Str),i<=b.length->b.length-i<k->acc.length<=i ->
  Aj (λrec=>Uh rec kx) k (nib b,acc,((2*i+1:Nat):Int))=kx (.exit 0) (nib b,acc++b.drop i,((2*b.length+1:Nat):Int))
 |0,_,_,_,h,_=>by omega
 |k+1,i,acc,hi,hk,ha=>by
  rw[Ay];have hn:=G8 b;by_cases h:i<b.length
  ·have c1:decide (((2*i+1:Nat):Int)<((nib b).length:Int))=true:=Ze1 (by omega);have c2:decide (acc.length+1<=Ah)=true:=Ze1 (by simp only[Ah];omega);have c3:wr .i64 (((2*i+1:Nat):Int)-1)=((2*i:Nat):Int):=by rw[B3 (by simp only[inI];omega)];omega
   have c4:wr .i64 (((2*i+1:Nat):Int)+2)=((2*(i+1)+1:Nat):Int):=by rw[B3 (by simp only[inI];omega)];omega
   have g:=A73 h (by omega) (by omega);have ih:=Akf (kx:=kx) hb k (i+1) (acc++[b[i]]) (by omega) (by omega) (by simp;omega);simp only[Uh,c1,Af,c3,As (show 2*i<(nib b).length by omega),As (show 2*i+1<(nib b).length by omega),chk,Al (c :=.byte) (show 2*i<(nib b).length by omega),Al (c :=.byte) (show 2*i+1<(nib b).length by omega),c2,c4,g.1,g.2];have hj:=Atp (p:=λx=>UInt8.ofNat ((ior .u8 (Afq .u8 ((UInt8.ofNat (x.toNat / 16)).toNat:Int) 4) ((UInt8.ofNat (x.toNat % 16)).toNat:Int)):Int).toNat=x) jo4 b[i];rw[hj,ih,Zj1,List.drop_eq_getElem_cons h];rfl
  ·have e:i=b.length:=by omega
   subst e;have c1:decide (((2*b.length+1:Nat):Int)<((nib b).length:Int))=false:=Zd1 (by omega);simp only[Uh,c1,Ag,Zc2,List.append_nil]
theorem Bd2{b:Str}(hb:b.length<=900):Abx (nib b)=some (b,0):=by
 have hn:=G8 b;have h2:A56 (nib b)=some b:=by
  have:=Akf (kx:=λe vz=>match vz with|(_,v4,_)=>match e with
   |.exit 0=>some v4
   |_=>none) (b:=b) (by omega) 2000 0 [] (by omega) (by omega) (by simp)
  simp only[A56,Vs];exact this
 have c1:decide (Int.tmod ((nib b).length:Int) 2=1)=false:=Zd1 (by rw[hn,Int.tmod_eq_emod_of_nonneg (by omega)];omega);simp only[Abx,Qj,Bon (show(nib b).length<=1900 by omega) (Ace b),h2,Zc1,Zt1,Ag,c1]
def com(a b:Str):Nat:=(B6 a b).1.length
theorem Bff(x y:UInt8)(a b:Str):com (x::a) (y::b)=if x=y then com a b+1 else 0:=by simp only[com,B6];split<;>simp
theorem Bu4(a b:Str):com a b<=a.length/\com a b<=b.length:=by have h:=Fl a b;have h1:=congrArg List.length h.1;have h2:=congrArg List.length h.2;simp only[Zh1] at h1 h2;unfold com;omega
theorem Apc{R:Type}{kx:Ex->Y4->Option R}{a b:Str}(ha:a.length<=100000)(hb:b.length<=100000){m:Nat}(hm:m=min a.length b.length):∀(k i:Nat) (z:Int),i<=m->m-i<k ->
  ((i+com (a.drop i) (b.drop i)<m->Aj (λrec=>Xl rec kx) k (a,b,z,(m:Int),(i:Int))=kx .ret (a,b,((i+com (a.drop i) (b.drop i):Nat):Int),(m:Int),((i+com (a.drop i) (b.drop i):Nat):Int))) /\
  (i+com (a.drop i) (b.drop i)=m->Aj (λrec=>Xl rec kx) k (a,b,z,(m:Int),(i:Int))=kx (.exit 0) (a,b,z,(m:Int),(m:Int))))
 |0,_,_,_,h=>by omega
 |k+1,i,z,hi,hk=>by
  rw[Ay];by_cases h:i<m
  ·have h1:i<a.length:=by omega
   have h2:i<b.length:=by omega
   have c1:decide ((i:Int)<(m:Int))=true:=Ze1 (by omega);have ih:=Apc (kx:=kx) ha hb hm k (i+1) z (by omega) (by omega);have hl:ln m:=by simp[ln];omega
   simp only[Xl,c1,Af,As h1,As h2,chk,Al (c :=.byte) h1,Al (c :=.byte) h2,An h hl,List.drop_eq_getElem_cons h1,List.drop_eq_getElem_cons h2,Bff];by_cases e:a[i]=b[i]
   ·simp only[e,if_true,decide_true,Zt1,Ag];simp only[show i+1+com (a.drop (i+1)) (b.drop (i+1))=i+(com (a.drop (i+1)) (b.drop (i+1))+1) by omega] at ih;exact ih
   ·have e2:¬(((a[i]).toNat:Int)=((b[i]).toNat:Int)):=λh=>e (UInt8.toNat_inj.1 (by omega));simp only[e,if_false,e2,decide_false,Zs1,Af,Nat.add_zero];exact⟨λ_=>by trivial,λh=>by omega⟩
  ·have e:i=m:=by omega
   subst e;have c1:decide ((i:Int)<(i:Int))=false:=Zd1 (by omega);simp only[Xl,c1,Ag];exact⟨λh=>by omega,λ_=>by trivial⟩
theorem Az7(a b:Nat):min2 (a:Int) (b:Int)=((min a b:Nat):Int):=by unfold min2;split<;>omega
theorem Buv{a b:Str}{k:Nat}(ha:a.length<=1900)(hb:b.length<=1900)(hk : 1900<k):Rc k (a,b)=some (com a b:Int):=by
 have hc:=Bu4 a b;have:=Apc (kx:=λe vz=>match vz with|(v5,v6,v7,_,_)=>match e with
  |.ret=>some v7
  |.exit 0=>some (min2 (v5.length:Int) (v6.length:Int))
  |_=>none) (a:=a) (b:=b) (by omega) (by omega) rfl k 0 0 (by omega) (by omega)
 rw[Zq1,Zq1,Nat.zero_add] at this;unfold Rc;simp only;rw[Az7 a.length b.length];rcases Nat.lt_or_ge (com a b) (min a.length b.length) with h|h
 ·exact this.1 h
 ·have e:com a b=min a.length b.length:=by omega
  refine(this.2 e).trans ?_;simp only[Az7,e]
theorem Arp{a b:Str}(ha:a.length<=1900)(hb:b.length<=1900):Bo8 a b=some (com a b:Int):=Buv ha hb (by omega)
def Aft(a b:Str):Int:=if a<b then -1 else if a=b then 0 else 1
theorem Blx(s:Str){a b:Str}:s++a<s++b↔a<b:=by induction s with|nil=>rfl|cons x s ih=>simp[List.cons_lt_cons_iff,ih]
theorem Ym{a b:Str}(ha:a.length<=1900)(hb:b.length<=1900):A19 a b=some (Aft a b):=by
 have hs:=Fl a b;have hn :=@Gs a b;have hc:com a b=(B6 a b).1.length:=rfl;simp only[A19,Abg,Arp ha hb,Zc1,hc];generalize B6 a b=z at hs hn;obtain⟨s,a',b'⟩:=z;simp only at hs hn;obtain⟨rfl,rfl⟩:=hs;simp only[Zh1,Aft,Blx,Aan];cases a' with
 |nil =>cases b' with|nil=>simp|cons y b' =>have c1:decide ((s.length:Int)=((s.length+([]:Str).length:Nat):Int))=true:=Ze1 (by simp);have c2:decide ((s.length:Int)=((s.length+(y::b').length:Nat):Int))=false:=Zd1 (by simp only[Zf1];omega);simp only[c1,c2,Ag,Af];simp
 |cons x a' =>
  have c1:decide ((s.length:Int)=((s.length+(x::a').length:Nat):Int))=false:=Zd1 (by simp;omega);cases b' with
  |nil =>have c2:decide ((s.length:Int)<((s.length+([]:Str).length:Nat):Int))=false:=Zd1 (by simp);simp only[c1,c2,Ag];simp
  |cons y b' =>
   have hne:=hn (x:=x) (y:=y) rfl rfl;have c2:decide ((s.length:Int)<((s.length+(y::b').length:Nat):Int))=true:=Ze1 (by simp;omega);have i1:s.length<(s++x::a').length:=by simp
   have i2:s.length<(s++y::b').length:=by simp
   have hlen:(s.length+(x::a').length)=(s++x::a').length:=by simp
   have hlen2:(s.length+(y::b').length)=(s++y::b').length:=by simp
   simp only[c1,c2,Ag,Af];rw[hlen,hlen2];simp only[As i1,As i2,chk,Af,Al (c :=.byte) i1,Al (c :=.byte) i2];rw[List.getElem_append_right (by omega),List.getElem_append_right (by omega)];simp only[Nat.sub_self,List.getElem_cons_zero,List.cons_lt_cons_iff];have hn2:x::a'≠y::b':=λe=>hne (List.cons.inj e).1;by_cases e:x<y
   ·have:=UInt8.lt_iff_toNat_lt.1 e;simp[e,show((x.toNat:Int)<(y.toNat:Int)) by omega]
   ·have h1:¬x.toNat<y.toNat:=λh=>e (UInt8.lt_iff_toNat_lt.2 h);simp[e,hne,show ¬((x.toNat:Int)<(y.toNat:Int)) by omega]
theorem Asq(b a:Str):Bbd b a=some (A3 a b).isSome:=by
 simp only[Bbd,Aa7];cases h:A3 a b with
 |some r =>
  have:=Bi.1 h;subst this;have c1:decide ((a.length:Int)<=((a++r).length:Int))=true:=Ze1 (by simp only[Zh1];omega);have c2:upto 0 (a.length:Int) (a++r).length=true:=by simp only[upto,Zh1,Zb1,Zg1];omega
  simp only[c1,c2,Af,chk,beq];simp
 |none =>
  cases c:decide ((a.length:Int)<=(b.length:Int)) with
  |false=>rfl
  |true =>
   have c0:=of_decide_eq_true c;have c2:upto 0 (a.length:Int) b.length=true:=by simp[upto];omega
   simp only[c2,Af,chk,beq];have:¬b.take ((a.length:Int):Int).toNat=a:=λe=>by
    have:b=a++b.drop a.length:=by have h3:=List.take_append_drop a.length b;simp at e;rw[e] at h3;exact h3.symm
    rw[Bi.2 this] at h;cases h
   simp only[this,decide_false];rfl
theorem Ny(a:Int)(b:Str)(c:Bool)(d:Str)(e:List NodeS)(g:Str):(NodeS.mk a b c d e g).kind=a:=rfl
theorem Afk(a:Int)(b:Str)(c:Bool)(d:Str)(e:List NodeS)(g:Str):(NodeS.mk a b c d e g).path=b:=rfl
theorem Ayn(a:Int)(b:Str)(c:Bool)(d:Str)(e:List NodeS)(g:Str):(NodeS.mk a b c d e g).has=c:=rfl
theorem Az1(a:Int)(b:Str)(c:Bool)(d:Str)(e:List NodeS)(g:Str):(NodeS.mk a b c d e g).val=d:=rfl
theorem H9(a:Int)(b:Str)(c:Bool)(d:Str)(e:List NodeS)(g:Str):(NodeS.mk a b c d e g).kids=e:=rfl
theorem Bt6(a:Int)(b:Str)(c:Bool)(d:Str)(e:List NodeS)(g:Str):(NodeS.mk a b c d e g).hash=g:=rfl
def T.node:T->NodeS
 |.no=>NodeS.mk 0 [] false [] [] []
 |.lf p v=>NodeS.mk 1 p false v [] []
 |.way p k=>NodeS.mk 2 p false [] [k.node] []
 |.br o k=>NodeS.mk 3 [] o.isSome (o.getD []) ((List.range 16).map λi=>(k i).node) []
def A5(k:Nat->T):List NodeS:=(List.range 16).map λi=>(k i).node
theorem B8(k:Nat->T):(A5 k).length=16:=by simp[A5]
theorem Lg{k:Nat->T}{i:Nat}(h:i<(A5 k).length):(A5 k)[i]=(k i).node:=by simp[A5]
theorem Og(o:Option Str)(k:Nat->T):(T.br o k).node=NodeS.mk 3 [] o.isSome (o.getD []) (A5 k) []:=rfl
theorem Me{k:Nat->T}{i:Nat}{t:T}:(A5 k).set i t.node=A5 (upd k i t):=by
 refine List.ext_getElem (by simp[A5]) λj h1 h2 =>?_;rw[Lg,List.getElem_set];split
 ·rename_i e;subst e;rw[Hj]
 ·rename_i e;rw[Ky (Ne.symm e),Lg]
theorem Q2:List.replicate (16:Int).toNat (zer .node)=A5 nos:=rfl
theorem Bro(t:T):decide (t.node.kind=0)=t.isNo:=by cases t<;>rfl
theorem Atn{t:T}{d:Nat}(h:t.Wf d):hv t.node.path/\t.node.path.length<=400:=by cases t with|no=>exact⟨V4,by simp[T.node,NodeS.path]⟩|lf p v=>exact⟨h.1,by have:=h.2.1;simp only[T.node,NodeS.path];omega⟩|way p k=>exact⟨h.1,by have:=Wf.le h.2.2.2;simp only[T.node,NodeS.path];omega⟩|br o k=>exact⟨V4,by simp[T.node,NodeS.path]⟩
theorem Atx{t:T}{d:Nat}(h:t.Wf d):t.node.val.length<=4000:=by
 cases t with
 |no=>simp[T.node,NodeS.val]
 |lf p v=>exact h.2.2.2
 |way p k=>simp[T.node,NodeS.val]
 |br o k=>cases o with|none=>simp[T.node,NodeS.val]|some v=>exact(h.2.1 v rfl).2
theorem Ag6{R:Type}{kx:Ex->Rb->Option R}{b:Str}(hb:b.length<=100000)(h:hv b):∀(k i:Nat) (z:Int),i<=b.length->b.length-i<k ->
  Aj (λrec=>Rn rec kx) k (b,z,(b.length:Int),(i:Int))=kx (.exit 0) (b,z,(b.length:Int),(b.length:Int))
 |0,_,_,_,h=>by omega
 |k+1,i,z,hi,hk=>by
  rw[Ay];by_cases hl:i<b.length
  ·have c1:decide ((i:Int)<(b.length:Int))=true:=Ze1 (by omega);have:=h b[i] (List.getElem_mem hl);have c2:decide (15<((b[i]).toNat:Int))=false:=Zd1 (by omega);simp only[Rn,c1,Af,As hl,chk,Al (c :=.byte) hl,c2,Ag,An hl (show ln b.length by simp[ln];omega)];exact Ag6 hb h k (i+1) z (by omega) (by omega)
  ·have e:i=b.length:=by omega
   subst e;have c1:decide ((b.length:Int)<(b.length:Int))=false:=Zd1 (by omega);simp only[Rn,c1,Ag]
theorem Bhg{b:Str}(hb:b.length<=1900)(h:hv b):A6l b=some true:=by
 have:=Ag6 (kx:=λe vz=>match vz with|(_,v5,_,_)=>match e with
  |.ret=>some (!(decide (0<=v5)))
  |.exit 0=>some true
  |_=>none) (by omega) h 2000 0 0 (by omega) (by omega)
 simp only[A6l,Vt];exact this
theorem An2{d:Nat}(h:d<=400)(h2:d % 2=0):V9 (d:Int) true=true:=by have c1:decide ((d:Int)<=400)=true:=Ze1 (by omega);have c2:decide (Int.tmod (d:Int) 2=0)=true:=Ze1 (by rw[Int.tmod_eq_emod_of_nonneg (by omega)];omega);simp only[V9,c1,c2,Af,Zt1,Ag]
def cnt(k:Nat->T)(i:Nat):Nat:=((List.range 16).drop i).countP λi => !(k i).isNo
theorem Bse{k:Nat->T}{i:Nat}(h:i<16):cnt k i=(if(k i).isNo then 0 else 1)+cnt k (i+1):=by unfold cnt;rw[List.drop_eq_getElem_cons (show i<(List.range 16).length by simpa using h),List.countP_cons];simp only[List.getElem_range];cases (k i).isNo<;>simp<;>omega
theorem Bno(k:Nat->T):cnt k 16=0:=by unfold cnt;rw[show(List.range 16).drop 16=[] from rfl];rfl
theorem Nq{R:Type}{rf:FT [.sv .node,.int .i64,.bool] [.bool]}{kx:Ex->Kj->Option R}{k:Nat->T}{d:Nat}(hd:d<=1000)(hrf:∀i,i<16->rf ((k i).node,((d+1:Nat):Int),true)=some true):∀(m i c:Nat),i<=16->16-i<m->c<=1000+i ->
  Aj (λrec=>I7 rf rec kx) m ((d:Int),true,(c:Int),true,A5 k,((A5 k).length:Int),(i:Int))=kx (.exit 0) ((d:Int),true,((c+cnt k i:Nat):Int),true,A5 k,((A5 k).length:Int),((A5 k).length:Int))
 |0,_,_,_,h,_=>by omega
 |m+1,i,c,hi,hm,hc=>by
  rw[Ay];have hkl:=B8 k;by_cases h:i<16
  ·have c1:decide ((i:Int)<((A5 k).length:Int))=true:=Ze1 (by omega);have h':i<(A5 k).length:=by omega
   have w1:wr .i64 ((d:Int)+1)=((d+1:Nat):Int):=by rw[B3 (by simp only[inI];omega)];omega
   have w2:wr .i64 ((c:Int)+1)=((c+1:Nat):Int):=by rw[B3 (by simp only[inI];omega)];omega
   have w3:wr .i64 ((i:Int)+1)=((i+1:Nat):Int):=by rw[B3 (by simp only[inI];omega)];omega
   simp only[I7,c1,Af,As h',chk,Al (c :=.node) h',Lg,w1,w2,w3,hrf i h,Zc1,Zt1,Ag,Bro];cases hn:(k i).isNo with|true =>simp only[Zt1,Ag];rw[Nq hd hrf m (i+1) c (by omega) (by omega) (by omega),Bse h,hn];simp|false =>simp only[Zs1,Af];rw[Nq hd hrf m (i+1) (c+1) (by omega) (by omega) (by omega),Bse h,hn];simp[Nat.add_assoc]
  ·have e:i=16:=by omega
   subst e;have c1:decide (((16:Nat):Int)<((A5 k).length:Int))=false:=Zd1 (by omega);simp only[I7,c1,Ag,Bno,Nat.add_zero];rw[hkl]
theorem Abh:∀(f:Nat) (t:T) (d:Nat),t.Wf d->401<=f+d->Aj (Fu 100) f (t.node,(d:Int),true)=some true
 |0,t,d,h,hf=>by have:=Wf.le h;omega
 |f+1,t,d,h,hf=>by
  rw[Ay];have hle:=Wf.le h;have hp:=Atn h;have hv1:=Atx h;have c1:decide (400<(d:Int))=false:=Zd1 (by omega);have c2:decide (4000<(t.node.val.length:Int))=false:=Zd1 (by omega);have c3:=Bhg (b:=t.node.path) (by omega) hp.1;simp only[Fu,c1,c2,c3,Ag,Zc1,Zt1];cases t with
  |no=>rfl
  |lf p v =>
   have w:wr .i64 ((d:Int)+(p.length:Int))=((d+p.length:Nat):Int):=by have:=h.2.1;rw[B3 (by simp only[inI];omega)];omega
   simp only[T.node,Ny,Afk,w,An2 h.2.1 h.2.2.1];rfl
  |way p k =>
   have h4:=Wf.le h.2.2.2;have w:wr .i64 ((d:Int)+(p.length:Int))=((d+p.length:Nat):Int):=by rw[B3 (by simp only[inI];omega)];omega
   have hp0 : 0<p.length:=List.length_pos_iff.2 h.2.1;have c4:¬((p.length:Int)=0):=by omega
   have ih:=Abh f k (d+p.length) h.2.2.2 (by omega);have hk:decide (k.node.kind=3)=true:=by cases k with|br o k=>rfl|_=>cases h.2.2.1
   have c5:at' .node [k.node] 0=k.node:=rfl;have c6:inb 0 [k.node].length=true:=rfl;have c7:Kv (NodeS.mk 2 p false [] [k.node] []) true false true false=some true:=rfl;simp only[T.node,Ny,Afk,H9,w,c4,c5,c6,c7,chk,hk,ih,Zc1,show ¬((2:Int)=0) by omega,show ¬((2:Int)=1) by omega,show ¬((2:Int)=4) by omega,decide_false,decide_true,Ag,Af,Zt1];rfl
  |br o k =>
   have h1:=h.1;have hl:=λc hc=>Nq (rf:=Aj (Fu 100) f) (kx:=λe vz=>match vz with|(_,_,v9,a,_,_,_)=>match e with
         |.exit 0 =>
         cond (a) (
          some (decide (2<=v9))) (
          some false)
         |_=>none) (k:=k) (d:=d) (by omega) (λi hi=>Abh f (k i) (d+1) (h.2.2.2 i hi) (by omega)) 100 0 c (by omega) (by omega) hc
   have hm:=h.2.2.1;have c4:decide ((((A5 k).length:Nat):Int)=16)=true:=Ze1 (by rw[B8];rfl);have hc0:cnt k 0=(List.range 16).countP λi => !(k i).isNo:=rfl;cases o with
   |none =>have c5:Kv (NodeS.mk 3 [] false [] (A5 k) []) false false true false=some true:=rfl;have hl:=hl 0 (by omega);simp only[Og,Ny,Ayn,H9,Option.isSome_none,Option.getD_none,c5,c4,Zc1,Zt1,Zs1,Af,Ag,decide_false,show ¬((3:Int)=0) by omega,show ¬((3:Int)=1) by omega,show ¬((3:Int)=4) by omega,show ¬((3:Int)=2) by omega,decide_true];refine hl.trans ?_;have:decide ((2:Int)<=((0+cnt k 0:Nat):Int))=true:=Ze1 (by rw[hc0];unfold Amu at hm;simp only[Option.isSome_none] at hm;simp at hm ⊢;omega);simp only[Af,this]
   |some v =>
    have c5:Kv (NodeS.mk 3 [] true v (A5 k) []) false true true false=some true:=by have:decide ((3:Int)=3)=true:=rfl;simp[Kv,Q8,Afk,H9,Bt6,Ayn,Ny]
    have hl:=hl 1 (by omega);have he:=h.2.1 v rfl;simp only[Og,Ny,Ayn,H9,Option.isSome_some,Option.getD_some,c5,c4,Zc1,Zt1,Zs1,Af,Ag,decide_false,show ¬((3:Int)=0) by omega,show ¬((3:Int)=1) by omega,show ¬((3:Int)=4) by omega,show ¬((3:Int)=2) by omega,decide_true,An2 hle he.1];refine hl.trans ?_;have:decide ((2:Int)<=((1+cnt k 0:Nat):Int))=true:=Ze1 (by rw[hc0];unfold Amu at hm;simp only[Option.isSome_some,if_true] at hm;omega);simp only[Af,this]
theorem Wz{t:T}(h:t.Wf 0):Of t.node=some 0:=by have:=Abh 500 t 0 h (by omega);simp only[Of,Oy,Asy,show Aj (Fu 100) 500 (t.node,0,true)=some true from this,Zc1];rfl
theorem Dp{s:Str}(h:s.length<=2000000):Cc s=some s:=by simp only[Cc,Ze1 h,Af]
theorem Sp{s:Str}(h:s.length<=2000000):Ow s=some s:=by simp only[Ow,Ze1 h,Af]
theorem Aeo{R:Type}{rf:FT [.sv .node] [.sv .node]}{kx:Ex->Ox->Option R}{l:List NodeS}(hl:l.length<=50)(hrf:∀x,x∈l->rf x=some x){w:Int}{w1:Str}{w2:Bool}{w3:Str}{w4:List NodeS}{w5:Str}{w6:Int}{w7:Str}{w8:Bool}{w9 a:Str}:∀(m i:Nat) (acc:List NodeS),i<=l.length->l.length-i<m->acc.length<=i ->
  Aj (λrec=>L5 rf rec kx) m (l,(l.length:Int),(i:Int),w,w1,w2,w3,w4,w5,w6,w7,w8,w9,acc,a)=kx (.exit 0) (l,(l.length:Int),(l.length:Int),w,w1,w2,w3,w4,w5,w6,w7,w8,w9,acc++l.drop i,a)
 |0,_,_,_,h,_=>by omega
 |m+1,i,acc,hi,hm,ha=>by
  rw[Ay];by_cases h:i<l.length
  ·have c1:decide ((i:Int)<(l.length:Int))=true:=Ze1 (by omega);have c2:decide (acc.length+1<=Ah)=true:=Ze1 (by simp only[Ah];omega);simp only[L5,c1,Af,As h,chk,Al (c :=.node) h,hrf _ (List.getElem_mem h),Zc1,c2,An h (show ln l.length by simp[ln];omega)];rw[Aeo hl hrf m (i+1) (acc++[l[i]]) (by omega) (by omega) (by simp;omega),List.drop_eq_getElem_cons h,Zj1];rfl
  ·have e:i=l.length:=by omega
   subst e;have c1:decide ((l.length:Int)<(l.length:Int))=false:=Zd1 (by omega);simp only[L5,c1,Ag,Zc2,List.append_nil]
theorem Ak7:∀(f:Nat) (t:T) (d:Nat),t.Wf d->401<=f+d->Aj (Gl 100) f t.node=some t.node
 |0,t,d,h,hf=>by have:=Wf.le h;omega
 |f+1,t,d,h,hf=>by
  rw[Ay];have hp:=Atn h;have hv1:=Atx h;have h3:t.node.hash=[]:=by cases t<;>rfl
  have hk:t.node.kids.length<=50/\∀x,x∈t.node.kids->Aj (Gl 100) f x=some x:=by
   cases t with
   |no=>exact⟨by simp[T.node,H9],λx hx=>by cases hx⟩
   |lf p v=>exact⟨by simp[T.node,H9],λx hx=>by cases hx⟩
   |way p k =>
    have hp0 : 0<p.length:=List.length_pos_iff.2 h.2.1;refine⟨by simp[T.node,H9],λx hx =>?_⟩;have:x=k.node:=by simpa[T.node,NodeS.kids] using hx
    rw[this];exact Ak7 f k _ h.2.2.2 (by omega)
   |br o k =>refine⟨by simp[T.node,H9],λx hx =>?_⟩;obtain⟨i,hi,rfl⟩:=List.mem_map.1 (show x∈(List.range 16).map λi=>(k i).node from hx);exact Ak7 f (k i) _ (h.2.2.2 i (List.mem_range.1 hi)) (by omega)
  have hl:=Aeo (rf:=Aj (Gl 100) f) (kx:=λe vz=>match vz with|(_,_,_,_,_,_,_,_,_,j,l,m,n,q,r)=>match e with
   |.exit 0 =>some (NodeS.mk j l m n q r)
   |_=>none) hk.1 hk.2 (w:=0) (w1:=[]) (w2:=false) (w3:=[]) (w4:=[]) (w5:=[]) (w6:=t.node.kind) (w7:=t.node.path) (w8:=t.node.has) (w9:=t.node.val) (a:=[]) 100 0 [] (by omega) (by omega) (by simp)
  simp only[Gl,Dp (show t.node.path.length<=2000000 by omega),Dp (show t.node.val.length<=2000000 by omega),h3,Dp (show([]:Str).length<=2000000 by simp),Zc1];refine hl.trans ?_;simp only[Zq1,Zf2];cases h4:t.node with|mk a b c d e g=>rw[h4] at h3;simp only[Bt6] at h3;subst h3;rfl
theorem Am3{t:T}(h:t.Wf 0):Aka t.node=some t.node:=Ak7 500 t 0 h (by omega)
theorem Yn{a b:Str}(ha:a.length<=500000)(hb:b.length<=500000):Aup [a,b]=some (a++b):=by
 have d1:decide ((0:Int)<(([a,b].length:Nat):Int))=true:=rfl;have d2:decide ((1:Int)<(([a,b].length:Nat):Int))=true:=rfl;have d3:decide ((2:Int)<(([a,b].length:Nat):Int))=false:=rfl;have w1:wr .i64 (0+1)=1:=by decide
 have w2:wr .i64 (1+1)=2:=by decide
 have a0:at' .bytes [a,b] 0=a:=rfl;have a1:at' .bytes [a,b] 1=b:=rfl;have i0:inb 0 [a,b].length=true:=rfl;have i1:inb 1 [a,b].length=true:=rfl;have s1:wr .i64 (0+(a.length:Int))=(a.length:Int):=by rw[B3 (by simp only[inI];omega)];omega
 have s2:wr .i64 ((a.length:Int)+(b.length:Int))=((a.length+b.length:Nat):Int):=by rw[B3 (by simp only[inI];omega)];omega
 have p1:decide ((a.length:Int)<0)=false:=Zd1 (by omega);have p2:decide (((a.length+b.length:Nat):Int)<0)=false:=Zd1 (by omega);have q1:decide ((0:Int)<=((a.length+b.length:Nat):Int))=true:=Ze1 (by omega);have q2:decide (((a.length+b.length:Nat):Int)<=2000000)=true:=Ze1 (by omega);have m1:decide (([]:Str).length+a.length<=Ah)=true:=Ze1 (by simp only[Ah,Zi1];omega);have m2:decide (([]++a:Str).length+b.length<=Ah)=true:=Ze1 (by simp only[Ah,Zf2];omega);have go0:∀{R:Type}(kx:Ex->Xw->Option R),Aj (λrec=>Vj rec kx) 100 ([a,b],0,[a,b],(([a,b].length:Nat):Int),0)=kx (.exit 0) ([a,b],((a.length+b.length:Nat):Int),[a,b],(([a,b].length:Nat):Int),2):=λkx=>by rw[show(100:Nat)=97+1+1+1 from rfl,Ay];simp only[Vj,d1,Af,i0,chk,a0,s1,p1,Ag,w1];rw[Ay];simp only[Vj,d2,Af,i1,chk,a1,s2,p2,Ag,w2];rw[Ay];simp only[Vj,d3,Ag]
 have go1:∀{R:Type}(kx:Ex->Yc->Option R),Aj (λrec=>Wn rec kx) 100 ([],[a,b],(([a,b].length:Nat):Int),0)=kx (.exit 2) ([]++a++b,[a,b],(([a,b].length:Nat):Int),2):=λkx=>by rw[show(100:Nat)=97+1+1+1 from rfl,Ay];simp only[Wn,d1,Af,i0,chk,a0,m1,w1];rw[Ay];simp only[Wn,d2,Af,i1,chk,a1,m2,w2];rw[Ay];simp only[Wn,d3,Ag]
 simp only[Aup,Ab5];rw[go0];simp only[q1,q2,Bool.and_true,chk,Af];rw[go1];simp
theorem A1u:∀(f:Nat) (t:T) (d:Nat) (p w:Str),t.Wf d->hv p->w.length=d->d+p.length<=400->401<=f+d->∃u,Aj Ez f (t.node,p,w)=some (u,(t.look p).isSome,())/\∀v,t.look p=some v->u=v
 |0,t,d,p,w,h,_,_,_,hf=>by have:=Wf.le h;omega
 |f+1,t,d,p,w,h,hp,hw,hd,hf=>by
  rw[Ay];cases t with
  |no=>exact⟨[],rfl,λv e=>by cases e⟩
  |lf q v =>
   have hb:Cc v=some v:=Dp (by have:=h.2.2.2;omega);refine⟨v,?_,λu e =>?_⟩
   ·simp only[Ez,T.node,Ny,Afk,Az1,hb,Zc1,beq,T.look,show ¬((1:Int)=4) by omega,decide_false,decide_true,Ag,Af];by_cases e:q=p<;>simp[e]
   ·simp only[T.look] at e;split at e
    ·cases e;rfl
    ·cases e
  |way q k =>
   have h4:=Wf.le h.2.2.2;have hq0 : 0<q.length:=List.length_pos_iff.2 h.2.1;have ht:Ez (Aj Ez f) (T.node (.way q k),p,w)=cond (!(A3 p q).isSome&&false || !(A3 q p).isSome) (some ([],false,())) (chk (upto (q.length:Int) p.length p.length) ((Aup [w,q]).bind λx3=>(Aj Ez f (k.node,p.drop ((q.length:Int):Int).toNat,x3)).bind λz=>some (z.1,z.2.1,()))):=by simp only[Ez,T.node,Ny,Afk,H9,Asq,Zc1,show ¬((2:Int)=4) by omega,show ¬((2:Int)=1) by omega,decide_false,decide_true,Ag,Af,Bool.and_false,Bool.false_or];rfl
   rw[ht];simp only[T.look,Bool.and_false,Bool.false_or];cases hs:A3 q p with
   |none=>exact⟨[],rfl,λv e=>by cases e⟩
   |some r =>
    have e:=Bi.1 hs;subst e;have hpp:=E5.1 hp;simp only[Zh1] at hd;have c1:upto (q.length:Int) ((q++r).length:Int) (q++r).length=true:=by simp only[upto,Zh1,Zb1,Zg1];omega
    obtain⟨u,h1,h2⟩:=A1u f k (d+q.length) r (w++q) h.2.2.2 hpp.2 (by simp;omega) (by omega) (by omega);refine⟨u,?_,h2⟩;have e2:(q++r).drop ((q.length:Int):Int).toNat=r:=by simp
    simp only[Option.isSome_some,Zt1,Ag,c1,chk,Af,Yn (show w.length<=500000 by omega) (show q.length<=500000 by omega),Zc1,e2,h1]
  |br o k =>
   cases p with
   |nil =>have hb:Cc (o.getD [])=some (o.getD []):=Dp (by have:=Atx h;simp only[T.node,Az1] at this;omega);refine⟨o.getD [],?_,λv e=>by simp only[T.look] at e;rw[e];rfl⟩;simp only[Ez,Og,Ny,Az1,Ayn,hb,Zc1,T.look];rfl
   |cons x p =>
    have hx:=Dl.1 hp;simp only[Zf1] at hd;obtain⟨u,h1,h2⟩:=A1u f (k x.toNat) (d+1) p (w++[x]) (h.2.2.2 _ hx.1) hx.2 (by simp;omega) (by omega) (by omega);refine⟨u,?_,h2⟩;have c0:decide (((x::p).length:Int)=0)=false:=Zd1 (by simp only[Zf1];omega);have a0:at' .byte (x::p) 0=x:=rfl;have i0:inb 0 (x::p).length=true:=by simp[inb]
    have hk:x.toNat<(A5 k).length:=by rw[B8];exact hx.1
    have u1:upto 1 ((x::p).length:Int) (x::p).length=true:=by simp only[upto,Zf1,Zb1,Zg1];omega
    have u2:upto 0 1 (x::p).length=true:=by simp only[upto,Zf1,Zb1,Zg1];omega
    have t1:(x::p).take (1:Int).toNat=[x]:=rfl;have t2:(x::p).drop (1:Int).toNat=p:=rfl;simp only[Ez,Og,Ny,H9,T.look,show ¬((3:Int)=4) by omega,show ¬((3:Int)=1) by omega,show ¬((3:Int)=2) by omega,decide_false,decide_true,Ag,Af,c0,a0,i0,chk,As hk,u1,u2,t1,t2,Yn (show w.length<=500000 by omega) (show [x].length<=500000 by simp),Zc1,Al (c :=.node) hk,Lg,h1]
theorem L1:(List.replicate (α:=NodeS) (16:Int).toNat (zer .node):List NodeS)=A5 nos:=rfl
theorem Lj: @List.replicate (El .node) (16:Int).toNat (zer .node)=A5 nos:=rfl
theorem P2{p v:Str}(hp:p.length<=2000000)(hv:v.length<=2000000):X4 p v=some (T.lf p v).node:=by simp only[X4,Vw,Sp hp,Dp hv,Zc1,T.node]
theorem I4{p:Str}{t:T}(hp:p.length<=2000000):Ks p t.node=some (K8 p t).node:=by
 cases p with
 |nil=>rfl
 |cons x p =>
  have c:¬(((x::p).length:Int)=0):=by simp only[Zf1];omega
  simp only[Ks,Pr,c,decide_false,Ag,Sp hp,Zc1,K8,T.node]
theorem Ado(k:Nat->T):cut (A5 k) 0 16=A5 k:=by unfold cut;rw[show(0:Int).toNat=0 from rfl,Zq1,List.take_of_length_le (by rw[B8];decide)]
theorem Akg(k:Nat->T):((16:Int)<=((A5 k).length:Int))=True:=by rw[B8];exact eq_true (by decide)
theorem Alh:((0:Int)<=0)=True:=eq_true (by decide)
theorem Al8:((0:Int)<=16)=True:=eq_true (by decide)
section
variable {x:UInt8}{a:Str}{k:Nat->T}
theorem Awt:at' .byte (x::a:Str) 0=x:=rfl
theorem Ajo:at' .byte (x::a) 0=x:=rfl
theorem Avi:inb 0 (x::a).length=true:=by simp[inb]
theorem Awj:upto 1 ((x::a).length:Int) (x::a).length=true:=by simp only[upto,Zf1,Zb1,Zg1];omega
theorem Bug:upto 0 1 (x::a).length=true:=by simp only[upto,Zf1,Zb1,Zg1];omega
theorem Axm:(x::a).drop (1:Int).toNat=a:=rfl
theorem Bwm:(x::a).take (1:Int).toNat=[x]:=rfl
theorem Aw9(h:x.toNat<16):inO (x.toNat:Int) 16=true:=by simp only[inO,Zb1,Zg1];omega
theorem A0w(h:x.toNat<16):inb (0+(x.toNat:Int)) (A5 k).length=true:=by rw[B8];simp only[inb,Zb1,Zg1];omega
theorem Bb0:(0+(x.toNat:Int)).toNat=x.toNat:=by omega
theorem Bmj:¬(((x::a).length:Int)=0):=by simp only[Zf1];omega
theorem Ahy:(([]:Str).length:Int)=0:=rfl
end
theorem Acw(s a:Str):upto (s.length:Int) ((s++a).length:Int) (s++a).length=true:=by simp only[upto,Zh1,Zb1,Zg1];omega
theorem Y9(s a:Str):upto 0 (s.length:Int) (s++a).length=true:=by simp only[upto,Zh1,Zb1,Zg1];omega
theorem Ls(s a:Str):(s++a).drop ((s.length:Int):Int).toNat=a:=by simp
theorem Qk(s a:Str):(s++a).take ((s.length:Int):Int).toNat=s:=by simp
theorem Af5(v:Str)(k:Nat->T):NodeS.mk 3 [] true v (A5 k) []=(T.br (some v) k).node:=rfl
theorem A8v(k:Nat->T):NodeS.mk 3 [] false [] (A5 k) []=(T.br none k).node:=rfl
theorem Bdu{q u p v:Str}{d:Nat}(h:q≠p)(ht:(T.lf q u).Wf d)(hp:hv p)(hd:d+p.length<=400)(hl:v.length<=4000):Ajt (T.lf q u).node p v=some (Y3 q u p v).node:=by
 have hs:=Fl q p;have hn :=@Gs q p;have hc:com q p=(B6 q p).1.length:=rfl;have h2:=ht.2.1;unfold Ajt Nk;dsimp only[El];simp only[T.node,Ny,Afk,Az1,Arp (show q.length<=1900 by omega) (show p.length<=1900 by omega),Zc1,hc,Y3];have hq:=ht.1;have hu:=ht.2.2.2;generalize B6 q p=z at hs hn;obtain⟨s,a,b⟩:=z;simp only at hs hn;obtain⟨rfl,rfl⟩:=hs;simp only[Zh1] at h2 hd;have ha:=(E5.1 hq).2;have hb:=(E5.1 hp).2;have bu:Cc u=some u:=Dp (by omega);have bv:Cc v=some v:=Dp (by omega);cases a with
 |nil =>cases b with|nil=>exact absurd rfl h|cons y b =>simp only[Zf1] at hd;have hy:=(Dl.1 hb).1;simp only[Acw,Y9,Ls,Qk,chk,Af,Ag,decide_true,decide_false,Ahy,Bmj,bu,Zc1,Avi,Awj,Axm,Awt,Ajo,Aw9 hy,Q2,L1,Lj,A0w hy,Bb0,P2 (show b.length<=2000000 by omega) (show v.length<=2000000 by omega),Me,Akg,Alh,Al8,decide_true,Bool.and_self,Ado,Af5,I4 (show s.length<=2000000 by omega),hold]
 |cons x a =>have hx:=(Dl.1 ha).1;simp only[Zf1] at h2;have l1:=P2 (show a.length<=2000000 by omega) (show u.length<=2000000 by omega);cases b with|nil =>simp only[Acw,Y9,Ls,Qk,chk,Af,Ag,decide_true,decide_false,Ahy,Bmj,bv,Zc1,Avi,Awj,Axm,Awt,Ajo,Aw9 hx,Q2,L1,Lj,A0w hx,Bb0,l1,Me,Akg,Alh,Al8,decide_true,Bool.and_self,Ado,Af5,I4 (show s.length<=2000000 by omega),hold]|cons y b =>have hy:=(Dl.1 hb).1;simp only[Zf1] at hd;simp only[Acw,Y9,Ls,Qk,chk,Af,Ag,decide_true,decide_false,Ahy,Bmj,Zc1,Avi,Awj,Axm,Awt,Ajo,Aw9 hx,Aw9 hy,Q2,L1,Lj,A0w hx,A0w hy,Bb0,l1,P2 (show b.length<=2000000 by omega) (show v.length<=2000000 by omega),Me,Akg,Alh,Al8,decide_true,Bool.and_self,Ado,A8v,I4 (show s.length<=2000000 by omega),hold]
theorem Bak{q:Str}{k:T}{p v:Str}{d:Nat}(h:A3 q p=none)(ht:(T.way q k).Wf d)(hp:hv p)(hd:d+p.length<=400)(hl:v.length<=4000):Ajt (T.way q k).node p v=some (Xo q k p v).node:=by
 have hs:=Fl q p;have hn :=@Gs q p;have hc:com q p=(B6 q p).1.length:=rfl;have h2:=Wf.le ht.2.2.2;unfold Ajt Nk;dsimp only[El];simp only[T.node,Ny,Afk,H9,Arp (show q.length<=1900 by omega) (show p.length<=1900 by omega),Zc1,hc,Xo];have hq:=ht.1;generalize B6 q p=z at hs hn;obtain⟨s,a,b⟩:=z;simp only at hs hn;obtain⟨rfl,rfl⟩:=hs;simp only[Zh1] at h2 hd;have ha:=(E5.1 hq).2;have hb:=(E5.1 hp).2;have bv:Cc v=some v:=Dp (by omega);cases a with
 |nil=>simp[Fj] at h
 |cons x a =>
  have hx:=(Dl.1 ha).1;simp only[Zf1] at h2;have i1:s.length<(s++x::a).length:=by simp
  have g1:(s++x::a)[s.length]'i1=x:=by rw[List.getElem_append_right (by omega)];simp
  have w1:wr .i64 ((s.length:Int)+1)=((s.length+1:Nat):Int):=by rw[B3 (by simp only[inI];omega)];omega
  have u1:upto ((s.length+1:Nat):Int) ((s++x::a).length:Int) (s++x::a).length=true:=by simp only[upto,Zh1,Zf1,Zb1,Zg1];omega
  have d1:(s++x::a).drop (((s.length+1:Nat):Int):Int).toNat=a:=by rw[Int.toNat_natCast,show s++x::a=(s++[x])++a by simp,List.drop_left' (by simp)]
  have k0:at' .node [k.node] 0=k.node:=rfl;have k1:inb 0 [k.node].length=true:=rfl;have t1:=I4 (t:=k) (show a.length<=2000000 by omega);have e2:¬((2:Int)=1):=by omega
  cases b with|nil =>simp only[e2,decide_false,Ag,As i1,chk,Af,w1,u1,k1,d1,k0,t1,Zc1,Al (c :=.byte) i1,g1,Aw9 hx,Q2,L1,Lj,A0w hx,Acw,Y9,Ls,Qk,Ahy,decide_true,bv,Bb0,Me,Akg,Alh,Al8,decide_true,Bool.and_self,Ado,Af5,I4 (show s.length<=2000000 by omega),hold]|cons y b =>have hy:=(Dl.1 hb).1;simp only[Zf1] at hd;simp only[e2,decide_false,Ag,As i1,chk,Af,w1,u1,k1,d1,k0,t1,Zc1,Al (c :=.byte) i1,g1,Aw9 hx,Aw9 hy,Q2,L1,Lj,A0w hx,A0w hy,Acw,Y9,Ls,Qk,Bmj,Avi,Awj,Axm,Awt,Ajo,Bb0,P2 (show b.length<=2000000 by omega) (show v.length<=2000000 by omega),Me,Akg,Alh,Al8,decide_true,Bool.and_self,Ado,A8v,I4 (show s.length<=2000000 by omega),hold]
theorem A1p:∀(f:Nat) (t:T) (d:Nat) (p v w:Str),t.Wf d->hv p->w.length=d->d+p.length<=400->v.length<=4000->401<=f+d->Aj Hr f (t.node,p,v,w)=some ((t.put p v).node,())
 |0,t,d,p,v,w,h,_,_,_,_,hf=>by have:=Wf.le h;omega
 |f+1,t,d,p,v,w,h,hp,hw,hd,hl,hf=>by
  rw[Ay];have lf:=P2 (show p.length<=2000000 by omega) (show v.length<=2000000 by omega);cases t with
  |no =>simp only[Hr,T.node,Ny,show ¬((0:Int)=4) by omega,decide_false,decide_true,Ag,Af,lf,Zc1,T.put]
  |lf q u =>
   simp only[Hr,show((T.lf q u).node).kind=1 from rfl,show((T.lf q u).node).path=q from rfl,show ¬((1:Int)=4) by omega,show ¬((1:Int)=0) by omega,decide_false,decide_true,Ag,Af,T.put,beq,lf,Zc1];by_cases e:q=p
   ·simp only[e,decide_true,Af,if_true]
   ·simp only[e,decide_false,Ag,if_false,Bdu e h hp hd hl,Zc1]
  |way q k =>have h4:=Wf.le h.2.2.2;have hq0 : 0<q.length:=List.length_pos_iff.2 h.2.1;have k0:at' .node [k.node] 0=k.node:=rfl;have k1:inb 0 [k.node].length=true:=rfl;simp only[Hr,show((T.way q k).node).kind=2 from rfl,show((T.way q k).node).path=q from rfl,show((T.way q k).node).kids=[k.node] from rfl,show((T.way q k).node).has=false from rfl,show((T.way q k).node).val=[] from rfl,show((T.way q k).node).hash=[] from rfl,show ¬((2:Int)=4) by omega,show ¬((2:Int)=0) by omega,show ¬((2:Int)=1) by omega,decide_false,decide_true,Ag,Af,T.put,Asq,Zc1,k0,k1,chk];cases hs:A3 q p with|none=>simp only[Option.isSome_none,Zs1,Af,Bak hs h hp hd hl,Zc1]|some r =>have e:=Bi.1 hs;subst e;have hpp:=E5.1 hp;simp only[Zh1] at hd;have ih:=A1p f k (d+q.length) r v (w++q) h.2.2.2 hpp.2 (by simp;omega) (by omega) hl (by omega);simp only[Option.isSome_some,Zt1,Ag,Acw,Af,Yn (show w.length<=500000 by omega) (show q.length<=500000 by omega),Zc1,Ls,ih,T.node]
  |br o k =>
   have hk1:(A5 k).length<=2000000:=by rw[B8];omega
   have hk2:List.isEmpty (A5 k)=false:=rfl;have hk3:∀k':Nat->T,cut (A5 k') 0 (0+((A5 k).length:Int))=A5 k':=λk'=>by rw[B8];exact Ado k'
   have hk4:(0:Int)<=((A5 k).length:Int):=by rw[B8];decide
   have hk5:∀k':Nat->T,(0+((A5 k).length:Int))<=((A5 k').length:Int):=λk'=>by rw[B8,B8];decide
   simp only[Hr,Og,Ny,Afk,Ayn,Az1,H9,Bt6,show ¬((3:Int)=4) by omega,show ¬((3:Int)=0) by omega,show ¬((3:Int)=1) by omega,show ¬((3:Int)=2) by omega,decide_false,decide_true,Ag,hk1,chk,Af,hk2];cases p with
   |nil =>simp only[Ahy,decide_true,Af,Dp (show v.length<=2000000 by omega),Zc1,hk3,hk4,hk5,Alh,decide_true,Bool.and_self,Af,T.put,Af5]
   |cons x p =>
    have hx:=Dl.1 hp;simp only[Zf1] at hd;have ih:=A1p f (k x.toNat) (d+1) p v (w++[x]) (h.2.2.2 _ hx.1) hx.2 (by simp;omega) (by omega) hl (by omega);have ho:inO (x.toNat:Int) ((A5 k).length:Int)=true:=by rw[B8];exact Aw9 hx.1
    have hat:at' .node (A5 k) (0+(x.toNat:Int))=(k x.toNat).node:=by
     have hlt:x.toNat<(A5 k).length:=by rw[B8];exact hx.1
     rw[Int.zero_add,Al (c :=.node) hlt,Lg]
    simp only[Bmj,decide_false,Ag,Avi,Af,Awt,Ajo,ho,A0w hx.1,Awj,Bug,Bwm,Axm,Yn (show w.length<=500000 by omega) (show [x].length<=500000 by simp),Zc1,hat,ih,Bb0,Me,hk3,hk4,hk5,Alh,decide_true,Bool.and_self,Af,T.put,Og]
theorem Arb{t:T}{k v:Str}(h:t.Wf 0)(hk:k.length<=200)(hv:v.length<=4000):Aia t.node k v=some true:=by have c1:decide ((k.length:Int)<=200)=true:=Ze1 (by omega);have c2:decide ((v.length:Int)<=4000)=true:=Ze1 (by omega);simp only[Aia,Pn,Wz h,Zc1,decide_true,Af,c1,c2]
theorem Bok{t:T}{k:Str}(h:t.Wf 0)(hk:k.length<=200):Bnv t.node k=some ((t.look (nib k)).getD [],(t.look (nib k)).isSome,(),0):=by have hn:=G8 k;obtain⟨u,h1,h2⟩:=A1u 500 t 0 (nib k) [] h (Ace k) rfl (by omega) (by omega);have h1:Bu3 t.node (nib k) []=some (u,(t.look (nib k)).isSome,()):=h1;simp only[Bnv,Ady,Arb h hk (show([]:Str).length<=4000 by simp),Ar1 (show k.length<=1900 by omega),Zc1,Zt1,Ag,h1];cases e:t.look (nib k) with|none=>rfl|some v=>rw[h2 v e];rfl
theorem Bqv{t:T}{k v:Str}(h:t.Wf 0)(hk:k.length<=200)(hv:v.length<=4000):Bp6 t.node k v=some ((t.put (nib k) v).node,(),0):=by have hn:=G8 k;have h1:Bua t.node (nib k) v []=some ((t.put (nib k) v).node,()):=A1p 500 t 0 (nib k) v [] h (Ace k) rfl (by omega) hv (by omega);simp only[Bp6,Ach,Arb h hk hv,Am3 h,Ar1 (show k.length<=1900 by omega),Zc1,Zt1,Ag,h1]
theorem Bke{t:T}{k v:Str}(h:t.Wf 0)(hk:k.length<=200)(hv:v.length<=4000):(t.put (nib k) v).Wf 0:=(A2g h (Ace k) (by have:=G8 k;omega) (by have:=G8 k;omega) hv).1
def Afu(s:SpanS)(q:Str):Bool:=decide (0<=Aft q s.low)&&(s.op||decide (Aft q s.high<0))
def Adk(s:SpanS)(w:Str):Bool:=(decide (0<=Aft w s.low)||(A3 w s.low).isSome)&&(s.op||decide (Aft (if w.length % 2=1 then w++[0] else w) s.high<0))
theorem Atw{a b:Str}:Aft a b<0↔a<b:=by
 unfold Aft;split
 ·simp_all
 ·split<;>simp_all
theorem A2d{a b:Str} : 0<=Aft a b↔¬a<b:=by rw[<-Atw];omega
theorem Bnb{s:SpanS}{w:Str}(hw:w.length<=1900)(h1:s.low.length<=1900)(h2:s.high.length<=1900):Axi s w=some (Afu s w):=by simp only[Axi,Xm,Ym hw h1,Ym hw h2,Zc1,Afu];cases decide (0<=Aft w s.low)<;>cases s.op<;>rfl
theorem A1m{s:SpanS}{w:Str}(hw:w.length<=1800)(h1:s.low.length<=1900)(h2:s.high.length<=1900):Agi s w=some (Adk s w):=by
 have c3:decide (w.length+1<=Ah)=true:=Ze1 (by simp only[Ah];omega);have hz:UInt8.ofNat (0:Int).toNat=0:=rfl;simp only[Agi,Nu,Ym (show w.length<=1900 by omega) h1,Asq,Sp (show w.length<=2000000 by omega),Ym (show(w++[0]).length<=1900 by simp;omega) h2,Ym (show w.length<=1900 by omega) h2,Zc1,Adk,c3,chk,Af,hz];have e:decide (Int.tmod (w.length:Int) 2=1)=decide (w.length % 2=1):=by
  rw[Int.tmod_eq_emod_of_nonneg (by omega)];by_cases h:w.length % 2=1
  ·rw[Ze1 h,Ze1 (by omega)]
  ·rw[Zd1 h,Zd1 (by omega)]
 rw[e];by_cases h:w.length % 2=1
 ·simp only[h,decide_true,Af,if_true];cases decide (0<=Aft w s.low)<;>cases (A3 w s.low).isSome<;>cases s.op<;>rfl
 ·simp only[h,decide_false,Ag,if_false];cases decide (0<=Aft w s.low)<;>cases (A3 w s.low).isSome<;>cases s.op<;>rfl
theorem Bju:∀{w l:Str},w<l->(A3 w l).isSome=true\/∀r,w++r<l
 |[],l,_ =>.inl (by simp[A3])
 |x::w,[],h=>absurd h (List.not_lt_nil _)
 |x::w,y::l,h=>by
  rcases List.cons_lt_cons_iff.1 h with h1|⟨e,h1⟩
  ·exact .inr λr=>List.cons_lt_cons_iff.2 (.inl h1)
  ·rcases Bju h1 with h2|h2
   ·exact .inl (by simpa[A3,e] using h2)
   ·exact .inr λr=>List.cons_lt_cons_iff.2 (.inr ⟨e,h2 r⟩)
theorem Bg6:∀{w r h:Str},w++r<h->w<h
 |[],_,[],h=>absurd h (List.not_lt_nil _)
 |[],_,y::h,_=>List.nil_lt_cons y h
 |x::w,_,[],h=>absurd h (List.not_lt_nil _)
 |x::w,r,y::h,hl=>by
  rcases List.cons_lt_cons_iff.1 hl with h1|⟨rfl,h1⟩
  ·exact List.cons_lt_cons_iff.2 (.inl h1)
  ·exact List.cons_lt_cons_iff.2 (.inr ⟨rfl,Bg6 h1⟩)
theorem Mt{x y:UInt8}:x<y↔x.toNat<y.toNat:=UInt8.lt_iff_toNat_lt
theorem A8y:∀{w r h:Str}{x:UInt8},w++x::r<h->w++[0]<h
 |[],_,[],_,h=>absurd h (List.not_lt_nil _)
 |[],r,y::h,x,hl=>by
  rcases List.cons_lt_cons_iff.1 hl with h1|⟨rfl,h1⟩
  ·refine List.cons_lt_cons_iff.2 (.inl ?_);rw[Mt] at *;have:(0:UInt8).toNat=0:=rfl;omega
  ·by_cases e:x=0
   ·subst e;refine List.cons_lt_cons_iff.2 (.inr ⟨rfl,?_⟩);cases h with|nil=>exact absurd h1 (List.not_lt_nil _)|cons z h=>exact List.nil_lt_cons z h
   ·refine List.cons_lt_cons_iff.2 (.inl ?_);rw[Mt];have:(0:UInt8).toNat=0:=rfl;have:x.toNat≠0:=λh=>e (UInt8.toNat_inj.1 h);omega
 |x::w,_,[],_,h=>absurd h (List.not_lt_nil _)
 |x::w,r,y::h,z,hl=>by
  rcases List.cons_lt_cons_iff.1 hl with h1|⟨rfl,h1⟩
  ·exact List.cons_lt_cons_iff.2 (.inl h1)
  ·exact List.cons_lt_cons_iff.2 (.inr ⟨rfl,A8y h1⟩)
theorem Bgl{s:SpanS}{w r:Str}(he:(w++r).length % 2=0)(h:Afu s (w++r)=true):Adk s w=true:=by
 simp only[Afu,Zb1,Zd2,Zg1,Atw,A2d] at h;simp only[Adk,Zb1,Zd2,Zg1,Atw,A2d];refine⟨?_,?_⟩
 ·by_cases e:w<s.low
  ·rcases Bju e with h1|h1
   ·exact .inr h1
   ·exact absurd (h1 r) h.1
  ·exact .inl e
 ·rcases h.2 with h2|h2
  ·exact .inl h2
  ·right;split
   ·rename_i ho;cases r with|nil=>simp at he;omega|cons x r=>exact A8y h2
   ·exact Bg6 h2
def Ib:Str->Str
 |x::y::l=>UInt8.ofNat (x.toNat*16+y.toNat)::Ib l
 |_=>[]
theorem Jb:∀b:Str,Ib (nib b)=b
 |[]=>rfl
 |x::b=>by have:=x.toNat_lt;rw[Ia];simp only[Aku,Zb2,Zf2,Ib,Jb b,UInt8.toNat_ofNat',Ze2,and_true];rw[show x.toNat / 16 % 2 ^ 8*16+x.toNat % 16 % 2 ^ 8=x.toNat by omega];simp
theorem Ac9:∀{q:Str},hv q->q.length % 2=0->nib (Ib q)=q
 |[],_,_=>rfl
 |[_],_,h=>by simp at h
 |x::y::q,h,he=>by
  have h1:=Dl.1 h;have h2:=Dl.1 h1.2;have hx:=h1.1;have hy:=h2.1;simp only[Ib,Ia,Ac9 h2.2 (by simp at he;omega),Aku,UInt8.toNat_ofNat',Zb2,Zf2,Ze2,and_true];constructor
  ·apply UInt8.toNat_inj.1;simp only[UInt8.toNat_ofNat'];omega
  ·apply UInt8.toNat_inj.1;simp only[UInt8.toNat_ofNat'];omega
theorem Aow:∀q:Str,(Ib q).length<=q.length
 |[]=>by simp[Ib]
 |[_]=>by simp[Ib]
 |x::y::q=>by have:=Aow q;simp only[Ib,Zf1];omega
theorem Anm{q:Str}(h:hv q)(he:q.length % 2=0)(hl:q.length<=800):Abx q=some (Ib q,0):=by have:=Bd2 (b:=Ib q) (by have:=Aow q;omega);rwa[Ac9 h he] at this
def Ev(s:SpanS)(t:T)(w:Str):List KvS:=((t.items w).filter λx=>Afu s x.1).map λx=>KvS.mk (Ib x.1) x.2
theorem Bjc(s:SpanS)(o:Option Str)(k:Nat->T)(w:Str):Ev s (.br o k) w=(match o with|some v=>if Afu s w then [KvS.mk (Ib w) v] else []|none=>[])++(List.range 16).flatMap λi=>Ev s (k i) (w++[UInt8.ofNat i]):=by unfold Ev;simp only[T.items,List.filter_append,List.map_append,List.filter_flatMap,List.map_flatMap];congr 1;cases o with|none=>rfl|some v =>simp only[List.filter_cons,List.filter_nil];split<;>rfl
theorem A1j{s:SpanS}{t:T}{w:Str}{d:Nat}(h:t.Wf d)(hw:w.length=d)(hm:Adk s (w++t.node.path)=false):Ev s t w=[]:=by
 unfold Ev;rw[List.map_eq_nil_iff,List.filter_eq_nil_iff];rintro⟨q,v⟩ hq hin;obtain⟨r,rfl,hr,hl⟩:=(Fq h).1 hq;have he:=(Agn h hr hl).2.1;have:∃z,r=t.node.path++z:=by
  cases t with
  |no=>exact⟨r,rfl⟩
  |br o k=>exact⟨r,rfl⟩
  |lf p u =>
   simp only[T.look] at hl;split at hl
   ·rename_i e;exact⟨[],by simp[T.node,Afk,e]⟩
   ·cases hl
  |way p k =>
   simp only[T.look] at hl;split at hl
   ·rename_i z e;exact⟨z,Bi.1 e⟩
   ·cases hl
 obtain⟨z,rfl⟩:=this;have hin:Afu s (w++(t.node.path++z))=true:=hin;rw[<-Zj1] at hin;rw[Bgl (by simp only[Zh1] at *;omega) hin] at hm;cases hm
theorem A9n(s:SpanS)(t:T)(w:Str):(Ev s t w).length<=(t.items w).length:=by unfold Ev;rw[List.length_map];exact List.length_filter_le ..
theorem Ac0{R:Type}{rf:Mv->Option G0}{kx:Ex->Qd->Option R}{sp:SpanS}{n:NodeS}{q:Str}{m:Int}{r8:List KvS}{r9:Str}{e10:Int}{B:Nat}{F:Nat->List KvS}(hq:q.length<=1000)(hn:n.kids.length<=50)
  (hrf:∀i (h:i<n.kids.length) o,o.length+(F i).length<=B->rf (sp,n.kids[i],(if n.kind=3 then q++[UInt8.ofNat i] else q),false,m,r8,r9,e10,o,0)=some (true,m,r8,r9,e10,o++F i,0)) :
  ∀(k i:Nat) (b:Bool) (o:List KvS),i<=n.kids.length->n.kids.length-i<k->o.length+(((List.range n.kids.length).drop i).flatMap F).length<=B ->
  Aj (λrec=>Nl rf rec kx) k (false,b,(n.kids.length:Int),(i:Int),m,r8,r9,e10,o,0,sp,n,q)=kx (.exit 0) (false,b,(n.kids.length:Int),(n.kids.length:Int),m,r8,r9,e10,o++((List.range n.kids.length).drop i).flatMap F,0,sp,n,q)
 |0,_,_,_,_,h,_=>by omega
 |k+1,i,b,o,hi,hk,hB=>by
  rw[Ay];by_cases h:i<n.kids.length
  ·have c1:decide ((i:Int)<(n.kids.length:Int))=true:=Ze1 (by omega);have c2:decide (q.length+1<=Ah)=true:=Ze1 (by simp only[Ah];omega);have w1:wr .u8 (i:Int)=(i:Int):=IntWalk.u8_in _ (by omega);have hd:(List.range n.kids.length).drop i=i::(List.range n.kids.length).drop (i+1):=by rw[List.drop_eq_getElem_cons (by simpa using h)];simp
   rw[hd,List.flatMap_cons] at hB ⊢;simp only[Zh1] at hB;have h1:=hrf i h o (by omega);have ih:=Ac0 (kx:=kx) hq hn hrf k (i+1) b (o++F i) (by omega) (by omega) (by simp only[Zh1];omega);have e1:UInt8.ofNat (wr .u8 (i:Int):Int).toNat=UInt8.ofNat i:=by rw[w1,Int.toNat_natCast]
   simp only[Nl,c1,Af,Ag,e1,Sp (show q.length<=2000000 by omega),Zc1,c2,chk,As h,Al (c :=.node) h,An h (show ln n.kids.length by simp[ln];omega)];by_cases e:n.kind=3
   ·simp only[e,if_true,decide_true,Af] at h1 ⊢;simp only[h1,Zc1,Zt1,Ag,ih,Zj1]
   ·simp only[e,if_false,decide_false,Ag] at h1 ⊢;simp only[h1,Zc1,Zt1,Ag,ih,Zj1]
  ·have e:i=n.kids.length:=by omega
   subst e;have c1:decide ((n.kids.length:Int)<(n.kids.length:Int))=false:=Zd1 (by omega);simp only[Nl,c1,Ag];rw[show(List.range n.kids.length).drop n.kids.length=[] from List.drop_of_length_le (by simp)];simp
theorem A17{sp:SpanS}(h1:sp.low.length<=1900)(h2:sp.high.length<=1900){m:Int}{r8:List KvS}{r9:Str}{e10:Int}{B:Nat}(hm:(B:Int)<m)(hB:B<=Ah):∀(f:Nat) (t:T) (d:Nat) (w:Str) (o:List KvS),t.Wf d->hv w->w.length=d->401<=f+d->o.length+(Ev sp t w).length<=B ->
  Aj (Ms 100) f (sp,t.node,w,false,m,r8,r9,e10,o,0)=some (true,m,r8,r9,e10,o++Ev sp t w,0)
 |0,t,d,w,o,h,_,_,hf,_=>by have:=Wf.le h;omega
 |f+1,t,d,w,o,h,hw,hd,hf,ho=>by
  rw[Ay];have hp:=Atn h;have hle:=Wf.le h;have hv1:=Atx h;generalize hrf:Aj (Ms 100) f=rf;unfold Ms;dsimp -zeta only;extract_lets j5;have hq:∀J:Str->Option G0,(cond (List.isEmpty w) (cond (List.isEmpty t.node.path) (J []) (chk (decide (0+t.node.path.length<=Ah)) (J ([]++t.node.path)))) (chk (decide (0+w.length<=Ah)) (chk (decide (([]++w).length+t.node.path.length<=Ah)) (J (([]++w)++t.node.path)))))=J (w++t.node.path):=λJ=>by
   have c1:decide (0+t.node.path.length<=Ah)=true:=Ze1 (by simp only[Ah];omega);have c2:decide (0+w.length<=Ah)=true:=Ze1 (by simp only[Ah];omega);have c3:decide (([]++w).length+t.node.path.length<=Ah)=true:=Ze1 (by simp only[Ah,Zf2];omega);rw[c1,c2,c3];cases w with
   |nil =>cases hpp:t.node.path with|nil=>rfl|cons x p=>rfl
   |cons x w=>rfl
  refine(hq j5).trans ?_;simp only[j5];have hql:(w++t.node.path).length<=800:=by simp only[Zh1];omega
  have hqm:=A1m (s:=sp) (w:=w++t.node.path) (by omega) h1 h2;have hqs:=Bnb (s:=sp) (w:=w++t.node.path) (by omega) h1 h2;simp only[hqm,hqs,Zc1];cases hmt:Adk sp (w++t.node.path) with
  |false =>rw[A1j h hd hmt,List.append_nil];cases decide (t.node.kind=0)<;>rfl
  |true =>
   have hmx:∀n:Nat,n<=B->¬((n:Int)=m):=λn hn=>by omega
   cases t with
   |no=>simp[T.node,Ny,Ev,T.items]
   |lf p v =>
    have hf1:Ev sp (.lf p v) w=if Afu sp (w++p) then [KvS.mk (Ib (w++p)) v] else []:=by simp only[Ev,T.items,List.filter_cons,List.filter_nil];split<;>rfl
    have hql:(w++p).length<=800:=hql;rw[hf1] at ho ⊢;have hn:=Anm (q:=w++p) (E5.2 ⟨hw,h.1⟩) (by simp only[Zh1];have:=h.2.2.1;omega) hql;have bv:Cc v=some v:=Dp (by have:=h.2.2.2;omega);simp only[T.node,Ny,Afk,Ayn,Az1,H9,show ¬((1:Int)=0) by omega,show ¬((1:Int)=4) by omega,decide_false,decide_true,Ag,Af,Zt1,Zs1,hn,bv,Zc1];cases hin:Afu sp (w++p) with
    |false =>simp only[Zs1,Af];rw[show(100:Nat)=99+1 from rfl,Ay];simp[Nl]
    |true =>
     rw[hin] at ho;simp only[if_true,List.length_singleton] at ho;have c1:o.length+1<=Ah:=by omega
     have c2:=hmx (o++[KvS.mk (Ib (w++p)) v]).length (by simp only[Zh1,List.length_singleton];omega);simp only[Zt1,Ag,chk,Af,c1,c2,decide_true,decide_false,if_true];rw[show(100:Nat)=99+1 from rfl,Ay];simp[Nl]
   |way p k =>
    have h4:=Wf.le h.2.2.2;have hp0 : 0<p.length:=List.length_pos_iff.2 h.2.1;have hql:(w++p).length<=800:=hql;have hf1:Ev sp (.way p k) w=Ev sp k (w++p):=rfl;rw[hf1] at ho ⊢;simp only[T.node,Ny,Afk,Ayn,Az1,H9,show ¬((2:Int)=0) by omega,show ¬((2:Int)=4) by omega,show ¬((2:Int)=1) by omega,decide_false,decide_true,Ag,Af,Zt1,Zs1];have hfl:((List.range 1).drop 0).flatMap (λ_:Nat=>Ev sp k (w++p))=Ev sp k (w++p):=by simp[List.range_succ]
    refine(Ac0 (n:=NodeS.mk 2 p false [] [k.node] []) (B:=B) (F:=λ_=>Ev sp k (w++p)) (by omega) (by simp[H9]) (λi hi o' ho' =>?_) 100 0 false o (by omega) (by simp[H9]) (by rw[H9,show [k.node].length=1 from rfl,hfl];exact ho)).trans ?_
    ·have hi0:i=0:=by simp[H9] at hi;exact hi
     subst hi0;rw[Ny,if_neg (by omega)];rw[<-hrf];exact A17 h1 h2 hm hB f k (d+p.length) (w++p) o' h.2.2.2 (E5.2 ⟨hw,h.1⟩) (by simp only[Zh1];omega) (by omega) ho'
    ·simp only[H9,show [k.node].length=1 from rfl,hfl];rfl
   |br o1 k =>
    have hlo:∀(kx:Ex->Qd->Option G0) (hs:Bool) (v:Str) (o:List KvS),o.length+((List.range 16).flatMap λi=>Ev sp (k i) (w++[UInt8.ofNat i])).length<=B->Aj (λrec=>Nl rf rec kx) 100 (false,false,((A5 k).length:Int),0,m,r8,r9,e10,o,0,sp,NodeS.mk 3 [] hs v (A5 k) [],w)=kx (.exit 0) (false,false,((A5 k).length:Int),((A5 k).length:Int),m,r8,r9,e10,o++(List.range 16).flatMap (λi=>Ev sp (k i) (w++[UInt8.ofNat i])),0,sp,NodeS.mk 3 [] hs v (A5 k) [],w):=λkx hs v o ho=>by
     refine(Ac0 (n:=NodeS.mk 3 [] hs v (A5 k) []) (B:=B) (F:=λi=>Ev sp (k i) (w++[UInt8.ofNat i])) (by omega) (by rw[H9,B8];omega) (λi hi o' ho' =>?_) 100 0 false o (by omega) (by rw[H9,B8];omega) (by rw[H9,B8,Zq1];exact ho)).trans ?_
     ·have hi16:i<16:=by rw[H9,B8] at hi;exact hi
      rw[Ny,if_pos rfl];simp only[H9,Lg];rw[<-hrf];refine A17 h1 h2 hm hB f (k i) (d+1) (w++[UInt8.ofNat i]) o' (h.2.2.2 i hi16) (E5.2 ⟨hw,Dl.2 ⟨?_,V4⟩⟩) (by simp only[Zh1,List.length_singleton];omega) (by omega) ho';rw[UInt8.toNat_ofNat'];omega
     ·simp only[H9,B8,Zq1]
    have hpn:(T.br o1 k).node.path=[]:=rfl;rw[Bjc] at ho ⊢;have hn:=λe=>Anm (q:=w) hw e (by omega);simp only[hpn,List.append_nil,Og,Ny,Afk,Ayn,Az1,H9,show ¬((3:Int)=0) by omega,show ¬((3:Int)=4) by omega,show ¬((3:Int)=1) by omega,decide_false,decide_true,Ag,Af,Zt1,Zs1] at hql ho ⊢;cases o1 with
    |none =>simp only[Option.isSome_none,Zs1,Af,Option.getD_none,Zf2] at ho ⊢;rw[hlo _ _ _ _ ho];rfl
    |some v =>
     have he:=h.2.1 v rfl;have bv:Cc v=some v:=Dp (by omega);simp only[Option.isSome_some,Zt1,Ag,Option.getD_some,hn (by omega),bv,Zc1] at ho ⊢;cases hin:Afu sp w with
     |false =>rw[hin] at ho;simp only[Zs1,Af,Zj2,if_false,Zf2] at ho ⊢;rw[hlo _ _ _ _ ho];rfl
     |true =>
      rw[hin] at ho;simp only[if_true,Zh1,List.length_singleton] at ho;have c1:o.length+1<=Ah:=by omega
      have c2:=hmx (o++[KvS.mk (Ib w) v]).length (by simp only[Zh1,List.length_singleton];omega);simp only[Zt1,Ag,chk,Af,c1,c2,decide_true,decide_false,if_true];rw[hlo _ _ _ _ (by simp only[Zh1,List.length_singleton];omega)];simp only[Zj1];rfl
theorem Bcp{t:T}{lo hi:Str}{m:Int}(h:t.Wf 0)(h1:lo.length<=900)(h2:hi.length<=900)(hm:((t.items []).length:Int)<m)(hB:(t.items []).length<=Ah):Ar4 t.node lo hi m=some (Ev (SpanS.mk (nib lo) (nib hi) (decide ((hi.length:Int)=0))) t [],[],0):=by
 have l1:=G8 lo;have l2:=G8 hi;have hw:=A17 (sp:=SpanS.mk (nib lo) (nib hi) (decide ((hi.length:Int)=0))) (r8:=[]) (r9:=[]) (e10:=0) (by show(nib lo).length<=1900;omega) (by show(nib hi).length<=1900;omega) hm hB 500 t 0 [] [] h V4 rfl (by omega) (by have:=A9n (SpanS.mk (nib lo) (nib hi) (decide ((hi.length:Int)=0))) t [];simp only[Zi1];omega);have hw:Arz (SpanS.mk (nib lo) (nib hi) (decide ((hi.length:Int)=0)),t.node,[],false,m,[],[],0,[],0)=some (true,m,[],[],0,[]++Ev (SpanS.mk (nib lo) (nib hi) (decide ((hi.length:Int)=0))) t [],0):=hw;have c1:¬m<0:=by omega
 have c2:¬m=0:=by omega
 simp only[Ar4,Pv,Bt8,Adn,Ar1 (show lo.length<=1900 by omega),Ar1 (show hi.length<=1900 by omega),Zc1,Bjr,Xe,Wz h,decide_true,Zt1,Ag,c1,c2,decide_false,hw,Af,Zf2]
theorem Boa{a b:Str}(h:nib a=nib b):a=b:=by rw[<-Jb a,<-Jb b,h]
theorem A33:∀{a b:Str},nib a<nib b↔a<b
 |[],[]=>by simp[Af3]
 |[],y::b=>by rw[Af3,Ia];exact⟨λ_=>List.nil_lt_cons y b,λ_=>List.nil_lt_cons _ _⟩
 |x::a,[]=>by rw[Af3];exact⟨λh=>absurd h (List.not_lt_nil _),λh=>absurd h (List.not_lt_nil _)⟩
 |x::a,y::b=>by
  have hx:=x.toNat_lt;have hy:=y.toNat_lt;simp only[Ia,Aku,Zb2,Zf2,List.cons_lt_cons_iff,A33 (a:=a) (b:=b),Mt,<-UInt8.toNat_inj,UInt8.toNat_ofNat'];constructor
  ·rintro(h|⟨h,h1|⟨h1,h2⟩⟩)
   ·left;omega
   ·left;omega
   ·exact .inr ⟨by omega,h2⟩
  ·rintro(h|⟨h,h2⟩)
   ·by_cases e:x.toNat / 16=y.toNat / 16
    ·exact .inr ⟨by omega,.inl (by omega)⟩
    ·left;omega
   ·exact .inr ⟨by omega,.inr ⟨by omega,h2⟩⟩
def T.get(t:T)(k:Str):Option Str:=t.look (nib k)
theorem Bra(t:T)(k v k':Str):(t.put (nib k) v).get k' = if k' = k then some v else t.get k':=by
 unfold T.get;rw[Akb];by_cases e:k' = k
 ·simp[e]
 ·have:¬nib k' = nib k:=λh=>e (Boa h);simp[e,this]
theorem Bud(k:Str):T.no.get k=none:=rfl
def range(t:T)(lo hi:Str):List KvS:=Ev (SpanS.mk (nib lo) (nib hi) (decide ((hi.length:Int)=0))) t []
theorem A7c{lo hi k:Str}:Afu (SpanS.mk (nib lo) (nib hi) (decide ((hi.length:Int)=0))) (nib k)=true↔¬k<lo/\(hi=[]\/k<hi):=by simp only[Afu,Zb1,Zd2,Zg1,Atw,A2d,A33];rw[show((hi.length:Int)=0)↔hi=[] from⟨λh=>List.length_eq_zero_iff.1 (by omega),λh=>by rw[h];rfl⟩]
theorem Ak9{t:T}(h:t.Wf 0){q v:Str}(hq:(q,v)∈t.items []):∃k,q=nib k/\t.get k=some v:=by obtain⟨r,e,hr,hl⟩:=(Fq h).1 hq;have e:q=r:=e;subst e;have he:=(Agn h hr hl).2.1;have:=Ac9 hr (by omega);exact⟨Ib q,this.symm,by unfold T.get;rw[this];exact hl⟩
theorem mem_range{t:T}(h:t.Wf 0){lo hi k v:Str}:KvS.mk k v∈range t lo hi↔t.get k=some v/\¬k<lo/\(hi=[]\/k<hi):=by
 unfold range Ev;simp only[List.mem_map,List.mem_filter];constructor
 ·rintro⟨⟨q,u⟩,⟨hq,hs⟩,e⟩;obtain⟨k',rfl,hg⟩:=Ak9 h hq;simp only[Jb,KvS.mk.injEq] at e;obtain⟨rfl,rfl⟩:=e;exact⟨hg,A7c.1 hs⟩
 ·rintro⟨hg,hs⟩;exact⟨(nib k,v),⟨(Fq h).2 ⟨nib k,rfl,Ace k,hg⟩,A7c.2 hs⟩,by simp[Jb]⟩
theorem Ate{t:T}(h:t.Wf 0)(lo hi:Str):(range t lo hi).Pairwise λa b=>a.key<b.key:=by unfold range Ev;rw[List.pairwise_map];refine((O0 h).filter _).imp_of_mem ?_;rintro⟨q,v⟩ ⟨q',v'⟩ ha hb hlt;obtain⟨k,rfl,_⟩:=Ak9 h (List.mem_filter.1 ha).1;obtain⟨k',rfl,_⟩:=Ak9 h (List.mem_filter.1 hb).1;simp only[Jb];exact A33.1 hlt
theorem A6u(f g:Nat->Nat)(i:Nat)(h:∀j,j≠i->g j=f j)(hi:g i<=f i+1):∀l:List Nat,l.Nodup->(l.map g).sum<=(l.map f).sum+1
 |[],_=>by simp
 |j::l,hn=>by
  have hn:=List.nodup_cons.1 hn;simp only[Zw1,List.sum_cons];by_cases e:j=i
  ·subst e;have:l.map g=l.map f:=List.map_congr_left λx hx=>h x λe=>hn.1 (e▸hx);rw[this];omega
  ·have:=A6u f g i h hi l hn.2;rw[h j e];omega
theorem Awg:∀l:List Nat,(l.map λ_=>0).sum=0
 |[]=>rfl
 |_::l=>by rw[Zw1,List.sum_cons,Awg l]
def T.size:T->Nat
 |.no=>0
 |.lf _ _=>1
 |.way _ k=>k.size
 |.br o k=>(if o.isSome then 1 else 0)+((List.range 16).map λi=>(k i).size).sum
theorem Ou:∀(t:T) (w:Str),(t.items w).length=t.size
 |.no,w=>rfl
 |.lf _ _,w=>rfl
 |.way p k,w=>Ou k (w++p)
 |.br o k,w=>by
  have h1:∀l:List Nat,(l.flatMap λi=>(k i).items (w++[UInt8.ofNat i])).length=(l.map λi=>(k i).size).sum:=λl=>by induction l with|nil=>rfl|cons i l ih=>rw[List.flatMap_cons,Zh1,ih,Ou (k i),Zw1,List.sum_cons]
  simp only[T.items,T.size,Zh1,h1];cases o with|none=>simp only[Zi1,Option.isSome_none,Zj2,if_false]|some v=>simp only[List.length_singleton,Option.isSome_some,if_true]
theorem Al2(k:Nat->T)(i:Nat)(t:T)(h:t.size<=(k i).size+1):((List.range 16).map λj=>(upd k i t j).size).sum<=((List.range 16).map λj=>(k j).size).sum+1 :=A6u (λj=>(k j).size) (λj=>(upd k i t j).size) i (λj hj=>by rw[Ky hj]) (by rw[Hj];exact h) _ List.nodup_range
theorem Au4:((List.range 16).map λj=>(nos j).size).sum=0:=by decide
theorem Xi(s:Str)(t:T):(K8 s t).size=t.size:=by cases s<;>rfl
theorem Aba(o:Option Str)(k:Nat->T)(b v:Str):(hold o k b v).size<=(T.br o k).size+1:=by cases b with|nil=>simp only[hold,T.size,Option.isSome_some,if_true];split<;>omega|cons x b =>have:=Al2 k x.toNat (.lf b v) (by simp[T.size]);simp only[hold,T.size];omega
theorem Akx:∀(t:T) (p v:Str),(t.put p v).size<=t.size+1
 |.no,p,v=>by simp[T.put,T.size]
 |.lf q u,p,v=>by
  simp only[T.put];split
  ·simp[T.size]
  ·unfold Y3;split<;>rw[Xi]
   ·refine Nat.le_trans (Aba ..) ?_;simp only[T.size,Au4];simp
   ·rename_i x a b _;refine Nat.le_trans (Aba ..) ?_;have:=Al2 nos x.toNat (.lf a u) (by simp[T.size]);rw[Au4] at this;simp only[T.size,Option.isSome_none];simp;omega
 |.way q k,p,v=>by
  simp only[T.put];split
  ·exact Akx k _ v
  ·unfold Xo;split
   ·simp[T.size]
   ·rename_i x a b _;rw[Xi];refine Nat.le_trans (Aba ..) ?_;have h1:∀f:Nat->Nat,(∀j,j≠x.toNat->f j=0)->∀l:List Nat,l.Nodup->(l.map f).sum<=f x.toNat:=λf hf l=>by
     induction l with
     |nil=>intro _;simp
     |cons j l ih =>
      intro hn;have hn:=List.nodup_cons.1 hn;simp only[Zw1,List.sum_cons];by_cases e:j=x.toNat
      ·subst e;have:(l.map f).sum=0:=by have:l.map f=l.map λ_=>0:=List.map_congr_left λy hy=>hf y λe=>hn.1 (e▸hy);rw[this];exact Awg l
       omega
      ·rw[hf j e];have:=ih hn.2;omega
    have:=h1 (λj=>(upd nos x.toNat (K8 a k) j).size) (λj hj=>by simp only[Ky hj];rfl) (List.range 16) List.nodup_range;simp only[Hj,Xi] at this;simp only[T.size,Option.isSome_none];simp;omega
 |.br o k,[],v=>by simp only[T.put,T.size,Option.isSome_some,if_true];split<;>omega
 |.br o k,x::p,v=>by have:=Al2 k x.toNat ((k x.toNat).put p v) (Akx (k x.toNat) p v);simp only[T.put,T.size];omega
theorem Ajj(n:NodeS):NodeS.mk n.kind n.path n.has n.val n.kids n.hash=n:=by cases n;rfl
section
variable {t:T}{g:List NodeS}{h:Str}
theorem Bqq{k:Str}(hw:t.Wf 0)(hk:k.length<=200):Sf (k,t.node.kind,t.node.path,t.node.has,t.node.val,t.node.kids,t.node.hash,g,h)=some ((t.get k).getD [],(t.get k).isSome,0,t.node.kind,t.node.path,t.node.has,t.node.val,t.node.kids,t.node.hash,g,h):=by simp only[Sf,Ajj,Bok hw hk,Zc1,show ¬((0:Int)=80) by omega,decide_false,Ag,T.get]
theorem Boo{k v:Str}(hw:t.Wf 0)(hk:k.length<=200)(hv:v.length<=4000):Rk (k,v,t.node.kind,t.node.path,t.node.has,t.node.val,t.node.kids,t.node.hash,g,h)=some (0,(t.put (nib k) v).node.kind,(t.put (nib k) v).node.path,(t.put (nib k) v).node.has,(t.put (nib k) v).node.val,(t.put (nib k) v).node.kids,(t.put (nib k) v).node.hash,g,h):=by simp only[Rk,Ajj,Bqv hw hk hv,Zc1,show ¬((0:Int)=80) by omega,decide_false,decide_true,Ag,Af]
theorem Baw{lo hi:Str}{m:Int}(hw:t.Wf 0)(h1:lo.length<=900)(h2:hi.length<=900)(hm:(t.size:Int)<m)(hB:t.size<=Ah):J9 (lo,hi,m,t.node.kind,t.node.path,t.node.has,t.node.val,t.node.kids,t.node.hash,g,h)=some (range t lo hi,0,t.node.kind,t.node.path,t.node.has,t.node.val,t.node.kids,t.node.hash,g,h):=by have:=Bcp hw h1 h2 (m:=m) (by rw[Ou];exact hm) (by rw[Ou];exact hB);simp only[J9,Ajj,this,Zc1,show ¬((0:Int)=80) by omega,decide_false,Ag,range]
end
end Go.Proofs.YtcoaaebppfbbnaaGreatDoor
