/- Texts of the proof,one behind the other: Qj,Qk,Ql,Qm,Yc,Yd,Qn,Qo,Qp,Qq,Qr,Qs,Qt,Qu,Qv,Qw,Rv,Db,Rw,Rx,Kp. -/
import Derived.Test.YthndhaolemgbdaaGreatDoorU6
set_option linter.all false
namespace Go.Proofs.YthndhaolemgbdaaGreatDoor
open Go.Ax
def Auw(s:RS):Option (SetE×RS):=(Az s).bind λ(a,b,c,d,e) =>(Ai ([[61]],b,c,d,e)).bind λ(f,g,h,i) =>(Ft (f,g,h,i)).bind λ(j,k,l,m,n)=>some (SetE.mk a (Fb j),k,l,m,n)
theorem Aug{s:Str}{l l':TL}{x:Unit}(h:Ay [s] l = .ok (x,l')):l'.length<=l.length:=by cases hi:isT s l with|true=>rw[Agq hi] at h;cases h;exact Bj l|false=>rw[Al6 hi] at h;cases h
theorem Au7:I6 Auw:=λl n a=>by obtain⟨e1,h1⟩:=D6 l n a;obtain⟨e2,h2⟩:=Ad1 l n a;simp only[Auw,h1,Ry,h2,Zc1];exact⟨_,rfl⟩
theorem At9{L:Nat}(hL:L<=1000000000):SimP Auw A2a L :=.of (λl n a hl=>by
 unfold A2a Auw;refine Out.bindS (Cn L) hl (λr l1 h1 =>?_) (λr l1 b =>?_)
 ·have q1:l1.length<l.length:=Gu _ _ _ h1;refine Out.must (by decide) (λl2 h2 =>?_) (λl2 b =>?_)
  ·have q2:=Aug h2;refine Out.bindS (Ui hL) (show l2.length<L by omega) (λe l3 h3 =>?_) (λe l3 b =>?_)
   ·show some (SetE.mk r (Fb e),l3,n,false,a)=some (gV n a ⟨r,e⟩ l3);rw[Ez]
   ·exact⟨_,rfl,rfl,rfl,rfl⟩
  ·exact Br.bindS Ad1 (λe=>⟨_,rfl,rfl,rfl,rfl⟩)
 ·exact Br.must (Br.bindS Ad1 (λe=>⟨_,rfl,rfl,rfl,rfl⟩))) Au7
theorem Hf{α β:Type}{p:TL->PR α}{f : α->TL->PR β}{l l':TL}{e : β}(h:bP p f l = .ok (e,l')):∃x l1,p l = .ok (x,l1)/\f x l1 = .ok (e,l'):=by unfold bP at h;cases hq:p l with|error q=>rw[hq] at h;cases h|ok x =>obtain⟨x,l1⟩:=x;rw[hq] at h;exact⟨x,l1,rfl,h⟩
theorem Abx:Cm A2a:=λl e l' h=>by obtain⟨x,l1,h1,h⟩:=Hf h;obtain⟨_,l2,h2,h⟩:=Hf h;obtain⟨y,l3,h3,h⟩:=Hf h;have q1:=Gu _ _ _ h1;have q2:=Aug h2;have q3:=Gj _ _ _ h3;cases h;omega
abbrev upV(sn so:Str)(sc:List Col)(ss:List Str)(sl:List Xpr)(sr:List (List Xpr))(sd:List Str)(se:List Bool)(sm:Int)(l:TL)(n:Int)(b:Bool)(a:Int)(acc:List SetE):Dl:=(l,n,b,a,6,sn,so,sc,ss,sl,sr,acc,false,0,0,0,[],[],[],sd,se,sm)
section
variable {R:Type}{kx:Ex->Dl->Option R}{n:Int}{sn so:Str}{sc:List Col}{ss:List Str}{sl:List Xpr}{sr:List (List Xpr)}{sd:List Str}{se:List Bool}{sm:Int}
theorem Btn(rec:Dl->Option R)(l:TL)(a:Int)(acc:List SetE)(ha:acc.length<=1000000000)(hi:isT [44] l=true):Dn rec kx (upV sn so sc ss sl sr sd se sm l n false a acc)=(Auw (l.tail,n,false,a)).bind λz=>rec (upV sn so sc ss sl sr sd se sm z.2.1 z.2.2.1 z.2.2.2.1 z.2.2.2.2 (acc++[z.1])):=by
 have hm:decide (acc.length+1<=Al)=true:=Ze1 (by simp only[Al];omega);simp only[Dn,Zs1,Aa,Ew hi,Zc1,Auw];cases Az (l.tail,n,false,a) with
 |none=>rfl
 |some x =>
  simp only[Zc1];cases Ai ([[61]],x.2) with
  |none=>rfl
  |some y =>simp only[Zc1];cases Ft y with|none=>rfl|some z=>simp only[Zc1,hm,chk,Aa]
theorem Buj(rec:Dl->Option R)(l:TL)(a:Int)(acc:List SetE)(hi:isT [44] l=false):Dn rec kx (upV sn so sc ss sl sr sd se sm l n false a acc)=kx (.exit 0) (upV sn so sc ss sl sr sd se sm l n false a acc):=by simp only[Dn,Zs1,Aa,Ed hi,Zc1,Af]
theorem Bra(rec:Dl->Option R)(l:TL)(a:Int)(acc:List SetE):Dn rec kx (upV sn so sc ss sl sr sd se sm l n true a acc)=kx (.exit 0) (upV sn so sc ss sl sr sd se sm l n true a acc):=by simp only[Dn,Zt1,Af]
end
theorem Out.map{α β γ:Type}{g : α->TL->γ}{g' : β->TL->γ}{E:Int->γ->Prop}{n:Int}{x:Option γ}{p:TL->PR α}{h : α->β}{l:TL}(ho:Out g E n x (p l))(hg:∀r l',g r l' = g' (h r) l'):Out g' E n x (bP p (λw=>Bg (h w)) l):=by unfold bP;cases hq:p l with|error q=>rw[hq] at ho;exact ho|ok y =>obtain⟨r,l'⟩:=y;rw[hq] at ho;exact ho.trans (congrArg some (hg r l'))
def A4t(s:Stm):Cl:=(s.kind,s.name,s.on,s.cols,s.names,s.l,s.rows,s.sets,s.has,s.whr.kind,s.whr.v.kind,s.whr.v.n,s.whr.v.s,s.whr.name,s.whr.l,s.order,s.desc,s.most)
abbrev gS(n a:Int)(s:Stm)(l:TL):TL×Int×Bool×Int×Cl:=(l,n,false,a,A4t s)
abbrev z0:Cl:=(0,[],[],[],[],[],[],[],false,0,0,0,[],[],[],[],[],0)
abbrev upX(nm:Str):=upV nm [] [] [] [] [] [] [] 0
def upK(e:Ex)(v:Dl):Option Jj:=match e with|.exit 0=>Ce v|_=>none
theorem Bs2(l:TL)(n:Int)(b:Bool)(a:Int):Jg (l,n,b,a,z0)=(Az (l,n,b,a)).bind λx=>(Ai ([[83,69,84]],x.2)).bind λy=>(Auw y).bind λz=>Ak (λrec=>Dn rec upK) (l.length+3) (upX x.1 z.2.1 z.2.2.1 z.2.2.2.1 z.2.2.2.2 [z.1]):=by
 have hk:∀(e:Ex) (vz:Dl),(match vz with|(v,v1,v2,v3,v4,v5,v6,v7,v8,v9,c,d,f,g,h,i,j,k,m,o,p,q)=>match e with
   |.exit 0=>(Ce (v,v1,v2,v3,v4,v5,v6,v7,v8,v9,c,d,f,g,h,i,j,k,m,o,p,q)).bind λ(r,s,t,u,w,a0,a1,a2,a3,a4,a5,a6,a7,a8,a9,aa,ab,ac,ad,ae,af,ag)=>some (r,s,t,u,w,a0,a1,a2,a3,a4,a5,a6,a7,a8,a9,aa,ab,ac,ad,ae,af,ag)
   |_=>none:Option Jj)=upK e vz:=λe vz=>by
  match e with|.exit 0 =>show(Ce vz).bind (λx=>some x)=Ce vz;cases Ce vz<;>rfl|.exit (_+1)=>rfl|.ret=>rfl|.normal=>rfl
 have hm:decide (([]:List SetE).length+1<=Al)=true:=Ze1 (by simp only[Al,Zi1];omega);unfold Jg;show(Az (l,n,b,a)).bind _=_;cases Az (l,n,b,a) with
 |none=>rfl
 |some x =>
  show(Ai ([[83,69,84]],x.2)).bind _=(Ai ([[83,69,84]],x.2)).bind _;cases Ai ([[83,69,84]],x.2) with
  |none=>rfl
  |some y =>
   show(Az y).bind _=(Auw y).bind _;unfold Auw;cases Az y with
   |none=>rfl
   |some x9 =>
    show(Ai ([[61]],x9.2)).bind _=Option.bind ((Ai ([[61]],x9.2)).bind _) _;cases Ai ([[61]],x9.2) with
    |none=>rfl
    |some y2 =>show(Ft y2).bind _=Option.bind ((Ft y2).bind _) _;cases Ft y2 with|none=>rfl|some z =>obtain⟨z1,z2,z3,z4,z5⟩:=z;have hk2:=funext λe=>funext λvz=>hk e vz;rw[<-hk2];simp only[Zc1];rw[hm];rfl
theorem Aef{α:Type}{part:TL->PR α}(he:Cm part):∀{m:Nat}{acc:List α}{l:TL}{e:List α}{l':TL},Ba part m acc l = .ok (e,l')->l'.length<=l.length
 |0,_,_,_,_,h=>by cases h
 |m+1,acc,l,e,l',h=>by
  simp only[Ba] at h;cases hi:isT [44] l with
  |false=>rw[hi] at h;cases h;exact Zn1 _
  |true =>rw[hi] at h;simp only at h;cases hq:part l.tail with|error q=>rw[hq] at h;cases h|ok x =>obtain⟨x,l1⟩:=x;rw[hq] at h;have h1:=he _ _ _ hq;have h2:=Aef he h;have h3:=Bj l;omega
theorem A5z(nm:Str)(k:Nat)(l:TL)(n a:Int)(acc:List SetE):Br (ES n) a (Ak (λrec=>Dn rec upK) (k+1) (upX nm l n true a acc)):=by rw[Aw,Bra];exact⟨_,Aiy l n a _,rfl,rfl,rfl⟩
theorem A4w{L:Nat}(hL:L<=1000000000){l:TL}(hl:l.length<L)(n a:Int):Out (gS n a) (ES n) n (Jg (l,n,false,a,z0)) (Jx l):=by
 rw[Bs2];unfold Jx;refine Out.bindS (Cn L) hl (λnm l1 h1 =>?_) (λnm l1 b=>Br.must (Br.bindS Au7 λx=>A5z nm _ l1 n b [x]));have q1:l1.length<l.length:=Gu _ _ _ h1;refine Out.must (by decide) (λl2 h2 =>?_) (λl2 b=>Br.bindS Au7 λx=>A5z nm _ l2 n b [x]);have q2:=Aug h2;rw[V0];refine Out.bindS (At9 hL) (show l2.length<L by omega) (λx l3 h3 =>?_) (λx l3 b=>A5z nm _ l3 n b [x]);have q3:l3.length<l2.length:=Abx _ _ _ h3;have q4:[x].length+l3.length<=1000000000:=by simp only[Zf1,Zi1];omega
 refine Out.loop (a:=a) (λacc l b a=>upK (.exit 0) (upX nm l n b a acc))
  (At8 (step:=λrec=>Dn rec upK) (st:=upX nm) (n:=n) (c:=λacc l b a=>upK (.exit 0) (upX nm l n b a acc)) (At9 hL) Abx (λrec l a acc ha hi=>Btn rec l a acc ha hi) (λrec l a acc hi=>Buj rec l a acc hi) (λrec l a acc=>Bra rec l a acc) (a:=a) (k:=l.length+3) (m:=l3.length+1) (acc:=[x]) (l:=l3) (by omega) (by omega) (by omega) q4)
  (Awb (step:=λrec=>Dn rec upK) (st:=upX nm) (n:=n) (c:=λacc l b a=>upK (.exit 0) (upX nm l n b a acc)) (At9 hL) Abx (λrec l a acc ha hi=>Btn rec l a acc ha hi) (λrec l a acc hi=>Buj rec l a acc hi) (λrec l a acc=>Bra rec l a acc) (a:=a) (k:=l.length+3) (m:=l3.length+1) (acc:=[x]) (l:=l3) (by omega) (by omega) (by omega) q4) (λacc l4 h4 =>?_) (λacc l4 b=>⟨_,Aiy l4 n b _,rfl,rfl,rfl⟩)
 have q5:l4.length<=l3.length:=Aef Abx h4;exact Out.map (Aft hL n a 6 nm [] [] [] [] [] acc [] [] 0 (show l4.length<L by omega)) (λw l'=>rfl)
def A9o(c:Col)(s:RS):Option (Col×RS):=cond (!s.2.2.1) ((Au ([82,69,70,69,82,69,78,67,69,83],s)).bind λz=>cond z.1 ((Az z.2).bind λy=>some (Col.mk c.name c.kind c.notNull c.unique y.1,y.2)) (some (c,z.2))) (some (c,s))
def Aya(c:Col)(s:RS):Option (Col×RS):=cond (!s.2.2.1) ((Au ([85,78,73,81,85,69],s)).bind λz=>A9o (Col.mk c.name c.kind c.notNull z.1 c.ref) z.2) (A9o (Col.mk c.name c.kind c.notNull false c.ref) s)
def Bhg(c:Col)(s:RS):Option (Col×RS):=cond c.notNull ((Ai ([[78,85,76,76]],s)).bind λy=>Aya c y) (Aya c s)
def A0u(c:Col)(s:RS):Option (Col×RS):=cond (!s.2.2.1) ((Au ([78,79,84],s)).bind λz=>Bhg (Col.mk c.name c.kind z.1 c.unique c.ref) z.2) (Bhg (Col.mk c.name c.kind false c.unique c.ref) s)
def Bb2(e:Ex)(v:I2):Option Aum:=match e with|.exit 0=>cond (decide (v.2.2.2.2.2.2.kind=0)) ((Ch (v.2.1,v.2.2.1,v.2.2.2.1,v.2.2.2.2.1)).bind λy=>A0u v.2.2.2.2.2.2 y) (A0u v.2.2.2.2.2.2 (v.2.1,v.2.2.1,v.2.2.2.1,v.2.2.2.2.1))|_=>none
abbrev c0(nm:Str):Col:=Col.mk nm 0 false false []
theorem A8q(l:TL)(n:Int)(b:Bool)(a:Int):Km (l,n,b,a)=(Az (l,n,b,a)).bind λx=>Ak (λrec=>G7 rec Bb2) 10 (0,x.2.1,x.2.2.1,x.2.2.2.1,x.2.2.2.2,c0 [],c0 x.1):=by
 unfold Km;show(Az (l,n,b,a)).bind _=_;cases Az (l,n,b,a) with
 |none=>rfl
 |some x =>obtain⟨x0,x1,x2,x3,x4⟩:=x;simp only[Zc1];refine congrFun (congrArg (λkx=>Ak (λrec=>G7 rec kx) 10) ?_) _;funext e v;match e with|.exit 0 =>obtain⟨v1,v2,v3,v4,v5,v6,v7⟩:=v;rfl|.exit (_+1)=>rfl|.ret=>rfl|.normal=>rfl
section
variable {R:Type}{kx:Ex->I2->Option R}(rec:I2->Option R) (w:TL) (n a:Int) (z:Col) (nm:Str)
theorem pc0(b:Bool)(c:Col):G7 rec kx (0,w,n,b,a,z,c)=rec (1,w,n,b,a,z,c):=rfl
theorem pc1(b:Bool)(c:Col):G7 rec kx (1,w,n,b,a,z,c)=rec (2,w,n,b,a,z,c):=rfl
theorem pc2:G7 rec kx (2,w,n,false,a,z,c0 nm)=(Au ([66,79,79,76],w,n,false,a)).bind λ(x5,x6,x7,x8,x9)=>cond x5 (rec (3,x6,x7,x8,x9,z,Col.mk nm 2 false false [])) (rec (3,x6,x7,x8,x9,z,c0 nm)):=rfl
theorem pc3:G7 rec kx (3,w,n,false,a,z,c0 nm)=(Au ([73,78,84],w,n,false,a)).bind λ(x5,x6,x7,x8,x9)=>cond x5 (rec (4,x6,x7,x8,x9,z,Col.mk nm 3 false false [])) (rec (4,x6,x7,x8,x9,z,c0 nm)):=rfl
theorem pc4:G7 rec kx (4,w,n,false,a,z,c0 nm)=(Au ([84,69,88,84],w,n,false,a)).bind λ(x5,x6,x7,x8,x9)=>cond x5 (rec (5,x6,x7,x8,x9,z,Col.mk nm 4 false false [])) (rec (5,x6,x7,x8,x9,z,c0 nm)):=rfl
theorem pc5:G7 rec kx (5,w,n,false,a,z,c0 nm)=(Au ([66,89,84,69,83],w,n,false,a)).bind λ(x5,x6,x7,x8,x9)=>cond x5 (rec (6,x6,x7,x8,x9,z,Col.mk nm 5 false false [])) (rec (6,x6,x7,x8,x9,z,c0 nm)):=rfl
end
theorem Be3{R:Type}{kx:Ex->I2->Option R}(l:TL)(n a:Int)(z:Col)(nm:Str):Ak (λrec=>G7 rec kx) 10 (0,l,n,false,a,z,c0 nm)=match I9 l with
  |.ok (k,l')=>kx (.exit 0) (6,l',n,false,a,z,Col.mk nm k false false [])
  |.error q=>kx (.exit 0) (6,q,n,false,a,z,c0 nm):=by
 have e:∀(m:Nat) (v:I2),Ak (λrec=>G7 rec kx) (m+1) v=G7 (Ak (λrec=>G7 rec kx) m) kx v:=λ_ _=>rfl;rw[e 9,pc0,e 8,pc1,e 7,pc2];unfold I9;cases h2:isT X6 l with
 |true =>rw[Ew (s:=[66,79,79,76]) h2];rfl
 |false =>
  rw[Ed (s:=[66,79,79,76]) h2];simp only[Zc1,Af];rw[e 6,pc3];cases h3:isT Aov l with
  |true =>rw[Ew (s:=[73,78,84]) h3];rfl
  |false =>
   rw[Ed (s:=[73,78,84]) h3];simp only[Zc1,Af];rw[e 5,pc4];cases h4:isT Xv l with
   |true =>rw[Ew (s:=[84,69,88,84]) h4];rfl
   |false =>rw[Ed (s:=[84,69,88,84]) h4];simp only[Zc1,Af];rw[e 4,pc5];cases h5:isT Nz l with|true =>rw[Ew (s:=[66,89,84,69,83]) h5];rfl|false =>rw[Ed (s:=[66,89,84,69,83]) h5];rfl
theorem A8m{R:Type}{kx:Ex->I2->Option R}(l:TL)(n a:Int)(z c:Col):Ak (λrec=>G7 rec kx) 10 (0,l,n,true,a,z,c)=kx (.exit 0) (6,l,n,true,a,z,c):=rfl
theorem Bm6(c:Col)(l:TL)(n a:Int):Aya c (l,n,true,a)=some (Col.mk c.name c.kind c.notNull false c.ref,l,n,true,a):=rfl
theorem Atw(c:Col)(l:TL)(n a:Int):A0u c (l,n,true,a)=some (Col.mk c.name c.kind false false c.ref,l,n,true,a):=rfl
section
variable {L:Nat}(n a:Int) (nm:Str) (k:Int)
theorem Atn(nn u:Bool){l:TL}(hl:l.length<L):Out (gV n a) (EV n) n (A9o (Col.mk nm k nn u []) (l,n,false,a)) (bP I7 (λr=>Bg (Col.mk nm k nn u r)) l):=by
 unfold A9o I7 bP;simp only[Zs1,Aa];cases hi:isT wREF l with
 |false =>rw[Ed (s:=[82,69,70,69,82,69,78,67,69,83]) hi];exact rfl
 |true =>have ht:=Bj l;rw[Ew (s:=[82,69,70,69,82,69,78,67,69,83]) hi];simp only[Zc1,Aa];cases hq:Bt l.tail with|error q =>obtain⟨e1,l1,h1⟩:=(Cn L).er l.tail n a q (by omega) hq;rw[h1];exact⟨_,rfl,rfl,rfl,rfl⟩|ok x =>obtain⟨x,l1⟩:=x;rw[(Cn L).ok l.tail n a x l1 (by omega) hq];exact rfl
theorem Ar2(nn:Bool){l:TL}(hl:l.length<L):Out (gV n a) (EV n) n (Aya (Col.mk nm k nn false []) (l,n,false,a)) (bP (F3 wUNIQUE []) (λu=>bP I7 λr=>Bg (Col.mk nm k nn u r)) l):=by unfold Aya F3;simp only[Zs1,Aa];cases hi:isT wUNIQUE l with|false =>rw[Ed (s:=[85,78,73,81,85,69]) hi];have:=Atn (L:=L) n a nm k nn false hl;unfold bP at this ⊢;simp only[hi];exact this|true =>have ht:=Bj l;rw[Ew (s:=[85,78,73,81,85,69]) hi];have:=Atn (L:=L) n a nm k nn true (l:=l.tail) (by omega);unfold bP at this ⊢;simp only[hi,Ay];exact this
theorem Baz{l:TL}(hl:l.length<L):Out (gV n a) (EV n) n (A0u (Col.mk nm k false false []) (l,n,false,a)) (bP (F3 sNOT [sNULL]) (λnn=>bP (F3 wUNIQUE []) λu=>bP I7 λr=>Bg (Col.mk nm k nn u r)) l):=by
 unfold A0u F3;simp only[Zs1,Aa];cases hi:isT sNOT l with
 |false =>rw[Ed (s:=[78,79,84]) hi];have:=Ar2 (L:=L) n a nm k false hl;unfold bP at this ⊢;simp only[hi];exact this
 |true =>have ht:=Bj l;rw[Ew (s:=[78,79,84]) hi];simp only[Zc1,Bhg,Aa];cases hu:isT sNULL l.tail with|false =>rw[W9 (by decide) (Al6 (s:=[78,85,76,76]) hu)];unfold bP;simp only[hi,Ay,hu];exact⟨_,Bm6 _ _ _ _,rfl,rfl,rfl⟩|true =>have ht2:=Bj l.tail;rw[Vr (by decide) (Agq (s:=[78,85,76,76]) hu)];have:=Ar2 (L:=L) n a nm k true (l:=l.tail.tail) (by omega);unfold bP at this ⊢;simp only[hi,Ay,hu];exact this
end
theorem A8d{l l':TL}{k:Int}(h:I9 l = .ok (k,l')):k≠0/\l'.length<=l.length:=by
 have ht:=Bj l;unfold I9 at h;split at h
 ·cases h;exact⟨by decide,ht⟩
 ·split at h
  ·cases h;exact⟨by decide,ht⟩
  ·split at h
   ·cases h;exact⟨by decide,ht⟩
   ·split at h
    ·cases h;exact⟨by decide,ht⟩
    ·cases h
theorem Bs6(l:TL)(n b:Int)(z c:Col):Br (EV n) b (Bb2 (.exit 0) (6,l,n,true,b,z,c)):=by unfold Bb2;simp only[Acd,Zc1,Atw];cases decide (c.kind=0)<;>exact⟨_,rfl,rfl,rfl,rfl⟩
theorem A8l:I6 Km:=λl n a=>by obtain⟨e1,h1⟩:=D6 l n a;rw[A8q,h1];simp only[Zc1];rw[A8m];unfold Bb2;simp only[Acd,Zc1,Atw];exact⟨_,by cases decide ((c0 e1).kind=0)<;>rfl⟩
theorem Bpm{L:Nat}:SimP Km A0v L :=.of (λl n a hl=>by
 rw[A8q];unfold A0v;refine Out.bindS (Cn L) hl (λnm l1 h1 =>?_) (λnm l1 b =>?_)
 ·have q1:l1.length<l.length:=Gu _ _ _ h1;simp only;rw[Be3];unfold bP;cases hk:I9 l1 with|error q =>simp only;unfold Bb2;simp only[W1,Zc1,Atw];exact⟨_,rfl,rfl,rfl,rfl⟩|ok x =>obtain⟨k,l2⟩:=x;obtain⟨q2,q3⟩:=A8d hk;simp only;unfold Bb2;simp only[Zd1 q2,Af];exact Baz (L:=L) n a nm k (by omega)
 ·simp only;rw[A8m];exact Bs6 _ _ _ _ _) A8l
theorem B2:∀{ss:List Str}{l l':TL}{x:Unit},Ay ss l = .ok (x,l')->l'.length<=l.length
 |[],_,_,_,h=>by cases h;exact Zn1 _
 |s::ss,l,l',x,h=>by simp only[Ay] at h;have ht:=Bj l;cases hi:isT s l with|true=>rw[hi] at h;have:=B2 (ss:=ss) h;omega|false=>rw[hi] at h;cases h
theorem Ik{l l':TL}{x:Str}(h:Bt l = .ok (x,l')):l'.length<l.length:=Gu _ _ _ h
theorem Biu:Cm A0v:=λl e l' h=>by
 obtain⟨x,l1,h1,h⟩:=Hf h;obtain⟨k,l2,h2,h⟩:=Hf h;obtain⟨nn,l3,h3,h⟩:=Hf h;obtain⟨u,l4,h4,h⟩:=Hf h;obtain⟨r,l5,h5,h⟩:=Hf h;have q1:=Ik h1;have q2:=(A8d h2).2;have opt:∀{s:Str}{ss:List Str}{b:Bool}{l l':TL},F3 s ss l = .ok (b,l')->l'.length<=l.length:=λ{s ss b l l'} h=>by
  unfold F3 at h;have ht:=Bj l;split at h
  ·split at h
   ·cases h
   ·rename_i y l6 hm;cases h;have:=B2 hm;omega
  ·cases h;exact Zn1 _
 have q3:=opt h3;have q4:=opt h4;have q5:l5.length<=l4.length:=by
  unfold I7 at h5;have ht:=Bj l4;split at h5
  ·have:=Ik h5;omega
  ·cases h5;exact Zn1 _
 cases h;omega
def X0(s:RS):Option (Col×RS):=(Km s).bind λc=>(Ai ([[44]],c.2)).bind λy=>some (c.1,y)
theorem Aj5:I6 X0:=λl n a=>by obtain⟨e1,h1⟩:=A8l l n a;simp only[X0,h1,Ry,Zc1];exact⟨_,rfl⟩
theorem An8{L:Nat}:SimP X0 N4 L :=.of (λl n a hl=>by unfold X0 N4;refine Out.bindS Bpm hl (λc l1 h1 =>?_) (λc l1 b=>Br.must ⟨_,rfl,rfl,rfl,rfl⟩);exact Out.must (by decide) (λl2 h2=>rfl) (λl2 b=>⟨_,rfl,rfl,rfl,rfl⟩)) Aj5
theorem Ae0:Cm N4:=λl e l' h=>by obtain⟨x,l1,h1,h⟩:=Hf h;obtain⟨_,l2,h2,h⟩:=Hf h;have q1:=Biu _ _ _ h1;have q2:=B2 h2;cases h;omega
section
variable {V R:Type}{step:(V->Option R)->V->Option R}{st:TL->Int->Bool->Int->List Col->V}{n:Int}{L:Nat}{c:List Col->TL->Bool->Int->Option R}
theorem Asg
  (hg:∀rec l a acc,acc.length<=1000000000->isT wPRIMARY l=false->step rec (st l n false a acc)=(X0 (l,n,false,a)).bind λz=>rec (st z.2.1 z.2.2.1 z.2.2.2.1 z.2.2.2.2 (acc++[z.1])))
  (hf:∀rec l a acc,isT wPRIMARY l=true->step rec (st l n false a acc)=c acc l.tail false a)
  (hb:∀rec l a acc,step rec (st l n true a acc)=c acc l true a) (a:Int):∀(k m:Nat) (acc:List Col) (l:TL),l.length<L->l.length+1<k->l.length<m->acc.length+l.length<=1000000000 ->
  match D4 m acc l with|.ok (e,l')=>Ak step k (st l n false a acc)=c e l' false a|.error q=>∃e l',Ak step k (st l n false a acc)=c e l' true (G6 n q)
 |0,_,_,_,_,h,_,_=>absurd h (Zm1 _)
 |_,0,_,_,_,_,h,_=>absurd h (Zm1 _)
 |k+1,m+1,acc,l,hl,h1,h2,h3=>by
  simp only[Aw,D4];cases hi:isT wPRIMARY l with
  |true=>exact hf _ l a acc hi
  |false =>simp only[hg _ l a acc (by omega) hi];cases hq:N4 l with|error q =>obtain⟨e1,l1,h4⟩:=(An8 (L:=L)).er l n a q hl hq;simp only[h4,Zc1];obtain⟨k,rfl⟩:∃k',k=k'+1:=⟨k-1,by omega⟩;exact⟨acc++[e1],l1,hb _ _ _ _⟩|ok x =>obtain⟨x,l1⟩:=x;have h5:=Ae0 _ _ _ hq;simp only[(An8 (L:=L)).ok l n a x l1 hl hq,Zc1];exact Asg hg hf hb a k m (acc++[x]) l1 (by omega) (by omega) (by omega) (by simp only[Zh1,Zf1,Zi1];omega)
end
theorem Ar0:∀{m:Nat}{acc:List Col}{l:TL}{e:List Col}{l':TL},D4 m acc l = .ok (e,l')->l'.length<=l.length
 |0,_,_,_,_,h=>by cases h
 |m+1,acc,l,e,l',h=>by
  simp only[D4] at h;have ht:=Bj l;cases hi:isT wPRIMARY l with
  |true=>rw[hi] at h;cases h;exact ht
  |false =>rw[hi] at h;simp only at h;cases hq:N4 l with|error q=>rw[hq] at h;cases h|ok x =>obtain⟨x,l1⟩:=x;rw[hq] at h;have h1:=Ae0 _ _ _ hq;have h2:=Ar0 h;omega
def Arz(s:RS):Option (Xpr×RS):=(Ai ([[67,72,69,67,75],[40]],s)).bind λy=>(Ft y).bind λz=>(Ai ([[41]],z.2)).bind λw=>some (z.1,w)
theorem Bfv:I6 Arz:=λl n a=>by obtain⟨e1,h1⟩:=Ad1 l n a;simp only[Arz,h1,Ry,Zc1];exact⟨_,rfl⟩
theorem Ayf{L:Nat}(hL:L<=1000000000):SimP Arz Mx L :=.of (λl n a hl=>by unfold Arz Mx;refine Out.must (by decide) (λl1 h1 =>?_) (λl1 b=>Br.bindS Ad1 λe=>Br.must ⟨_,rfl,rfl,rfl,rfl⟩);have q1:=B2 h1;refine Out.bindS (Ui hL) (show l1.length<L by omega) (λe l2 h2 =>?_) (λe l2 b=>Br.must ⟨_,rfl,rfl,rfl,rfl⟩);exact Out.must (by decide) (λl3 h3=>rfl) (λl3 b=>⟨_,rfl,rfl,rfl,rfl⟩)) Bfv
theorem Aye:Cm Mx:=λl e l' h=>by obtain⟨_,l1,h1,h⟩:=Hf h;obtain⟨x,l2,h2,h⟩:=Hf h;obtain⟨_,l3,h3,h⟩:=Hf h;have q1:=B2 h1;have q2:=Gj _ _ _ h2;have q3:=B2 h3;cases h;omega
open Lp (tokS Sc clsF)
def Ba8(c:Col):Str:=Afx c++[44,32]
theorem Bo5:∀{l:List Col},l≠[]->Cy Afx l++[44,32]=(l.map Ba8).flatten:=λ{l} hl=>by
 have ht:∀l:List Col,Ke Afx l++[44,32]=[44,32]++(l.map Ba8).flatten:=λl=>by induction l with|nil=>rfl|cons c l ih =>simp only[Ke,Zj1,ih,Zw1,Zz1,Ba8]
 cases l with|nil=>exact absurd rfl hl|cons c l =>simp only[Cy,Zj1,ht,Zw1,Zz1,Ba8]
def Fin(l:TL):Prop:=l=[]\/hdW [59] l
def Bu1(l:TL):PR Stm:=match isT Ec l with|true=>G2 l.tail|false =>.error l
def Bus(l:TL):PR Stm:=match isT Fe l with|true=>M0 l.tail|false=>Bu1 l
def Bvf(l:TL):PR Stm:=match isT F0 l with|true=>Jx l.tail|false=>Bus l
def Bvd(l:TL):PR Stm:=match isT F1 l with|true=>No l.tail|false=>Bvf l
def Btf(l:TL):PR Stm:=match isT Ov l with|true=>Xy l.tail|false=>Bvd l
theorem Brr:Fo=λl=>match isT G0 l with|true=>G1 l.tail|false=>Btf l:=rfl
end Go.Proofs.YthndhaolemgbdaaGreatDoor
namespace Go.Proofs.YthndhaolemgbdaaGreatDoor
open Go.Ax
abbrev t0V(nm:Str)(l:TL)(n:Int)(b:Bool)(a:Int)(acc:List Col):Dv:=(l,n,b,a,1,nm,[],acc,[],[],[],[],false,0,0,0,[],[],[],[],[],0)
abbrev t1V(nm:Str)(cs:List Col)(ns:List Str)(l:TL)(n:Int)(b:Bool)(a:Int)(acc:List Xpr):Du:=(l,n,b,a,1,nm,[],cs,ns,acc,[],[],false,0,0,0,[],[],[],[],[],0)
def tK1(e:Ex)(v:Du):Option Mo:=match e with|.exit 2=>(Ai ([[41]],v.1,v.2.1,v.2.2.1,v.2.2.2.1)).bind λy=>some (y.1,y.2.1,y.2.2.1,y.2.2.2,v.2.2.2.2)|_=>none
def tK0(K:Nat)(e:Ex)(v:Dv):Option Mo:=match e with|.exit 0=>(Ai ([[75,69,89]],v.1,v.2.1,v.2.2.1,v.2.2.2.1)).bind λy=>(Dq y).bind λz=>Ak (λrec=>Cr rec tK1) K (z.2.1,z.2.2.1,z.2.2.2.1,z.2.2.2.2,v.2.2.2.2.1,v.2.2.2.2.2.1,v.2.2.2.2.2.2.1,v.2.2.2.2.2.2.2.1,z.1,v.2.2.2.2.2.2.2.2.2)|_=>none
theorem Bnh(l:TL)(n:Int)(b:Bool)(a:Int):Ip (l,n,b,a,z0)=(Az (l,n,b,a)).bind λx=>(Ai ([[40]],x.2)).bind λy=>(X0 y).bind λz=>Ak (λrec=>Ea rec (tK0 (l.length+3))) (l.length+3) (t0V x.1 z.2.1 z.2.2.1 z.2.2.2.1 z.2.2.2.2 [z.1]):=by
 have hm:decide (([]:List Col).length+1<=Al)=true:=Ze1 (by simp only[Al,Zi1];omega);unfold Ip;show(Az (l,n,b,a)).bind _=_;cases Az (l,n,b,a) with
 |none=>rfl
 |some x =>
  show(Ai ([[40]],x.2)).bind _=(Ai ([[40]],x.2)).bind _;cases Ai ([[40]],x.2) with
  |none=>rfl
  |some y =>
   show(Km y).bind _=(X0 y).bind _;unfold X0;cases Km y with
   |none=>rfl
   |some c =>
    obtain⟨c,c1,c2,c3,c4⟩:=c;simp only[Zc1];rw[hm];show(Ai ([[44]],c1,c2,c3,c4)).bind _=Option.bind ((Ai ([[44]],c1,c2,c3,c4)).bind _) _;cases Ai ([[44]],c1,c2,c3,c4) with
    |none=>rfl
    |some w =>
     obtain⟨w1,w2,w3,w4⟩:=w;simp only[Zc1];refine congrFun (congrArg (λkx=>Ak (λrec=>Ea rec kx) (l.length+3)) ?_) _;funext e v;match e with
     |.exit 0 =>
      obtain⟨v0,v1,v2,v3,v4,v5,v6,v7,v8,v9⟩:=v;show(Ai ([[75,69,89]],v0,v1,v2,v3)).bind _=(Ai ([[75,69,89]],v0,v1,v2,v3)).bind _;cases Ai ([[75,69,89]],v0,v1,v2,v3) with
      |none=>rfl
      |some y =>
       show(Dq y).bind _=(Dq y).bind _;cases Dq y with
       |none=>rfl
       |some z =>obtain⟨z0,z1,z2,z3,z4⟩:=z;simp only[Zc1];refine congrFun (congrArg (λkx=>Ak (λrec=>Cr rec kx) (l.length+3)) ?_) _;funext e v;match e with|.exit 2=>rfl|.exit 0=>rfl|.exit 1=>rfl|.exit (_+3)=>rfl|.ret=>rfl|.normal=>rfl
     |.exit (_+1)=>rfl
     |.ret=>rfl
     |.normal=>rfl
section
variable {R:Type}{n:Int}{nm:Str}{cs:List Col}{ns:List Str}
theorem Bvm{kx:Ex->Dv->Option R}(rec:Dv->Option R)(l:TL)(a:Int)(acc:List Col)(ha:acc.length<=1000000000)(hi:isT wPRIMARY l=false):Ea rec kx (t0V nm l n false a acc)=(X0 (l,n,false,a)).bind λz=>rec (t0V nm z.2.1 z.2.2.1 z.2.2.2.1 z.2.2.2.2 (acc++[z.1])):=by
 have hm:decide (acc.length+1<=Al)=true:=Ze1 (by simp only[Al];omega);simp only[Ea,Zs1,Aa,Ed (s:=[80,82,73,77,65,82,89]) hi,Zc1,X0];cases Km (l,n,false,a) with
 |none=>rfl
 |some x =>simp only[Zc1,hm,chk,Aa];cases Ai ([[44]],x.2) with|none=>rfl|some y=>rfl
theorem Bvo{kx:Ex->Dv->Option R}(rec:Dv->Option R)(l:TL)(a:Int)(acc:List Col)(hi:isT wPRIMARY l=true):Ea rec kx (t0V nm l n false a acc)=kx (.exit 0) (t0V nm l.tail n false a acc):=by simp only[Ea,Zs1,Aa,Ew (s:=[80,82,73,77,65,82,89]) hi,Zc1,Zt1,Af]
theorem Bto{kx:Ex->Dv->Option R}(rec:Dv->Option R)(l:TL)(a:Int)(acc:List Col):Ea rec kx (t0V nm l n true a acc)=kx (.exit 0) (t0V nm l n true a acc):=by simp only[Ea,Zt1,Af]
theorem Buw{kx:Ex->Du->Option R}(rec:Du->Option R)(l:TL)(a:Int)(acc:List Xpr)(ha:acc.length<=1000000000)(hi:isT [44] l=true):Cr rec kx (t1V nm cs ns l n false a acc)=(Arz (l.tail,n,false,a)).bind λz=>rec (t1V nm cs ns z.2.1 z.2.2.1 z.2.2.2.1 z.2.2.2.2 (acc++[z.1])):=by
 have hm:decide (acc.length+1<=Al)=true:=Ze1 (by simp only[Al];omega);simp only[Cr,Zs1,Aa,Ew hi,Zc1,Arz];cases Ai ([[67,72,69,67,75],[40]],l.tail,n,false,a) with
 |none=>rfl
 |some y =>
  simp only[Zc1];cases Ft y with
  |none=>rfl
  |some x =>simp only[Zc1,hm,decide_true,Bool.and_self,chk,Aa];cases Ai ([[41]],x.2) with|none=>rfl|some y=>rfl
theorem Bvc{kx:Ex->Du->Option R}(rec:Du->Option R)(l:TL)(a:Int)(acc:List Xpr)(hi:isT [44] l=false):Cr rec kx (t1V nm cs ns l n false a acc)=kx (.exit 2) (t1V nm cs ns l n false a acc):=by simp only[Cr,Zs1,Aa,Ed hi,Zc1,Af]
theorem Bni{kx:Ex->Du->Option R}(rec:Du->Option R)(l:TL)(a:Int)(acc:List Xpr):Cr rec kx (t1V nm cs ns l n true a acc)=kx (.exit 2) (t1V nm cs ns l n true a acc):=by simp only[Cr,Zt1,Af]
end
theorem Bhd(nm:Str)(cs:List Col)(ns:List Str)(l:TL)(n b:Int)(acc:List Xpr):Br (ES n) b (tK1 (.exit 2) (t1V nm cs ns l n true b acc)):=by show Br (ES n) b ((Ai ([[41]],l,n,true,b)).bind λy=>some (y.1,y.2.1,y.2.2.1,y.2.2.2,1,nm,[],cs,ns,acc,[],[],false,0,0,0,[],[],[],[],[],0));exact Br.must ⟨_,rfl,rfl,rfl,rfl⟩
theorem Bqo(K:Nat)(nm:Str)(l:TL)(n b:Int)(acc:List Col):Br (ES n) b (tK0 (K+1) (.exit 0) (t0V nm l n true b acc)):=by show Br (ES n) b ((Ai ([[75,69,89]],l,n,true,b)).bind λy=>(Dq y).bind λz=>Ak (λrec=>Cr rec tK1) (K+1) (t1V nm acc z.1 z.2.1 z.2.2.1 z.2.2.2.1 z.2.2.2.2 []));refine Br.must (Br.bindS Jl λns =>?_);show Br (ES n) b (Ak (λrec=>Cr rec tK1) (K+1) (t1V nm acc ns l n true b []));rw[Aw,Bni];exact Bhd nm acc ns l n b []
theorem A3i(K:Nat)(nm:Str)(l:TL)(n b:Int)(acc:List Col):Br (ES n) b (Ak (λrec=>Ea rec (tK0 (K+1))) (K+1) (t0V nm l n true b acc)):=by rw[Aw,Bto];exact Bqo K nm l n b acc
theorem Awe{α:Type}{part:TL->PR α}(he:Cm part){l l':TL}{x:List α}(h:Im part l = .ok (x,l')):l'.length<l.length:=by simp only[Im] at h;cases hq:part l with|error q=>rw[hq] at h;cases h|ok y =>obtain⟨y,l1⟩:=y;rw[hq] at h;have h1:=he _ _ _ hq;have h2:=Aef he h;omega
theorem Bip{l l':TL}{x:List Str}(h:Mg l = .ok (x,l')):l'.length<l.length:=by obtain⟨_,l1,h1,h⟩:=Hf h;obtain⟨y,l2,h2,h⟩:=Hf h;obtain⟨_,l3,h3,h⟩:=Hf h;have q1:=B2 h1;have q2:=Awe Gu h2;have q3:=B2 h3;cases h;omega
theorem Beq{L:Nat}(hL:L<=1000000000){l:TL}(hl:l.length<L)(n a:Int):Out (gS n a) (ES n) n (Ip (l,n,false,a,z0)) (Aey l):=by
 rw[Bnh];unfold Aey;refine Out.bindS (Cn L) hl (λnm l1 h1 =>?_) (λnm l1 b=>Br.must (Br.bindS Aj5 λx=>A3i _ nm l1 n b [x]));have q1:=Ik h1;refine Out.must (by decide) (λl2 h2 =>?_) (λl2 b=>Br.bindS Aj5 λx=>A3i _ nm l2 n b [x]);have q2:=B2 h2;have e1:∀(f:List Col->TL->PR Stm),bP Akv f l2=bP N4 (λx l'=>bP (D4 (l'.length+1) [x]) f l') l2:=λf=>by unfold bP Akv;cases N4 l2 with|error q=>rfl|ok x=>rfl
 rw[e1];refine Out.bindS An8 (show l2.length<L by omega) (λx l3 h3 =>?_) (λx l3 b=>A3i _ nm l3 n b [x]);have q3:l3.length<l2.length:=Ae0 _ _ _ h3;have q4:[x].length+l3.length<=1000000000:=by simp only[Zf1,Zi1];omega
 have hc:=Asg (L:=L) (step:=λrec=>Ea rec (tK0 (l.length+3))) (st:=t0V nm) (n:=n) (c:=λacc l' b a=>tK0 (l.length+3) (.exit 0) (t0V nm l' n b a acc)) (λrec l a acc ha hi=>Bvm rec l a acc ha hi) (λrec l a acc hi=>Bvo rec l a acc hi) (λrec l a acc=>Bto rec l a acc) a (l.length+3) (l3.length+1) [x] l3 (by omega) (by omega) (by omega) q4;show Out _ _ _ (Ak (λrec=>Ea rec (tK0 (l.length+3))) (l.length+3) (t0V nm l3 n false a [x])) _;have ht1:∀(cs:List Col) (ns:List Str) (l':TL) (b:Int),Br (ES n) b (Ak (λrec=>Cr rec tK1) (l.length+3) (t1V nm cs ns l' n true b [])):=λcs ns l' b=>by rw[Aw,Bni];exact Bhd nm cs ns l' n b []
 unfold bP;cases hq:D4 (l3.length+1) [x] l3 with
 |error q =>rw[hq] at hc;obtain⟨e,l',h⟩:=hc;rw[h];exact Bqo _ nm l' n (G6 n q) e
 |ok y =>
  obtain⟨cs,l4⟩:=y;rw[hq] at hc;simp only at hc;rw[hc];have q5:=Ar0 hq;show Out _ _ _ ((Ai ([[75,69,89]],l4,n,false,a)).bind λy=>(Dq y).bind λz=>Ak (λrec=>Cr rec tK1) (l.length+3) (t1V nm cs z.1 z.2.1 z.2.2.1 z.2.2.2.1 z.2.2.2.2 [])) (bP (Ay [wKEY]) (λ_=>bP Mg λns=>bP (λl=>Ba Mx (l.length+1) [] l) λes=>bP (Ay [[41]]) λ_=>Bg { zS with kind:=1,name:=nm,cols:=cs,names:=ns,l:=es }) l4);refine Out.must (by decide) (λl5 h5 =>?_) (λl5 b=>Br.bindS Jl λns=>ht1 cs ns l5 b);have q6:=B2 h5;refine Out.bindS (Aq8 hL) (show l5.length<L by omega) (λns l6 h6 =>?_) (λns l6 b=>ht1 cs ns l6 b);have q7:=Bip h6;have q8:([]:List Xpr).length+l6.length<=1000000000:=by simp only[Zi1];omega
  show Out _ _ _ (Ak (λrec=>Cr rec tK1) (l.length+3) (t1V nm cs ns l6 n false a [])) (bP (Ba Mx (l6.length+1) []) _ l6);refine Out.loop (a:=a) (λacc l b a=>tK1 (.exit 2) (t1V nm cs ns l n b a acc))
   (At8 (step:=λrec=>Cr rec tK1) (st:=t1V nm cs ns) (n:=n) (c:=λacc l b a=>tK1 (.exit 2) (t1V nm cs ns l n b a acc)) (Ayf hL) Aye (λrec l a acc ha hi=>Buw rec l a acc ha hi) (λrec l a acc hi=>Bvc rec l a acc hi) (λrec l a acc=>Bni rec l a acc) (a:=a) (k:=l.length+3) (m:=l6.length+1) (acc:=[]) (l:=l6) (by omega) (by omega) (by omega) q8)
   (Awb (step:=λrec=>Cr rec tK1) (st:=t1V nm cs ns) (n:=n) (c:=λacc l b a=>tK1 (.exit 2) (t1V nm cs ns l n b a acc)) (Ayf hL) Aye (λrec l a acc ha hi=>Buw rec l a acc ha hi) (λrec l a acc hi=>Bvc rec l a acc hi) (λrec l a acc=>Bni rec l a acc) (a:=a) (k:=l.length+3) (m:=l6.length+1) (acc:=[]) (l:=l6) (by omega) (by omega) (by omega) q8) (λes l7 h7 =>?_) (λes l7 b=>Bhd nm cs ns l7 n b es)
  show Out _ _ _ ((Ai ([[41]],l7,n,false,a)).bind λy=>some (y.1,y.2.1,y.2.2.1,y.2.2.2,1,nm,[],cs,ns,es,[],[],false,0,0,0,[],[],[],[],[],0)) _;exact Out.must (by decide) (λl8 _=>rfl) (λl8 b=>⟨_,rfl,rfl,rfl,rfl⟩)
theorem Btl(x:Option Mo):(x.bind λ(x5,x6,x7,x8,x9,a,b,c,d,e,f,g,h,i,j,k,l,m,n,o,p,q)=>some (x5,x6,x7,x8,x9,a,b,c,d,e,f,g,h,i,j,k,l,m,n,o,p,q))=x:=by cases x<;>rfl
theorem A2t{L:Nat}(hL:L<=1000000000){l:TL}(hl:l.length<L)(n a:Int):Out (gS n a) (ES n) n (Pu (l,n,false,a,z0)) (G1 l):=by unfold Pu G1;have ht:=Bj l;cases hi:isT Uo l with|true =>show Out _ _ _ ((Au ([84,65,66,76,69],l,n,false,a)).bind _) _;rw[Ew (s:=[84,65,66,76,69]) hi];show Out _ _ _ ((Ip (l.tail,n,false,a,z0)).bind _) _;rw[show((Ip (l.tail,n,false,a,z0)).bind _)=Ip (l.tail,n,false,a,z0) from Btl _];exact Beq hL (by omega) n a|false =>show Out _ _ _ ((Au ([84,65,66,76,69],l,n,false,a)).bind _) _;rw[Ed (s:=[84,65,66,76,69]) hi];show Out _ _ _ ((Ai ([[73,78,68,69,88]],l,n,false,a)).bind _) (Zu l);unfold Zu;refine Out.must (by decide) (λl1 h1 =>?_) (λl1 b=>Br.bindS D6 λx=>Br.must (Br.bindS D6 λy=>Br.bindS Jl λz=>⟨_,rfl,rfl,rfl,rfl⟩));have q1:=B2 h1;refine Out.bindS (Cn L) (show l1.length<L by omega) (λx l2 h2 =>?_) (λx l2 b=>Br.must (Br.bindS D6 λy=>Br.bindS Jl λz=>⟨_,rfl,rfl,rfl,rfl⟩));have q2:=Ik h2;refine Out.must (by decide) (λl3 h3 =>?_) (λl3 b=>Br.bindS D6 λy=>Br.bindS Jl λz=>⟨_,rfl,rfl,rfl,rfl⟩);have q3:=B2 h3;refine Out.bindS (Cn L) (show l3.length<L by omega) (λy l4 h4 =>?_) (λy l4 b=>Br.bindS Jl λz=>⟨_,rfl,rfl,rfl,rfl⟩);have q4:=Ik h4;exact Out.bindS (Aq8 hL) (show l4.length<L by omega) (λz l5 h5=>rfl) (λz l5 b=>⟨_,rfl,rfl,rfl,rfl⟩)
def Ata(x:Str×RS):Option ((Str×Bool)×RS):=cond (!x.2.2.2.1) ((Au ([68,69,83,67],x.2)).bind λz=>cond (!z.2.2.2.1) (cond (!z.1) ((Au ([65,83,67],z.2)).bind λy=>some ((x.1,z.1),y.2)) (some ((x.1,z.1),z.2))) (some ((x.1,z.1),z.2))) (cond (!x.2.2.2.1) ((Au ([65,83,67],x.2)).bind λy=>some ((x.1,false),y.2)) (some ((x.1,false),x.2)))
def Aiq(s:RS):Option ((Str×Bool)×RS):=(Az s).bind Ata
theorem A6j(nm:Str)(l:TL)(n a:Int):Ata (nm,l,n,true,a)=some ((nm,false),l,n,true,a):=rfl
theorem A7r(nm:Str)(l:TL)(n a:Int):∃d l',Xx l = .ok (d,l')/\l'.length<=l.length/\Ata (nm,l,n,false,a)=some ((nm,d),l',n,false,a):=by
 have ht:=Bj l;unfold Ata Xx;simp only[Zs1,Aa];cases hd:isT wDESC l with
 |true =>rw[Ew (s:=[68,69,83,67]) hd];exact⟨true,l.tail,rfl,ht,rfl⟩
 |false =>rw[Ed (s:=[68,69,83,67]) hd];simp only[Zc1,Zs1,Aa];cases ha:isT Bce l with|true =>rw[Ew (s:=[65,83,67]) ha];exact⟨false,l.tail,rfl,ht,rfl⟩|false =>rw[Ed (s:=[65,83,67]) ha];exact⟨false,l,rfl,Zn1 _,rfl⟩
theorem A8y:I6 Aiq:=λl n a=>by obtain⟨e1,h1⟩:=D6 l n a;simp only[Aiq,h1,Zc1,A6j];exact⟨_,rfl⟩
theorem Av9{L:Nat}:SimP Aiq Au3 L :=.of (λl n a hl=>by unfold Aiq Au3;refine Out.bindS (Cn L) hl (λnm l1 h1 =>?_) (λnm l1 b=>⟨_,A6j nm l1 n b,rfl,rfl,rfl⟩);obtain⟨d,l2,h2,_,h3⟩:=A7r nm l1 n a;rw[h3];unfold bP;rw[h2];exact rfl) A8y
theorem Ank:Cm Au3:=λl e l' h=>by obtain⟨nm,l1,h1,h⟩:=Hf h;obtain⟨d,l2,h2,h⟩:=Hf h;have q1:=Ik h1;obtain⟨d',l3,h3,q3,_⟩:=A7r nm l1 0 0;rw[h2] at h3;cases h3;cases h;omega
def Jt(c:Cl)(m:Int):Cl:=(c.1,c.2.1,c.2.2.1,c.2.2.2.1,c.2.2.2.2.1,c.2.2.2.2.2.1,c.2.2.2.2.2.2.1,c.2.2.2.2.2.2.2.1,c.2.2.2.2.2.2.2.2.1,c.2.2.2.2.2.2.2.2.2.1,c.2.2.2.2.2.2.2.2.2.2.1,c.2.2.2.2.2.2.2.2.2.2.2.1,c.2.2.2.2.2.2.2.2.2.2.2.2.1,c.2.2.2.2.2.2.2.2.2.2.2.2.2.1,c.2.2.2.2.2.2.2.2.2.2.2.2.2.2.1,c.2.2.2.2.2.2.2.2.2.2.2.2.2.2.2.1,c.2.2.2.2.2.2.2.2.2.2.2.2.2.2.2.2.1,m)
def Aor(s:RS)(c:Cl):Option Eh:=cond (!s.2.2.1) ((Au ([76,73,77,73,84],s)).bind λz=>cond z.1 ((D9 z.2).bind λt=>cond (!decide (t.1.kind=3)) ((Ch t.2).bind λy=>(Cj y).bind λu=>some (u.2.1,u.2.2.1,u.2.2.2.1,u.2.2.2.2,Jt c u.1.n)) ((Cj t.2).bind λu=>some (u.2.1,u.2.2.1,u.2.2.2.1,u.2.2.2.2,Jt c u.1.n))) (some (z.2.1,z.2.2.1,z.2.2.2.1,z.2.2.2.2,c))) (some (s.1,s.2.1,s.2.2.1,s.2.2.2,c))
theorem A3c(l:TL)(n b:Int)(c:Cl):Br (ES n) b (Aor (l,n,true,b) c):=⟨_,rfl,rfl,rfl,rfl⟩
theorem Bfp(l:TL)(n a:Int)(c:Cl)(hc:Jt c (-1)=c):Out (λ(m:Int) l'=>((l',n,false,a,Jt c m):TL×Int×Bool×Int×Cl)) (ES n) n (Aor (l,n,false,a) c) (Cd l):=by
 unfold Aor Cd;simp only[Zs1,Aa];cases hi:isT wLIMIT l with
 |false =>rw[Ed (s:=[76,73,77,73,84]) hi];show some (l,n,false,a,c)=some (l,n,false,a,Jt c (-1));rw[hc]
 |true =>
  rw[Ew (s:=[76,73,77,73,84]) hi];simp only[Zc1,Aa];cases hl:l.tail with
  |nil=>exact⟨_,rfl,rfl,rfl,rfl⟩
  |cons t r =>rw[Awt];simp only[Zc1,Amn];cases hk:decide (t.kind=3) with|true =>simp only[Zt1,Af,Auf,Zc1];exact rfl|false =>simp only[Zs1,Aa,W1,Auf,Zc1];exact⟨_,rfl,rfl,rfl,rfl⟩
def Ob(c:Cl)(o:List Str)(d:List Bool):Cl:=(c.1,c.2.1,c.2.2.1,c.2.2.2.1,c.2.2.2.2.1,c.2.2.2.2.2.1,c.2.2.2.2.2.2.1,c.2.2.2.2.2.2.2.1,c.2.2.2.2.2.2.2.2.1,c.2.2.2.2.2.2.2.2.2.1,c.2.2.2.2.2.2.2.2.2.2.1,c.2.2.2.2.2.2.2.2.2.2.2.1,c.2.2.2.2.2.2.2.2.2.2.2.2.1,c.2.2.2.2.2.2.2.2.2.2.2.2.2.1,c.2.2.2.2.2.2.2.2.2.2.2.2.2.2.1,o,d,c.2.2.2.2.2.2.2.2.2.2.2.2.2.2.2.2.2)
def sKx(e:Ex)(v:Ci):Option Eh:=match e with|.exit 0=>Aor (v.1,v.2.1,v.2.2.1,v.2.2.2.1) v.2.2.2.2|_=>none
def Agx(K:Nat)(s:RS)(c:Cl):Option Eh:=match s,c with
 |(a6,a7,h,a8),(i,j,k,l,m,n,p,q,r,t,u,v,w,x,y,b,a,z) =>
  let j1:=λ(ad:List Tok) (ae:Int) (af:Bool) (ag:Int) (ah:List Bool) (o:List Str)=>Ak (λrec=>Bq rec sKx) K (ad,ae,af,ag,i,j,k,l,m,n,p,q,r,t,u,v,w,x,y,o,ah,z)
  cond (!h) (
    (Au ([79,82,68,69,82],a6,a7,h,a8)).bind λ(ai,a9,aa,ab,ac) =>
    cond (ai) (
     (Ai ([[66,89]],a9,aa,ab,ac)).bind λ(aj,ak,al,am) =>
     (Az (aj,ak,al,am)).bind λ(d,a0,a1,e,a2) =>
      chk (decide (b.length+1<=Al)) (
      cond (!e) (
       (Au ([68,69,83,67],a0,a1,e,a2)).bind λ(f,a3,a4,g,a5) =>
       cond (!g) (
        cond (!f) (
        (Au ([65,83,67],a3,a4,g,a5)).bind λ(_,an,ao,ap,aq) =>
         chk (decide (a.length+1<=Al)) (
         j1 an ao ap aq (a++[f]) (b++[d]))) (
        chk (decide (a.length+1<=Al)) (
         j1 a3 a4 g a5 (a++[f]) (b++[d])))) (
        chk (decide (a.length+1<=Al)) (
        j1 a3 a4 g a5 (a++[f]) (b++[d])))) (
       cond (!e) (
       (Au ([65,83,67],a0,a1,e,a2)).bind λ(_,ar,au,av,aw) =>
        chk (decide (a.length+1<=Al)) (
        j1 ar au av aw (a++[false]) (b++[d]))) (
       chk (decide (a.length+1<=Al)) (
        j1 a0 a1 e a2 (a++[false]) (b++[d])))))) (
     Aor (a9,aa,ab,ac) (i,j,k,l,m,n,p,q,r,t,u,v,w,x,y,b,a,z))) (
    Aor (a6,a7,h,a8) (i,j,k,l,m,n,p,q,r,t,u,v,w,x,y,b,a,z))
def A16(K:Nat)(s:RS)(es:List Xpr):Option Eh:=(Ai ([[70,82,79,77]],s)).bind λy=>(Az y).bind λx=>(Ce (x.2.1,x.2.2.1,x.2.2.2.1,x.2.2.2.2,8,x.1,[],[],[],es,[],[],false,0,0,0,[],[],[],[],[],(-1))).bind λr=>Agx K (r.1,r.2.1,r.2.2.1,r.2.2.2.1) r.2.2.2.2
theorem Bl7(l:TL)(n:Int)(b:Bool)(a:Int):H0 (l,n,b,a,z0)=(Au ([42],l,n,b,a)).bind λx=>cond (!x.1) ((C6 x.2).bind λe=>A16 (l.length+3) e.2 e.1) (A16 (l.length+3) x.2 []):=by
 have hk:∀(e:Ex) (v:Ci),(match v with|(c,d,f,g,h,i,j,k,m,o,p,q,r,s,t,u,w,y,z,a0,a1,a2)=>match e with
   |.exit 0=>Aor (c,d,f,g) (h,i,j,k,m,o,p,q,r,s,t,u,w,y,z,a0,a1,a2)
   |_=>none:Option Eh)=sKx e v:=λe v=>by
  match e with|.exit 0=>rfl|.exit (_+1)=>rfl|.ret=>rfl|.normal=>rfl
 have hk2:=funext λe=>funext λv=>hk e v;unfold H0 A16 Agx;rw[<-hk2];rfl
abbrev stO(c:Cl)(l:TL)(n:Int)(b:Bool)(a:Int)(acc:List (Str×Bool)):Ci:=(l,n,b,a,Ob c (acc.map (·.1)) (acc.map (·.2)))
section
variable {R:Type}{kx:Ex->Ci->Option R}{n:Int}{c:Cl}
theorem Bty(rec:Ci->Option R)(l:TL)(a:Int)(o:List Str)(d:List Bool)(ho:o.length<=1000000000)(hd:d.length<=1000000000)(hi:isT [44] l=true):Bq rec kx (l,n,false,a,Ob c o d)=(Aiq (l.tail,n,false,a)).bind λz=>rec (z.2.1,z.2.2.1,z.2.2.2.1,z.2.2.2.2,Ob c (o++[z.1.1]) (d++[z.1.2])):=by
 have hm1:decide (o.length+1<=Al)=true:=Ze1 (by simp only[Al];omega);have hm2:decide (d.length+1<=Al)=true:=Ze1 (by simp only[Al];omega);obtain⟨c1,c2,c3,c4,c5,c6,c7,c8,c9,c10,c11,c12,c13,c14,c15,c16,c17,c18⟩:=c;show Bq rec kx (l,n,false,a,c1,c2,c3,c4,c5,c6,c7,c8,c9,c10,c11,c12,c13,c14,c15,o,d,c18)=(Aiq (l.tail,n,false,a)).bind λz=>rec (z.2.1,z.2.2.1,z.2.2.2.1,z.2.2.2.2,c1,c2,c3,c4,c5,c6,c7,c8,c9,c10,c11,c12,c13,c14,c15,o++[z.1.1],d++[z.1.2],c18);simp only[Bq,Zs1,Aa,Ew hi,Zc1,Aiq,hm1,hm2,chk];cases Az (l.tail,n,false,a) with
 |none=>rfl
 |some x =>
  obtain⟨x1,x2,x3,x4,x5⟩:=x;simp only[Zc1,Ata];cases x4 with
  |true=>rfl
  |false =>
   simp only[Zs1,Aa];cases Au ([68,69,83,67],x2,x3,false,x5) with
   |none=>rfl
   |some z =>
    obtain⟨z1,z2,z3,z4,z5⟩:=z;simp only[Zc1];cases z4 with
    |true=>rfl
    |false =>simp only[Zs1,Aa];cases z1 with|true=>rfl|false =>simp only[Zs1,Aa];cases Au ([65,83,67],z2,z3,false,z5)<;>rfl
theorem o_g(rec:Ci->Option R)(l:TL)(a:Int)(acc:List (Str×Bool))(ha:acc.length<=1000000000)(hi:isT [44] l=true):Bq rec kx (stO c l n false a acc)=(Aiq (l.tail,n,false,a)).bind λz=>rec (stO c z.2.1 z.2.2.1 z.2.2.2.1 z.2.2.2.2 (acc++[z.1])):=by
 have e1:∀x:Str×Bool,(acc++[x]).map (·.1)=acc.map (·.1)++[x.1]:=λx=>by simp
 have e2:∀x:Str×Bool,(acc++[x]).map (·.2)=acc.map (·.2)++[x.2]:=λx=>by simp
 have h:=Bty (kx:=kx) (n:=n) (c:=c) rec l a (acc.map (·.1)) (acc.map (·.2)) (by rw[List.length_map];exact ha) (by rw[List.length_map];exact ha) hi;simp only[stO,e1,e2];exact h
theorem o_f(rec:Ci->Option R)(l:TL)(a:Int)(acc:List (Str×Bool))(hi:isT [44] l=false):Bq rec kx (stO c l n false a acc)=kx (.exit 0) (stO c l n false a acc):=by simp only[Bq,Ob,Zs1,Aa,Ed hi,Zc1,Af];rfl
theorem o_b(rec:Ci->Option R)(l:TL)(a:Int)(acc:List (Str×Bool)):Bq rec kx (stO c l n true a acc)=kx (.exit 0) (stO c l n true a acc):=by simp only[Bq,Ob,Zt1,Af];rfl
end
theorem Bbv(K:Nat)(l:TL)(n a:Int)(c:Cl):Agx K (l,n,false,a) (Ob c [] [])=(Au ([79,82,68,69,82],l,n,false,a)).bind λz=>cond z.1 ((Ai ([[66,89]],z.2)).bind λy=>(Aiq y).bind λx=>Ak (λrec=>Bq rec sKx) K (stO c x.2.1 x.2.2.1 x.2.2.2.1 x.2.2.2.2 [x.1])) (Aor z.2 (Ob c [] [])):=by
 have hm1:decide (([]:List Str).length+1<=Al)=true:=Ze1 (by simp only[Al,Zi1];omega);have hm2:decide (([]:List Bool).length+1<=Al)=true:=Ze1 (by simp only[Al,Zi1];omega);obtain⟨c1,c2,c3,c4,c5,c6,c7,c8,c9,c10,c11,c12,c13,c14,c15,c16,c17,c18⟩:=c;show Agx K (l,n,false,a) (c1,c2,c3,c4,c5,c6,c7,c8,c9,c10,c11,c12,c13,c14,c15,[],[],c18)=(Au ([79,82,68,69,82],l,n,false,a)).bind λz=>cond z.1 ((Ai ([[66,89]],z.2)).bind λy=>(Aiq y).bind λx=>Ak (λrec=>Bq rec sKx) K (x.2.1,x.2.2.1,x.2.2.2.1,x.2.2.2.2,c1,c2,c3,c4,c5,c6,c7,c8,c9,c10,c11,c12,c13,c14,c15,[x.1.1],[x.1.2],c18)) (Aor z.2 (c1,c2,c3,c4,c5,c6,c7,c8,c9,c10,c11,c12,c13,c14,c15,[],[],c18));simp only[Agx,Zs1,Aa,hm1,hm2,chk];cases Au ([79,82,68,69,82],l,n,false,a) with
 |none=>rfl
 |some q =>
  obtain⟨q1,q2,q3,q4,q5⟩:=q;simp only[Zc1];cases q1 with
  |false=>rfl
  |true =>
   simp only[Aa];cases Ai ([[66,89]],q2,q3,q4,q5) with
   |none=>rfl
   |some y =>
    obtain⟨y1,y2,y3,y4⟩:=y;simp only[Zc1,Aiq];cases Az (y1,y2,y3,y4) with
    |none=>rfl
    |some x =>
     obtain⟨x1,x2,x3,x4,x5⟩:=x;simp only[Zc1,Ata];cases x4 with
     |true=>rfl
     |false =>
      simp only[Zs1,Aa];cases Au ([68,69,83,67],x2,x3,false,x5) with
      |none=>rfl
      |some z =>
       obtain⟨z1,z2,z3,z4,z5⟩:=z;simp only[Zc1];cases z4 with
       |true=>rfl
       |false =>simp only[Zs1,Aa];cases z1 with|true=>rfl|false =>simp only[Zs1,Aa];cases Au ([65,83,67],z2,z3,false,z5)<;>rfl
theorem A9n(K:Nat)(l:TL)(n b:Int)(c:Cl):Br (ES n) b (Agx K (l,n,true,b) c):=by obtain⟨c1,c2,c3,c4,c5,c6,c7,c8,c9,c10,c11,c12,c13,c14,c15,c16,c17,c18⟩:=c;exact A3c l n b _
theorem Aks(K:Nat)(c:Cl)(l:TL)(n b:Int)(acc:List (Str×Bool)):Br (ES n) b (Ak (λrec=>Bq rec sKx) (K+1) (stO c l n true b acc)):=by rw[Aw,o_b];exact A3c l n b _
theorem A2p(c:Cl)(o:List Str)(d:List Bool)(h:Jt c (-1)=c):Jt (Ob c o d) (-1)=Ob c o d:=by obtain⟨c1,c2,c3,c4,c5,c6,c7,c8,c9,c10,c11,c12,c13,c14,c15,c16,c17,c18⟩:=c;have h18:(-1:Int)=c18:=congrArg (λz:Cl=>z.2.2.2.2.2.2.2.2.2.2.2.2.2.2.2.2.2) h;show(c1,c2,c3,c4,c5,c6,c7,c8,c9,c10,c11,c12,c13,c14,c15,o,d,(-1:Int))=(c1,c2,c3,c4,c5,c6,c7,c8,c9,c10,c11,c12,c13,c14,c15,o,d,c18);rw[<-h18]
theorem Bie{L:Nat}(hL:L<=1000000000){K:Nat}{l:TL}(hl:l.length<L)(hK:l.length<K)(n a:Int)(c:Cl)(hm:Jt c (-1)=c):Out (λ(r:List (Str×Bool)×Int) l'=>((l',n,false,a,Jt (Ob c (r.1.map (·.1)) (r.1.map (·.2))) r.2):TL×Int×Bool×Int×Cl)) (ES n) n (Agx (K+1) (l,n,false,a) (Ob c [] [])) (bP Et (λo=>bP Cd λm=>Bg (o,m)) l):=by
 rw[Bbv];have ht:=Bj l;have hlim:∀(o:List (Str×Bool)) (l':TL) (a:Int),Out (λ(r:List (Str×Bool)×Int) l'=>((l',n,false,a,Jt (Ob c (r.1.map (·.1)) (r.1.map (·.2))) r.2):TL×Int×Bool×Int×Cl)) (ES n) n (Aor (l',n,false,a) (Ob c (o.map (·.1)) (o.map (·.2)))) (bP Cd (λm=>Bg (o,m)) l'):=λo l' a =>Out.map (Bfp l' n a _ (A2p c _ _ hm)) (λm l2=>rfl)
 cases hi:isT wORDER l with
 |false =>
  rw[Ed (s:=[79,82,68,69,82]) hi];have e:bP Et (λo=>bP Cd λm=>Bg (o,m)) l=bP Cd (λm=>Bg ([],m)) l:=by unfold bP Et;simp only[hi]
  rw[e];exact hlim [] l a
 |true =>
  rw[Ew (s:=[79,82,68,69,82]) hi];have e:bP Et (λo=>bP Cd λm=>Bg (o,m)) l=bP (Ay [wBY]) (λ_=>bP (Im Au3) λo=>bP Cd λm=>Bg (o,m)) l.tail:=by unfold bP Et;simp only[hi];unfold bP;cases Ay [wBY] l.tail<;>rfl
  rw[e];show Out _ _ _ ((Ai ([[66,89]],l.tail,n,false,a)).bind λy=>(Aiq y).bind λx=>Ak (λrec=>Bq rec sKx) (K+1) (stO c x.2.1 x.2.2.1 x.2.2.2.1 x.2.2.2.2 [x.1])) _;refine Out.must (by decide) (λl1 h1 =>?_) (λl1 b=>Br.bindS A8y λx=>Aks K c l1 n b [x]);have q1:=B2 h1;rw[V0];refine Out.bindS (Av9 (L:=L)) (show l1.length<L by omega) (λx l2 h2 =>?_) (λx l2 b=>Aks K c l2 n b [x]);have q2:l2.length<l1.length:=Ank _ _ _ h2;have q3:[x].length+l2.length<=1000000000:=by simp only[Zf1,Zi1];omega
  refine Out.loop (a:=a) (λacc l b a=>sKx (.exit 0) (stO c l n b a acc))
   (At8 (step:=λrec=>Bq rec sKx) (st:=stO c) (n:=n) (c:=λacc l b a=>sKx (.exit 0) (stO c l n b a acc)) (Av9 (L:=L)) Ank (λrec l a acc ha hi=>o_g rec l a acc ha hi) (λrec l a acc hi=>o_f rec l a acc hi) (λrec l a acc=>o_b rec l a acc) (a:=a) (k:=K+1) (m:=l2.length+1) (acc:=[x]) (l:=l2) (by omega) (by omega) (by omega) q3)
   (Awb (step:=λrec=>Bq rec sKx) (st:=stO c) (n:=n) (c:=λacc l b a=>sKx (.exit 0) (stO c l n b a acc)) (Av9 (L:=L)) Ank (λrec l a acc ha hi=>o_g rec l a acc ha hi) (λrec l a acc hi=>o_f rec l a acc hi) (λrec l a acc=>o_b rec l a acc) (a:=a) (k:=K+1) (m:=l2.length+1) (acc:=[x]) (l:=l2) (by omega) (by omega) (by omega) q3) (λo l3 h3 =>?_) (λo l3 b=>A3c l3 n b _)
  exact hlim o l3 a
theorem Out.bindO{α β γ δ:Type}{g : α->TL->γ}{E:Int->γ->Prop}{g' : β->TL->δ}{E':Int->δ->Prop}{n:Int}{x:Option γ}{p:TL->PR α}{l:TL}(ho:Out g E n x (p l)){G : γ->Option δ}{f : α->TL->PR β}(h1:∀r l',p l = .ok (r,l')->Out g' E' n (G (g r l')) (f r l'))(h2:∀b z,E b z->Br E' b (G z)):Out g' E' n (x.bind G) (bP p f l):=by unfold bP;cases hq:p l with|error q =>rw[hq] at ho;obtain⟨z,hz,he⟩:=ho;rw[hz];exact h2 _ z he|ok y =>obtain⟨r,l'⟩:=y;rw[hq] at ho;have ho:x=some (g r l'):=ho;rw[ho];exact h1 r l' hq
theorem Bi1{l l':TL}{w:Bool×Xpr}(h:Ek l = .ok (w,l')):l'.length<=l.length:=by
 unfold Ek at h;have ht:=Bj l;cases hi:isT wWHERE l with
 |false=>rw[hi] at h;cases h;exact Zn1 _
 |true =>rw[hi] at h;simp only at h;cases hq:orW l.tail with|error q=>rw[hq] at h;cases h|ok x =>obtain⟨x,l1⟩:=x;rw[hq] at h;cases h;have:=Gj _ _ _ hq;omega
theorem Avy(K:Nat)(es:List Xpr)(nm:Str)(l:TL)(n b:Int):Br (ES n) b ((Ce (l,n,true,b,8,nm,[],[],[],es,[],[],false,0,0,0,[],[],[],[],[],(-1))).bind λr=>Agx K (r.1,r.2.1,r.2.2.1,r.2.2.2.1) r.2.2.2.2):=by rw[Aiy];exact A9n K l n b (8,nm,[],[],[],es,[],[],false,0,0,0,[],[],[],[],[],(-1))
theorem Bry(K:Nat)(es:List Xpr)(l:TL)(n b:Int):Br (ES n) b (A16 K (l,n,true,b) es):=Br.must (Br.bindS D6 λnm=>Avy K es nm l n b)
def Boh(es:List Xpr)(nm:Str)(w:Bool×Xpr)(o:List (Str×Bool))(m:Int):Stm:={ zS with kind:=8,name:=nm,l:=es,has:=w.1,whr:=w.2,order:=o.map (·.1),desc:=o.map (·.2),most:=m }
theorem Axd{L:Nat}(hL:L<=1000000000){K:Nat}{l:TL}(hl:l.length<L)(hK:l.length<K)(n a:Int)(es:List Xpr):Out (gS n a) (ES n) n (A16 (K+1) (l,n,false,a) es) (bP (Ay [wFROM]) (λ_=>bP Bt λnm=>bP Ek λw=>bP Et λo=>bP Cd λm=>Bg (Boh es nm w o m)) l):=by
 unfold A16;refine Out.must (by decide) (λl1 h1 =>?_) (λl1 b=>Br.bindS D6 λnm=>Avy (K+1) es nm l1 n b);have q1:=B2 h1;refine Out.bindS (Cn L) (show l1.length<L by omega) (λnm l2 h2 =>?_) (λnm l2 b=>Avy (K+1) es nm l2 n b);have q2:=Ik h2;refine Out.bindO (Aft hL n a 8 nm [] [] [] es [] [] [] [] (-1) (show l2.length<L by omega)) (λw l3 h3 =>?_) (λb z hz =>?_)
 ·have q3:=Bi1 h3;have h:=Bie hL (K:=K) (l:=l3) (by omega) (by omega) n a (8,nm,[],[],[],es,[],[],w.1,w.2.kind,w.2.v.kind,w.2.v.n,w.2.v.s,w.2.name,w.2.l,[],[], -1) rfl;have e:bP Et (λo=>bP Cd λm=>Bg (Boh es nm w o m)) l3=bP (bP Et λo=>bP Cd λm=>Bg (o,m)) (λr=>Bg (Boh es nm w r.1 r.2)) l3:=by unfold bP;cases Et l3 with|error q=>rfl|ok x =>obtain⟨o,l4⟩:=x;simp only;cases Cd l4<;>rfl
  rw[e];exact Out.map (g':=gS n a) h (λr l'=>rfl)
 ·obtain⟨l',n',b',a',c⟩:=z;obtain⟨h1,h2,h3⟩:=hz;simp only at h1 h2 h3;subst h1 h2 h3;exact A9n (K+1) l' n' a' c
theorem Azq{L:Nat}(hL:L<=1000000000){l:TL}(hl:l.length<L)(n a:Int):Out (gS n a) (ES n) n (H0 (l,n,false,a,z0)) (G2 l):=by
 rw[Bl7];have ht:=Bj l;have e:G2 l=bP Aa1 (λes=>bP (Ay [wFROM]) λ_=>bP Bt λnm=>bP Ek λw=>bP Et λo=>bP Cd λm=>Bg (Boh es nm w o m)) l:=rfl;rw[e];cases hi:isT [42] l with
 |true =>
  rw[Ew hi];have e2:∀f:List Xpr->TL->PR Stm,bP Aa1 f l=f [] l.tail:=λf=>by unfold bP Aa1;simp only[hi]
  rw[e2];exact Axd hL (K:=l.length+2) (by omega) (by omega) n a []
 |false =>
  rw[Ed hi];have e2:∀f:List Xpr->TL->PR Stm,bP Aa1 f l=bP L5 f l:=λf=>by unfold bP Aa1;simp only[hi]
  rw[e2];show Out _ _ _ ((C6 (l,n,false,a)).bind λe=>A16 (l.length+3) e.2 e.1) _;refine Out.bindS (Ar3 hL) hl (λes l1 h1 =>?_) (λes l1 b=>Bry (l.length+3) es l1 n b);have q1:l1.length<l.length:=Awe Gj h1;exact Axd hL (K:=l.length+2) (by omega) (by omega) n a es
abbrev gF(n a:Int)(s:Stm)(l:TL):Stm×RS:=(s,Sy l,n,false,a)
theorem A3b{α:Type}(p:TL->PR α)(l:TL):bP p Bg l=p l:=by unfold bP Bg;cases p l<;>rfl
theorem Blh(s:Stm)(l:TL)(n a:Int):((Au ([59],l,n,false,a)).bind λz=>some (s,z.2))=some (s,Sy l,n,false,a):=by unfold Sy;cases hi:isT [59] l with|true=>rw[Ew hi];rfl|false=>rw[Ed hi];rfl
theorem A6f(s:Stm):Stm.mk s.kind s.name s.on s.cols s.names s.l s.rows s.sets s.has (Xpr.mk s.whr.kind ⟨s.whr.v.kind,s.whr.v.n,s.whr.v.s⟩ s.whr.name s.whr.l) s.order s.desc s.most=s:=by obtain⟨k,nm,on,cs,ns,l,rs,ss,h,w,o,d,m⟩:=s;cases w;rfl
def Awr(s:RS):Option (List Xpr×RS):=(Ai ([[40]],s)).bind λy=>(C6 y).bind λe=>(Ai ([[41]],e.2)).bind λw=>some (e.1,w)
theorem Ajg:I6 Awr:=λl n a=>by obtain⟨e1,h1⟩:=Aei l n a;simp only[Awr,Ry,h1,Zc1];exact⟨_,rfl⟩
theorem Bhs{l l':TL}{x:List Xpr}(h:L5 l = .ok (x,l')):l'.length<l.length:=Awe Gj h
theorem Av0{L:Nat}(hL:L<=1000000000):SimP Awr A30 L :=.of (λl n a hl=>by unfold Awr A30;refine Out.must (by decide) (λl1 h1 =>?_) (λl1 b=>Br.bindS Aei λe=>Br.must ⟨_,rfl,rfl,rfl,rfl⟩);have q1:=B2 h1;refine Out.bindS (Ar3 hL) (show l1.length<L by omega) (λe l2 h2 =>?_) (λe l2 b=>Br.must ⟨_,rfl,rfl,rfl,rfl⟩);exact Out.must (by decide) (λl3 h3=>rfl) (λl3 b=>⟨_,rfl,rfl,rfl,rfl⟩)) Ajg
theorem Ala:Cm A30:=λl e l' h=>by obtain⟨_,l1,h1,h⟩:=Hf h;obtain⟨x,l2,h2,h⟩:=Hf h;obtain⟨_,l3,h3,h⟩:=Hf h;have q1:=B2 h1;have q2:=Bhs h2;have q3:=B2 h3;cases h;omega
abbrev rV(nm:Str)(l:TL)(n:Int)(b:Bool)(a:Int)(acc:List (List Xpr)):Gw:=(l,n,b,a,zS,5,nm,[],[],[],[],acc,[],false,0,0,0,[],[],[],[],[],0)
section
variable {R:Type}{kx:Ex->Gw->Option R}{n:Int}{nm:Str}
theorem r_g(rec:Gw->Option R)(l:TL)(a:Int)(acc:List (List Xpr))(ha:acc.length<=1000000000)(hi:isT [44] l=true):Fz rec kx (rV nm l n false a acc)=(Awr (l.tail,n,false,a)).bind λz=>rec (rV nm z.2.1 z.2.2.1 z.2.2.2.1 z.2.2.2.2 (acc++[z.1])):=by
 have hm:decide (acc.length+1<=Al)=true:=Ze1 (by simp only[Al];omega);simp only[Fz,Zs1,Aa,Ew hi,Zc1,Awr];cases Ai ([[40]],l.tail,n,false,a) with
 |none=>rfl
 |some y =>
  simp only[Zc1];cases C6 y with
  |none=>rfl
  |some x =>simp only[Zc1,hm,chk,Aa];cases Ai ([[41]],x.2) with|none=>rfl|some y=>rfl
theorem r_f(rec:Gw->Option R)(l:TL)(a:Int)(acc:List (List Xpr))(hi:isT [44] l=false):Fz rec kx (rV nm l n false a acc)=kx (.exit 0) (rV nm l n false a acc):=by simp only[Fz,Zs1,Aa,Ed hi,Zc1,Af]
theorem r_b(rec:Gw->Option R)(l:TL)(a:Int)(acc:List (List Xpr)):Fz rec kx (rV nm l n true a acc)=kx (.exit 0) (rV nm l n true a acc):=by simp only[Fz,Zt1,Af]
end
def Bgr(c:Cl):Stm:=Stm.mk c.1 c.2.1 c.2.2.1 c.2.2.2.1 c.2.2.2.2.1 c.2.2.2.2.2.1 c.2.2.2.2.2.2.1 c.2.2.2.2.2.2.2.1 c.2.2.2.2.2.2.2.2.1 (Xpr.mk c.2.2.2.2.2.2.2.2.2.1 ⟨c.2.2.2.2.2.2.2.2.2.2.1,c.2.2.2.2.2.2.2.2.2.2.2.1,c.2.2.2.2.2.2.2.2.2.2.2.2.1⟩ c.2.2.2.2.2.2.2.2.2.2.2.2.2.1 c.2.2.2.2.2.2.2.2.2.2.2.2.2.2.1) c.2.2.2.2.2.2.2.2.2.2.2.2.2.2.2.1 c.2.2.2.2.2.2.2.2.2.2.2.2.2.2.2.2.1 c.2.2.2.2.2.2.2.2.2.2.2.2.2.2.2.2.2
def Bmg(s:RS)(c:Cl):Option Kw:=cond (!s.2.2.1) ((Au ([59],s)).bind λz=>some (Bgr c,z.2)) (some (Bgr c,s))
theorem Aw8(s:Stm):Bgr (A4t s)=s:=A6f s
theorem Bs7(s:Stm)(l:TL)(n a:Int):Bmg (l,n,false,a) (A4t s)=some (gF n a s l):=by unfold Bmg;simp only[Zs1,Aa,Aw8];exact Blh s l n a
theorem Bgb(l:TL)(n b:Int)(c:Cl):Br (EV n) b (Bmg (l,n,true,b) c):=⟨_,rfl,rfl,rfl,rfl⟩
def rK(e:Ex)(v:Gw):Option Kw:=match e with|.exit 0=>Bmg (v.1,v.2.1,v.2.2.1,v.2.2.2.1) v.2.2.2.2.2|_=>none
def Bl6(K:Nat)(s:RS):Option Kw:=(Ai ([[73,78,84,79]],s)).bind λy=>(Az y).bind λx=>(Ai ([[86,65,76,85,69,83]],x.2)).bind λy=>(Awr y).bind λz=>Ak (λrec=>Fz rec rK) K (rV x.1 z.2.1 z.2.2.1 z.2.2.2.1 z.2.2.2.2 [z.1])
theorem A9p(K:Nat)(nm:Str)(l:TL)(n b:Int)(acc:List (List Xpr)):Br (EV n) b (Ak (λrec=>Fz rec rK) (K+1) (rV nm l n true b acc)):=by rw[Aw,r_b];exact Bgb l n b (5,nm,[],[],[],[],acc,[],false,0,0,0,[],[],[],[],[],0)
theorem Bpe{L:Nat}(hL:L<=1000000000){K:Nat}{l:TL}(hl:l.length<L)(hK:l.length<K)(n a:Int):Out (gF n a) (EV n) n (Bl6 (K+1) (l,n,false,a)) (No l):=by
 unfold Bl6 No;refine Out.must (by decide) (λl1 h1 =>?_) (λl1 b=>Br.bindS D6 λnm=>Br.must (Br.bindS Ajg λx=>A9p K nm l1 n b [x]));have q1:=B2 h1;refine Out.bindS (Cn L) (show l1.length<L by omega) (λnm l2 h2 =>?_) (λnm l2 b=>Br.must (Br.bindS Ajg λx=>A9p K nm l2 n b [x]));have q2:=Ik h2;refine Out.must (by decide) (λl3 h3 =>?_) (λl3 b=>Br.bindS Ajg λx=>A9p K nm l3 n b [x]);have q3:=B2 h3;rw[V0];refine Out.bindS (Av0 hL) (show l3.length<L by omega) (λx l4 h4 =>?_) (λx l4 b=>A9p K nm l4 n b [x]);have q4:l4.length<l3.length:=Ala _ _ _ h4;have q5:[x].length+l4.length<=1000000000:=by simp only[Zf1,Zi1];omega
 refine Out.loop (a:=a) (λacc l b a=>rK (.exit 0) (rV nm l n b a acc))
  (At8 (step:=λrec=>Fz rec rK) (st:=rV nm) (n:=n) (c:=λacc l b a=>rK (.exit 0) (rV nm l n b a acc)) (Av0 hL) Ala (λrec l a acc ha hi=>r_g rec l a acc ha hi) (λrec l a acc hi=>r_f rec l a acc hi) (λrec l a acc=>r_b rec l a acc) (a:=a) (k:=K+1) (m:=l4.length+1) (acc:=[x]) (l:=l4) (by omega) (by omega) (by omega) q5)
  (Awb (step:=λrec=>Fz rec rK) (st:=rV nm) (n:=n) (c:=λacc l b a=>rK (.exit 0) (rV nm l n b a acc)) (Av0 hL) Ala (λrec l a acc ha hi=>r_g rec l a acc ha hi) (λrec l a acc hi=>r_f rec l a acc hi) (λrec l a acc=>r_b rec l a acc) (a:=a) (k:=K+1) (m:=l4.length+1) (acc:=[x]) (l:=l4) (by omega) (by omega) (by omega) q5) (λrs l5 h5 =>?_) (λrs l5 b=>Bgb l5 n b _)
 exact Bs7 { zS with kind:=5,name:=nm,rows:=rs } l5 n a
theorem Bmt{l:TL}(h1:isT G0 l=false)(h2:isT Ov l=false)(h3:isT F1 l=true)(n a:Int):Jr (l,n,false,a)=Bl6 (l.length+3) (l.tail,n,false,a):=by
 unfold Jr Bl6;show(Au ([67,82,69,65,84,69],l,n,false,a)).bind _=_;rw[Ed (s:=[67,82,69,65,84,69]) h1];show(Au ([68,82,79,80],l,n,false,a)).bind _=_;rw[Ed (s:=[68,82,79,80]) h2];show(Au ([73,78,83,69,82,84],l,n,false,a)).bind _=_;rw[Ew (s:=[73,78,83,69,82,84]) h3];show(Ai ([[73,78,84,79]],l.tail,n,false,a)).bind _=_;cases Ai ([[73,78,84,79]],l.tail,n,false,a) with
 |none=>rfl
 |some y =>
  show(Az y).bind _=(Az y).bind _;cases Az y with
  |none=>rfl
  |some x =>
   show(Ai ([[86,65,76,85,69,83]],x.2)).bind _=(Ai ([[86,65,76,85,69,83]],x.2)).bind _;cases Ai ([[86,65,76,85,69,83]],x.2) with
   |none=>rfl
   |some y =>
    show(Ai ([[40]],y)).bind _=(Awr y).bind _;unfold Awr;cases Ai ([[40]],y) with
    |none=>rfl
    |some y =>
     show(C6 y).bind _=Option.bind ((C6 y).bind _) _;cases C6 y with
     |none=>rfl
     |some e =>
      show(Ai ([[41]],e.2)).bind _=Option.bind ((Ai ([[41]],e.2)).bind _) _;cases Ai ([[41]],e.2) with
      |none=>rfl
      |some w =>obtain⟨w1,w2,w3,w4⟩:=w;simp only[Zc1];refine congrFun (congrArg (λkx=>Ak (λrec=>Fz rec kx) (l.length+3)) ?_) _;funext e v;match e with|.exit 0=>rfl|.exit (_+1)=>rfl|.ret=>rfl|.normal=>rfl
theorem Bre(s:Stm)(l:TL)(n a:Int):((Au ([59],l,n,false,a)).bind λ(_,x1,x2,x3,x4)=>some (s,x1,x2,x3,x4))=some (gF n a s l):=by unfold gF Sy;cases hi:isT [59] l with|true=>rw[Ew hi];rfl|false=>rw[Ed hi];rfl
theorem Bnq(s:Stm)(l:TL)(n a:Int):((Au ([59],l,n,false,a)).bind λ(_,x1,x2,x3,x4)=>some (Stm.mk s.kind s.name s.on s.cols s.names s.l s.rows s.sets s.has (Xpr.mk s.whr.kind ⟨s.whr.v.kind,s.whr.v.n,s.whr.v.s⟩ s.whr.name s.whr.l) s.order s.desc s.most,x1,x2,x3,x4))=some (gF n a s l):=by rw[A6f];exact Bre s l n a
theorem Bly{L:Nat}(hL:L<=1000000000){l:TL}(hl:l.length<L)(n a:Int):Out (gF n a) (EV n) n (Jr (l,n,false,a)) (Fo l):=by
 have ht:=Bj l;have ht2:=Bj l.tail;unfold Fo;cases h1:isT G0 l with
 |true =>unfold Jr;show Out _ _ _ ((Au ([67,82,69,65,84,69],l,n,false,a)).bind _) (G1 l.tail);rw[Ew (s:=[67,82,69,65,84,69]) h1,<-A3b G1];refine Out.bindO (A2t hL (l:=l.tail) (by omega) n a) (λs l' _=>Bnq s l' n a) (λb z hz =>?_);obtain⟨l',n',b',a',c1,c2,c3,c4,c5,c6,c7,c8,c9,c10,c11,c12,c13,c14,c15,c16,c17,c18⟩:=z;obtain⟨e1,e2,e3⟩:=hz;simp only at e1 e2 e3;subst e1 e2 e3;exact⟨_,rfl,rfl,rfl,rfl⟩
 |false =>
  cases h2:isT Ov l with
  |true =>
   unfold Jr Xy;show Out _ _ _ ((Au ([67,82,69,65,84,69],l,n,false,a)).bind _) _;rw[Ed (s:=[67,82,69,65,84,69]) h1];show Out _ _ _ ((Au ([68,82,79,80],l,n,false,a)).bind _) _;rw[Ew (s:=[68,82,79,80]) h2];show Out _ _ _ ((Au ([84,65,66,76,69],l.tail,n,false,a)).bind _) _;cases h3:isT Uo l.tail with
   |true =>rw[Ew (s:=[84,65,66,76,69]) h3];have q:=Bj l.tail;show Out _ _ _ ((Az (l.tail.tail,n,false,a)).bind _) (bP Bt (λn=>Bg { zS with kind:=2,name:=n }) l.tail.tail);exact Out.bindS (Cn L) (by omega) (λnm l' h=>Bre { zS with kind:=2,name:=nm } l' n a) (λnm l' b=>⟨_,rfl,rfl,rfl,rfl⟩)
   |false =>rw[Ed (s:=[84,65,66,76,69]) h3];show Out _ _ _ ((Ai ([[73,78,68,69,88]],l.tail,n,false,a)).bind _) (bP (Ay [wINDEX]) (λ_=>bP Bt λn=>Bg { zS with kind:=4,name:=n }) l.tail);refine Out.must (by decide) (λl1 q1 =>?_) (λl1 b=>Br.bindS D6 λnm=>⟨_,rfl,rfl,rfl,rfl⟩);have q2:=B2 q1;exact Out.bindS (Cn L) (show l1.length<L by omega) (λnm l' h=>Bre { zS with kind:=4,name:=nm } l' n a) (λnm l' b=>⟨_,rfl,rfl,rfl,rfl⟩)
  |false =>
   cases h3:isT F1 l with
   |true =>rw[Bmt h1 h2 h3];exact Bpe hL (K:=l.length+2) (by omega) (by omega) n a
   |false =>
    unfold Jr;show Out _ _ _ ((Au ([67,82,69,65,84,69],l,n,false,a)).bind _) _;rw[Ed (s:=[67,82,69,65,84,69]) h1];show Out _ _ _ ((Au ([68,82,79,80],l,n,false,a)).bind _) _;rw[Ed (s:=[68,82,79,80]) h2];show Out _ _ _ ((Au ([73,78,83,69,82,84],l,n,false,a)).bind _) _;rw[Ed (s:=[73,78,83,69,82,84]) h3];show Out _ _ _ ((Au ([85,80,68,65,84,69],l,n,false,a)).bind _) _;cases h4:isT F0 l with
    |true =>rw[Ew (s:=[85,80,68,65,84,69]) h4];show Out _ _ _ ((Jg (l.tail,n,false,a,z0)).bind _) (Jx l.tail);rw[<-A3b Jx];refine Out.bindO (A4w hL (l:=l.tail) (by omega) n a) (λs l' _=>Bnq s l' n a) (λb z hz =>?_);obtain⟨l',n',b',a',c1,c2,c3,c4,c5,c6,c7,c8,c9,c10,c11,c12,c13,c14,c15,c16,c17,c18⟩:=z;obtain⟨e1,e2,e3⟩:=hz;simp only at e1 e2 e3;subst e1 e2 e3;exact⟨_,rfl,rfl,rfl,rfl⟩
    |false =>
     rw[Ed (s:=[85,80,68,65,84,69]) h4];show Out _ _ _ ((Au ([68,69,76,69,84,69],l,n,false,a)).bind _) _;cases h5:isT Fe l with
     |true =>
      rw[Ew (s:=[68,69,76,69,84,69]) h5];show Out _ _ _ ((Ai ([[70,82,79,77]],l.tail,n,false,a)).bind _) (M0 l.tail);unfold M0;have hb:∀(nm:Str) (l':TL) (b:Int) (G:Mo->Option Kw) (hG:∀(z:Cl),Br (EV n) b (G (l',n,true,b,z))),Br (EV n) b ((Ce (l',n,true,b,7,nm,[],[],[],[],[],[],false,0,0,0,[],[],[],[],[],0)).bind G):=λnm l' b G hG=>by rw[Aiy];exact hG _
      refine Out.must (by decide) (λl1 q1 =>?_) (λl1 b=>Br.bindS D6 λnm=>hb nm l1 b _ λz=>⟨_,rfl,rfl,rfl,rfl⟩);have q2:=B2 q1;refine Out.bindS (Cn L) (show l1.length<L by omega) (λnm l2 q3 =>?_) (λnm l2 b=>hb nm l2 b _ λz=>⟨_,rfl,rfl,rfl,rfl⟩);have q4:=Ik q3;refine Out.bindO (Aft hL n a 7 nm [] [] [] [] [] [] [] [] 0 (show l2.length<L by omega)) (λw l' _=>Bnq { zS with kind:=7,name:=nm,has:=w.1,whr:=w.2 } l' n a) (λb z hz =>?_);obtain⟨l',n',b',a',c1,c2,c3,c4,c5,c6,c7,c8,c9,c10,c11,c12,c13,c14,c15,c16,c17,c18⟩:=z;obtain⟨e1,e2,e3⟩:=hz;simp only at e1 e2 e3;subst e1 e2 e3;exact⟨_,rfl,rfl,rfl,rfl⟩
     |false =>rw[Ed (s:=[68,69,76,69,84,69]) h5];show Out _ _ _ ((Au ([83,69,76,69,67,84],l,n,false,a)).bind _) _;cases h6:isT Ec l with|true =>rw[Ew (s:=[83,69,76,69,67,84]) h6];show Out _ _ _ ((H0 (l.tail,n,false,a,z0)).bind _) (G2 l.tail);rw[<-A3b G2];refine Out.bindO (Azq hL (l:=l.tail) (by omega) n a) (λs l' _=>Bnq s l' n a) (λb z hz =>?_);obtain⟨l',n',b',a',c1,c2,c3,c4,c5,c6,c7,c8,c9,c10,c11,c12,c13,c14,c15,c16,c17,c18⟩:=z;obtain⟨e1,e2,e3⟩:=hz;simp only at e1 e2 e3;subst e1 e2 e3;exact⟨_,rfl,rfl,rfl,rfl⟩|false =>rw[Ed (s:=[83,69,76,69,67,84]) h6];show Out _ _ _ ((Ch (l,n,false,a)).bind _) (.error l);rw[W1];exact⟨_,rfl,rfl,rfl,rfl⟩
theorem Bi5(n a:Int):Jv ([],n,false,a)=some (true,[],n,false,a):=rfl
theorem Bb1(t:Tok)(r:TL)(n a:Int):Jv (t::r,n,false,a)=some (false,t::r,n,true,t.pos):=by have e:decide (0<((t::r).length:Int))=true:=Ze1 (by simp only[Zf1];omega);simp only[Jv,Ro,e,Aa,W1,Zc1];rfl
theorem Bhh(l:TL)(n a:Int):Jv (l,n,true,a)=some (false,l,n,true,a):=by simp only[Jv,Ro,Acd,Zc1];cases decide (0<(l.length:Int))<;>rfl
def xS(s:Str):Option (Stm×Int×Int):=if(Hl s).2.2=0 then match L4 (Hl s).1 with|.error q=>some (zS,G6 s.length q,11)|.ok x=>(N8 x).bind λe=>if e=0 then some (x,0,0) else some (zS,0,e)
 else some (zS,(Hl s).2.1,(Hl s).2.2)
theorem Aki(s:Str)(hs:(Hl s).1.length<1000000000):X3 s=xS s:=by
 unfold xS X3;simp only[Z3];by_cases h0:(Hl s).2.2=0
 ·rw[Ze1 h0,if_pos h0];simp only[Zt1,Af];have ho:=Bly (L:=1000000000) (Zn1 _) hs (s.length:Int) 0;unfold L4;cases hq:Fo (Hl s).1 with
  |error q =>rw[hq] at ho;obtain⟨⟨x,l',n',b',a'⟩,h1,e1,e2,e3⟩:=ho;simp only at e1 e2 e3;subst e1 e2 e3;simp only[h1,Zc1,Bhh,Zs1,Aa];rfl
  |ok y =>
   obtain⟨x,l'⟩:=y;rw[hq] at ho;have ho:Jr ((Hl s).1,(s.length:Int),false,0)=some (x,Sy l',(s.length:Int),false,0):=ho;simp only[ho,Zc1];cases hs2:Sy l' with
   |nil =>
    simp only[Bi5,Zc1,Zt1,Af];cases N8 x with
    |none=>rfl
    |some e =>
     simp only[Zc1];by_cases he:e=0
     ·rw[Ze1 he,if_pos he];rfl
     ·rw[Zd1 he,if_neg he];rfl
   |cons t r =>simp only[Bb1,Zc1,Zs1,Aa];rfl
 ·rw[Zd1 h0,if_neg h0];rfl
def Bh8(R:Type)(rf:FT [.sv .expr] [.int .i64]):Px R:=pxO [(101,cA Abc),(72,cA Ww),(36,cA Ais),(46,cA rf)] [] [] []
def L9(rf:FT [.sv .expr] [.int .i64])(x:HV [.sv .expr]):Option (HV [.int .i64]):=match x with
 |e =>
 let j2:=λ(a:Int) =>
  cond (!decide ((e.l.length:Int)=a)) (
  some 31) (
  cond (!decide (e.v=(Val.mk 0 0 []))) (
   some 31) (
   cond (!decide (e.name=[])) (
   some 31) (
   chk (inb 0 e.l.length) (
    (rf (at' .expr e.l 0)).bind λx =>
    cond (decide (a=2)) (
     chk (inb 1 e.l.length) (
     (rf (at' .expr e.l 1)).bind λx1 =>some (wr .i64 (1+(max2 x x1))))) (
     some (wr .i64 (1+x)))))))
 cond (decide (e.kind=1)) (
  let j:=λ(p1:Bool) =>
  cond (p1) (
   some 31) (
   cond (!decide (e.name=[])) (
   some 31) (
   cond (decide (0<(e.l.length:Int))) (
    some 31) (
    some 1)))
  cond (!decide ((Ane e.v)=0)) (
  j true) (
  cond (decide (e.v.kind=3)) (
   j (decide (e.v.n<0))) (
   j false))) (
  cond (decide (e.kind=2)) (
  cond (!(Tq e.name)) (
   some 31) (
   cond (!decide (e.v=(Val.mk 0 0 []))) (
   some 31) (
   cond (decide (0<(e.l.length:Int))) (
    some 31) (
    some 1)))) (
  let j1:=λ(b:Bool) =>
   cond (b) (
   j2 1) (
   cond (decide ((Abd e.kind)=[])) (
    some 31) (
    j2 2))
  cond (decide (e.kind=3)) (
   j1 (decide (e.kind=3))) (
   cond (decide (e.kind=15)) (
   j1 (decide (e.kind=15))) (
   j1 (decide (e.kind=16))))))
theorem Bdw(rf:FT [.sv .expr] [.int .i64])(hrf:FO 46 [.sv .expr] [.int .i64] rf):FO 46 [.sv .expr] [.int .i64] (L9 rf):=fR (px:=Bh8 _ rf) (n:=0) Tryz.func46 rfl (λ_ H=>⟨lv H (c1 H Aqb (c1 H Ac5 (c1 H Azn (c1 H hrf Ah)))) Ae Ab,Aj⟩) λ_=>by kernel_rfl
def hd(q:List Int)(i:Nat):Int:=q.getD i 0
def Aws(e:Xpr)(q:List Int):Int :=
 if e.kind=1 then(if G4 e.v=0/\¬(e.v.kind=3/\e.v.n<0)/\e.name=[]/\¬ 0<(e.l.length:Int) then 1 else 31)
 else if e.kind=2 then(if Dr e.name=true/\e.v=⟨0,0,[]⟩/\¬ 0<(e.l.length:Int) then 1 else 31)
 else if e.kind=3\/e.kind=15\/e.kind=16 then(if(e.l.length:Int)=1/\e.v=⟨0,0,[]⟩/\e.name=[] then wr .i64 (1+hd q 0) else 31)
 else if Abd e.kind=[] then 31
 else if(e.l.length:Int)=2/\e.v=⟨0,0,[]⟩/\e.name=[] then wr .i64 (1+max2 (hd q 0) (hd q 1)) else 31
mutual
def Bm:Xpr->Int
 |.mk k v nm l=>Aws (.mk k v nm l) (rdeepL l)
def rdeepL:List Xpr->List Int
 |[]=>[]
 |x::l=>Bm x::rdeepL l
end
theorem Akt(e:Xpr):Bm e=Aws e (rdeepL e.l):=by cases e;simp only[Bm,Xpr.l]
def Awg:FT [.sv .expr] [.int .i64]:=λx=>some (Bm x)
theorem Ak8{e:Xpr}{rf:FT [.sv .expr] [.int .i64]}(hrf:∀x,x∈e.l->rf x=some (Bm x))(p:Int->Option Int):(cond (!decide ((e.l.length:Int)=1)) (some 31) (cond (!decide (e.v=Val.mk 0 0 [])) (some 31) (cond (!decide (e.name=[])) (some 31) (chk (inb 0 e.l.length) ((rf (at' .expr e.l 0)).bind λx=>cond (decide ((1:Int)=2)) (p x) (some (wr .i64 (1+x))))))))=some (if(e.l.length:Int)=1/\e.v=⟨0,0,[]⟩/\e.name=[] then wr .i64 (1+hd (rdeepL e.l) 0) else 31):=by
 by_cases b1:(e.l.length:Int)=1
 ·obtain⟨x,hl⟩:∃x,e.l=[x]:=List.length_eq_one_iff.1 (by omega);have hrx:=hrf x (by rw[hl];simp);rw[hl];have a0:at' .expr [x] 0=x:=rfl;have i0:inb 0 [x].length=true:=rfl;by_cases b2:e.v=⟨0,0,[]⟩
  ·by_cases b3:e.name=[]
   ·rw[Ze1 b2,Ze1 b3,if_pos ⟨rfl,b2,b3⟩,a0,i0,hrx];rfl
   ·rw[Ze1 b2,Zd1 b3,if_neg (λh=>b3 h.2.2)];rfl
  ·rw[Zd1 b2,if_neg (λh=>b2 h.2.1)];rfl
 ·rw[Zd1 b1,if_neg (λh=>b1 h.1)];rfl
theorem Avd{l:List Xpr}(h:l.length=2):∃x y,l=[x,y]:=by match l,h with|[x,y],_=>exact⟨x,y,rfl⟩
theorem Bj3{e:Xpr}{rf:FT [.sv .expr] [.int .i64]}(hrf:∀x,x∈e.l->rf x=some (Bm x))(p:Int->Option Int):(cond (!decide ((e.l.length:Int)=2)) (some 31) (cond (!decide (e.v=Val.mk 0 0 [])) (some 31) (cond (!decide (e.name=[])) (some 31) (chk (inb 0 e.l.length) ((rf (at' .expr e.l 0)).bind λx=>cond (decide ((2:Int)=2)) (chk (inb 1 e.l.length) ((rf (at' .expr e.l 1)).bind λx1=>some (wr .i64 (1+(max2 x x1))))) (p x))))))=some (if(e.l.length:Int)=2/\e.v=⟨0,0,[]⟩/\e.name=[] then wr .i64 (1+max2 (hd (rdeepL e.l) 0) (hd (rdeepL e.l) 1)) else 31):=by
 by_cases b1:(e.l.length:Int)=2
 ·obtain⟨x,y,hl⟩:∃x y,e.l=[x,y]:=Avd (by omega);have hrx:=hrf x (by rw[hl];simp);have hry:=hrf y (by rw[hl];simp);rw[hl];have a0:at' .expr [x,y] 0=x:=rfl;have a1:at' .expr [x,y] 1=y:=rfl;have i0:inb 0 [x,y].length=true:=rfl;have i1:inb 1 [x,y].length=true:=rfl;by_cases b2:e.v=⟨0,0,[]⟩
  ·by_cases b3:e.name=[]
   ·rw[Ze1 b2,Ze1 b3,if_pos ⟨rfl,b2,b3⟩,a0,i0,a1,i1,hrx,hry];rfl
   ·rw[Ze1 b2,Zd1 b3,if_neg (λh=>b3 h.2.2)];rfl
  ·rw[Zd1 b2,if_neg (λh=>b2 h.2.1)];rfl
 ·rw[Zd1 b1,if_neg (λh=>b1 h.1)];rfl
theorem A31{e:Xpr}{rf:FT [.sv .expr] [.int .i64]}(hrf:∀x,x∈e.l->rf x=some (Bm x)):L9 rf e=some (Bm e):=by
 have ro:∀v:Val,Ane v=G4 v:=λ_=>rfl;have rn:∀s:Str,Tq s=Dr s:=Nm;have a6 : 0<e.l.length↔¬e.l=[]:=List.length_pos_iff;rw[Akt];simp only[L9,Aws,ro,rn];by_cases k1:e.kind=1
 ·simp only[Ze1 k1,if_pos k1,Aa];by_cases a1:G4 e.v=0<;>by_cases a2:e.v.kind=3<;>by_cases a3:e.v.n<0<;>by_cases a4:e.name=[]<;>by_cases a5:e.l=[]<;>simp[a1,a2,a3,a4,a5,a6]
 ·by_cases k2:e.kind=2
  ·simp only[Zd1 k1,if_neg k1,Ze1 k2,if_pos k2,Aa,Af];cases Dr e.name<;>by_cases a2:e.v=⟨0,0,[]⟩<;>by_cases a5:e.l=[]<;>simp[a2,a5,a6]
  ·rw[if_neg k1,if_neg k2,Zd1 k1,Zd1 k2];by_cases k3:e.kind=3
   ·rw[if_pos (.inl k3),Ze1 k3];exact Ak8 hrf _
   ·by_cases k15:e.kind=15
    ·rw[if_pos (.inr (.inl k15)),Zd1 k3,Ze1 k15];exact Ak8 hrf _
    ·by_cases k16:e.kind=16
     ·rw[if_pos (.inr (.inr k16)),Zd1 k3,Zd1 k15,Ze1 k16];exact Ak8 hrf _
     ·rw[if_neg (by omega),Zd1 k3,Zd1 k15,Zd1 k16];by_cases ks:Abd e.kind=[]
      ·rw[if_pos ks,Ze1 ks];rfl
      ·rw[if_neg ks,Zd1 ks];exact Bj3 hrf _
theorem As3:∀(n:Nat) (e:Xpr),Bf e<=n->Ak L9 n e=some (Bm e)
 |0,e,h=>by have:=Jm e;omega
 |n+1,e,h=>by rw[Aw];refine A31 λx hx=>As3 n x ?_;have:=E9 hx;rw[Gq] at h;omega
theorem Ayt:FO 46 [.sv .expr] [.int .i64] Awg:=by refine .fin (ι:=Nat) 0 (F:=λn=>Ak L9 n) (λn=>FnOk.rec' (Sx.enters_of Tryz.func46 rfl rfl) (λrf hrf=>Bdw rf hrf) n) λe r hb hx=>⟨Bf e,?_⟩;exact(As3 (Bf e) e (Zn1 _)).trans hx
theorem Ra:∀(n:Nat) (e:Xpr),Bf e<=n->n<1000000->1<=Bm e/\Bm e<=31+(n:Int)
 |0,e,h,_=>by have:=Jm e;omega
 |n+1,e,h,hn=>by
  have one:(e.l.length:Int)=1->1<=wr .i64 (1+hd (rdeepL e.l) 0)/\wr .i64 (1+hd (rdeepL e.l) 0)<=31+((n+1:Nat):Int):=λhl=>by
   obtain⟨x,hx⟩:∃x,e.l=[x]:=List.length_eq_one_iff.1 (by omega);have hb:=Ra n x (by rw[Gq,hx] at h;simp only[esizes] at h;omega) (by omega);have h0:hd (rdeepL e.l) 0=Bm x:=by rw[hx];rfl
   rw[h0,C3 (by simp only[inI];omega)];omega
  have two:(e.l.length:Int)=2->1<=wr .i64 (1+max2 (hd (rdeepL e.l) 0) (hd (rdeepL e.l) 1))/\wr .i64 (1+max2 (hd (rdeepL e.l) 0) (hd (rdeepL e.l) 1))<=31+((n+1:Nat):Int):=λhl=>by
   obtain⟨x,y,hx⟩:∃x y,e.l=[x,y]:=Avd (by omega);have hb:=Ra n x (by rw[Gq,hx] at h;simp only[esizes] at h;omega) (by omega);have hc:=Ra n y (by rw[Gq,hx] at h;simp only[esizes] at h;omega) (by omega);have h0:hd (rdeepL e.l) 0=Bm x:=by rw[hx];rfl
   have h1:hd (rdeepL e.l) 1=Bm y:=by rw[hx];rfl
   have hm:max2 (Bm x) (Bm y)=Bm x\/max2 (Bm x) (Bm y)=Bm y:=by simp only[max2];split<;>simp
   rw[h0,h1];rcases hm with hm|hm<;>rw[hm,C3 (by simp only[inI];omega)]<;>omega
  rw[Akt];simp only[Aws];split
  ·split<;>omega
  ·split
   ·split<;>omega
   ·split
    ·split
     ·rename_i hc;exact one hc.1
     ·omega
    ·split
     ·omega
     ·split
      ·rename_i hc;exact two hc.1
      ·omega
theorem Bba{k:Int}(h : 4<=k/\k<=14):¬Abd k=[]:=by rcases(by omega:k=4\/k=5\/k=6\/k=7\/k=8\/k=9\/k=10\/k=11\/k=12\/k=13\/k=14) with rfl|rfl|rfl|rfl|rfl|rfl|rfl|rfl|rfl|rfl|rfl<;>decide
theorem Bgg{k:Int}(h1:¬(4<=k/\k<=14)):Abd k=[]:=by
 by_cases h2:k<0\/15<=k
 ·rw[Abd,if_pos h2]
 ·rcases(by omega:k=0\/k=1\/k=2\/k=3) with rfl|rfl|rfl|rfl<;>decide
theorem Blo{k:Int}(h:J9 k = -1):¬(1<=k/\k<=16):=λhk=>by rcases(by omega:k=1\/k=2\/k=3\/k=4\/k=5\/k=6\/k=7\/k=8\/k=9\/k=10\/k=11\/k=12\/k=13\/k=14\/k=15\/k=16) with rfl|rfl|rfl|rfl|rfl|rfl|rfl|rfl|rfl|rfl|rfl|rfl|rfl|rfl|rfl|rfl<;>exact absurd h (by decide)
theorem Jh:∀(n:Nat) (e:Xpr) (m:Nat),Bf e<=n->n<1000000->m<=30->(Bl e (m:Int)=true↔Bm e<=(m:Int))
 |0,e,_,h,_,_=>by have:=Jm e;omega
 |n+1,e,m,h,hn,hm=>by
  have hb:=Ra (n+1) e h hn;rw[Apf];by_cases h0:m=0
  ·subst h0;constructor
   ·intro hx;rw[Ze1 (show((0:Nat):Int)=0 from rfl)] at hx;cases hx
   ·intro hx;omega
  ·have hw:wr .i64 ((m:Int)-1)=((m-1:Nat):Int):=by rw[C3 (by simp only[inI];omega)];omega
   have m1:(1:Int)<=(m:Int):=by omega
   have m31:¬(31:Int)<=(m:Int):=by omega
   rw[hw,Zd1 (show ¬(m:Int)=0 by omega),Akt];rcases A2v e.kind with ⟨p,hk⟩|⟨p,hk⟩|⟨p,hk⟩|p
   ·rw[p];have hz:decide ((e.l.length:Int)=0)=decide (e.l=[]):=Zy1.2 ⟨λh=>List.eq_nil_of_length_eq_zero (by omega),λh=>by rw[h];rfl⟩;have hy : 0<e.l.length↔¬e.l=[]:=List.length_pos_iff;rw[hz];rcases hk with k1|k2
    ·simp only[Aws,eok,k1];by_cases hl:e.l=[]<;>by_cases a1:G4 e.v=0<;>by_cases a2:e.v.kind=3<;>by_cases a3:e.v.n<0<;>by_cases a4:e.name=[]<;>simp[hl,a1,a2,a3,a4,m1,m31,erights]
    ·simp only[Aws,eok,k2];by_cases hl:e.l=[]<;>by_cases a1:Dr e.name=true<;>by_cases a2:e.v=⟨0,0,[]⟩<;>simp[hl,a1,a2,m1,m31,erights]
   ·have k1:¬e.kind=1:=by omega
    have k2:¬e.kind=2:=by omega
    rw[p];simp only[Aws,eok,if_neg k1,if_neg k2,if_pos hk,Zd1 k1,Zd1 k2,Af];by_cases hl:(e.l.length:Int)=1
    ·obtain⟨x,hx⟩:∃x,e.l=[x]:=List.length_eq_one_iff.1 (by omega);have hs:Bf x<=n:=by rw[Gq,hx] at h;simp only[esizes] at h;omega
     have hbx:=Ra n x hs (by omega);have ih:Bl x ((m-1:Nat):Int)=true↔1+Bm x<=(m:Int):=(Jh n x (m-1) hs (by omega) (by omega)).trans (by omega);have hr:erights e.l ((m-1:Nat):Int)=Bl x ((m-1:Nat):Int):=by rw[hx];simp only[erights,Bool.and_true]
     have h0:hd (rdeepL e.l) 0=Bm x:=by rw[hx];rfl
     have hwx:wr .i64 (1+Bm x)=1+Bm x:=C3 (by simp only[inI];omega);rw[hr,h0,hwx,Ze1 hl];by_cases b2:e.v=⟨0,0,[]⟩<;>by_cases b3:e.name=[]<;>simp[hl,b2,b3,ih,m31]
    ·rw[Zd1 hl];simp[hl,m31]
   ·have k1:¬e.kind=1:=by omega
    have k2:¬e.kind=2:=by omega
    have k3:¬(e.kind=3\/e.kind=15\/e.kind=16):=by omega
    rw[p];simp only[Aws,eok,if_neg k1,if_neg k2,if_neg k3,if_neg (Bba hk),Zd1 k1,Zd1 k2,Af];by_cases hl:(e.l.length:Int)=2
    ·obtain⟨x,y,hx⟩:∃x y,e.l=[x,y]:=Avd (by omega);have hs:Bf x<=n:=by rw[Gq,hx] at h;simp only[esizes] at h;omega
     have ht:Bf y<=n:=by rw[Gq,hx] at h;simp only[esizes] at h;omega
     have hbx:=Ra n x hs (by omega);have hby:=Ra n y ht (by omega);have ih:Bl x ((m-1:Nat):Int)=true↔1+Bm x<=(m:Int):=(Jh n x (m-1) hs (by omega) (by omega)).trans (by omega);have jh:Bl y ((m-1:Nat):Int)=true↔1+Bm y<=(m:Int):=(Jh n y (m-1) ht (by omega) (by omega)).trans (by omega);have hr:erights e.l ((m-1:Nat):Int)=(Bl x ((m-1:Nat):Int)&&Bl y ((m-1:Nat):Int)):=by rw[hx];simp only[erights,Bool.and_true]
     have h0:hd (rdeepL e.l) 0=Bm x:=by rw[hx];rfl
     have h1:hd (rdeepL e.l) 1=Bm y:=by rw[hx];rfl
     have hwx:wr .i64 (1+max2 (Bm x) (Bm y))=1+max2 (Bm x) (Bm y):=C3 (by simp only[inI,max2];split<;>omega)
     have hmx : 1+max2 (Bm x) (Bm y)<=(m:Int)↔(1+Bm x<=(m:Int)/\1+Bm y<=(m:Int)):=by simp only[max2];split<;>omega
     rw[hr,h0,h1,hwx,Ze1 hl];by_cases b2:e.v=⟨0,0,[]⟩<;>by_cases b3:e.name=[]<;>simp[hl,b2,b3,ih,jh,hmx,m31]
    ·rw[Zd1 hl];simp[hl,m31]
   ·have hk:=Blo p;rw[p,Zd1 (show ¬(e.l.length:Int) = -1 by omega)];simp only[Aws,if_neg (show ¬e.kind=1 by omega),if_neg (show ¬e.kind=2 by omega),if_neg (show ¬(e.kind=3\/e.kind=15\/e.kind=16) by omega),if_pos (Bgg (show ¬(4<=e.kind/\e.kind<=14) by omega))];simp[m31]
theorem Bka(s:Str):Adk s=decide (s∈wordsL):=by have e:Adk s=wordsL.contains s:=Ana s;rw[e,Bool.eq_iff_iff];simp
def Bb5(R:Type):Px R:=pxO [] [] [] []
def T6(x:HV []):Option (HV [.sl .str true]):=match x with
 |() =>
 some [[65,68,68],[65,78,68],[65,83,67],[66,79,79,76],[66,89],[66,89,84,69,83],[67,72,69,67,75],[67,82,69,65,84,69],[68,69,76,69,84,69],[68,69,83,67],[68,82,79,80],[70,65,76,83,69],[70,82,79,77],[73,78,68,69,88],[73,78,83,69,82,84],[73,78,84],[73,78,84,79],[73,83],[75,69,89],[76,73,77,73,84],[78,79,84],[78,85,76,76],[79,78],[79,82],[79,82,68,69,82],[80,82,73,77,65,82,89],[82,69,70,69,82,69,78,67,69,83],[83,69,76,69,67,84],[83,69,84],[84,65,66,76,69],[84,69,88,84],[84,82,85,69],[85,78,73,81,85,69],[85,80,68,65,84,69],[86,65,76,85,69,83],[87,72,69,82,69]]
theorem A5j:FO 168 [] [.sl .str true] (T6):=fR (px:=Bb5 _) (n:=0) Tryz.func168 rfl (λ_ H=>⟨lv H Ah Ae Ab,Aj⟩) λ()=>by kernel_rfl
def Amr:List Str :=[[65,68,68],[65,78,68],[65,83,67],[66,79,79,76],[66,89],[66,89,84,69,83],[67,72,69,67,75],[67,82,69,65,84,69],[68,69,76,69,84,69],[68,69,83,67],[68,82,79,80],[70,65,76,83,69],[70,82,79,77],[73,78,68,69,88],[73,78,83,69,82,84],[73,78,84],[73,78,84,79],[73,83],[75,69,89],[76,73,77,73,84],[78,79,84],[78,85,76,76],[79,78],[79,82],[79,82,68,69,82],[80,82,73,77,65,82,89],[82,69,70,69,82,69,78,67,69,83],[83,69,76,69,67,84],[83,69,84],[84,65,66,76,69],[84,69,88,84],[84,82,85,69],[85,78,73,81,85,69],[85,80,68,65,84,69],[86,65,76,85,69,83],[87,72,69,82,69]]
theorem A3e(x:HV []):T6 x=some (Amr):=by
 first
  |exact rfl
  |simp only[T6,Amr,Bn]
def Azi:FT [] [.sl .str true]:=λ_=>some (Amr)
theorem Bcz:FO 168 [] [.sl .str true] Azi :=.fin0 A5j λx _ _ hx=>(A3e x).trans hx
theorem Bex:Amr=wordsL:=rfl
def Ami:Sig:=⟨18,[(0,.str),(2,.bool),(3,.sl .str true),(4,.int .i64)],[],[],0,0,0,[],[]⟩
abbrev V4:=Str×Bool×List Str×Int
def Xb{R:Type}(rec:V4->Option R)(kx:Ex->V4->Option R)(v:V4):Option R:=match v with
 |(v,v1,v2,v3) =>
 cond (decide (v3<(v2.length:Int))) (
  chk (inb v3 v2.length) (
  cond (decide ((at' .str v2 v3)=v)) (
   kx .ret (v,true,v2,v3)) (
   rec (v,v1,v2,(wr .i64 (v3+1)))))) (
  kx (.exit 0) (v,v1,v2,v3))
def Az6(R:Type)(k:Nat):Px R:=pxO [(168,cA Azi)] [] [(3,Ao k Ami (Xb))] []
def Aj2(k:Nat)(x:HV [.str]):Option (HV [.bool]):=match x with
 |s =>
 Ak (λrec=>Xb rec (λe vz=>match vz with|(_,v5,_,_)=>match e with
  |.ret =>
  some v5
  |.exit 0 =>
  some false
  |_=>none)) k (s,false,Amr,0)
theorem Bee(k:Nat):FO 144 [.str] [.bool] (Aj2 k):=fR (px:=Az6 _ k) (n:=1) Tryz.func144 rfl (λcx H=>by have h0:Lv cx (Az6 (HV [.bool]) k):=lv H (c1 H Bcz Ah) Ae Ab;have hlrword_0:=lO H h0 (b:=lp Tryz.f144 0) (k:=k) (n:=0) (s:=Ami) (step:=Xb) (λ_ _ _ (_,_,_,_)=>by kernel_rfl) Aj;exact⟨h0,(Bh Aj hlrword_0)⟩) λ_=>by kernel_rfl
abbrev A8b(s:Str):Bool:=Adk s
def Au5:FT [.str] [.bool]:=λx=>some (A8b x)
theorem Akx{R:Type}{kx:Ex->V4->Option R}{l:List Str}{s:Str}{c:Bool->Option R}(hl:ln l.length)(h1:∀i,kx .ret (s,true,l,i)=c true)(h2:∀q i,kx (.exit 0) (s,q,l,i)=c false) :
  ∀(k i:Nat) (q:Bool),i<=l.length->l.length-i<k->Ak (λrec=>Xb rec kx) k (s,q,l,(i:Int))=c (decide (s∈l.drop i))
 |0,i,_,_,h=>by omega
 |k+1,i,q,hi,h=>by
  rw[Aw];by_cases hlt:i<l.length
  ·have ih:=Akx hl h1 h2 k (i+1) q (by omega) (by omega);have e1:decide ((i:Int)<(l.length:Int))=true:=Ze1 (by omega);simp only[Xb,e1,Aa,A5 hlt,chk,A8 (c :=.str) hlt,A1 hlt hl,ih,h1];rw[An hlt];by_cases hx:l[i]=s
   ·rw[Ze1 hx];simp[hx]
   ·have hx2:¬s=l[i]:=λe=>hx e.symm;have hm:(s∈l[i]::l.drop (i+1))↔s∈l.drop (i+1):=⟨λq=>(List.mem_cons.1 q).resolve_left hx2,λq=>Zu1 _ q⟩;rw[Zd1 hx,Af,Zy1.2 hm]
  ·simp only[Xb,Zd1 (show ¬(i:Int)<(l.length:Int) by omega),Af,h2];rw[Zk1 (by omega)];simp
theorem Bk3:FO 144 [.str] [.bool] Au5 :=.fin 0 Bee λs r hb hx=>⟨37,by simp only[Au5,Za1] at hx;rw[<-hx];simp only[Aj2,Bex];refine(Akx (c:=λq=>some q) (by simp[ln,wordsL]) (λ_=>rfl) (λ_ _=>rfl) 37 0 false (Nat.zero_le _) (by simp[wordsL])).trans ?_;rw[Zq1,A8b,Bka]⟩
def sm1(s:Str)(i:Int):Prop:=0<=i/\i<=(s.length:Int)/\s.length<=1000000
instance (s:Str) (i:Int):Decidable (sm1 s i):=by unfold sm1;infer_instance
def Aqu:Sig:=⟨26,[(0,.str),(1,.int .i64)],[],[],0,0,0,[],[]⟩
abbrev Aa5:=Str×Int
def Ae5{R:Type}(rec:Aa5->Option R)(kx:Ex->Aa5->Option R)(v:Aa5):Option R:=match v with
 |(v,v1) =>
 let j:=λ(p:Bool) =>
  cond (p) (
  chk (inb v1 v.length) (
   cond (decide ((B4 (bat v v1))<=4)) (
   rec (v,(wr .i64 (v1+1)))) (
   kx (.exit 0) (v,v1)))) (
  kx (.exit 0) (v,v1))
 cond (decide (v1<(v.length:Int))) (
  chk (inb v1 v.length) (
  j (decide (1<=(B4 (bat v v1)))))) (
  j false)
def A8g(R:Type)(k:Nat):Px R:=pxO [(92,cA Mq)] [] [(1,Ao k Aqu (Ae5))] []
def Bej(k:Nat)(x:HV [.str,.int .i64]):Option (HV [.int .i64]):=match x with
 |(s,i) =>
 Ak (λrec=>Ae5 rec (λe vz=>match vz with|(_,v3)=>match e with
  |.exit 0 =>
  some v3
  |_=>none)) k (s,i)
theorem Bi3(k:Nat):FO 142 [.str,.int .i64] [.int .i64] (Bej k):=fR (px:=A8g _ k) (n:=1) Tryz.func142 rfl (λcx H=>by have h0:Lv cx (A8g (HV [.int .i64]) k):=lv H (c1 H Oa Ah) Ae Ab;have hlrend_0:=lO H h0 (b:=lp Tryz.f142 0) (k:=k) (n:=0) (s:=Aqu) (step:=Ae5) (λ_ _ _ (_,_)=>by kernel_rfl) Aj;exact⟨h0,(Bh Aj hlrend_0)⟩) λ(_,_)=>by kernel_rfl
def Bov(s:Str)(i:Int):Option Int:=if sm1 s i then some (Lp.runTo Lp.isWd s i) else none
def A2z:FT [.str,.int .i64] [.int .i64]:=λx=>Bov x.1 x.2
theorem Ats{R:Type}{kx:Ex->Aa5->Option R}{s:Str}{c:Int->Option R}(hs:s.length<=1000000)(h2:∀i,kx (.exit 0) (s,i)=c i):∀(k i:Nat),i<=s.length->s.length-i<k->Ak (λrec=>Ae5 rec kx) k (s,(i:Int))=c (Lp.runTo Lp.isWd s i)
 |0,i,_,h=>absurd h (Zm1 _)
 |k+1,i,hi,h=>by
  rw[Aw];by_cases hl:i<s.length
  ·have ih:=Ats hs h2 k (i+1) (by omega) (by omega);have ew:wr .i64 ((i:Int)+1)=((i+1:Nat):Int):=by rw[C3 (by simp only[inI];omega)];omega
   have e1:decide ((i:Int)<(s.length:Int))=true:=Ze1 (by omega);simp only[Ae5,e1,Aa,A5 hl,chk,ew,ih,h2];have hy:Lp.isWd (Sx.byt s i)=(decide (1<=B4 (bat s i))&&decide (B4 (bat s i)<=4)):=rfl;have e2:((i+1:Nat):Int)=(i:Int)+1:=by omega
   cases h1:decide (1<=B4 (bat s i)) with
   |false =>rw[h1,Bool.false_and] at hy;rw[Lp.runTo_no ⟨by omega,by omega⟩ hy];rfl
   |true =>rw[h1,Bool.true_and] at hy;cases h4:decide (B4 (bat s i)<=4) with|false =>rw[h4] at hy;rw[Lp.runTo_no ⟨by omega,by omega⟩ hy];rfl|true =>rw[h4] at hy;rw[e2,Lp.runTo_yes ⟨by omega,by omega⟩ hy];rfl
  ·simp only[Ae5,h2];rw[Zd1 (by omega),Lp.runTo_end (by omega)];rfl
theorem Bmz:FO 142 [.str,.int .i64] [.int .i64] A2z :=.fin 0 Bi3 λ(s,i) r hb hx=>⟨s.length+1,by
 simp only[A2z,Bov] at hx;split at hx
 ·rename_i h;obtain⟨h1,h2,h3⟩:=h;rw[<-hx];obtain⟨n,rfl⟩:=Int.eq_ofNat_of_zero_le h1;exact Ats (c:=some) h3 (λ_=>rfl) (s.length+1) n (by omega) (by omega)
 ·cases hx⟩
def Aj4:Sig:=⟨47,[(0,.str),(2,.int .i64),(3,.int .i64),(4,.int .i64)],[],[],0,0,0,[],[]⟩
abbrev V9:=Str×Int×Int×Int
def Wl{R:Type}(rec:V9->Option R)(kx:Ex->V9->Option R)(v:V9):Option R:=match v with
 |(v,v1,v2,v3) =>
 cond (decide (v3<(v.length:Int))) (
  chk (inb v3 v.length) (
  chk (inb v3 v.length) (
   let j:=λ(p:Bool) =>
   cond (p) (
    kx .ret (v,(-1),v2,v3)) (
    cond (decide (v2=922337203685477580)) (
    cond (decide (7<(wr .i64 ((wr .i64 (bat v v3))-48)))) (
     kx .ret (v,(-1),v2,v3)) (
     rec (v,v1,(wr .i64 ((wr .i64 (10*v2))+(wr .i64 ((wr .i64 (bat v v3))-48)))),(wr .i64 (v3+1))))) (
    rec (v,v1,(wr .i64 ((wr .i64 (10*v2))+(wr .i64 ((wr .i64 (bat v v3))-48)))),(wr .i64 (v3+1)))))
   cond (!decide ((B4 (bat v v3))=3)) (
   j true) (
   j (decide (922337203685477580<v2)))))) (
  kx (.exit 0) (v,v1,v2,v3))
def A1a(R:Type)(k:Nat):Px R:=pxO [(92,cA Mq)] [] [(3,Ao k Aj4 (Wl))] []
def Aol(k:Nat)(x:HV [.str]):Option (HV [.int .i64]):=match x with
 |s =>
 Ak (λrec=>Wl rec (λe vz=>match vz with|(v4,v5,v6,_)=>match e with
  |.ret =>
  some v5
  |.exit 0 =>
  cond (decide (1<(v4.length:Int))) (
   chk (inb 0 v4.length) (
   cond (decide ((bat v4 0)=48)) (
    some (-1)) (
    some v6))) (
   some v6)
  |_=>none)) k (s,0,0,0)
theorem Bc7(k:Nat):FO 145 [.str] [.int .i64] (Aol k):=fR (px:=A1a _ k) (n:=1) Tryz.func145 rfl (λcx H=>by have h0:Lv cx (A1a (HV [.int .i64]) k):=lv H (c1 H Oa Ah) Ae Ab;have hlrnumb_0:=lO H h0 (b:=lp Tryz.f145 0) (k:=k) (n:=0) (s:=Aj4) (step:=Wl) (λ_ _ _ (_,_,_,_)=>by kernel_rfl) Aj;exact⟨h0,(Bh Aj hlrnumb_0)⟩) λ_=>by kernel_rfl
def A7s(s:Str):Option Int:=if s.length<=1000000 then some (Lp.rnumF s) else none
def Av8:FT [.str] [.int .i64]:=λx=>A7s x
theorem Zj{R:Type}{kx:Ex->V9->Option R}{s:Str}{c:Option Int->Option R}(hs:s.length<=1000000)(h1:∀n j,kx .ret (s, -1,n,j)=c none)(h2:∀q n j,kx (.exit 0) (s,q,n,j)=c (some n)):∀(k i:Nat) (q n:Int),0<=n/\n<=9223372036854775807->i<=s.length->s.length-i<k->Ak (λrec=>Wl rec kx) k (s,q,n,(i:Int))=c (Lp.rnumGo (s.drop i) n)
 |0,i,_,_,_,_,h=>absurd h (Zm1 _)
 |k+1,i,q,n,hn,hi,h=>by
  rw[Aw];by_cases hl:i<s.length
  ·have ew:wr .i64 ((i:Int)+1)=((i+1:Nat):Int):=by rw[C3 (by simp only[inI];omega)];omega
   have e1:decide ((i:Int)<(s.length:Int))=true:=Ze1 (by omega);have hu:=Lp.u8_range s[i];have eb:wr .i64 (s[i].toNat:Int)=(s[i].toNat:Int):=C3 (by simp only[inI];omega);have ed:wr .i64 ((s[i].toNat:Int)-48)=(s[i].toNat:Int)-48:=C3 (by simp only[inI];omega);rw[An hl];simp only[Wl,e1,Aa,A5 hl,chk,ew,Cg hl,eb,ed,B4,Lp.rnumGo,h1];by_cases c3:Lp.clsF (s[i].toNat:Int)=3
   ·have hd:=Lp.cls3 c3;rw[Ze1 c3,Zt1,Af];by_cases c4 : 922337203685477580<n
    ·rw[Ze1 c4,if_pos (.inr (.inl c4))];rfl
    ·rw[Zd1 c4,Af];have em:wr .i64 (10*n)=10*n:=C3 (by simp only[inI];omega);by_cases c5:n=922337203685477580
     ·rw[Ze1 c5,Aa];by_cases c6 : 7<(s[i].toNat:Int)-48
      ·rw[Ze1 c6,if_pos (.inr (.inr ⟨c5,c6⟩))];rfl
      ·have ea:wr .i64 (10*n+((s[i].toNat:Int)-48))=10*n+((s[i].toNat:Int)-48):=C3 (by simp only[inI];omega);rw[Zd1 c6,Af,if_neg (by omega),em,ea];exact Zj hs h1 h2 k (i+1) q _ (by omega) (by omega) (by omega)
     ·have ea:wr .i64 (10*n+((s[i].toNat:Int)-48))=10*n+((s[i].toNat:Int)-48):=C3 (by simp only[inI];omega);rw[Zd1 c5,Af,if_neg (by omega),em,ea];exact Zj hs h1 h2 k (i+1) q _ (by omega) (by omega) (by omega)
   ·rw[Zd1 c3,Zs1,Aa,if_pos (.inl c3)]
  ·simp only[Wl,h2];rw[Zd1 (by omega),Zk1 (by omega)];rfl
theorem Bim:FO 145 [.str] [.int .i64] Av8 :=.fin 0 Bc7 λs r hb hx=>⟨s.length+1,by
 simp only[Av8,A7s] at hx;split at hx
 ·rename_i h;rw[<-hx];simp only[Aol];refine(Zj (s:=s) (c:=λo=>match o with|none=>some (-1)|some n=>some (if 1<(s.length:Int)/\Sx.byt s 0=48 then -1 else n)) h (λ_ _=>rfl) (λ_ n _ =>?_) (s.length+1) 0 0 0 (by omega) (Nat.zero_le _) (by omega)).trans ?_
  ·show cond (decide (1<(s.length:Int))) (chk (inb 0 s.length) (cond (decide (bat s 0=48)) (some (-1)) (some n))) (some n)=_;by_cases h1 : 1<(s.length:Int)
   ·rw[Ze1 h1,Aa,Vd (by omega)];show cond (decide (bat s 0=48)) (some (-1)) (some n)=some (if 1<(s.length:Int)/\Sx.byt s 0=48 then -1 else n);by_cases h2:bat s 0=48
    ·rw[Ze1 h2,if_pos ⟨h1,h2⟩];rfl
    ·rw[Zd1 h2,if_neg (λq=>h2 q.2)];rfl
   ·rw[Zd1 h1];show some n=some (if 1<(s.length:Int)/\Sx.byt s 0=48 then -1 else n);rw[if_neg (λq=>h1 q.1)]
  ·simp only[Zq1,Lp.rnumF];cases Lp.rnumGo s 0<;>rfl
 ·cases hx⟩
def Ah5:Sig:=⟨46,[(0,.str),(1,.int .i64),(4,.str),(5,.int .i64),(6,.str)],[],[],0,0,0,[],[]⟩
abbrev Q7:=Str×Int×Str×Int×Str
def Pq{R:Type}(rec:Q7->Option R)(kx:Ex->Q7->Option R)(v:Q7):Option R:=match v with
 |(v,v1,v2,v3,v4) =>
 cond (decide (v1<(v.length:Int))) (
  let j:=λ(_:Unit) =>
  chk (inb v1 v.length) (
   cond (decide ((bat v v1)=39)) (
   chk (Dp (wr .i64 (v1+1)) (wr .i64 ((wr .i64 (v1+1))+1)) v.length) (
    chk (decide (v4.length+(cut v (wr .i64 (v1+1)) (wr .i64 ((wr .i64 (v1+1))+1))).length<=Eo)) (
    rec (v,(wr .i64 ((wr .i64 (v1+1))+1)),v2,v3,(v4++(cut v (wr .i64 (v1+1)) (wr .i64 ((wr .i64 (v1+1))+1)))))))) (
   chk (Dp v1 (wr .i64 (v1+1)) v.length) (
    chk (decide (v4.length+(cut v v1 (wr .i64 (v1+1))).length<=Eo)) (
    rec (v,(wr .i64 (v1+1)),v2,v3,(v4++(cut v v1 (wr .i64 (v1+1)))))))))
  chk (inb v1 v.length) (
  cond (decide ((bat v v1)=39)) (
   cond (decide ((wr .i64 (v1+1))=(v.length:Int))) (
   kx .ret (v,v1,v4,v1,v4)) (
   chk (inb (wr .i64 (v1+1)) v.length) (
    cond (!decide ((bat v (wr .i64 (v1+1)))=39)) (
    kx .ret (v,v1,v4,v1,v4)) (
    j ())))) (
   j ()))) (
  kx (.exit 0) (v,v1,v2,v3,v4))
def Aq3(R:Type)(k:Nat):Px R:=pxO [] [] [(2,Ao k Ah5 (Pq))] []
def Ahe(k:Nat)(x:HV [.str,.int .i64]):Option (HV [.str,.int .i64]):=match x with
 |(s,i) =>
 Ak (λrec=>Pq rec (λe vz=>match vz with|(_,_,v7,v8,_)=>match e with
  |.ret =>
  some (v7,v8)
  |.exit 0 =>
  some ([],(-1))
  |_=>none)) k (s,i,[],0,[])
theorem A32(k:Nat):FO 146 [.str,.int .i64] [.str,.int .i64] (Ahe k):=fR (px:=Aq3 _ k) (n:=1) Tryz.func146 rfl (λcx H=>by have h0:Lv cx (Aq3 (HV [.str,.int .i64]) k):=lv H Ah Ae Ab;have hlrclose_0:=lO H h0 (b:=lp Tryz.f146 0) (k:=k) (n:=0) (s:=Ah5) (step:=Pq) (λ_ _ _ (_,_,_,_,_)=>by kernel_rfl) Aj;exact⟨h0,(Bh Aj hlrclose_0)⟩) λ(_,_)=>by kernel_rfl
def A1r(q:Str×Int):Str×Int:=if q.2 = -1 then([], -1) else(q.1,q.2-1)
def Aeo(s:Str)(i:Int):Option (Str×Int):=if sm1 s i then some (A1r (Lp.qGo (s.drop i.toNat) [] i)) else none
def Anw:FT [.str,.int .i64] [.str,.int .i64]:=λx=>Aeo x.1 x.2
theorem Uu{R:Type}{kx:Ex->Q7->Option R}{s:Str}{c:Str×Int->Option R}(hs:s.length<=1000000)(h1:∀(a:Str) (j:Int),0<=j->kx .ret (s,j,a,j,a)=c (a,j+1))(h2:∀q r a j,kx (.exit 0) (s,j,q,r,a)=c ([], -1)):∀(k i:Nat) (q:Str) (r:Int) (a:Str),a.length<=i->i<=s.length->s.length-i<k->Ak (λrec=>Pq rec kx) k (s,(i:Int),q,r,a)=c (Lp.qGo (s.drop (i:Int).toNat) a i)
 |0,i,_,_,_,_,_,h=>absurd h (Zm1 _)
 |k+1,i,q,r,a,ha,hi,h=>by
  rw[Aw];by_cases hl:i<s.length
  ·have ew:wr .i64 ((i:Int)+1)=((i+1:Nat):Int):=by rw[C3 (by simp only[inI];omega)];omega
   have ew2:wr .i64 (((i+1:Nat):Int)+1)=((i+2:Nat):Int):=by rw[C3 (by simp only[inI];omega)];omega
   have e1:decide ((i:Int)<(s.length:Int))=true:=Ze1 (by omega);have c1:cut s (i:Int) ((i+1:Nat):Int)=[s.getD (i:Int).toNat 0]:=by have:=Lp.cut_one s (i:Int) ⟨by omega,by omega⟩;rw[show((i+1:Nat):Int)=(i:Int)+1 by omega];exact this
   have u1:Dp (i:Int) ((i+1:Nat):Int) s.length=true:=Hz (by omega);have m1:decide (a.length+[s.getD (i:Int).toNat 0].length<=Eo)=true:=Ze1 (by simp only[Eo,Zf1,Zi1];omega);have e2:((i+1:Nat):Int)=(i:Int)+1:=by omega
   have e3:((i+2:Nat):Int)=(i:Int)+1+1:=by omega
   simp only[Pq,e1,Aa,A5 hl,chk,ew,ew2,c1,u1,m1,h1 _ _ (show(0:Int)<=(i:Int) by omega)];by_cases hq:bat s i=39
   ·rw[Ze1 hq,Aa,Aa];by_cases he:((i+1:Nat):Int)=(s.length:Int)
    ·rw[Ze1 he,Aa,Lp.q_last (by omega) (by omega) hq]
    ·have hl2:i+1<s.length:=by omega
     have c2:cut s ((i+1:Nat):Int) ((i+2:Nat):Int)=[s.getD ((i+1:Nat):Int).toNat 0]:=by have:=Lp.cut_one s ((i+1:Nat):Int) ⟨by omega,by omega⟩;rw[show((i+2:Nat):Int)=((i+1:Nat):Int)+1 by omega];exact this
     have u2:Dp ((i+1:Nat):Int) ((i+2:Nat):Int) s.length=true:=Hz (by omega);have m2:decide (a.length+[s.getD ((i+1:Nat):Int).toNat 0].length<=Eo)=true:=Ze1 (by simp only[Eo,Zf1,Zi1];omega);rw[Zd1 he,Af,A5 hl2,Aa,c2,u2,m2];by_cases hq2:bat s ((i+1:Nat):Int)=39
     ·rw[Ze1 hq2,Zt1,Af,Aa,Aa];have hx:s.getD ((i+1:Nat):Int).toNat 0=39:=(Lp.byt_lit (c:=39)).1 hq2;rw[hx,Lp.q_two (by omega) (by omega) hq (by rw[<-e2];exact hq2),<-e3];exact Uu hs h1 h2 k (i+2) q r (a++[39]) (by simp only[Zh1,Zf1,Zi1];omega) (by omega) (by omega)
     ·rw[Zd1 hq2,Zs1,Aa,Lp.q_close (by omega) (by omega) hq (by rw[<-e2];exact hq2)]
   ·rw[Zd1 hq,Af,Af,Lp.q_other (by omega) (by omega) hq,<-e2];exact Uu hs h1 h2 k (i+1) q r (a++[s.getD (i:Int).toNat 0]) (by simp only[Zh1,Zf1,Zi1];omega) (by omega) (by omega)
  ·simp only[Pq,h2];rw[Zd1 (by omega),Lp.q_end (by omega)];rfl
theorem Bdl:FO 146 [.str,.int .i64] [.str,.int .i64] Anw :=.fin 0 A32 λ(s,i) r hb hx=>⟨s.length+1,by
 simp only[Anw,Aeo] at hx;split at hx
 ·rename_i h;obtain⟨h1,h2,h3⟩:=h;rw[<-hx];obtain⟨n,rfl⟩:=Int.eq_ofNat_of_zero_le h1;simp only[Ahe];refine(Uu (c:=λq=>some (A1r q)) h3 (λa j hj =>?_) (λ_ _ _ _=>rfl) (s.length+1) n [] 0 [] (by simp) (by omega) (by omega));show some (a,j)=some (A1r (a,j+1));simp only[A1r];rw[if_neg (by omega),show j+1-1=j by omega]
 ·cases hx⟩
def Ahl:Sig:=⟨69,[(0,.str),(2,.sl .byte true),(3,.int .i64),(4,.sl .byte true),(5,.int .i64),(6,.int .i64),(7,.int .i64)],[],[],0,0,0,[],[]⟩
abbrev Lr:=Str×List UInt8×Int×List UInt8×Int×Int×Int
def P6{R:Type}(rec:Lr->Option R)(kx:Ex->Lr->Option R)(v:Lr):Option R:=match v with
 |(v5,v6,v7,v8,v9,b,a) =>
 cond (decide (a<(wr .i64 (v9+2)))) (
  let j2:=λ(p2:Int) =>
  let j1:=λ(p4:Bool) =>
   cond (p4) (
   chk (inb a v5.length) (
    cond (decide ((wr .i64 ((wr .i64 (bat v5 a))-87))<0)) (
    kx .ret (v5,[],11,v8,v9,b,a)) (
    rec (v5,v6,v7,v8,v9,(wr .i64 ((wr .i64 (16*b))+(wr .i64 ((wr .i64 (bat v5 a))-87)))),(wr .i64 (a+1)))))) (
   cond (decide (p2<0)) (
    kx .ret (v5,[],11,v8,v9,b,a)) (
    rec (v5,v6,v7,v8,v9,(wr .i64 ((wr .i64 (16*b))+p2)),(wr .i64 (a+1)))))
  chk (inb a v5.length) (
   cond (decide (97<=(bat v5 a))) (
   chk (inb a v5.length) (
    j1 (decide ((bat v5 a)<=102)))) (
   j1 false))
  let j:=λ(p1:Bool) =>
  cond (p1) (
   chk (inb a v5.length) (
   j2 (wr .i64 ((wr .i64 (bat v5 a))-48)))) (
   j2 (-1))
  chk (inb a v5.length) (
  cond (decide (48<=(bat v5 a))) (
   chk (inb a v5.length) (
   j (decide ((bat v5 a)<=57)))) (
   j false))) (
  kx (.exit 2) (v5,v6,v7,v8,v9,b,a))
def Ago:Sig:=⟨69,[(0,.str),(2,.sl .byte true),(3,.int .i64),(4,.sl .byte true),(5,.int .i64)],[],[],0,0,0,[],[]⟩
abbrev R1:=Str×List UInt8×Int×List UInt8×Int
def P1{R:Type}(k:Nat)(rec:R1->Option R)(kx:Ex->R1->Option R)(v:R1):Option R:=match v with
 |(v,v1,v2,v3,v4) =>
 cond (decide ((wr .i64 (v4+1))<(v.length:Int))) (
  Ak (λrc=>P6 rc (λe vz=>match vz with|(b,c,d,a,f,g,_)=>match e with
  |.ret =>kx .ret (b,c,d,a,f)
  |.exit 2 =>
   chk (decide (a.length+1<=Al)) (
   rec (b,c,d,(a++[(UInt8.ofNat ((wr .u8 g):Int).toNat)]),(wr .i64 (f+2))))
  |_=>none)) k (v,v1,v2,v3,v4,0,v4)) (
  kx (.exit 0) (v,v1,v2,v3,v4))
def Aqc(R:Type)(k:Nat):Px R:=pxO [] [] [(7,Ao k Ahl (P6)),(3,Ao k Ago (P1 k))] []
def Ag6(k:Nat)(x:HV [.str]):Option (HV [.sl .byte true,.int .i64]):=match x with
 |s =>
 Ak (λrec=>P1 k rec (λe vz=>match vz with|(a,b,c,d,_)=>match e with
  |.ret =>
  some (b,c)
  |.exit 0 =>
  cond (decide ((Int.tmod (a.length:Int) 2)=1)) (
   some ([],11)) (
   some (d,0))
  |_=>none)) k (s,[],0,[],0)
theorem A4h(k:Nat):FO 143 [.str] [.sl .byte true,.int .i64] (Ag6 k):=fR (px:=Aqc _ k) (n:=2) Tryz.func143 rfl (λcx H=>by have h0:Lv cx (Aqc (HV [.sl .byte true,.int .i64]) k):=lv H Ah Ae Ab;have hlrunhex_1:=lO H h0 (b:=lpC (lp Tryz.f143 0) 0) (k:=k) (n:=0) (s:=Ahl) (step:=P6) (λ_ _ _ (_,_,_,_,_,_,_)=>by kernel_rfl) Aj;have hlrunhex_0:=lO H h0 (b:=lp Tryz.f143 0) (k:=k) (n:=1) (s:=Ago) (step:=P1 k) (λ_ _ _ (_,_,_,_,_)=>by kernel_rfl) (Bh Aj hlrunhex_1);exact⟨h0,(Bh (Bh Aj hlrunhex_0) hlrunhex_1)⟩) λ_=>by kernel_rfl
def A83(s:Str):Str×Int:=match(if s.length % 2=0 then Lp.unGo s [] else none) with|none=>([],11)|some b=>(b,0)
def Aev(s:Str):Option (Str×Int):=if s.length<=1000000 then some (A83 s) else none
def Aj3:FT [.str] [.sl .byte true,.int .i64]:=λx=>Aev x
theorem Yo{R:Type}{kx:Ex->Lr->Option R}{rec:Lr->Option R}{s b:Str}{n x:Int}{b2:Str}{i0:Int}{i:Nat}(hs:s.length<=1000000)(hl:i<s.length)(hx : 0<=x/\x<=255)(h:(i:Int)<wr .i64 (i0+2)):P6 rec kx (s,b,n,b2,i0,x,(i:Int))=match Lp.hexD (bat s i) with
  |some d=>rec (s,b,n,b2,i0,16*x+d,((i+1:Nat):Int))
  |none=>kx .ret (s,[],11,b2,i0,x,(i:Int)):=by
 have hu:=Lp.u8_range s[i];have eb:wr .i64 (s[i].toNat:Int)=(s[i].toNat:Int):=C3 (by simp only[inI];omega);have e48:wr .i64 ((s[i].toNat:Int)-48)=(s[i].toNat:Int)-48:=C3 (by simp only[inI];omega);have e87:wr .i64 ((s[i].toNat:Int)-87)=(s[i].toNat:Int)-87:=C3 (by simp only[inI];omega);have ex:wr .i64 (16*x)=16*x:=C3 (by simp only[inI];omega);have ea:wr .i64 (16*x+((s[i].toNat:Int)-48))=16*x+((s[i].toNat:Int)-48):=C3 (by simp only[inI];omega);have ec:wr .i64 (16*x+((s[i].toNat:Int)-87))=16*x+((s[i].toNat:Int)-87):=C3 (by simp only[inI];omega);have ew:wr .i64 ((i:Int)+1)=((i+1:Nat):Int):=by rw[C3 (by simp only[inI];omega)];omega
 simp only[P6,A5 hl,chk,Aa,Cg hl,eb,e48,e87,ex,ea,ec,ew,Ze1 h,Lp.hexD];generalize (s[i].toNat:Int)=y at *;by_cases h1 : 48<=y/\y<=57
 ·rw[Ze1 h1.1,Ze1 h1.2,Zd1 (show ¬ 97<=y by omega),if_pos h1];simp only[Aa,Af];rw[Zd1 (show ¬y-48<0 by omega)];rfl
 ·rw[if_neg h1];have hf:cond (decide (48<=y)) (decide (y<=57)) false=false:=by
   by_cases q : 48<=y
   ·rw[Ze1 q,Zd1 (by omega)];rfl
   ·rw[Zd1 q];rfl
  by_cases h2 : 97<=y/\y<=102
  ·rw[if_pos h2,Ze1 h2.1,Ze1 h2.2,Ze1 (show 48<=y by omega),Zd1 (show ¬y<=57 by omega)];simp only[Aa,Af];rw[Zd1 (show ¬y-87<0 by omega)];rfl
  ·rw[if_neg h2];have n1:decide ((-1:Int)<0)=true:=rfl;by_cases q : 48<=y
   ·rw[Ze1 q,Zd1 (show ¬y<=57 by omega)];simp only[Aa,Af,n1];by_cases q2 : 97<=y
    ·rw[Ze1 q2,Zd1 (show ¬y<=102 by omega)];rfl
    ·rw[Zd1 q2];rfl
   ·rw[Zd1 q,Zd1 (show ¬ 97<=y by omega)];rfl
theorem Agw{R:Type}{kx:Ex->R1->Option R}{s b:Str}{n:Int}{c:Option Str->Option R}(kk:Nat)(hkk : 3<=kk)(hs:s.length<=1000000)(h1:∀a i,kx .ret (s,[],11,a,i)=c none)(h2:∀a (i:Nat),s.length<=i+1->kx (.exit 0) (s,b,n,a,(i:Int))=c (if s.length % 2=1 then none else some a)):∀(k i:Nat) (a:Str),i % 2=0->i<=s.length->a.length<=i->s.length-i<k->Ak (λrec=>P1 kk rec kx) k (s,b,n,a,(i:Int))=c (if s.length % 2=1 then none else Lp.unGo (s.drop i) a)
 |0,i,_,_,_,_,h=>absurd h (Zm1 _)
 |k+1,i,a,he,hi,ha,h=>by
  have ew:wr .i64 ((i:Int)+1)=((i+1:Nat):Int):=by rw[C3 (by simp only[inI];omega)];omega
  have ew2:wr .i64 ((i:Int)+2)=((i+2:Nat):Int):=by rw[C3 (by simp only[inI];omega)];omega
  rw[Aw];by_cases hl:i+1<s.length
  ·simp only[P1,ew];rw[Ze1 (show((i+1:Nat):Int)<(s.length:Int) by omega),Aa];obtain⟨kk,rfl⟩:∃q,kk=q+3:=⟨kk-3,by omega⟩;have hu:=Lp.un_step (l:=s) (acc:=a) (j:=(i:Int)) (by omega) (by omega);have e2:((i:Int)+2).toNat=i+2:=by omega
   have e0:(i:Int).toNat=i:=by omega
   have e1:(i:Int)+1=((i+1:Nat):Int):=by omega
   rw[e0,e2,e1] at hu;rw[Aw,Yo hs (show i<s.length by omega) (by omega) (by rw[ew2];omega)];have hx:Lp.hexD (bat s i)=Lp.hexD (Sx.byt s i):=rfl;have hy:Lp.hexD (bat s ((i+1:Nat):Int))=Lp.hexD (Sx.byt s ((i+1:Nat):Int)):=rfl;cases q1:Lp.hexD (Sx.byt s i) with
   |none =>
    rw[hx,q1];rw[q1] at hu;simp only[h1];congr 1;split
    ·rfl
    ·exact hu.symm
   |some x =>
    have b1:=Lp.hexD_lt q1;rw[hx,q1];simp only;rw[Aw,Yo hs hl (by omega) (by rw[ew2];omega)];cases q2:Lp.hexD (Sx.byt s ((i+1:Nat):Int)) with
    |none =>
     rw[hy,q2];rw[q1,q2] at hu;simp only[h1];congr 1;split
     ·rfl
     ·exact hu.symm
    |some y =>
     have b2:=Lp.hexD_lt q2;rw[hy,q2];rw[q1,q2] at hu;simp only at hu ⊢;rw[Aw];have e3:((i+1+1:Nat):Int)=((i+2:Nat):Int):=rfl;have ed : 16*(16*0+x)+y=x*16+y:=by omega
     have eu:wr .u8 (x*16+y)=x*16+y:=by have:IntKind.u8.wrap (x*16+y)=x*16+y:=IntWalk.u8_in _ (by omega);exact this
     simp only[P6,ew2];rw[Zd1 (show ¬((i+1+1:Nat):Int)<((i+2:Nat):Int) by omega),Af];simp only[ed,eu];rw[Ze1 (show a.length+1<=Al by simp only[Al];omega)];simp only[chk,Aa];rw[Agw kk.succ.succ.succ (by omega) hs h1 h2 k (i+2) _ (by omega) (by omega) (by simp only[Zh1,Zf1,Zi1];omega) (by omega),hu]
  ·simp only[P1,ew];rw[Zd1 (show ¬((i+1:Nat):Int)<(s.length:Int) by omega),Af,h2 a i (by omega)];congr 1;by_cases hm:s.length % 2=1
   ·rw[if_pos hm,if_pos hm]
   ·rw[if_neg hm,if_neg hm,Zk1 (by omega)];rfl
theorem Bc9:FO 143 [.str] [.sl .byte true,.int .i64] Aj3 :=.fin 0 A4h λs r hb hx=>⟨s.length+3,by
 simp only[Aj3,Aev] at hx;split at hx
 ·rename_i h;rw[<-hx];simp only[Ag6];refine Eq.trans (Agw (s:=s) (R:=Str×Int) (c:=λo=>match o with|none=>some (([]:Str),(11:Int))|some b=>some (b,0)) (s.length+3) (by omega) h (λ_ _=>rfl) (λa i _ =>?_) (s.length+3) 0 [] rfl (Nat.zero_le _) (by simp) (by omega)) ?_
  ·show cond (decide (Int.tmod (s.length:Int) 2=1)) (some ([],11)) (some (a,0))=_;have ht:Int.tmod (s.length:Int) 2=((s.length % 2:Nat):Int):=rfl;rw[ht];by_cases hm:s.length % 2=1
   ·rw[Ze1 (by omega),if_pos hm];rfl
   ·rw[Zd1 (by omega),if_neg hm];rfl
  ·simp only[Zq1,A83];by_cases hm:s.length % 2=1
   ·rw[if_pos hm,if_neg (by omega)]
   ·rw[if_neg hm,if_pos (by omega)];cases Lp.unGo s []<;>rfl
 ·cases hx⟩
def Ap2:Sig:=⟨178,[(0,.str),(1,.int .i64),(7,.int .i64),(9,.int .i64)],[(4,.ptr 0 0)],[(0,.one (.sv .tok))],1,0,0,[],[]⟩
abbrev Ac8:=Str×Int×Int×Int×Tok
def Ads{R:Type}(rec:Ac8->Option R)(kx:Ex->Ac8->Option R)(v:Ac8):Option R:=match v with
 |(v,v1,v2,v3,w) =>
 cond (decide (v3<(v.length:Int))) (
  chk (inb v3 v.length) (
  cond (!decide ((bat v v3)=39)) (
   rec (v,v1,v2,(wr .i64 (v3+1)),w)) (
   kx (.exit 0) (v,v1,v2,v3,w)))) (
  kx (.exit 0) (v,v1,v2,v3,w))
def A7e(R:Type)(k:Nat):Px R:=pxO [(92,cA Mq),(142,cA A2z),(143,cA Aj3),(144,cA Au5),(72,cA Ww),(145,cA Av8),(146,cA Anw),(101,cA Abc)] [] [(6,Ao k Ap2 (Ads))] []
def Afl(k:Nat)(x:HV [.str,.int .i64]):Option (HV [.sv .tok,.int .i64]):=match x with
 |(s,i) =>
 chk (inb i s.length) (
  (Bov s i).bind λx =>
  chk (Dp i x s.length) (
   let j1:Bool->Option (HV [.sv .tok,.int .i64]):=λ(p2:Bool) =>
   cond (p2) (
    Ak (λrec=>Ads rec (λe vz=>match vz with|(v4,v5,v6,v7,_)=>match e with
    |.exit 0 =>
     cond (decide (v7=(v4.length:Int))) (
     some ((Tok.mk 0 0 [] 0),(-1))) (
     chk (Dp (wr .i64 (v6+1)) v7 v4.length) (
      (Aev (cut v4 (wr .i64 (v6+1)) v7)).bind λ(x1,x2) =>
      cond (!decide (x2=0)) (
       some ((Tok.mk 0 0 [] 0),(-1))) (
       cond (decide (1000<(x1.length:Int))) (
       some ((Tok.mk 0 0 [] 0),(-1))) (
       some ((Tok.mk 5 v5 x1 0),(wr .i64 (v7+1)))))))
    |_=>none)) k (s,i,x,(wr .i64 (x+1)),(Tok.mk 0 0 [] 0))) (
    cond (decide ((B4 (bat s i))=1)) (
    cond ((A8b (cut s i x))) (
     some ((Tok.mk 1 i (cut s i x) 0),x)) (
     some ((Tok.mk 0 0 [] 0),(-1)))) (
    cond (decide ((B4 (bat s i))=2)) (
     cond ((Tq (cut s i x))) (
     some ((Tok.mk 2 i (cut s i x) 0),x)) (
     some ((Tok.mk 0 0 [] 0),(-1)))) (
     cond (decide ((B4 (bat s i))=3)) (
     (A7s (cut s i x)).bind λx3 =>
      cond (decide (0<=x3)) (
      some ((Tok.mk 3 i (cut s i x) x3),x)) (
      some ((Tok.mk 0 0 [] 0),(-1)))) (
     cond (decide ((B4 (bat s i))=5)) (
      (Aeo s (wr .i64 (i+1))).bind λ(x4,x5) =>
      cond (decide (0<=x5)) (
       cond (decide ((Ane (Val.mk 4 0 x4))=0)) (
       some ((Tok.mk 4 i x4 0),(wr .i64 (x5+1)))) (
       some ((Tok.mk 0 0 [] 0),(-1)))) (
       some ((Tok.mk 0 0 [] 0),(-1)))) (
      cond (decide ((B4 (bat s i))=7)) (
      cond (decide ((wr .i64 (i+1))<(s.length:Int))) (
       chk (Dp i (wr .i64 (i+2)) s.length) (
       let j2:Bool->Option (HV [.sv .tok,.int .i64]):=λ(p9:Bool) =>
        cond (p9) (
        chk (Dp i (wr .i64 (i+2)) s.length) (
         some ((Tok.mk 6 i (cut s i (wr .i64 (i+2))) 0),(wr .i64 (i+2))))) (
        chk (Dp i (wr .i64 (i+2)) s.length) (
         cond (decide ((cut s i (wr .i64 (i+2)))=[62,61])) (
         chk (Dp i (wr .i64 (i+2)) s.length) (
          some ((Tok.mk 6 i (cut s i (wr .i64 (i+2))) 0),(wr .i64 (i+2))))) (
         chk (Dp i (wr .i64 (i+1)) s.length) (
          some ((Tok.mk 6 i (cut s i (wr .i64 (i+1))) 0),(wr .i64 (i+1)))))))
       cond (decide ((cut s i (wr .i64 (i+2)))=[60,62])) (
        j2 true) (
        chk (Dp i (wr .i64 (i+2)) s.length) (
        j2 (decide ((cut s i (wr .i64 (i+2)))=[60,61])))))) (
       chk (Dp i (wr .i64 (i+1)) s.length) (
       some ((Tok.mk 6 i (cut s i (wr .i64 (i+1))) 0),(wr .i64 (i+1)))))) (
      some ((Tok.mk 0 0 [] 0),(-1))))))))
   let j:Bool->Option (HV [.sv .tok,.int .i64]):=λ(p:Bool) =>
   cond (p) (
    chk (inb x s.length) (
    j1 (decide ((bat s x)=39)))) (
    j1 false)
   cond (decide ((cut s i x)=[120])) (
   j (decide (x<(s.length:Int)))) (
   j false)))
theorem Bhp(k:Nat):FO 93 [.str,.int .i64] [.sv .tok,.int .i64] (Afl k):=fR (px:=A7e _ k) (n:=1) Tryz.func93 rfl (λcx H=>by have h0:Lv cx (A7e (HV [.sv .tok,.int .i64]) k):=lv H (c1 H Oa (c1 H Bmz (c1 H Bc9 (c1 H Bk3 (c1 H Ac5 (c1 H Bim (c1 H Bdl (c1 H Aqb Ah)))))))) Ae Ab;have hlrone_0:=lO H h0 (b:=lp Tryz.f93 0) (k:=k) (n:=0) (s:=Ap2) (step:=Ads) (λ_ _ _ (_,_,_,_,_)=>by kernel_rfl) Aj;exact⟨h0,(Bh Aj hlrone_0)⟩) λ(_,_)=>by kernel_rfl
def tkR(i:Int):Option (Int×Str×Int×Int)->Tok×Int
 |none=>(⟨0,0,[],0⟩, -1)
 |some (k,x,n,e)=>(⟨k,i,x,n⟩,e)
def Bau(s:Str)(i:Int):Option (Tok×Int):=if 0<=i/\i<(s.length:Int)/\s.length<=1000000 then some (tkR i (Lp.tokR s i)) else none
def A3t:FT [.str,.int .i64] [.sv .tok,.int .i64]:=λx=>Bau x.1 x.2
theorem Aql{R:Type}{kx:Ex->Ac8->Option R}{s:Str}{i t:Int}{w:Tok}{c:Int->Option R}(hs:s.length<=1000000)(h2:∀q,kx (.exit 0) (s,i,t,q,w)=c q):∀(k n:Nat),n<=s.length->s.length-n<k->Ak (λrec=>Ads rec kx) k (s,i,t,(n:Int),w)=c (Lp.runTo (λc => !decide (c=39)) s n)
 |0,_,_,h=>absurd h (Zm1 _)
 |k+1,n,hn,h=>by
  rw[Aw];by_cases hl:n<s.length
  ·have ih:=Aql hs h2 k (n+1) (by omega) (by omega);have ew:wr .i64 ((n:Int)+1)=((n+1:Nat):Int):=by rw[C3 (by simp only[inI];omega)];omega
   have e1:decide ((n:Int)<(s.length:Int))=true:=Ze1 (by omega);have e2:((n+1:Nat):Int)=(n:Int)+1:=by omega
   simp only[Ads,e1,Aa,A5 hl,chk,ew,ih,h2];by_cases hq:bat s n=39
   ·have hr:=Lp.runTo_no (p:=λc => !decide (c=39)) (l:=s) (j:=(n:Int)) ⟨by omega,by omega⟩ (by show(!decide (bat s n=39))=false;rw[Ze1 hq];rfl);rw[Ze1 hq,hr];rfl
   ·have hr:=Lp.runTo_yes (p:=λc => !decide (c=39)) (l:=s) (j:=(n:Int)) ⟨by omega,by omega⟩ (by show(!decide (bat s n=39))=true;rw[Zd1 hq];rfl);rw[Zd1 hq,e2,hr];rfl
  ·simp only[Ads,h2];rw[Zd1 (by omega),Lp.runTo_end (by omega)];rfl
theorem A6h{s:Str}(a b:Int):(cut s a b).length<=s.length:=by have h:(cut s a b).length=((s.drop a.toNat).take (b.toNat-a.toNat)).length:=rfl;rw[h,List.length_take,Za2];omega
theorem Brf(s:Str)(i:Int)(h : 0<=i/\i<(s.length:Int)/\s.length<=1000000):Afl (s.length+1) (s,i)=some (tkR i (Lp.tokR s i)):=by
 obtain⟨h0,h1,h2⟩:=h;have ht:=Lp.runTo_range Lp.isWd s i ⟨h0,by omega⟩;have he:Bov s i=some (Lp.runTo Lp.isWd s i):=if_pos ⟨h0,by omega,h2⟩;have ew1:wr .i64 (i+1)=i+1:=C3 (by simp only[inI];omega);have ew2:wr .i64 (i+2)=i+2:=C3 (by simp only[inI];omega);simp -zeta only [Afl,he,Zc1,ew1,ew2];unfold Lp.tokR;by_cases hx:Lp.HexAt s i
 ·rw[if_pos hx];simp only[Lp.HexAt] at hx;generalize Lp.runTo Lp.isWd s i=t at ht hx ⊢;have ewt:wr .i64 (t+1)=t+1:=C3 (by simp only[inI];omega);rw[Vd ⟨h0,h1⟩,Hz (by omega),ewt];simp -zeta only [chk,Aa];extract_lets j2 j1 j t2 q;have hj:cond (decide (cut s i t=[120])) (j (decide (t<(s.length:Int)))) (j false)=j1 true:=by rw[Ze1 (show cut s i t=[120] from hx.1),Ze1 hx.2.1];show cond (inb t s.length) (j1 (decide (bat s t=39))) none=j1 true;rw[Vd ⟨by omega,hx.2.1⟩,Ze1 (show bat s t=39 from hx.2.2)];rfl
  rw[hj];obtain⟨n,hn⟩:=Int.eq_ofNat_of_zero_le (show 0<=t+1 by omega);show Ak _ _ (s,i,t,t+1,_)=_;rw[hn];refine(Aql (c:=λq=>cond (decide (q=(s.length:Int))) (some (⟨0,0,[],0⟩, -1)) (cond (Dp (t+1) q s.length) ((Aev (cut s (t+1) q)).bind λ(x1,x2)=>cond (!decide (x2=0)) (some (⟨0,0,[],0⟩, -1)) (cond (decide (1000<(x1.length:Int))) (some (⟨0,0,[],0⟩, -1)) (some (⟨5,i,x1,0⟩,wr .i64 (q+1))))) none)) h2 (λq=>by show cond _ _ (cond (Dp (wr .i64 (t+1)) q s.length) ((Aev (cut s (wr .i64 (t+1)) q)).bind _) none)=_;rw[ewt]) (s.length+1) n (by omega) (by omega)).trans ?_;rw[<-hn];have hq:=Lp.runTo_range (λc => !decide (c=39)) s (t+1) ⟨by omega,by omega⟩;have eq1:Lp.runTo (λc => !decide (c=39)) s (t+1)=q:=rfl;rw[eq1] at hq ⊢;clear_value q;by_cases hqe:q=(s.length:Int)
  ·rw[Ze1 hqe,if_pos hqe];rfl
  ·have hc:Aev (cut s (t+1) q)=some (A83 (cut s (t+1) q)):=if_pos (by have:=A6h (s:=s) (t+1) q;omega);have ewq:wr .i64 (q+1)=q+1:=C3 (by simp only[inI];omega);rw[Zd1 hqe,if_neg hqe,Af,Hz (by omega),Aa,hc,ewq];have hcc:(Sx.cut s (t+1) q)=cut s (t+1) q:=rfl;rw[hcc];simp only[Zc1,A83];cases (if(cut s (t+1) q).length % 2=0 then Lp.unGo (cut s (t+1) q) [] else none) with
   |none=>rfl
   |some b =>
    simp only[decide_true,Zt1,Af];by_cases hb : 1000<(b.length:Int)
    ·rw[Ze1 hb,if_pos hb];rfl
    ·rw[Zd1 hb,if_neg hb];rfl
 ·rw[if_neg hx];simp only[Lp.HexAt] at hx;generalize Lp.runTo Lp.isWd s i=t at ht hx ⊢;have ewt:wr .i64 (t+1)=t+1:=C3 (by simp only[inI];omega);rw[Vd ⟨h0,h1⟩,Hz (by omega),ewt];simp -zeta only [chk,Aa];extract_lets j2 j1 j q;have hj:cond (decide (cut s i t=[120])) (j (decide (t<(s.length:Int)))) (j false)=j1 false:=by
   by_cases c1:cut s i t=[120]
   ·rw[Ze1 c1];by_cases c2:t<(s.length:Int)
    ·rw[Ze1 c2];show cond (inb t s.length) (j1 (decide (bat s t=39))) none=j1 false;rw[Vd ⟨by omega,c2⟩,Zd1 (show ¬bat s t=39 fromλq=>hx ⟨c1,c2,q⟩)];rfl
    ·rw[Zd1 c2];rfl
   ·rw[Zd1 c1];rfl
  rw[hj];clear hj;have hb:Sx.byt s i=bat s i:=rfl;have hcw:Sx.cut s i t=cut s i t:=rfl;rw[hb,hcw];simp only[j1,j2,Af];by_cases k1:Lp.clsF (bat s i)=1
  ·rw[Ze1 (show B4 (bat s i)=1 from k1),if_pos k1,Aa];have hw:A8b (cut s i t)=Lp.wordF (cut s i t):=Ana _;rw[hw];cases Lp.wordF (cut s i t)<;>rfl
  rw[Zd1 (show ¬B4 (bat s i)=1 from k1),if_neg k1,Af];by_cases k2:Lp.clsF (bat s i)=2
  ·rw[Ze1 (show B4 (bat s i)=2 from k2),if_pos k2,Aa,Tq];cases Lp.rnameF (cut s i t)<;>rfl
  rw[Zd1 (show ¬B4 (bat s i)=2 from k2),if_neg k2,Af];by_cases k3:Lp.clsF (bat s i)=3
  ·have hc:A7s (cut s i t)=some (Lp.rnumF (cut s i t)):=if_pos (by have:=A6h (s:=s) i t;omega);rw[Ze1 (show B4 (bat s i)=3 from k3),if_pos k3,Aa,hc,Zc1];by_cases hn : 0<=Lp.rnumF (cut s i t)
   ·rw[Ze1 hn,if_pos hn];rfl
   ·rw[Zd1 hn,if_neg hn];rfl
  rw[Zd1 (show ¬B4 (bat s i)=3 from k3),if_neg k3,Af];by_cases k5:Lp.clsF (bat s i)=5
  ·have hc:Aeo s (i+1)=some (A1r (Lp.qGo (s.drop (i+1).toNat) [] (i+1))):=if_pos ⟨by omega,by omega,h2⟩;have hqi:=Lp.qGo_in _ (s.drop (i+1).toNat) [] (i+1) (Zn1 _) (by omega);have hdl:(s.drop (i+1).toNat).length=s.length-(i+1).toNat:=Za2;have eq1:Lp.qGo (s.drop (i+1).toNat) [] (i+1)=q:=rfl;rw[eq1] at hc hqi;rw[Ze1 (show B4 (bat s i)=5 from k5),if_pos k5,Aa];clear_value q;by_cases hq:q.2 = -1
   ·have hc2:Aeo s (i+1)=some ([], -1):=by rw[hc,A1r,if_pos hq]
    rw[hc2,if_neg (λc=>c.1 hq)];rfl
   ·have hc2:Aeo s (i+1)=some (q.1,q.2-1):=by rw[hc,A1r,if_neg hq]
    have e9:wr .i64 (q.2-1+1)=q.2:=by rw[C3 (by simp only[inI];omega)];omega
    rw[hc2];simp only[Zc1,e9];rw[Ze1 (show 0<=q.2-1 by omega),Aa];have hk:Ane (Val.mk 4 0 q.1)=Lp.checkF 4 0 q.1:=by show G4 (Val.mk 4 0 q.1)=_;simp only[G4,Lp.checkF,Bjg];cases Lp.rightF 4 0 q.1<;>rfl
    by_cases hc2:Lp.checkF 4 0 q.1=0
    ·rw[Ze1 (hk.trans hc2),if_pos ⟨hq,hc2⟩];rfl
    ·rw[Zd1 (λe=>hc2 (hk.symm.trans e)),if_neg (λc=>hc2 c.2)];rfl
  rw[Zd1 (show ¬B4 (bat s i)=5 from k5),if_neg k5,Af];by_cases k7:Lp.clsF (bat s i)=7
  ·rw[Ze1 (show B4 (bat s i)=7 from k7),if_pos k7,Aa];have hcc:Sx.cut s i (i+2)=cut s i (i+2):=rfl;have hcd:Sx.cut s i (i+1)=cut s i (i+1):=rfl;simp only[Lp.twoR,hcc,hcd];by_cases hl:i+1<(s.length:Int)
   ·rw[Ze1 hl,Hz (show 0<=i/\i<=i+2/\i+2<=(s.length:Int) by omega),Hz (show 0<=i/\i<=i+1/\i+1<=(s.length:Int) by omega)];simp only[Aa];generalize cut s i (i+2)=y;by_cases y1:y=[60,62]
    ·rw[Ze1 y1,if_pos ⟨hl,.inl y1⟩];rfl
    ·by_cases y2:y=[60,61]
     ·rw[Zd1 y1,Ze1 y2,if_pos ⟨hl,.inr (.inl y2)⟩];rfl
     ·by_cases y3:y=[62,61]
      ·rw[Zd1 y1,Zd1 y2,Ze1 y3,if_pos ⟨hl,.inr (.inr y3)⟩];rfl
      ·rw[Zd1 y1,Zd1 y2,Zd1 y3,if_neg (λc=>by rcases c.2 with c|c|c<;>contradiction)];rfl
   ·rw[Zd1 hl,Af,Hz (by omega),if_neg (λc=>hl c.1)];rfl
  rw[Zd1 (show ¬B4 (bat s i)=7 from k7),if_neg k7,Af];rfl
theorem Bny:FO 93 [.str,.int .i64] [.sv .tok,.int .i64] A3t :=.fin 0 Bhp λ(s,i) r hb hx=>⟨s.length+1,by
 simp only[A3t,Bau] at hx;split at hx
 ·rename_i h;exact(Brf s i h).trans hx
 ·cases hx⟩
def Agv:Sig:=⟨38,[(0,.str),(2,.sl .tok true),(3,.int .i64),(4,.int .i64),(5,.sl .tok true),(6,.int .i64)],[],[],0,0,0,[],[]⟩
abbrev Q5:=Str×List Tok×Int×Int×List Tok×Int
def Tn{R:Type}(rec:Q5->Option R)(kx:Ex->Q5->Option R)(v:Q5):Option R:=match v with
 |(v,v1,v2,v3,v4,v5) =>
 cond (decide (v5<(v.length:Int))) (
  chk (inb v5 v.length) (
  cond (decide ((B4 (bat v v5))=6)) (
   rec (v,v1,v2,v3,v4,(wr .i64 (v5+1)))) (
   (Bau v v5).bind λ(x,x1) =>
   cond (decide (x1<0)) (
    kx .ret (v,[],v5,11,v4,v5)) (
    chk (decide (v4.length+1<=Al)) (
    rec (v,v1,v2,v3,(v4++[x]),x1)))))) (
  kx (.exit 0) (v,v1,v2,v3,v4,v5))
def Apu(R:Type)(k:Nat):Px R:=pxO [(92,cA Mq),(93,cA A3t)] [] [(5,Ao k Agv (Tn))] []
def Agf(k:Nat)(x:HV [.str]):Option (HV [.sl .tok true,.int .i64,.int .i64]):=match x with
 |s =>
 cond (decide (20000<(s.length:Int))) (
  some ([],0,3)) (
  Ak (λrec=>Tn rec (λe vz=>match vz with|(_,v7,v8,v9,a,_)=>match e with
  |.ret =>some (v7,v8,v9)
  |.exit 0 =>some (a,0,0)
  |_=>none)) k (s,[],0,0,[],0))
theorem A3w(k:Nat):FO 35 [.str] [.sl .tok true,.int .i64,.int .i64] (Agf k):=fR (px:=Apu _ k) (n:=1) Tryz.func35 rfl (λcx H=>by have h0:Lv cx (Apu (HV [.sl .tok true,.int .i64,.int .i64]) k):=lv H (c1 H Oa (c1 H Bny Ah)) Ae Ab;have hlrall12_0:=lO H h0 (b:=lp Tryz.f35 0) (k:=k) (n:=0) (s:=Agv) (step:=Tn) (λ_ _ _ (_,_,_,_,_,_)=>by kernel_rfl) Aj;exact⟨h0,(Bh Aj hlrall12_0)⟩) λ_=>by kernel_rfl
abbrev Fw(s:Str):List Tok×Int×Int:=A1p s
def Ajt:FT [.str] [.sl .tok true,.int .i64,.int .i64]:=λx=>some (Fw x)
theorem Un{R:Type}{kx:Ex->Q5->Option R}{s:Str}{c:Except Int (List Tok)->Option R}(hs:s.length<=20000)(h1:∀a i,kx .ret (s,[],i,11,a,i)=c (.error i))(h2:∀a i,kx (.exit 0) (s,[],0,0,a,i)=c (.ok a)):∀(k:Nat) (i:Int) (f:Nat) (a:List Tok),(a.length:Int)<=i->0<=i->i<=s.length->(s.length:Int)-i<k->(s.length:Int)-i<f->Ak (λrec=>Tn rec kx) k (s,[],0,0,a,i)=c (Lp.rallGo f s i a)
 |0,i,f,a,_,_,_,h,_=>by omega
 |_,i,0,a,_,_,_,_,h=>by omega
 |k+1,i,f+1,a,ha,h0,hi,hk,hf=>by
  rw[Aw];simp only[Tn,Lp.rallGo];by_cases hl:i<(s.length:Int)
  ·rw[Ze1 hl,Aa,if_neg (by omega),Vd ⟨h0,hl⟩];have ew:wr .i64 (i+1)=i+1:=C3 (by simp only[inI];omega);show cond (decide (B4 (bat s i)=6)) _ _=_;by_cases h6:Lp.clsF (Sx.byt s i)=6
   ·rw[Ze1 (show B4 (bat s i)=6 from h6),if_pos h6,Aa,ew];exact Un hs h1 h2 k (i+1) f a (by omega) (by omega) (by omega) (by omega) (by omega)
   ·have hc:Bau s i=some (tkR i (Lp.tokR s i)):=if_pos ⟨h0,hl,by omega⟩;rw[Zd1 (show ¬B4 (bat s i)=6 from h6),if_neg h6,Af];cases ht:Lp.tokR s i with
    |none =>
     have hc2:Bau s i=some (⟨0,0,[],0⟩, -1):=by rw[hc,ht];rfl
     rw[hc2];simp only[Zc1];rw[Ze1 (show(-1:Int)<0 by decide),Aa,h1]
    |some x =>
     obtain⟨y1,y2,y3,e⟩:=x;have he:=Lp.tokR_end ⟨h0,hl⟩ ht;have hc2:Bau s i=some (⟨y1,i,y2,y3⟩,e):=by rw[hc,ht];rfl
     rw[hc2];simp only[Zc1];rw[Zd1 (show ¬e<0 by omega),Af,Ze1 (show a.length+1<=Al by simp only[Al];omega)];simp only[chk,Aa];exact Un hs h1 h2 k e f (a++[⟨y1,i,y2,y3⟩]) (by simp only[Zh1,Zf1,Zi1];omega) (by omega) (by omega) (by omega) (by omega)
  ·rw[Zd1 hl,Af,h2,if_pos (by omega)]
theorem Bda:FO 35 [.str] [.sl .tok true,.int .i64,.int .i64] Ajt :=.fin 0 A3w λs r hb hx=>⟨20001,by
 simp only[Ajt,Za1] at hx;rw[<-hx];simp only[Agf,Fw,A1p];by_cases hl : 20000<(s.length:Int)
 ·rw[Ze1 hl,if_pos hl];rfl
 ·rw[Zd1 hl,if_neg hl,Af];refine(Un (s:=s) (c:=λo=>match o with|.error i=>some (([]:List Tok),i,(11:Int))|.ok ts=>some (ts,(0:Int),(0:Int))) (by omega) (λ_ _=>rfl) (λ_ _=>rfl) 20001 0 (s.length+1) [] (by simp) (by omega) (by omega) (by omega) (by omega)).trans ?_;rw[Lp.allF_eq];simp only[Lp.rallF];cases Lp.rallGo (s.length+1) s 0 []<;>rfl⟩
theorem Aa6:Xf=some true:=by kernel_rfl
end Go.Proofs.YthndhaolemgbdaaGreatDoor
