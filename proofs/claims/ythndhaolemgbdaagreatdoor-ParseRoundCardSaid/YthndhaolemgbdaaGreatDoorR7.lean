/- Texts of the proof,one behind the other: Qn,Qo,Qp,Qq,Qr,Qs,Qt,Qu,Qv,Pi,Qw,Vc,Kp,Rv,Da,Db. -/
import Derived.Test.YthndhaolemgbdaaGreatDoorR6
set_option linter.all false
namespace Go.Proofs.YthndhaolemgbdaaGreatDoor
open Go.Ax
abbrev t0V (nm:Str) (l:TL) (n:Int) (b:Bool) (a:Int) (acc:List Col):Dw:=(l,n,b,a,1,nm,[],acc,[],[],[],[],false,0,0,0,[],[],[],[],[],0)
abbrev t1V (nm:Str) (cs:List Col) (ns:List Str) (l:TL) (n:Int) (b:Bool) (a:Int) (acc:List Xpr):Dv:=(l,n,b,a,1,nm,[],cs,ns,acc,[],[],false,0,0,0,[],[],[],[],[],0)
def tK1(e:Ex) (v:Dv):Option K9:=match e with
 |.exit 2=>(Ai ([[41]],v.1,v.2.1,v.2.2.1,v.2.2.2.1)).bind fun y=>some (y.1,y.2.1,y.2.2.1,y.2.2.2,v.2.2.2.2)
 |_=>none
def tK0(K:Nat) (e:Ex) (v:Dw):Option K9:=match e with
 |.exit 0=>(Ai ([[75,69,89]],v.1,v.2.1,v.2.2.1,v.2.2.2.1)).bind fun y=>(Dt y).bind fun z=>Al (fun rec=>Cr rec tK1) K (z.2.1,z.2.2.1,z.2.2.2.1,z.2.2.2.2,v.2.2.2.2.1,v.2.2.2.2.2.1,v.2.2.2.2.2.2.1,v.2.2.2.2.2.2.2.1,z.1,v.2.2.2.2.2.2.2.2.2)
 |_=>none
theorem Bfx(l:TL) (n:Int) (b:Bool) (a:Int):H8 (l,n,b,a,z0)=(As (l,n,b,a)).bind fun x=>(Ai ([[40]],x.2)).bind fun y=>(Wd y).bind fun z=>Al (fun rec=>Eh rec (tK0 (l.length+3))) (l.length+3) (t0V x.1 z.2.1 z.2.2.1 z.2.2.2.1 z.2.2.2.2 [z.1]):=by
 have hm:decide (([]:List Col).length+1≤Am)=true:=Ze1 (by simp only [Am,Zi1];omega)
 unfold H8
 show(As (l,n,b,a)).bind _=_
 cases As (l,n,b,a) with
 |none=>rfl
 |some x =>
  show(Ai ([[40]],x.2)).bind _=(Ai ([[40]],x.2)).bind _
  cases Ai ([[40]],x.2) with
  |none=>rfl
  |some y =>
   show(J9 y).bind _=(Wd y).bind _
   unfold Wd
   cases J9 y with
   |none=>rfl
   |some c =>
    obtain⟨c,c1,c2,c3,c4⟩:=c
    simp only [Zc1]
    rw [hm]
    show(Ai ([[44]],c1,c2,c3,c4)).bind _=Option.bind ((Ai ([[44]],c1,c2,c3,c4)).bind _) _
    cases Ai ([[44]],c1,c2,c3,c4) with
    |none=>rfl
    |some w =>
     obtain⟨w1,w2,w3,w4⟩:=w
     simp only [Zc1]
     refine congrFun (congrArg (fun kx=>Al (fun rec=>Eh rec kx) (l.length+3)) ?_) _
     funext e v
     match e with
     |.exit 0 =>
      obtain⟨v0,v1,v2,v3,v4,v5,v6,v7,v8,v9⟩:=v
      show(Ai ([[75,69,89]],v0,v1,v2,v3)).bind _=(Ai ([[75,69,89]],v0,v1,v2,v3)).bind _
      cases Ai ([[75,69,89]],v0,v1,v2,v3) with
      |none=>rfl
      |some y =>
       show(Dt y).bind _=(Dt y).bind _
       cases Dt y with
       |none=>rfl
       |some z =>
        obtain⟨z0,z1,z2,z3,z4⟩:=z
        simp only [Zc1]
        refine congrFun (congrArg (fun kx=>Al (fun rec=>Cr rec kx) (l.length+3)) ?_) _
        funext e v
        match e with
        |.exit 2=>rfl
        |.exit 0=>rfl
        |.exit 1=>rfl
        |.exit (_+3)=>rfl
        |.ret=>rfl
        |.normal=>rfl
     |.exit (_+1)=>rfl
     |.ret=>rfl
     |.normal=>rfl
section
variable {R:Type}{n:Int}{nm:Str}{cs:List Col}{ns:List Str}
theorem Bpb{kx:Ex→Dw→Option R}(rec:Dw→Option R) (l:TL) (a:Int) (acc:List Col) (ha:acc.length≤1000000000) (hi:isT wPRIMARY l=false):Eh rec kx (t0V nm l n false a acc)=(Wd (l,n,false,a)).bind fun z=>rec (t0V nm z.2.1 z.2.2.1 z.2.2.2.1 z.2.2.2.2 (acc++[z.1])):=by
 have hm:decide (acc.length+1≤Am)=true:=Ze1 (by simp only [Am];omega)
 simp only [Eh,Zs1,Ae,Ef (s:=[80,82,73,77,65,82,89]) hi,Zc1,Wd]
 cases J9 (l,n,false,a) with
 |none=>rfl
 |some x =>
  simp only [Zc1,hm,chk,Ae]
  cases Ai ([[44]],x.2) with
  |none=>rfl
  |some y=>rfl
theorem Bo4{kx:Ex→Dw→Option R}(rec:Dw→Option R) (l:TL) (a:Int) (acc:List Col) (hi:isT wPRIMARY l=true):Eh rec kx (t0V nm l n false a acc)=kx (.exit 0) (t0V nm l.tail n false a acc):=by
 simp only [Eh,Zs1,Ae,Ez (s:=[80,82,73,77,65,82,89]) hi,Zc1,Zt1,Ah]
theorem Bow{kx:Ex→Dw→Option R}(rec:Dw→Option R) (l:TL) (a:Int) (acc:List Col):Eh rec kx (t0V nm l n true a acc)=kx (.exit 0) (t0V nm l n true a acc):=by
 simp only [Eh,Zt1,Ah]
theorem Bm9{kx:Ex→Dv→Option R}(rec:Dv→Option R) (l:TL) (a:Int) (acc:List Xpr) (ha:acc.length≤1000000000) (hi:isT [44] l=true):Cr rec kx (t1V nm cs ns l n false a acc)=(Alq (l.tail,n,false,a)).bind fun z=>rec (t1V nm cs ns z.2.1 z.2.2.1 z.2.2.2.1 z.2.2.2.2 (acc++[z.1])):=by
 have hm:decide (acc.length+1≤Am)=true:=Ze1 (by simp only [Am];omega)
 simp only [Cr,Zs1,Ae,Ez hi,Zc1,Alq]
 cases Ai ([[67,72,69,67,75],[40]],l.tail,n,false,a) with
 |none=>rfl
 |some y =>
  simp only [Zc1]
  cases Ff y with
  |none=>rfl
  |some x =>
   simp only [Zc1,hm,decide_true,Bool.and_self,chk,Ae]
   cases Ai ([[41]],x.2) with
   |none=>rfl
   |some y=>rfl
theorem Bnb{kx:Ex→Dv→Option R}(rec:Dv→Option R) (l:TL) (a:Int) (acc:List Xpr) (hi:isT [44] l=false):Cr rec kx (t1V nm cs ns l n false a acc)=kx (.exit 2) (t1V nm cs ns l n false a acc):=by
 simp only [Cr,Zs1,Ae,Ef hi,Zc1,Ah]
theorem Bf5{kx:Ex→Dv→Option R}(rec:Dv→Option R) (l:TL) (a:Int) (acc:List Xpr):Cr rec kx (t1V nm cs ns l n true a acc)=kx (.exit 2) (t1V nm cs ns l n true a acc):=by
 simp only [Cr,Zt1,Ah]
end
theorem Bau(nm:Str) (cs:List Col) (ns:List Str) (l:TL) (n b:Int) (acc:List Xpr):Bz (ES n) b (tK1 (.exit 2) (t1V nm cs ns l n true b acc)):=by
 show Bz (ES n) b ((Ai ([[41]],l,n,true,b)).bind fun y=>some (y.1,y.2.1,y.2.2.1,y.2.2.2,1,nm,[],cs,ns,acc,[],[],false,0,0,0,[],[],[],[],[],0))
 exact Bz.must ⟨_,rfl,rfl,rfl,rfl⟩
theorem Bjo(K:Nat) (nm:Str) (l:TL) (n b:Int) (acc:List Col):Bz (ES n) b (tK0 (K+1) (.exit 0) (t0V nm l n true b acc)):=by
 show Bz (ES n) b ((Ai ([[75,69,89]],l,n,true,b)).bind fun y=>(Dt y).bind fun z=>Al (fun rec=>Cr rec tK1) (K+1) (t1V nm acc z.1 z.2.1 z.2.2.1 z.2.2.2.1 z.2.2.2.2 []))
 refine Bz.must (Bz.bindS I0 fun ns =>?_)
 show Bz (ES n) b (Al (fun rec=>Cr rec tK1) (K+1) (t1V nm acc ns l n true b []))
 rw [Bh,Bf5]
 exact Bau nm acc ns l n b []
theorem Azg(K:Nat) (nm:Str) (l:TL) (n b:Int) (acc:List Col):Bz (ES n) b (Al (fun rec=>Eh rec (tK0 (K+1))) (K+1) (t0V nm l n true b acc)):=by
 rw [Bh,Bow]
 exact Bjo K nm l n b acc
theorem Arj{α:Type}{part:TL→PR α}(he:Cm part) {l l':TL}{x:List α}(h:G1 part l = .ok (x,l')):l'.length<l.length:=by
 simp only [G1] at h
 cases hq:part l with
 |error q=>rw [hq] at h;cases h
 |ok y =>
  obtain⟨y,l1⟩:=y
  rw [hq] at h
  have h1:=he _ _ _ hq
  have h2:=Acw he h
  omega
theorem Bc4{l l':TL}{x:List Str}(h:Nb l = .ok (x,l')):l'.length<l.length:=by
 obtain⟨_,l1,h1,h⟩:=G2 h
 obtain⟨y,l2,h2,h⟩:=G2 h
 obtain⟨_,l3,h3,h⟩:=G2 h
 have q1:=B5 h1
 have q2:=Arj Gi h2
 have q3:=B5 h3
 cases h
 omega
theorem A8r{L:Nat}(hL:L≤1000000000) {l:TL}(hl:l.length<L) (n a:Int):Out (gS n a) (ES n) n (H8 (l,n,false,a,z0)) (Sl l):=by
 rw [Bfx]
 unfold Sl
 refine Out.bindS (Cs L) hl (fun nm l1 h1 =>?_) (fun nm l1 b=>Bz.must (Bz.bindS Aix fun x=>Azg _ nm l1 n b [x]))
 have q1:=Ii h1
 refine Out.must (by decide) (fun l2 h2 =>?_) (fun l2 b=>Bz.bindS Aix fun x=>Azg _ nm l2 n b [x])
 have q2:=B5 h2
 have e1:∀(f:List Col→TL→PR Stm),bP Y8 f l2=bP Si (fun x l'=>bP (Ga (l'.length+1) [x]) f l') l2:=fun f=>by
  unfold bP Y8
  cases Si l2 with
  |error q=>rfl
  |ok x=>rfl
 rw [e1]
 refine Out.bindS Ah9 (show l2.length<L by omega) (fun x l3 h3 =>?_) (fun x l3 b=>Azg _ nm l3 n b [x])
 have q3:l3.length<l2.length:=Ux _ _ _ h3
 have q4:[x].length+l3.length≤1000000000:=by simp only [Zf1,Zi1];omega
 have hc:=Ank (L:=L) (step:=fun rec=>Eh rec (tK0 (l.length+3))) (st:=t0V nm) (n:=n) (c:=fun acc l' b a=>tK0 (l.length+3) (.exit 0) (t0V nm l' n b a acc)) (fun rec l a acc ha hi=>Bpb rec l a acc ha hi) (fun rec l a acc hi=>Bo4 rec l a acc hi) (fun rec l a acc=>Bow rec l a acc) a (l.length+3) (l3.length+1) [x] l3 (by omega) (by omega) (by omega) q4
 show Out _ _ _ (Al (fun rec=>Eh rec (tK0 (l.length+3))) (l.length+3) (t0V nm l3 n false a [x])) _
 have ht1:∀(cs:List Col) (ns:List Str) (l':TL) (b:Int),Bz (ES n) b (Al (fun rec=>Cr rec tK1) (l.length+3) (t1V nm cs ns l' n true b [])):=fun cs ns l' b=>by
  rw [Bh,Bf5]
  exact Bau nm cs ns l' n b []
 unfold bP
 cases hq:Ga (l3.length+1) [x] l3 with
 |error q =>
  rw [hq] at hc
  obtain⟨e,l',h⟩:=hc
  rw [h]
  exact Bjo _ nm l' n (Ge n q) e
 |ok y =>
  obtain⟨cs,l4⟩:=y
  rw [hq] at hc
  simp only at hc
  rw [hc]
  have q5:=Ao3 hq
  show Out _ _ _ ((Ai ([[75,69,89]],l4,n,false,a)).bind fun y=>(Dt y).bind fun z=>Al (fun rec=>Cr rec tK1) (l.length+3) (t1V nm cs z.1 z.2.1 z.2.2.1 z.2.2.2.1 z.2.2.2.2 [])) (bP (A5 [wKEY]) (fun _=>bP Nb fun ns=>bP (fun l=>Bb Afn (l.length+1) [] l) fun es=>bP (A5 [[41]]) fun _=>Cn { zS with kind:=1,name:=nm,cols:=cs,names:=ns,l:=es }) l4)
  refine Out.must (by decide) (fun l5 h5 =>?_) (fun l5 b=>Bz.bindS I0 fun ns=>ht1 cs ns l5 b)
  have q6:=B5 h5
  refine Out.bindS (Alt hL) (show l5.length<L by omega) (fun ns l6 h6 =>?_) (fun ns l6 b=>ht1 cs ns l6 b)
  have q7:=Bc4 h6
  have q8:([]:List Xpr).length+l6.length≤1000000000:=by simp only [Zi1];omega
  show Out _ _ _ (Al (fun rec=>Cr rec tK1) (l.length+3) (t1V nm cs ns l6 n false a [])) (bP (Bb Afn (l6.length+1) []) _ l6)
  refine Out.loop (a:=a) (fun acc l b a=>tK1 (.exit 2) (t1V nm cs ns l n b a acc))
   (Aqp (step:=fun rec=>Cr rec tK1) (st:=t1V nm cs ns) (n:=n) (c:=fun acc l b a=>tK1 (.exit 2) (t1V nm cs ns l n b a acc)) (Asf hL) As3 (fun rec l a acc ha hi=>Bm9 rec l a acc ha hi) (fun rec l a acc hi=>Bnb rec l a acc hi) (fun rec l a acc=>Bf5 rec l a acc) (a:=a) (k:=l.length+3) (m:=l6.length+1) (acc:=[]) (l:=l6) (by omega) (by omega) (by omega) q8)
   (Arw (step:=fun rec=>Cr rec tK1) (st:=t1V nm cs ns) (n:=n) (c:=fun acc l b a=>tK1 (.exit 2) (t1V nm cs ns l n b a acc)) (Asf hL) As3 (fun rec l a acc ha hi=>Bm9 rec l a acc ha hi) (fun rec l a acc hi=>Bnb rec l a acc hi) (fun rec l a acc=>Bf5 rec l a acc) (a:=a) (k:=l.length+3) (m:=l6.length+1) (acc:=[]) (l:=l6) (by omega) (by omega) (by omega) q8) (fun es l7 h7 =>?_) (fun es l7 b=>Bau nm cs ns l7 n b es)
  show Out _ _ _ ((Ai ([[41]],l7,n,false,a)).bind fun y=>some (y.1,y.2.1,y.2.2.1,y.2.2.2,1,nm,[],cs,ns,es,[],[],false,0,0,0,[],[],[],[],[],0)) _
  exact Out.must (by decide) (fun l8 _=>rfl) (fun l8 b=>⟨_,rfl,rfl,rfl,rfl⟩)
end Go.Proofs.YthndhaolemgbdaaGreatDoor
namespace Go.Proofs.YthndhaolemgbdaaGreatDoor
open Go.Ax
theorem Bnu(x:Option K9):(x.bind fun(x5,x6,x7,x8,x9,x10,x11,x12,x13,x14,x15,x16,x17,x18,x19,x20,x21,x22,x23,x24,x25,x26)=>some (x5,x6,x7,x8,x9,x10,x11,x12,x13,x14,x15,x16,x17,x18,x19,x20,x21,x22,x23,x24,x25,x26))=x:=by cases x<;>rfl
theorem Azs{L:Nat}(hL:L≤1000000000) {l:TL}(hl:l.length<L) (n a:Int):Out (gS n a) (ES n) n (Nt (l,n,false,a,z0)) (E4 l):=by
 unfold Nt E4
 have ht:=A6 l
 cases hi:isT Fq l with
 |true =>
  show Out _ _ _ ((Ao ([84,65,66,76,69],l,n,false,a)).bind _) _
  rw [Ez (s:=[84,65,66,76,69]) hi]
  show Out _ _ _ ((H8 (l.tail,n,false,a,z0)).bind _) _
  rw [show((H8 (l.tail,n,false,a,z0)).bind _)=H8 (l.tail,n,false,a,z0) from Bnu _]
  exact A8r hL (by omega) n a
 |false =>
  show Out _ _ _ ((Ao ([84,65,66,76,69],l,n,false,a)).bind _) _
  rw [Ef (s:=[84,65,66,76,69]) hi]
  show Out _ _ _ ((Ai ([[73,78,68,69,88]],l,n,false,a)).bind _) (Rm l)
  unfold Rm
  refine Out.must (by decide) (fun l1 h1 =>?_) (fun l1 b=>Bz.bindS Ed fun x=>Bz.must (Bz.bindS Ed fun y=>Bz.bindS I0 fun z=>⟨_,rfl,rfl,rfl,rfl⟩))
  have q1:=B5 h1
  refine Out.bindS (Cs L) (show l1.length<L by omega) (fun x l2 h2 =>?_) (fun x l2 b=>Bz.must (Bz.bindS Ed fun y=>Bz.bindS I0 fun z=>⟨_,rfl,rfl,rfl,rfl⟩))
  have q2:=Ii h2
  refine Out.must (by decide) (fun l3 h3 =>?_) (fun l3 b=>Bz.bindS Ed fun y=>Bz.bindS I0 fun z=>⟨_,rfl,rfl,rfl,rfl⟩)
  have q3:=B5 h3
  refine Out.bindS (Cs L) (show l3.length<L by omega) (fun y l4 h4 =>?_) (fun y l4 b=>Bz.bindS I0 fun z=>⟨_,rfl,rfl,rfl,rfl⟩)
  have q4:=Ii h4
  exact Out.bindS (Alt hL) (show l4.length<L by omega) (fun z l5 h5=>rfl) (fun z l5 b=>⟨_,rfl,rfl,rfl,rfl⟩)
end Go.Proofs.YthndhaolemgbdaaGreatDoor
namespace Go.Proofs.YthndhaolemgbdaaGreatDoor
open Go.Ax
def Ald(x:Str×RS):Option ((Str×Bool)×RS):=cond (!x.2.2.2.1) ((Ao ([68,69,83,67],x.2)).bind fun z=>cond (!z.2.2.2.1) (cond (!z.1) ((Ao ([65,83,67],z.2)).bind fun y=>some ((x.1,z.1),y.2)) (some ((x.1,z.1),z.2))) (some ((x.1,z.1),z.2))) (cond (!x.2.2.2.1) ((Ao ([65,83,67],x.2)).bind fun y=>some ((x.1,false),y.2)) (some ((x.1,false),x.2)))
def Afq(s:RS):Option ((Str×Bool)×RS):=(As s).bind Ald
theorem A2v(nm:Str) (l:TL) (n a:Int):Ald (nm,l,n,true,a)=some ((nm,false),l,n,true,a):=rfl
theorem A3u(nm:Str) (l:TL) (n a:Int):∃d l',Zi l = .ok (d,l')∧l'.length≤l.length∧Ald (nm,l,n,false,a)=some ((nm,d),l',n,false,a):=by
 have ht:=A6 l
 unfold Ald Zi
 simp only [Zs1,Ae]
 cases hd:isT wDESC l with
 |true =>
  rw [Ez (s:=[68,69,83,67]) hd]
  exact⟨true,l.tail,rfl,ht,rfl⟩
 |false =>
  rw [Ef (s:=[68,69,83,67]) hd]
  simp only [Zc1,Zs1,Ae]
  cases ha:isT Vy l with
  |true =>
   rw [Ez (s:=[65,83,67]) ha]
   exact⟨false,l.tail,rfl,ht,rfl⟩
  |false =>
   rw [Ef (s:=[65,83,67]) ha]
   exact⟨false,l,rfl,Zn1 _,rfl⟩
theorem A4k:It Afq:=fun l n a=>by
 obtain⟨e1,h1⟩:=Ed l n a
 simp only [Afq,h1,Zc1,A2v]
 exact⟨_,rfl⟩
theorem Aqj{L:Nat}:SimP Afq Arq L :=.of (fun l n a hl=>by
 unfold Afq Arq
 refine Out.bindS (Cs L) hl (fun nm l1 h1 =>?_) (fun nm l1 b=>⟨_,A2v nm l1 n b,rfl,rfl,rfl⟩)
 obtain⟨d,l2,h2,_,h3⟩:=A3u nm l1 n a
 rw [h3]
 unfold bP
 rw [h2]
 exact rfl) A4k
theorem Aju:Cm Arq:=fun l e l' h=>by
 obtain⟨nm,l1,h1,h⟩:=G2 h
 obtain⟨d,l2,h2,h⟩:=G2 h
 have q1:=Ii h1
 obtain⟨d',l3,h3,q3,_⟩:=A3u nm l1 0 0
 rw [h2] at h3
 cases h3
 cases h
 omega
def Jj(c:Cl) (m:Int):Cl:=(c.1,c.2.1,c.2.2.1,c.2.2.2.1,c.2.2.2.2.1,c.2.2.2.2.2.1,c.2.2.2.2.2.2.1,c.2.2.2.2.2.2.2.1,c.2.2.2.2.2.2.2.2.1,c.2.2.2.2.2.2.2.2.2.1,c.2.2.2.2.2.2.2.2.2.2.1,c.2.2.2.2.2.2.2.2.2.2.2.1,c.2.2.2.2.2.2.2.2.2.2.2.2.1,c.2.2.2.2.2.2.2.2.2.2.2.2.2.1,c.2.2.2.2.2.2.2.2.2.2.2.2.2.2.1,c.2.2.2.2.2.2.2.2.2.2.2.2.2.2.2.1,c.2.2.2.2.2.2.2.2.2.2.2.2.2.2.2.2.1,m)
def Akw(s:RS) (c:Cl):Option Ek:=cond (!s.2.2.1) ((Ao ([76,73,77,73,84],s)).bind fun z=>cond z.1 ((Ee z.2).bind fun t=>cond (!decide (t.1.kind=3)) ((Cj t.2).bind fun y=>(Cf y).bind fun u=>some (u.2.1,u.2.2.1,u.2.2.2.1,u.2.2.2.2,Jj c u.1.n)) ((Cf t.2).bind fun u=>some (u.2.1,u.2.2.1,u.2.2.2.1,u.2.2.2.2,Jj c u.1.n))) (some (z.2.1,z.2.2.1,z.2.2.2.1,z.2.2.2.2,c))) (some (s.1,s.2.1,s.2.2.1,s.2.2.2,c))
theorem Ay1(l:TL) (n b:Int) (c:Cl):Bz (ES n) b (Akw (l,n,true,b) c):=⟨_,rfl,rfl,rfl,rfl⟩
theorem Bdx(l:TL) (n a:Int) (c:Cl) (hc:Jj c (-1)=c):Out (fun(m:Int) l'=>((l',n,false,a,Jj c m):TL×Int×Bool×Int×Cl)) (ES n) n (Akw (l,n,false,a) c) (Fa l):=by
 unfold Akw Fa
 simp only [Zs1,Ae]
 cases hi:isT wLIMIT l with
 |false =>
  rw [Ef (s:=[76,73,77,73,84]) hi]
  show some (l,n,false,a,c)=some (l,n,false,a,Jj c (-1))
  rw [hc]
 |true =>
  rw [Ez (s:=[76,73,77,73,84]) hi]
  simp only [Zc1,Ae]
  cases hl:l.tail with
  |nil=>exact⟨_,rfl,rfl,rfl,rfl⟩
  |cons t r =>
   rw [Aq7]
   simp only [Zc1,Ad3]
   cases hk:decide (t.kind=3) with
   |true =>
    simp only [Zt1,Ah,Aqg,Zc1]
    exact rfl
   |false =>
    simp only [Zs1,Ae,Uy,Aqg,Zc1]
    exact⟨_,rfl,rfl,rfl,rfl⟩
end Go.Proofs.YthndhaolemgbdaaGreatDoor
namespace Go.Proofs.YthndhaolemgbdaaGreatDoor
open Go.Ax
def Nu(c:Cl) (o:List Str) (d:List Bool):Cl:=(c.1,c.2.1,c.2.2.1,c.2.2.2.1,c.2.2.2.2.1,c.2.2.2.2.2.1,c.2.2.2.2.2.2.1,c.2.2.2.2.2.2.2.1,c.2.2.2.2.2.2.2.2.1,c.2.2.2.2.2.2.2.2.2.1,c.2.2.2.2.2.2.2.2.2.2.1,c.2.2.2.2.2.2.2.2.2.2.2.1,c.2.2.2.2.2.2.2.2.2.2.2.2.1,c.2.2.2.2.2.2.2.2.2.2.2.2.2.1,c.2.2.2.2.2.2.2.2.2.2.2.2.2.2.1,o,d,c.2.2.2.2.2.2.2.2.2.2.2.2.2.2.2.2.2)
def sKx(e:Ex) (v:Ci):Option Ek:=match e with
 |.exit 0=>Akw (v.1,v.2.1,v.2.2.1,v.2.2.2.1) v.2.2.2.2
 |_=>none
def Aff(K:Nat) (s:RS) (c:Cl):Option Ek:=match s,c with
 |(x19,x20,x21,x22),(x23,x24,x25,x26,x27,x28,x29,x30,x31,x32,x33,x34,x35,x36,x37,x38,x39,x40) =>
  let j1:=fun(q156:List Tok) (q157:Int) (q158:Bool) (q159:Int) (q160:List Bool) (o:List Str)=>Al (fun rec=>Bt rec sKx) K (q156,q157,q158,q159,x23,x24,x25,x26,x27,x28,x29,x30,x31,x32,x33,x34,x35,x36,x37,o,q160,x40)
  cond (!x21) (
    (Ao ([79,82,68,69,82],x19,x20,x21,x22)).bind fun(x41,x42,x43,x44,x45) =>
    cond (x41) (
     (Ai ([[66,89]],x42,x43,x44,x45)).bind fun(x135,x136,x137,x138) =>
     (As (x135,x136,x137,x138)).bind fun(x139,x140,x141,x142,x143) =>
      chk (decide (x38.length+1≤Am)) (
      cond (!x142) (
       (Ao ([68,69,83,67],x140,x141,x142,x143)).bind fun(x144,x145,x146,x147,x148) =>
       cond (!x147) (
        cond (!x144) (
        (Ao ([65,83,67],x145,x146,x147,x148)).bind fun(_,x165,x166,x167,x168) =>
         chk (decide (x39.length+1≤Am)) (
         j1 x165 x166 x167 x168 (x39++[x144]) (x38++[x139]))) (
        chk (decide (x39.length+1≤Am)) (
         j1 x145 x146 x147 x148 (x39++[x144]) (x38++[x139])))) (
        chk (decide (x39.length+1≤Am)) (
        j1 x145 x146 x147 x148 (x39++[x144]) (x38++[x139])))) (
       cond (!x142) (
       (Ao ([65,83,67],x140,x141,x142,x143)).bind fun(_,x175,x176,x177,x178) =>
        chk (decide (x39.length+1≤Am)) (
        j1 x175 x176 x177 x178 (x39++[false]) (x38++[x139]))) (
       chk (decide (x39.length+1≤Am)) (
        j1 x140 x141 x142 x143 (x39++[false]) (x38++[x139])))))) (
     Akw (x42,x43,x44,x45) (x23,x24,x25,x26,x27,x28,x29,x30,x31,x32,x33,x34,x35,x36,x37,x38,x39,x40))) (
    Akw (x19,x20,x21,x22) (x23,x24,x25,x26,x27,x28,x29,x30,x31,x32,x33,x34,x35,x36,x37,x38,x39,x40))
def Ax4(K:Nat) (s:RS) (es:List Xpr):Option Ek:=(Ai ([[70,82,79,77]],s)).bind fun y=>(As y).bind fun x=>(Cg (x.2.1,x.2.2.1,x.2.2.2.1,x.2.2.2.2,8,x.1,[],[],[],es,[],[],false,0,0,0,[],[],[],[],[],(-1))).bind fun r=>Aff K (r.1,r.2.1,r.2.2.1,r.2.2.2.1) r.2.2.2.2
theorem Bhp(l:TL) (n:Int) (b:Bool) (a:Int):Hl (l,n,b,a,z0)=(Ao ([42],l,n,b,a)).bind fun x=>cond (!x.1) ((C4 x.2).bind fun e=>Ax4 (l.length+3) e.2 e.1) (Ax4 (l.length+3) x.2 []):=by
 have hk:∀(e:Ex) (v:Ci),(match v with|(v22,v23,v24,v25,v26,v27,v28,v29,v30,v31,v32,v33,v34,v35,v36,v37,v38,v39,v40,v41,v42,v43)=>match e with
   |.exit 0=>Akw (v22,v23,v24,v25) (v26,v27,v28,v29,v30,v31,v32,v33,v34,v35,v36,v37,v38,v39,v40,v41,v42,v43)
   |_=>none:Option Ek)=sKx e v:=fun e v=>by
  match e with
  |.exit 0=>rfl
  |.exit (_+1)=>rfl
  |.ret=>rfl
  |.normal=>rfl
 have hk2:=funext fun e=>funext fun v=>hk e v
 unfold Hl Ax4 Aff
 rw [←hk2]
 rfl
abbrev stO (c:Cl) (l:TL) (n:Int) (b:Bool) (a:Int) (acc:List (Str×Bool)):Ci:=(l,n,b,a,Nu c (acc.map (·.1)) (acc.map (·.2)))
section
variable {R:Type}{kx:Ex→Ci→Option R}{n:Int}{c:Cl}
theorem Bok(rec:Ci→Option R) (l:TL) (a:Int) (o:List Str) (d:List Bool) (ho:o.length≤1000000000) (hd:d.length≤1000000000) (hi:isT [44] l=true):Bt rec kx (l,n,false,a,Nu c o d)=(Afq (l.tail,n,false,a)).bind fun z=>rec (z.2.1,z.2.2.1,z.2.2.2.1,z.2.2.2.2,Nu c (o++[z.1.1]) (d++[z.1.2])):=by
 have hm1:decide (o.length+1≤Am)=true:=Ze1 (by simp only [Am];omega)
 have hm2:decide (d.length+1≤Am)=true:=Ze1 (by simp only [Am];omega)
 obtain⟨c1,c2,c3,c4,c5,c6,c7,c8,c9,c10,c11,c12,c13,c14,c15,c16,c17,c18⟩:=c
 show Bt rec kx (l,n,false,a,c1,c2,c3,c4,c5,c6,c7,c8,c9,c10,c11,c12,c13,c14,c15,o,d,c18)=(Afq (l.tail,n,false,a)).bind fun z=>rec (z.2.1,z.2.2.1,z.2.2.2.1,z.2.2.2.2,c1,c2,c3,c4,c5,c6,c7,c8,c9,c10,c11,c12,c13,c14,c15,o++[z.1.1],d++[z.1.2],c18)
 simp only [Bt,Zs1,Ae,Ez hi,Zc1,Afq,hm1,hm2,chk]
 cases As (l.tail,n,false,a) with
 |none=>rfl
 |some x =>
  obtain⟨x1,x2,x3,x4,x5⟩:=x
  simp only [Zc1,Ald]
  cases x4 with
  |true=>rfl
  |false =>
   simp only [Zs1,Ae]
   cases Ao ([68,69,83,67],x2,x3,false,x5) with
   |none=>rfl
   |some z =>
    obtain⟨z1,z2,z3,z4,z5⟩:=z
    simp only [Zc1]
    cases z4 with
    |true=>rfl
    |false =>
     simp only [Zs1,Ae]
     cases z1 with
     |true=>rfl
     |false =>
      simp only [Zs1,Ae]
      cases Ao ([65,83,67],z2,z3,false,z5)<;>rfl
theorem o_g(rec:Ci→Option R) (l:TL) (a:Int) (acc:List (Str×Bool)) (ha:acc.length≤1000000000) (hi:isT [44] l=true):Bt rec kx (stO c l n false a acc)=(Afq (l.tail,n,false,a)).bind fun z=>rec (stO c z.2.1 z.2.2.1 z.2.2.2.1 z.2.2.2.2 (acc++[z.1])):=by
 have e1:∀x:Str×Bool,(acc++[x]).map (·.1)=acc.map (·.1)++[x.1]:=fun x=>by simp
 have e2:∀x:Str×Bool,(acc++[x]).map (·.2)=acc.map (·.2)++[x.2]:=fun x=>by simp
 have h:=Bok (kx:=kx) (n:=n) (c:=c) rec l a (acc.map (·.1)) (acc.map (·.2)) (by rw [List.length_map];exact ha) (by rw [List.length_map];exact ha) hi
 simp only [stO,e1,e2]
 exact h
theorem o_f(rec:Ci→Option R) (l:TL) (a:Int) (acc:List (Str×Bool)) (hi:isT [44] l=false):Bt rec kx (stO c l n false a acc)=kx (.exit 0) (stO c l n false a acc):=by
 simp only [Bt,Nu,Zs1,Ae,Ef hi,Zc1,Ah]
 rfl
theorem o_b(rec:Ci→Option R) (l:TL) (a:Int) (acc:List (Str×Bool)):Bt rec kx (stO c l n true a acc)=kx (.exit 0) (stO c l n true a acc):=by
 simp only [Bt,Nu,Zt1,Ah]
 rfl
end
theorem A51(K:Nat) (l:TL) (n a:Int) (c:Cl):Aff K (l,n,false,a) (Nu c [] [])=(Ao ([79,82,68,69,82],l,n,false,a)).bind fun z=>cond z.1 ((Ai ([[66,89]],z.2)).bind fun y=>(Afq y).bind fun x=>Al (fun rec=>Bt rec sKx) K (stO c x.2.1 x.2.2.1 x.2.2.2.1 x.2.2.2.2 [x.1])) (Akw z.2 (Nu c [] [])):=by
 have hm1:decide (([]:List Str).length+1≤Am)=true:=Ze1 (by simp only [Am,Zi1];omega)
 have hm2:decide (([]:List Bool).length+1≤Am)=true:=Ze1 (by simp only [Am,Zi1];omega)
 obtain⟨c1,c2,c3,c4,c5,c6,c7,c8,c9,c10,c11,c12,c13,c14,c15,c16,c17,c18⟩:=c
 show Aff K (l,n,false,a) (c1,c2,c3,c4,c5,c6,c7,c8,c9,c10,c11,c12,c13,c14,c15,[],[],c18)=(Ao ([79,82,68,69,82],l,n,false,a)).bind fun z=>cond z.1 ((Ai ([[66,89]],z.2)).bind fun y=>(Afq y).bind fun x=>Al (fun rec=>Bt rec sKx) K (x.2.1,x.2.2.1,x.2.2.2.1,x.2.2.2.2,c1,c2,c3,c4,c5,c6,c7,c8,c9,c10,c11,c12,c13,c14,c15,[x.1.1],[x.1.2],c18)) (Akw z.2 (c1,c2,c3,c4,c5,c6,c7,c8,c9,c10,c11,c12,c13,c14,c15,[],[],c18))
 simp only [Aff,Zs1,Ae,hm1,hm2,chk]
 cases Ao ([79,82,68,69,82],l,n,false,a) with
 |none=>rfl
 |some q =>
  obtain⟨q1,q2,q3,q4,q5⟩:=q
  simp only [Zc1]
  cases q1 with
  |false=>rfl
  |true =>
   simp only [Ae]
   cases Ai ([[66,89]],q2,q3,q4,q5) with
   |none=>rfl
   |some y =>
    obtain⟨y1,y2,y3,y4⟩:=y
    simp only [Zc1,Afq]
    cases As (y1,y2,y3,y4) with
    |none=>rfl
    |some x =>
     obtain⟨x1,x2,x3,x4,x5⟩:=x
     simp only [Zc1,Ald]
     cases x4 with
     |true=>rfl
     |false =>
      simp only [Zs1,Ae]
      cases Ao ([68,69,83,67],x2,x3,false,x5) with
      |none=>rfl
      |some z =>
       obtain⟨z1,z2,z3,z4,z5⟩:=z
       simp only [Zc1]
       cases z4 with
       |true=>rfl
       |false =>
        simp only [Zs1,Ae]
        cases z1 with
        |true=>rfl
        |false =>
         simp only [Zs1,Ae]
         cases Ao ([65,83,67],z2,z3,false,z5)<;>rfl
theorem A2u(K:Nat) (l:TL) (n b:Int) (c:Cl):Bz (ES n) b (Aff K (l,n,true,b) c):=by
 obtain⟨c1,c2,c3,c4,c5,c6,c7,c8,c9,c10,c11,c12,c13,c14,c15,c16,c17,c18⟩:=c
 exact Ay1 l n b _
end Go.Proofs.YthndhaolemgbdaaGreatDoor
namespace Go.Proofs.YthndhaolemgbdaaGreatDoor
open Go.Ax
theorem Aij(K:Nat) (c:Cl) (l:TL) (n b:Int) (acc:List (Str×Bool)):Bz (ES n) b (Al (fun rec=>Bt rec sKx) (K+1) (stO c l n true b acc)):=by
 rw [Bh,o_b]
 exact Ay1 l n b _
theorem Aw0(c:Cl) (o:List Str) (d:List Bool) (h:Jj c (-1)=c):Jj (Nu c o d) (-1)=Nu c o d:=by
 obtain⟨c1,c2,c3,c4,c5,c6,c7,c8,c9,c10,c11,c12,c13,c14,c15,c16,c17,c18⟩:=c
 have h18:(-1:Int)=c18:=congrArg (fun z:Cl=>z.2.2.2.2.2.2.2.2.2.2.2.2.2.2.2.2.2) h
 show(c1,c2,c3,c4,c5,c6,c7,c8,c9,c10,c11,c12,c13,c14,c15,o,d,(-1:Int))=(c1,c2,c3,c4,c5,c6,c7,c8,c9,c10,c11,c12,c13,c14,c15,o,d,c18)
 rw [←h18]
theorem Bc5{L:Nat}(hL:L≤1000000000) {K:Nat}{l:TL}(hl:l.length<L) (hK:l.length<K) (n a:Int) (c:Cl) (hm:Jj c (-1)=c):Out (fun(r:List (Str×Bool)×Int) l'=>((l',n,false,a,Jj (Nu c (r.1.map (·.1)) (r.1.map (·.2))) r.2):TL×Int×Bool×Int×Cl)) (ES n) n (Aff (K+1) (l,n,false,a) (Nu c [] [])) (bP Gs (fun o=>bP Fa fun m=>Cn (o,m)) l):=by
 rw [A51]
 have ht:=A6 l
 have hlim:∀(o:List (Str×Bool)) (l':TL) (a:Int),Out (fun(r:List (Str×Bool)×Int) l'=>((l',n,false,a,Jj (Nu c (r.1.map (·.1)) (r.1.map (·.2))) r.2):TL×Int×Bool×Int×Cl)) (ES n) n (Akw (l',n,false,a) (Nu c (o.map (·.1)) (o.map (·.2)))) (bP Fa (fun m=>Cn (o,m)) l'):=fun o l' a =>
  Out.map (Bdx l' n a _ (Aw0 c _ _ hm)) (fun m l2=>rfl)
 cases hi:isT wORDER l with
 |false =>
  rw [Ef (s:=[79,82,68,69,82]) hi]
  have e:bP Gs (fun o=>bP Fa fun m=>Cn (o,m)) l=bP Fa (fun m=>Cn ([],m)) l:=by
   unfold bP Gs
   simp only [hi]
  rw [e]
  exact hlim [] l a
 |true =>
  rw [Ez (s:=[79,82,68,69,82]) hi]
  have e:bP Gs (fun o=>bP Fa fun m=>Cn (o,m)) l=bP (A5 [wBY]) (fun _=>bP (G1 Arq) fun o=>bP Fa fun m=>Cn (o,m)) l.tail:=by
   unfold bP Gs
   simp only [hi]
   unfold bP
   cases A5 [wBY] l.tail<;>rfl
  rw [e]
  show Out _ _ _ ((Ai ([[66,89]],l.tail,n,false,a)).bind fun y=>(Afq y).bind fun x=>Al (fun rec=>Bt rec sKx) (K+1) (stO c x.2.1 x.2.2.1 x.2.2.2.1 x.2.2.2.2 [x.1])) _
  refine Out.must (by decide) (fun l1 h1 =>?_) (fun l1 b=>Bz.bindS A4k fun x=>Aij K c l1 n b [x])
  have q1:=B5 h1
  rw [Uw]
  refine Out.bindS (Aqj (L:=L)) (show l1.length<L by omega) (fun x l2 h2 =>?_) (fun x l2 b=>Aij K c l2 n b [x])
  have q2:l2.length<l1.length:=Aju _ _ _ h2
  have q3:[x].length+l2.length≤1000000000:=by simp only [Zf1,Zi1];omega
  refine Out.loop (a:=a) (fun acc l b a=>sKx (.exit 0) (stO c l n b a acc))
   (Aqp (step:=fun rec=>Bt rec sKx) (st:=stO c) (n:=n) (c:=fun acc l b a=>sKx (.exit 0) (stO c l n b a acc)) (Aqj (L:=L)) Aju (fun rec l a acc ha hi=>o_g rec l a acc ha hi) (fun rec l a acc hi=>o_f rec l a acc hi) (fun rec l a acc=>o_b rec l a acc) (a:=a) (k:=K+1) (m:=l2.length+1) (acc:=[x]) (l:=l2) (by omega) (by omega) (by omega) q3)
   (Arw (step:=fun rec=>Bt rec sKx) (st:=stO c) (n:=n) (c:=fun acc l b a=>sKx (.exit 0) (stO c l n b a acc)) (Aqj (L:=L)) Aju (fun rec l a acc ha hi=>o_g rec l a acc ha hi) (fun rec l a acc hi=>o_f rec l a acc hi) (fun rec l a acc=>o_b rec l a acc) (a:=a) (k:=K+1) (m:=l2.length+1) (acc:=[x]) (l:=l2) (by omega) (by omega) (by omega) q3) (fun o l3 h3 =>?_) (fun o l3 b=>Ay1 l3 n b _)
  exact hlim o l3 a
end Go.Proofs.YthndhaolemgbdaaGreatDoor
namespace Go.Proofs.YthndhaolemgbdaaGreatDoor
open Go.Ax
theorem Out.bindO{α β γ δ:Type}{g : α→TL→γ}{E:Int→γ→Prop}{g' : β→TL→δ}{E':Int→δ→Prop}{n:Int}{x:Option γ}{p:TL→PR α}{l:TL}(ho:Out g E n x (p l)) {G : γ→Option δ}{f : α→TL→PR β}(h1:∀r l',p l = .ok (r,l')→Out g' E' n (G (g r l')) (f r l')) (h2:∀b z,E b z→Bz E' b (G z)):Out g' E' n (x.bind G) (bP p f l):=by
 unfold bP
 cases hq:p l with
 |error q =>
  rw [hq] at ho
  obtain⟨z,hz,he⟩:=ho
  rw [hz]
  exact h2 _ z he
 |ok y =>
  obtain⟨r,l'⟩:=y
  rw [hq] at ho
  have ho:x=some (g r l'):=ho
  rw [ho]
  exact h1 r l' hq
theorem Bbu{l l':TL}{w:Bool×Xpr}(h:Fo l = .ok (w,l')):l'.length≤l.length:=by
 unfold Fo at h
 have ht:=A6 l
 cases hi:isT wWHERE l with
 |false=>rw [hi] at h;cases h;exact Zn1 _
 |true =>
  rw [hi] at h
  simp only at h
  cases hq:orW l.tail with
  |error q=>rw [hq] at h;cases h
  |ok x =>
   obtain⟨x,l1⟩:=x
   rw [hq] at h
   cases h
   have:=G0 _ _ _ hq
   omega
theorem Aqx(K:Nat) (es:List Xpr) (nm:Str) (l:TL) (n b:Int):Bz (ES n) b ((Cg (l,n,true,b,8,nm,[],[],[],es,[],[],false,0,0,0,[],[],[],[],[],(-1))).bind fun r=>Aff K (r.1,r.2.1,r.2.2.1,r.2.2.2.1) r.2.2.2.2):=by
 rw [Agu]
 exact A2u K l n b (8,nm,[],[],[],es,[],[],false,0,0,0,[],[],[],[],[],(-1))
theorem Bkq(K:Nat) (es:List Xpr) (l:TL) (n b:Int):Bz (ES n) b (Ax4 K (l,n,true,b) es):=Bz.must (Bz.bindS Ed fun nm=>Aqx K es nm l n b)
def Bgq(es:List Xpr) (nm:Str) (w:Bool×Xpr) (o:List (Str×Bool)) (m:Int):Stm:={ zS with kind:=8,name:=nm,l:=es,has:=w.1,whr:=w.2,order:=o.map (·.1),desc:=o.map (·.2),most:=m }
theorem Auk{L:Nat}(hL:L≤1000000000) {K:Nat}{l:TL}(hl:l.length<L) (hK:l.length<K) (n a:Int) (es:List Xpr):Out (gS n a) (ES n) n (Ax4 (K+1) (l,n,false,a) es) (bP (A5 [wFROM]) (fun _=>bP B0 fun nm=>bP Fo fun w=>bP Gs fun o=>bP Fa fun m=>Cn (Bgq es nm w o m)) l):=by
 unfold Ax4
 refine Out.must (by decide) (fun l1 h1 =>?_) (fun l1 b=>Bz.bindS Ed fun nm=>Aqx (K+1) es nm l1 n b)
 have q1:=B5 h1
 refine Out.bindS (Cs L) (show l1.length<L by omega) (fun nm l2 h2 =>?_) (fun nm l2 b=>Aqx (K+1) es nm l2 n b)
 have q2:=Ii h2
 refine Out.bindO (Ac5 hL n a 8 nm [] [] [] es [] [] [] [] (-1) (show l2.length<L by omega)) (fun w l3 h3 =>?_) (fun b z hz =>?_)
 ·have q3:=Bbu h3
  have h:=Bc5 hL (K:=K) (l:=l3) (by omega) (by omega) n a (8,nm,[],[],[],es,[],[],w.1,w.2.kind,w.2.v.kind,w.2.v.n,w.2.v.s,w.2.name,w.2.l,[],[], -1) rfl
  have e:bP Gs (fun o=>bP Fa fun m=>Cn (Bgq es nm w o m)) l3=bP (bP Gs fun o=>bP Fa fun m=>Cn (o,m)) (fun r=>Cn (Bgq es nm w r.1 r.2)) l3:=by
   unfold bP
   cases Gs l3 with
   |error q=>rfl
   |ok x =>
    obtain⟨o,l4⟩:=x
    simp only
    cases Fa l4<;>rfl
  rw [e]
  exact Out.map (g':=gS n a) h (fun r l'=>rfl)
 ·obtain⟨l',n',b',a',c⟩:=z
  obtain⟨h1,h2,h3⟩:=hz
  simp only at h1 h2 h3
  subst h1 h2 h3
  exact A2u (K+1) l' n' a' c
theorem Avr{L:Nat}(hL:L≤1000000000) {l:TL}(hl:l.length<L) (n a:Int):Out (gS n a) (ES n) n (Hl (l,n,false,a,z0)) (Ig l):=by
 rw [Bhp]
 have ht:=A6 l
 have e:Ig l=bP Wa (fun es=>bP (A5 [wFROM]) fun _=>bP B0 fun nm=>bP Fo fun w=>bP Gs fun o=>bP Fa fun m=>Cn (Bgq es nm w o m)) l:=rfl
 rw [e]
 cases hi:isT [42] l with
 |true =>
  rw [Ez hi]
  have e2:∀f:List Xpr→TL→PR Stm,bP Wa f l=f [] l.tail:=fun f=>by
   unfold bP Wa
   simp only [hi]
  rw [e2]
  exact Auk hL (K:=l.length+2) (by omega) (by omega) n a []
 |false =>
  rw [Ef hi]
  have e2:∀f:List Xpr→TL→PR Stm,bP Wa f l=bP M7 f l:=fun f=>by
   unfold bP Wa
   simp only [hi]
  rw [e2]
  show Out _ _ _ ((C4 (l,n,false,a)).bind fun e=>Ax4 (l.length+3) e.2 e.1) _
  refine Out.bindS (Aox hL) hl (fun es l1 h1 =>?_) (fun es l1 b=>Bkq (l.length+3) es l1 n b)
  have q1:l1.length<l.length:=Arj G0 h1
  exact Auk hL (K:=l.length+2) (by omega) (by omega) n a es
end Go.Proofs.YthndhaolemgbdaaGreatDoor
namespace Go.Proofs.YthndhaolemgbdaaGreatDoor
open Go.Ax
abbrev gF (n a:Int) (s:Stm) (l:TL):Stm×RS:=(s,R2 l,n,false,a)
theorem A0h{α:Type}(p:TL→PR α) (l:TL):bP p Cn l=p l:=by
 unfold bP Cn
 cases p l<;>rfl
theorem Bfe(s:Stm) (l:TL) (n a:Int):((Ao ([59],l,n,false,a)).bind fun z=>some (s,z.2))=some (s,R2 l,n,false,a):=by
 unfold R2
 cases hi:isT [59] l with
 |true=>rw [Ez hi];rfl
 |false=>rw [Ef hi];rfl
theorem A2e(s:Stm):Stm.mk s.kind s.name s.on s.cols s.names s.l s.rows s.sets s.has (Xpr.mk s.whr.kind ⟨s.whr.v.kind,s.whr.v.n,s.whr.v.s⟩ s.whr.name s.whr.l) s.order s.desc s.most=s:=by
 obtain⟨k,nm,on,cs,ns,l,rs,ss,h,w,o,d,m⟩:=s
 cases w
 rfl
def Aqi(s:RS):Option (List Xpr×RS):=(Ai ([[40]],s)).bind fun y=>(C4 y).bind fun e=>(Ai ([[41]],e.2)).bind fun w=>some (e.1,w)
theorem Afu:It Aqi:=fun l n a=>by
 obtain⟨e1,h1⟩:=Acv l n a
 simp only [Aqi,Qx,h1,Zc1]
 exact⟨_,rfl⟩
theorem Bae{l l':TL}{x:List Xpr}(h:M7 l = .ok (x,l')):l'.length<l.length:=Arj G0 h
theorem Aqd{L:Nat}(hL:L≤1000000000):SimP Aqi A0k L :=.of (fun l n a hl=>by
 unfold Aqi A0k
 refine Out.must (by decide) (fun l1 h1 =>?_) (fun l1 b=>Bz.bindS Acv fun e=>Bz.must ⟨_,rfl,rfl,rfl,rfl⟩)
 have q1:=B5 h1
 refine Out.bindS (Aox hL) (show l1.length<L by omega) (fun e l2 h2 =>?_) (fun e l2 b=>Bz.must ⟨_,rfl,rfl,rfl,rfl⟩)
 exact Out.must (by decide) (fun l3 h3=>rfl) (fun l3 b=>⟨_,rfl,rfl,rfl,rfl⟩)) Afu
theorem Akm:Cm A0k:=fun l e l' h=>by
 obtain⟨_,l1,h1,h⟩:=G2 h
 obtain⟨x,l2,h2,h⟩:=G2 h
 obtain⟨_,l3,h3,h⟩:=G2 h
 have q1:=B5 h1
 have q2:=Bae h2
 have q3:=B5 h3
 cases h
 omega
abbrev rV (nm:Str) (l:TL) (n:Int) (b:Bool) (a:Int) (acc:List (List Xpr)):Gj:=(l,n,b,a,zS,5,nm,[],[],[],[],acc,[],false,0,0,0,[],[],[],[],[],0)
section
variable {R:Type}{kx:Ex→Gj→Option R}{n:Int}{nm:Str}
theorem r_g(rec:Gj→Option R) (l:TL) (a:Int) (acc:List (List Xpr)) (ha:acc.length≤1000000000) (hi:isT [44] l=true):Fv rec kx (rV nm l n false a acc)=(Aqi (l.tail,n,false,a)).bind fun z=>rec (rV nm z.2.1 z.2.2.1 z.2.2.2.1 z.2.2.2.2 (acc++[z.1])):=by
 have hm:decide (acc.length+1≤Am)=true:=Ze1 (by simp only [Am];omega)
 simp only [Fv,Zs1,Ae,Ez hi,Zc1,Aqi]
 cases Ai ([[40]],l.tail,n,false,a) with
 |none=>rfl
 |some y =>
  simp only [Zc1]
  cases C4 y with
  |none=>rfl
  |some x =>
   simp only [Zc1,hm,chk,Ae]
   cases Ai ([[41]],x.2) with
   |none=>rfl
   |some y=>rfl
theorem r_f(rec:Gj→Option R) (l:TL) (a:Int) (acc:List (List Xpr)) (hi:isT [44] l=false):Fv rec kx (rV nm l n false a acc)=kx (.exit 0) (rV nm l n false a acc):=by
 simp only [Fv,Zs1,Ae,Ef hi,Zc1,Ah]
theorem r_b(rec:Gj→Option R) (l:TL) (a:Int) (acc:List (List Xpr)):Fv rec kx (rV nm l n true a acc)=kx (.exit 0) (rV nm l n true a acc):=by
 simp only [Fv,Zt1,Ah]
end
end Go.Proofs.YthndhaolemgbdaaGreatDoor
namespace Go.Proofs.YthndhaolemgbdaaGreatDoor
open Go.Ax
def A93(c:Cl):Stm:=Stm.mk c.1 c.2.1 c.2.2.1 c.2.2.2.1 c.2.2.2.2.1 c.2.2.2.2.2.1 c.2.2.2.2.2.2.1 c.2.2.2.2.2.2.2.1 c.2.2.2.2.2.2.2.2.1 (Xpr.mk c.2.2.2.2.2.2.2.2.2.1 ⟨c.2.2.2.2.2.2.2.2.2.2.1,c.2.2.2.2.2.2.2.2.2.2.2.1,c.2.2.2.2.2.2.2.2.2.2.2.2.1⟩ c.2.2.2.2.2.2.2.2.2.2.2.2.2.1 c.2.2.2.2.2.2.2.2.2.2.2.2.2.2.1) c.2.2.2.2.2.2.2.2.2.2.2.2.2.2.2.1 c.2.2.2.2.2.2.2.2.2.2.2.2.2.2.2.2.1 c.2.2.2.2.2.2.2.2.2.2.2.2.2.2.2.2.2
def Bhf(s:RS) (c:Cl):Option Ki:=cond (!s.2.2.1) ((Ao ([59],s)).bind fun z=>some (A93 c,z.2)) (some (A93 c,s))
theorem Asz(s:Stm):A93 (Axw s)=s:=A2e s
theorem Bkj(s:Stm) (l:TL) (n a:Int):Bhf (l,n,false,a) (Axw s)=some (gF n a s l):=by
 unfold Bhf
 simp only [Zs1,Ae,Asz]
 exact Bfe s l n a
theorem A97(l:TL) (n b:Int) (c:Cl):Bz (EV n) b (Bhf (l,n,true,b) c):=⟨_,rfl,rfl,rfl,rfl⟩
def rK(e:Ex) (v:Gj):Option Ki:=match e with
 |.exit 0=>Bhf (v.1,v.2.1,v.2.2.1,v.2.2.2.1) v.2.2.2.2.2
 |_=>none
def Bi0(K:Nat) (s:RS):Option Ki:=(Ai ([[73,78,84,79]],s)).bind fun y=>(As y).bind fun x=>(Ai ([[86,65,76,85,69,83]],x.2)).bind fun y=>(Aqi y).bind fun z=>Al (fun rec=>Fv rec rK) K (rV x.1 z.2.1 z.2.2.1 z.2.2.2.1 z.2.2.2.2 [z.1])
theorem A08(K:Nat) (nm:Str) (l:TL) (n b:Int) (acc:List (List Xpr)):Bz (EV n) b (Al (fun rec=>Fv rec rK) (K+1) (rV nm l n true b acc)):=by
 rw [Bh,r_b]
 exact A97 l n b (5,nm,[],[],[],[],acc,[],false,0,0,0,[],[],[],[],[],0)
theorem Bgr{L:Nat}(hL:L≤1000000000) {K:Nat}{l:TL}(hl:l.length<L) (hK:l.length<K) (n a:Int):Out (gF n a) (EV n) n (Bi0 (K+1) (l,n,false,a)) (G5 l):=by
 unfold Bi0 G5
 refine Out.must (by decide) (fun l1 h1 =>?_) (fun l1 b=>Bz.bindS Ed fun nm=>Bz.must (Bz.bindS Afu fun x=>A08 K nm l1 n b [x]))
 have q1:=B5 h1
 refine Out.bindS (Cs L) (show l1.length<L by omega) (fun nm l2 h2 =>?_) (fun nm l2 b=>Bz.must (Bz.bindS Afu fun x=>A08 K nm l2 n b [x]))
 have q2:=Ii h2
 refine Out.must (by decide) (fun l3 h3 =>?_) (fun l3 b=>Bz.bindS Afu fun x=>A08 K nm l3 n b [x])
 have q3:=B5 h3
 rw [Uw]
 refine Out.bindS (Aqd hL) (show l3.length<L by omega) (fun x l4 h4 =>?_) (fun x l4 b=>A08 K nm l4 n b [x])
 have q4:l4.length<l3.length:=Akm _ _ _ h4
 have q5:[x].length+l4.length≤1000000000:=by simp only [Zf1,Zi1];omega
 refine Out.loop (a:=a) (fun acc l b a=>rK (.exit 0) (rV nm l n b a acc))
  (Aqp (step:=fun rec=>Fv rec rK) (st:=rV nm) (n:=n) (c:=fun acc l b a=>rK (.exit 0) (rV nm l n b a acc)) (Aqd hL) Akm (fun rec l a acc ha hi=>r_g rec l a acc ha hi) (fun rec l a acc hi=>r_f rec l a acc hi) (fun rec l a acc=>r_b rec l a acc) (a:=a) (k:=K+1) (m:=l4.length+1) (acc:=[x]) (l:=l4) (by omega) (by omega) (by omega) q5)
  (Arw (step:=fun rec=>Fv rec rK) (st:=rV nm) (n:=n) (c:=fun acc l b a=>rK (.exit 0) (rV nm l n b a acc)) (Aqd hL) Akm (fun rec l a acc ha hi=>r_g rec l a acc ha hi) (fun rec l a acc hi=>r_f rec l a acc hi) (fun rec l a acc=>r_b rec l a acc) (a:=a) (k:=K+1) (m:=l4.length+1) (acc:=[x]) (l:=l4) (by omega) (by omega) (by omega) q5) (fun rs l5 h5 =>?_) (fun rs l5 b=>A97 l5 n b _)
 exact Bkj { zS with kind:=5,name:=nm,rows:=rs } l5 n a
theorem Bh8{l:TL}(h1:isT Ec l=false) (h2:isT N4 l=false) (h3:isT G6 l=true) (n a:Int):Ji (l,n,false,a)=Bi0 (l.length+3) (l.tail,n,false,a):=by
 unfold Ji Bi0
 show(Ao ([67,82,69,65,84,69],l,n,false,a)).bind _=_
 rw [Ef (s:=[67,82,69,65,84,69]) h1]
 show(Ao ([68,82,79,80],l,n,false,a)).bind _=_
 rw [Ef (s:=[68,82,79,80]) h2]
 show(Ao ([73,78,83,69,82,84],l,n,false,a)).bind _=_
 rw [Ez (s:=[73,78,83,69,82,84]) h3]
 show(Ai ([[73,78,84,79]],l.tail,n,false,a)).bind _=_
 cases Ai ([[73,78,84,79]],l.tail,n,false,a) with
 |none=>rfl
 |some y =>
  show(As y).bind _=(As y).bind _
  cases As y with
  |none=>rfl
  |some x =>
   show(Ai ([[86,65,76,85,69,83]],x.2)).bind _=(Ai ([[86,65,76,85,69,83]],x.2)).bind _
   cases Ai ([[86,65,76,85,69,83]],x.2) with
   |none=>rfl
   |some y =>
    show(Ai ([[40]],y)).bind _=(Aqi y).bind _
    unfold Aqi
    cases Ai ([[40]],y) with
    |none=>rfl
    |some y =>
     show(C4 y).bind _=Option.bind ((C4 y).bind _) _
     cases C4 y with
     |none=>rfl
     |some e =>
      show(Ai ([[41]],e.2)).bind _=Option.bind ((Ai ([[41]],e.2)).bind _) _
      cases Ai ([[41]],e.2) with
      |none=>rfl
      |some w =>
       obtain⟨w1,w2,w3,w4⟩:=w
       simp only [Zc1]
       refine congrFun (congrArg (fun kx=>Al (fun rec=>Fv rec kx) (l.length+3)) ?_) _
       funext e v
       match e with
       |.exit 0=>rfl
       |.exit (_+1)=>rfl
       |.ret=>rfl
       |.normal=>rfl
end Go.Proofs.YthndhaolemgbdaaGreatDoor
namespace Go.Proofs.YthndhaolemgbdaaGreatDoor
open Go.Ax
theorem Bka(s:Stm) (l:TL) (n a:Int):((Ao ([59],l,n,false,a)).bind fun(_,x1,x2,x3,x4)=>some (s,x1,x2,x3,x4))=some (gF n a s l):=by
 unfold gF R2
 cases hi:isT [59] l with
 |true=>rw [Ez hi];rfl
 |false=>rw [Ef hi];rfl
theorem Bgp(s:Stm) (l:TL) (n a:Int):((Ao ([59],l,n,false,a)).bind fun(_,x1,x2,x3,x4)=>some (Stm.mk s.kind s.name s.on s.cols s.names s.l s.rows s.sets s.has (Xpr.mk s.whr.kind ⟨s.whr.v.kind,s.whr.v.n,s.whr.v.s⟩ s.whr.name s.whr.l) s.order s.desc s.most,x1,x2,x3,x4))=some (gF n a s l):=by
 rw [A2e]
 exact Bka s l n a
theorem Ba7{L:Nat}(hL:L≤1000000000) {l:TL}(hl:l.length<L) (n a:Int):Out (gF n a) (EV n) n (Ji (l,n,false,a)) (V5 l):=by
 have ht:=A6 l
 have ht2:=A6 l.tail
 unfold V5
 cases h1:isT Ec l with
 |true =>
  unfold Ji
  show Out _ _ _ ((Ao ([67,82,69,65,84,69],l,n,false,a)).bind _) (E4 l.tail)
  rw [Ez (s:=[67,82,69,65,84,69]) h1,←A0h E4]
  refine Out.bindO (Azs hL (l:=l.tail) (by omega) n a) (fun s l' _=>Bgp s l' n a) (fun b z hz =>?_)
  obtain⟨l',n',b',a',c1,c2,c3,c4,c5,c6,c7,c8,c9,c10,c11,c12,c13,c14,c15,c16,c17,c18⟩:=z
  obtain⟨e1,e2,e3⟩:=hz
  simp only at e1 e2 e3
  subst e1 e2 e3
  exact⟨_,rfl,rfl,rfl,rfl⟩
 |false =>
  cases h2:isT N4 l with
  |true =>
   unfold Ji S8
   show Out _ _ _ ((Ao ([67,82,69,65,84,69],l,n,false,a)).bind _) _
   rw [Ef (s:=[67,82,69,65,84,69]) h1]
   show Out _ _ _ ((Ao ([68,82,79,80],l,n,false,a)).bind _) _
   rw [Ez (s:=[68,82,79,80]) h2]
   show Out _ _ _ ((Ao ([84,65,66,76,69],l.tail,n,false,a)).bind _) _
   cases h3:isT Fq l.tail with
   |true =>
    rw [Ez (s:=[84,65,66,76,69]) h3]
    have q:=A6 l.tail
    show Out _ _ _ ((As (l.tail.tail,n,false,a)).bind _) (bP B0 (fun n=>Cn { zS with kind:=2,name:=n }) l.tail.tail)
    exact Out.bindS (Cs L) (by omega) (fun nm l' h=>Bka { zS with kind:=2,name:=nm } l' n a) (fun nm l' b=>⟨_,rfl,rfl,rfl,rfl⟩)
   |false =>
    rw [Ef (s:=[84,65,66,76,69]) h3]
    show Out _ _ _ ((Ai ([[73,78,68,69,88]],l.tail,n,false,a)).bind _) (bP (A5 [wINDEX]) (fun _=>bP B0 fun n=>Cn { zS with kind:=4,name:=n }) l.tail)
    refine Out.must (by decide) (fun l1 q1 =>?_) (fun l1 b=>Bz.bindS Ed fun nm=>⟨_,rfl,rfl,rfl,rfl⟩)
    have q2:=B5 q1
    exact Out.bindS (Cs L) (show l1.length<L by omega) (fun nm l' h=>Bka { zS with kind:=4,name:=nm } l' n a) (fun nm l' b=>⟨_,rfl,rfl,rfl,rfl⟩)
  |false =>
   cases h3:isT G6 l with
   |true =>
    rw [Bh8 h1 h2 h3]
    exact Bgr hL (K:=l.length+2) (by omega) (by omega) n a
   |false =>
    unfold Ji
    show Out _ _ _ ((Ao ([67,82,69,65,84,69],l,n,false,a)).bind _) _
    rw [Ef (s:=[67,82,69,65,84,69]) h1]
    show Out _ _ _ ((Ao ([68,82,79,80],l,n,false,a)).bind _) _
    rw [Ef (s:=[68,82,79,80]) h2]
    show Out _ _ _ ((Ao ([73,78,83,69,82,84],l,n,false,a)).bind _) _
    rw [Ef (s:=[73,78,83,69,82,84]) h3]
    show Out _ _ _ ((Ao ([85,80,68,65,84,69],l,n,false,a)).bind _) _
    cases h4:isT Jl l with
    |true =>
     rw [Ez (s:=[85,80,68,65,84,69]) h4]
     show Out _ _ _ ((Iw (l.tail,n,false,a,z0)).bind _) (G7 l.tail)
     rw [←A0h G7]
     refine Out.bindO (Az9 hL (l:=l.tail) (by omega) n a) (fun s l' _=>Bgp s l' n a) (fun b z hz =>?_)
     obtain⟨l',n',b',a',c1,c2,c3,c4,c5,c6,c7,c8,c9,c10,c11,c12,c13,c14,c15,c16,c17,c18⟩:=z
     obtain⟨e1,e2,e3⟩:=hz
     simp only at e1 e2 e3
     subst e1 e2 e3
     exact⟨_,rfl,rfl,rfl,rfl⟩
    |false =>
     rw [Ef (s:=[85,80,68,65,84,69]) h4]
     show Out _ _ _ ((Ao ([68,69,76,69,84,69],l,n,false,a)).bind _) _
     cases h5:isT Kh l with
     |true =>
      rw [Ez (s:=[68,69,76,69,84,69]) h5]
      show Out _ _ _ ((Ai ([[70,82,79,77]],l.tail,n,false,a)).bind _) (Kf l.tail)
      unfold Kf
      have hb:∀(nm:Str) (l':TL) (b:Int) (G:K9→Option Ki) (hG:∀(z:Cl),Bz (EV n) b (G (l',n,true,b,z))),Bz (EV n) b ((Cg (l',n,true,b,7,nm,[],[],[],[],[],[],false,0,0,0,[],[],[],[],[],0)).bind G):=fun nm l' b G hG=>by
       rw [Agu]
       exact hG _
      refine Out.must (by decide) (fun l1 q1 =>?_) (fun l1 b=>Bz.bindS Ed fun nm=>hb nm l1 b _ fun z=>⟨_,rfl,rfl,rfl,rfl⟩)
      have q2:=B5 q1
      refine Out.bindS (Cs L) (show l1.length<L by omega) (fun nm l2 q3 =>?_) (fun nm l2 b=>hb nm l2 b _ fun z=>⟨_,rfl,rfl,rfl,rfl⟩)
      have q4:=Ii q3
      refine Out.bindO (Ac5 hL n a 7 nm [] [] [] [] [] [] [] [] 0 (show l2.length<L by omega)) (fun w l' _=>Bgp { zS with kind:=7,name:=nm,has:=w.1,whr:=w.2 } l' n a) (fun b z hz =>?_)
      obtain⟨l',n',b',a',c1,c2,c3,c4,c5,c6,c7,c8,c9,c10,c11,c12,c13,c14,c15,c16,c17,c18⟩:=z
      obtain⟨e1,e2,e3⟩:=hz
      simp only at e1 e2 e3
      subst e1 e2 e3
      exact⟨_,rfl,rfl,rfl,rfl⟩
     |false =>
      rw [Ef (s:=[68,69,76,69,84,69]) h5]
      show Out _ _ _ ((Ao ([83,69,76,69,67,84],l,n,false,a)).bind _) _
      cases h6:isT M1 l with
      |true =>
       rw [Ez (s:=[83,69,76,69,67,84]) h6]
       show Out _ _ _ ((Hl (l.tail,n,false,a,z0)).bind _) (Ig l.tail)
       rw [←A0h Ig]
       refine Out.bindO (Avr hL (l:=l.tail) (by omega) n a) (fun s l' _=>Bgp s l' n a) (fun b z hz =>?_)
       obtain⟨l',n',b',a',c1,c2,c3,c4,c5,c6,c7,c8,c9,c10,c11,c12,c13,c14,c15,c16,c17,c18⟩:=z
       obtain⟨e1,e2,e3⟩:=hz
       simp only at e1 e2 e3
       subst e1 e2 e3
       exact⟨_,rfl,rfl,rfl,rfl⟩
      |false =>
       rw [Ef (s:=[83,69,76,69,67,84]) h6]
       show Out _ _ _ ((Cj (l,n,false,a)).bind _) (.error l)
       rw [Uy]
       exact⟨_,rfl,rfl,rfl,rfl⟩
end Go.Proofs.YthndhaolemgbdaaGreatDoor
namespace Go.Proofs.YthndhaolemgbdaaGreatDoor
open Go.Ax
def Aig(R:Type):Px R:=pxO [(116,cA Aqn)] [] [] []
noncomputable def Av7 (R:Type):Px R:=pxO [(85,Aj Z1 Aa0 Ji),(86,Aj Aac Y6 Jh),(25,cA T5),(84,Az 40 200 (Aig R) Tryz.f84)] [] [] []
def Xs(x:HV [.str]):Option (HV [.sv .stmt,.int .i64,.int .i64]):=match x with
 |s =>
 cond (!decide ((Jt s).2.2=0)) (
  some ((Stm.mk 0 [] [] [] [] [] [] [] false (Xpr.mk 0 ⟨0,0,[]⟩ [] []) [] [] 0),(Jt s).2.1,(Jt s).2.2)) (
  (Ji ((Jt s).1,(s.length:Int),false,0)).bind fun(x,x1,x2,x3,x4) =>
  (Jh (x1,x2,x3,x4)).bind fun(x5,_,_,_,x9) =>
   cond (!x5) (
   some ((Stm.mk 0 [] [] [] [] [] [] [] false (Xpr.mk 0 ⟨0,0,[]⟩ [] []) [] [] 0),x9,11)) (
   (J8 x).bind fun x10 =>
    cond (!decide (x10=0)) (
    some ((Stm.mk 0 [] [] [] [] [] [] [] false (Xpr.mk 0 ⟨0,0,[]⟩ [] []) [] [] 0),0,x10)) (
    some (x,0,0))))
theorem A5s:FO 30 [.str] [.sv .stmt,.int .i64,.int .i64] (Xs):=fR (px:=Av7 _) (n:=0) Tryz.func30 rfl (fun cx H=>by
 have h1:Lv cx (Aig (HV [.sv .stmt,.int .i64,.int .i64])):=lv H (c1 H A1v Af) Ab Aa
 have h0:Lv cx (Av7 (HV [.sv .stmt,.int .i64,.int .i64])):=lv H (l1 H Ba9 (l1 H Avk (c1 H Aco (Aq (cR H h1 Tryz.func84 rfl (n:=0) (Ak)) Af)))) Ab Aa
 exact⟨h0,Ak⟩) fun _=>by kernel_rfl
def Ra(s:Str):Option (Stm×Int×Int):=Xs s
def Af1:FT [.str] [.sv .stmt,.int .i64,.int .i64]:=fun x=>Ra x
theorem Aie:FO 30 [.str] [.sv .stmt,.int .i64,.int .i64] Af1 :=.fin0 A5s fun _ _ _ hx=>hx
def Akc(R:Type):Px R:=pxO [(116,cA Aqn)] [] [] []
noncomputable def Auw (R:Type):Px R:=pxO [(90,Aj Cu Cw Ff),(86,Aj Aac Y6 Jh),(18,cA A3w),(84,Az 40 200 (Akc R) Tryz.f84)] [] [] []
def Aiy(x:HV [.str]):Option (HV [.sv .expr,.int .i64,.int .i64]):=match x with
 |s =>
 cond (!decide ((Jt s).2.2=0)) (
  some ((Xpr.mk 0 ⟨0,0,[]⟩ [] []),(Jt s).2.1,(Jt s).2.2)) (
  (Ff ((Jt s).1,(s.length:Int),false,0)).bind fun(x,x1,x2,x3,x4) =>
  (Jh (x1,x2,x3,x4)).bind fun(x5,_,_,_,x9) =>
   cond (!x5) (
   some ((Xpr.mk 0 ⟨0,0,[]⟩ [] []),x9,11)) (
   cond (!decide ((Ata x)=0)) (
    some ((Xpr.mk 0 ⟨0,0,[]⟩ [] []),0,(Ata x))) (
    some (x,0,0))))
theorem A4p:FO 32 [.str] [.sv .expr,.int .i64,.int .i64] (Aiy):=fR (px:=Auw _) (n:=0) Tryz.func32 rfl (fun cx H=>by
 have h1:Lv cx (Akc (HV [.sv .expr,.int .i64,.int .i64])):=lv H (c1 H A1v Af) Ab Aa
 have h0:Lv cx (Auw (HV [.sv .expr,.int .i64,.int .i64])):=lv H (l1 H Akh (l1 H Avk (c1 H A82 (Aq (cR H h1 Tryz.func84 rfl (n:=0) (Ak)) Af)))) Ab Aa
 exact⟨h0,Ak⟩) fun _=>by kernel_rfl
def Bjc(s:Str):Option (Xpr×Int×Int):=Aiy s
def A39:FT [.str] [.sv .expr,.int .i64,.int .i64]:=fun x=>Bjc x
theorem A9e:FO 32 [.str] [.sv .expr,.int .i64,.int .i64] A39 :=.fin0 A4p fun _ _ _ hx=>hx
def A74(R:Type):Px R:=pxO [(30,cA Af1),(23,cA Au5)] [] [] []
def Jp(x:HV [.str]):Option (HV [.str,.int .i64,.int .i64]):=match x with
 |s =>
 (Ra s).bind fun(x,x1,x2) =>
  cond (!decide (x2=0)) (
  some ([],x1,x2)) (
  (Abq x).bind fun(x3,x4) =>
   some (x3,0,x4))
theorem Awr:FO 34 [.str] [.str,.int .i64,.int .i64] (Jp):=fR (px:=A74 _) (n:=0) Tryz.func34 rfl (fun _ H=>⟨lv H (c1 H Aie (c1 H A48 Af)) Ab Aa,Ak⟩) fun _=>by kernel_rfl
def M9(s:Str):Option (Str×Int×Int):=Jp s
def Ajz:FT [.str] [.str,.int .i64,.int .i64]:=fun x=>M9 x
theorem An4:FO 34 [.str] [.str,.int .i64,.int .i64] Ajz :=.fin0 Awr fun _ _ _ hx=>hx
def Axr(R:Type):Px R:=pxO [(34,cA Ajz),(30,cA Af1),(32,cA A39),(14,cA A3r)] [] [] []
def Aas(x:HV []):Option (HV [.bool]):=match x with
 |() =>
 (M9 [83,69,76,69,67,84,32,97,43,98,42,50,32,70,82,79,77,32,116,32,87,72,69,82,69,32,78,79,84,32,97,61,49,32,79,82,32,98,32,73,83,32,78,79,84,32,78,85,76,76]).bind fun(x,x1,x2) =>
  (Ra [83,69,76,69,67,84,32,97,32,70,82,79,77]).bind fun(_,x4,x5) =>
  (Bjc [97,45,98,45,49]).bind fun(x6,_,x8) =>
   (Atr x6).bind fun(x9,_) =>
   let j3:=fun(p:Bool) =>
    let j2:=fun(p1:Bool) =>
    let j1:=fun(p2:Bool) =>
     let j:=fun(p3:Bool) =>
     cond (p3) (
      cond (decide (x8=0)) (
      some (decide (x9=[40,40,97,32,45,32,98,41,32,45,32,49,41]))) (
      some false)) (
      some false)
     cond (p2) (
     j (decide (x5=11))) (
     j false)
    cond (p1) (
     j1 (decide (x4=13))) (
     j1 false)
    cond (p) (
    j2 (decide (x2=0))) (
    j2 false)
   cond (decide (x=[83,69,76,69,67,84,32,40,97,32,43,32,40,98,32,42,32,50,41,41,32,70,82,79,77,32,116,32,87,72,69,82,69,32,40,40,78,79,84,32,40,97,32,61,32,49,41,41,32,79,82,32,40,78,79,84,32,40,98,32,73,83,32,78,85,76,76,41,41,41])) (
    j3 (decide (x1=0))) (
    j3 false)
theorem Asb:FO 29 [] [.bool] (Aas):=fR (px:=Axr _) (n:=0) Tryz.func29 rfl (fun _ H=>⟨lv H (c1 H An4 (c1 H Aie (c1 H A9e (c1 H Bdg Af)))) Ab Aa,Ak⟩) fun()=>by kernel_rfl
def Z5:Option Bool:=Aas ()
def Alh:FT [] [.bool]:=fun _=>Z5
theorem Ayr:FO 29 [] [.bool] Alh :=.fin0 Asb fun _ _ _ hx=>hx
end Go.Proofs.YthndhaolemgbdaaGreatDoor
namespace Go.Proofs.YthndhaolemgbdaaGreatDoor
open Go.Ax
theorem Bes(n a:Int):Jh ([],n,false,a)=some (true,[],n,false,a):=rfl
theorem A8p(t:Tok) (r:TL) (n a:Int):Jh (t::r,n,false,a)=some (false,t::r,n,true,t.pos):=by
 have e:decide (0<((t::r).length:Int))=true:=Ze1 (by simp only [Zf1];omega)
 simp only [Jh,Pv,e,Ae,Uy,Zc1]
 rfl
theorem Bcx(l:TL) (n a:Int):Jh (l,n,true,a)=some (false,l,n,true,a):=by
 simp only [Jh,Pv,Yo,Zc1]
 cases decide (0<(l.length:Int))<;>rfl
def xS(s:Str):Option (Stm×Int×Int):=if(Jt s).2.2=0 then match La (Jt s).1 with
  |.error q=>some (zS,Ge s.length q,11)
  |.ok x=>(J8 x).bind fun e=>if e=0 then some (x,0,0) else some (zS,0,e)
 else some (zS,(Jt s).2.1,(Jt s).2.2)
theorem Ajf(s:Str) (hs:(Jt s).1.length<1000000000):Ra s=xS s:=by
 unfold xS Ra
 simp only [Xs]
 by_cases h0:(Jt s).2.2=0
 ·rw [Ze1 h0,if_pos h0]
  simp only [Zt1,Ah]
  have ho:=Ba7 (L:=1000000000) (Zn1 _) hs (s.length:Int) 0
  unfold La
  cases hq:V5 (Jt s).1 with
  |error q =>
   rw [hq] at ho
   obtain⟨⟨x,l',n',b',a'⟩,h1,e1,e2,e3⟩:=ho
   simp only at e1 e2 e3
   subst e1 e2 e3
   simp only [h1,Zc1,Bcx,Zs1,Ae]
   rfl
  |ok y =>
   obtain⟨x,l'⟩:=y
   rw [hq] at ho
   have ho:Ji ((Jt s).1,(s.length:Int),false,0)=some (x,R2 l',(s.length:Int),false,0):=ho
   simp only [ho,Zc1]
   cases hs2:R2 l' with
   |nil =>
    simp only [Bes,Zc1,Zt1,Ah]
    cases J8 x with
    |none=>rfl
    |some e =>
     simp only [Zc1]
     by_cases he:e=0
     ·rw [Ze1 he,if_pos he];rfl
     ·rw [Zd1 he,if_neg he];rfl
   |cons t r =>
    simp only [A8p,Zc1,Zs1,Ae]
    rfl
 ·rw [Zd1 h0,if_neg h0]
  rfl
end Go.Proofs.YthndhaolemgbdaaGreatDoor
namespace Go.Proofs.YthndhaolemgbdaaGreatDoor
open Go.Ax
end Go.Proofs.YthndhaolemgbdaaGreatDoor
namespace Go.Proofs.YthndhaolemgbdaaGreatDoor
open Go.Ax
theorem Pk:Z5=some true:=by kernel_rfl
end Go.Proofs.YthndhaolemgbdaaGreatDoor
namespace Go.Proofs.YthndhaolemgbdaaGreatDoor
open Go.Ax
end Go.Proofs.YthndhaolemgbdaaGreatDoor
namespace Go.Proofs.YthndhaolemgbdaaGreatDoor
open Go.Ax
end Go.Proofs.YthndhaolemgbdaaGreatDoor
namespace Go.Proofs.YthndhaolemgbdaaGreatDoor
open Go.Ax
def hd(q:List Int) (i:Nat):Int:=q.getD i 0
end Go.Proofs.YthndhaolemgbdaaGreatDoor
