/- Texts of the proof,one behind the other: Zl,Fe,Ob,Oq,Zw,Da,Db,Oc,Ora,Od,Oe,Oi,Oj,Ok,Ol,Om,Oh,On,Ooa,Oo,Or,Rv,Ty2,Ni,Nod,Sea,Tri,Trp,Sto,Ce. -/
import Derived.Test.YtcoaaebppfbbnaaGreatDoorK6
set_option linter.all false
namespace Go.Proofs.YtcoaaebppfbbnaaGreatDoor
open Go.Ax
theorem Wp:∀{cols:List Col}{row:List Val},Hd cols row=true->∀(i:Nat) (h1:i<cols.length) (h2:i<row.length),Aaj row[i] cols[i].kind=true
 |[],_,_,i,h1,_=>by simp at h1
 |_::_,[],_,i,_,h2=>by simp at h2
 |c::cs,v::vs,h,i,h1,h2=>by simp only[Hd,Zb1] at h;cases i with|zero=>exact h.1|succ i=>exact Wp h.2 i (by simpa using h1) (by simpa using h2)
theorem Am8{v:Val}{k:Int}:Aaj v k=true↔Aq v=true/\(v.kind=1\/v.kind=k):=by simp only[Aaj];cases Aq v<;>simp
theorem Ae5(b:Bool):Aq (Fv b)=true/\(Fv b).kind=2:=by cases b<;>decide
theorem A1k:Aq ⟨1,0,[]⟩=true:=by decide
theorem Bat(n:Int):Aq ⟨3,n,[]⟩=true:=by simp[Aq]
theorem Btq(a b:Int):(Afs a b).2=0\/(Afs a b).2=20:=by simp only[Afs];cases decide (decide (a<wr .i64 (a+b))=decide (0<b))<;>simp
theorem Bna(a b:Int):(Pg a b).2=0\/(Pg a b).2=20:=by simp only[Pg];cases decide (decide (wr .i64 (a-b)<a)=decide (0<b))<;>simp
theorem Btu(a b:Int):(Afo a b).2=0\/(Afo a b).2=20:=by simp only[Afo];generalize decide (0<(Ik (Dx a) (Dx b)).1)=p;generalize decide ((Ik (Dx a) (Dx b)).2=9223372036854775808)=q;generalize decide (9223372036854775808<(Ik (Dx a) (Dx b)).2)=r;generalize (!decide ((decide (a<0))=(decide (b<0))))=t;cases p<;>cases q<;>cases r<;>cases t<;>simp
theorem Bq8(k a b:Int):(∃n,U1 k a b=(⟨3,n,[]⟩,0))\/U1 k a b=(⟨0,0,[]⟩,20):=by
 have h1:=Btq a b;have h2:=Bna a b;have h3:=Btu a b;have h4:=Bna 0 a;simp only[U1,Bool.cond_decide];split
 ·rcases h1 with h|h<;>simp[h]
 ·split
  ·rcases h2 with h|h<;>simp[h]
  ·split
   ·rcases h3 with h|h<;>simp[h]
   ·rcases h4 with h|h<;>simp[h]
theorem Blz(k:Int)(l:List Val):(∃b,Ae2 k l=Fv b)\/Ae2 k l=⟨1,0,[]⟩:=by
 simp only[Ae2];cases l.any λv=>decide (v=Fv (decide (k=5)))
 ·cases l.any Ij
  ·exact .inl ⟨_,rfl⟩
  ·exact .inr rfl
 ·exact .inl ⟨_,rfl⟩
def Bdd(v:Val)(f k:Int):Prop:=(f=0/\Aq v=true/\(v.kind=1\/v.kind=k))\/(f=20/\v=⟨0,0,[]⟩)
theorem Nb(b:Bool):Bdd (Fv b) 0 2 :=.inl ⟨rfl,(Ae5 b).1,.inr (Ae5 b).2⟩
theorem Rx(k:Int):Bdd ⟨1,0,[]⟩ 0 k :=.inl ⟨rfl,A1k,.inl rfl⟩
theorem Azb(k a b:Int):Bdd (U1 k a b).1 (U1 k a b).2 3:=by
 rcases Bq8 k a b with ⟨n,h⟩|h
 ·rw[h];exact .inl ⟨rfl,Bat n,.inr rfl⟩
 ·rw[h];exact .inr ⟨rfl,rfl⟩
theorem Alk(k:Int)(l:List Val):Bdd (Ae2 k l) 0 2:=by
 rcases Blz k l with ⟨b,h⟩|h
 ·rw[h];exact Nb b
 ·rw[h];exact Rx 2
theorem Bsp{e:Xpr}{cols:List Col}{a b:Int}(h:(Pe e cols a b).2=0)(h3:e.kind=3\/e.kind=4\/e.kind=5):Pe e cols a b=(2,0):=by
 simp only[Pe] at h ⊢;rw[if_neg (by omega),if_neg (by omega),if_neg (by omega),if_pos h3] at h ⊢;split at h
 ·rename_i hc;rw[if_pos hc]
 ·simp at h
theorem Brz{e:Xpr}{cols:List Col}{a b:Int}(h:(Pe e cols a b).2=0)(h3:e.kind=12\/e.kind=13\/e.kind=14\/e.kind=15):Pe e cols a b=(3,0):=by
 simp only[Pe] at h ⊢;rw[if_neg (by omega),if_neg (by omega),if_neg (by omega),if_neg (by omega),if_pos h3] at h ⊢;split at h
 ·rename_i hc;rw[if_pos hc]
 ·simp at h
theorem Bwp{e:Xpr}{cols:List Col}{a b:Int}(h:(Pe e cols a b).2=0)(h3 : 6<=e.kind/\e.kind<=11):Pe e cols a b=(2,0):=by
 simp only[Pe] at h ⊢;rw[if_neg (by omega),if_neg (by omega),if_neg (by omega),if_neg (by omega),if_neg (by omega)] at h ⊢;split at h
 ·rename_i hc;rw[if_pos hc]
 ·simp at h
theorem Buz{e:Xpr}{cols:List Col}{a b:Int}(h3:e.kind=16):Pe e cols a b=(2,0):=by simp only[Pe];rw[if_neg (by omega),if_neg (by omega),if_pos h3]
theorem O1{cols:List Col}{row:List Val}(hf:Hd cols row=true):∀(n:Nat) (e:Xpr) (m:Int),Bf e<=n->B0 e m=true->(Bl e cols).2=0->∃v f,Qi e cols row=some (v,f)/\Bdd v f (Bl e cols).1
 |0,e,_,h,_,_=>by have:=Hu e;omega
 |n+1,e,m,h,hr,hk=>by
  obtain⟨hp,hok,hs⟩:=Aty hr;rw[Ld] at h;rw[Azp] at hk ⊢;rw[Awl];have i1:∀v:Val,inb 0 [v].length=true:=λv=>rfl;have i2:∀v u:Val,inb 0 [v,u].length=true:=λv u=>rfl;have i3:∀v u:Val,inb 1 [v,u].length=true:=λv u=>rfl;rcases A2l e.kind with ⟨h0,hk0⟩|⟨h0,hk1⟩|⟨h0,hk2⟩|h0
  ·
   have hl:e.l=[]:=List.eq_nil_of_length_eq_zero (by omega);rw[hl] at hk ⊢;simp only[kindL,Avw,evalL] at hk ⊢;have hc:chk (decide (([]:List Xpr).length<=Ah))=λx:Option (Val×Int)=>x:=rfl;rw[hc];simp only[if_true];rcases hk0 with h1|h2
   ·refine⟨e.v,0,by simp[A3b,h1],.inl ⟨rfl,?_,.inr ?_⟩⟩
    ·simp only[eok,h1] at hok;simp only[decide_true,Af,Zb1,Zg1] at hok;exact Ag8.1 hok.1.1
    ·simp[Pe,h1]
   ·simp only[Pe,h2] at hk ⊢;simp only[show ¬((2:Int)=1) by decide,if_false,if_true] at hk ⊢;by_cases hfd:C7 cols e.name<0
    ·simp[hfd] at hk
    ·rw[if_neg hfd];have hlen:=J1 hf;have hrg:=Xb cols e.name;obtain⟨i,hi⟩:∃i:Nat,C7 cols e.name=(i:Int):=⟨(C7 cols e.name).toNat,by omega⟩;have h1:i<cols.length:=by omega
     have h2':i<row.length:=by omega
     have hfit:=Wp hf i h1 h2';rw[Am8] at hfit;refine⟨row[i],0,?_,.inl ⟨rfl,hfit.1,?_⟩⟩
     ·simp only[A3b,h2];rw[hi,As h2',Al (c :=.val) h2'];rfl
     ·rw[hi,Al (c :=.col) h1];exact hfit.2
  ·
   obtain⟨x,hl⟩:∃x,e.l=[x]:=List.length_eq_one_iff.1 (by omega);rw[hl] at hk hs ⊢;simp only[kindL,Avw,erights,Bool.and_true] at hk hs ⊢;have hx0:(Bl x cols).2=0:=by
    by_cases hx:(Bl x cols).2=0
    ·exact hx
    ·rw[if_neg hx] at hk;exact absurd hk hx
   rw[if_pos hx0] at hk ⊢;obtain⟨v,f,hv,hg⟩:=O1 hf n x _ (by rw[hl] at h;simp only[esizes] at h;omega) hs hx0;simp only[evalL,hv];rcases hg with ⟨rfl,hg⟩|⟨rfl,rfl⟩
   ·simp only[if_true];have hc:chk (decide (([x]:List Xpr).length<=Ah))=λy:Option (Val×Int)=>y:=rfl;rw[hc];simp only[A3b];have at0:at' .val [v] 0=v:=rfl;rcases hk1 with h3|h15|h16
    ·rw[Bsp hk (.inl h3)];simp only[h3,show decide ((3:Int)=1)=false from rfl,show decide ((3:Int)=2)=false from rfl,show decide ((3:Int)=16)=false from rfl,show decide ((3:Int)=4)=false from rfl,show decide ((3:Int)=5)=false from rfl,Ag,decide_true,Af,i1,chk,at0];cases [v].any Ij
     ·exact⟨_,_,rfl,Nb _⟩
     ·exact⟨_,_,rfl,Rx _⟩
    ·rw[Brz hk (.inr (.inr (.inr h15)))];simp only[h15,show decide ((15:Int)=1)=false from rfl,show decide ((15:Int)=2)=false from rfl,show decide ((15:Int)=16)=false from rfl,show decide ((15:Int)=3)=false from rfl,show decide ((15:Int)=4)=false from rfl,show decide ((15:Int)=5)=false from rfl,Ag,decide_true,Af,i1,chk,at0];cases [v].any Ij
     ·exact⟨_,_,rfl,Azb _ _ _⟩
     ·exact⟨_,_,rfl,Rx _⟩
    ·rw[Buz h16];simp only[h16,show decide ((16:Int)=1)=false from rfl,show decide ((16:Int)=2)=false from rfl,decide_true,Ag,Af];exact⟨_,_,rfl,Nb _⟩
   ·exact⟨_,_,rfl,.inr ⟨rfl,rfl⟩⟩
  ·
   obtain⟨x,y,hl⟩:∃x y,e.l=[x,y]:=by match hq:e.l,(show e.l.length=2 by omega) with|[x,y],_=>exact⟨x,y,rfl⟩
   rw[hl] at hk hs ⊢;simp only[kindL,Avw,erights,Bool.and_true,Zb1] at hk hs ⊢;have hx0:(Bl x cols).2=0:=by
    by_cases hx:(Bl x cols).2=0
    ·exact hx
    ·rw[if_neg hx] at hk;exact absurd hk hx
   rw[if_pos hx0] at hk ⊢;have hy0:(Bl y cols).2=0:=by
    by_cases hy:(Bl y cols).2=0
    ·exact hy
    ·rw[if_neg hy] at hk;exact absurd hk hy
   rw[if_pos hy0] at hk ⊢;have hsz:Bf x<=n/\Bf y<=n:=by rw[hl] at h;simp only[esizes] at h;omega
   obtain⟨v,f,hv,hg⟩:=O1 hf n x _ hsz.1 hs.1 hx0;obtain⟨u,g,hu,hg'⟩:=O1 hf n y _ hsz.2 hs.2 hy0;simp only[evalL,hv,hu];rcases hg with ⟨rfl,hg⟩|⟨rfl,rfl⟩
   ·simp only[if_true];rcases hg' with ⟨rfl,hg'⟩|⟨rfl,rfl⟩
    ·simp only[if_true];have hc:chk (decide (([x,y]:List Xpr).length<=Ah))=λz:Option (Val×Int)=>z:=rfl;rw[hc];simp only[A3b];have at0:at' .val [v,u] 0=v:=rfl;have at1:at' .val [v,u] 1=u:=rfl;rw[Zd1 (show ¬e.kind=1 by omega),Zd1 (show ¬e.kind=2 by omega),Zd1 (show ¬e.kind=16 by omega),Zd1 (show ¬e.kind=3 by omega),Zd1 (show ¬e.kind=15 by omega)];simp only[Ag,i2,i3,chk,Af,at0,at1];by_cases h45:e.kind=4\/e.kind=5
     ·rw[Bsp hk (.inr h45)];rcases h45 with h4|h5
      ·simp only[h4,decide_true,Af];exact⟨_,_,rfl,Alk _ _⟩
      ·simp only[h5,show decide ((5:Int)=4)=false from rfl,decide_true,Af,Ag];exact⟨_,_,rfl,Alk _ _⟩
     ·rw[Zd1 (show ¬e.kind=4 by omega),Zd1 (show ¬e.kind=5 by omega)];simp only[Ag];cases hn:[v,u].any Ij
      ·simp only[Ag];by_cases h12 : 12<=e.kind
       ·rw[Brz hk (by omega),Ze1 h12];exact⟨_,_,rfl,Azb _ _ _⟩
       ·rw[Bwp hk (by omega),Zd1 h12];exact⟨_,_,rfl,Nb _⟩
      ·exact⟨_,_,rfl,Rx _⟩
    ·exact⟨_,_,rfl,.inr ⟨rfl,rfl⟩⟩
   ·exact⟨_,_,rfl,.inr ⟨rfl,rfl⟩⟩
  ·omega
def J8(e:Xpr)(cols:List Col)(row:List Val):Val×Int:=cond (!decide (Il e=0)) (⟨0,0,[]⟩,2) (cond (!Fu cols row) (⟨0,0,[]⟩,2) (cond (!decide ((Bl e cols).2=0)) (⟨0,0,[]⟩,(Bl e cols).2) ((Qi e cols row).getD (⟨0,0,[]⟩,0))))
theorem A3q(e:Xpr)(cols:List Col)(row:List Val):(Il e≠0\/Fu cols row=false)/\J8 e cols row=(⟨0,0,[]⟩,2)\/(Il e=0/\Fu cols row=true/\(Bl e cols).2≠0/\J8 e cols row=(⟨0,0,[]⟩,(Bl e cols).2))\/(Il e=0/\Fu cols row=true/\(Bl e cols).2=0/\Qi e cols row=some (J8 e cols row)/\Bdd (J8 e cols row).1 (J8 e cols row).2 (Bl e cols).1):=by
 simp only[J8];by_cases h1:Il e=0
 ·rw[Ze1 h1];cases h2:Fu cols row with
  |false=>left;simp
  |true =>
   by_cases h3:(Bl e cols).2=0
   ·right;right;obtain⟨v,f,h4,h5⟩:=O1 h2 (Bf e) e 30 (Zn1 _) (Bek.1 h1) h3;rw[h4];refine⟨h1,rfl,h3,?_,?_⟩
    ·simp[h3]
    ·simpa[h3] using h5
   ·right;left;refine⟨h1,rfl,h3,?_⟩;simp[h3]
 ·left;refine⟨.inl h1,?_⟩;simp[h1]
theorem Bjt(e:Xpr)(cols:List Col)(row:List Val):A51 e cols row=some (J8 e cols row):=by
 simp only[A51,W9];rcases A3q e cols row with ⟨h,h2⟩|⟨h1,h2,h3,h4⟩|⟨h1,h2,h3,h4,_⟩
 ·rw[h2];by_cases h1:Il e=0
  ·rw[h.resolve_left (by simpa using h1)];simp[h1]
  ·simp[h1]
 ·rw[h4,h2];simp[h1,h3]
 ·rw[h2,h4];simp[h1,h3]
def Bmk(key:List Str):List Col->List Val->Bool
 |c::cs,v::vs=>(decide (v.kind=1)&&(c.notNull||key.contains c.name))||Bmk key cs vs
 |_,_=>false
def Aqd(cols:List Col)(row:List Val):List Xpr->Int
 |[]=>0
 |e::l=>cond (decide ((J8 e cols row).2=0)) (cond (decide ((J8 e cols row).1=⟨2,0,[]⟩)) 162 (Aqd cols row l)) (J8 e cols row).2
def Ec(t:Tbl)(row:List Val):Int:=cond (J0 t) (cond (Fu t.cols row) (cond (Bmk t.key t.cols row) 161 (Aqd t.cols row t.checks)) 151) 2
theorem Asg{R:Type}{kx:Ex->Up->Option R}{l:List Str}{nm:Str}{w:Tbl}{a b:Option R}{k:Nat}(hn:l.length<=4000)(h4 : 4000<k)(h1:∀i:Nat,kx .ret (l,nm,(i:Int),(l.length:Int),(i:Int),w)=a)(h2:kx (.exit 0) (l,nm,0,(l.length:Int),(l.length:Int),w)=b) :
  Aj (λrec=>S6 rec kx) k (l,nm,0,(l.length:Int),0,w)=cond (l.contains nm) a b:=by
 have hl:ln l.length:=by simp only[ln];omega
 refine(A8 l.length (λi=>(l,nm,0,(l.length:Int),(i:Int),w)) (λi=>cond ((l.drop i).contains nm) a b) (λi hi rec hr =>?_) (λrec =>?_) k 0 (Nat.zero_le _) (by omega)).trans (by rw[Zq1])
 ·have e:decide (nm=l[i])=(nm == l[i]):=by rw[Bool.eq_iff_iff];simp
  simp only[S6,Ea hi,Af,As hi,chk,Al (c :=.str) hi,An hi hl,hr,h1,Ak hi,List.contains_cons,e];cases nm == l[i]<;>rfl
 ·simp only[S6,Ee,Ag,h2];rw[Zk1 (Zn1 _)];rfl
theorem Ars{R:Type}{kx:Ex->Sv->Option R}{t:Tbl}{row:List Val}{a b:Option R}(hk:t.key.length<=4000)(hn:t.cols.length<=4000){k:Nat}(h4 : 4000<k)(he:t.cols.length=row.length)(h1:∀i,kx .ret (row,161,t.cols,(t.cols.length:Int),i,t)=a)(h2:kx (.exit 0) (row,0,t.cols,(t.cols.length:Int),(t.cols.length:Int),t)=b) :
  Aj (λrec=>T7 k rec kx) k (row,0,t.cols,(t.cols.length:Int),0,t)=cond (Bmk t.key t.cols row) a b:=by
 have hl:ln t.cols.length:=by simp only[ln];omega
 refine(A8 t.cols.length (λi=>(row,0,t.cols,(t.cols.length:Int),(i:Int),t)) (λi=>cond (Bmk t.key (t.cols.drop i) (row.drop i)) a b) (λi hi rec hr =>?_) (λrec =>?_) k 0 (Nat.zero_le _) (by omega)).trans (by rw[Zq1,Zq1])
 ·have hi2:i<row.length:=by omega
  simp only[T7,Ea hi,Af,As hi,As hi2,chk,Al (c :=.col) hi,Al (c :=.val) hi2,An hi hl,Ak hi,Ak hi2,Bmk,h1];cases decide (row[i].kind=1) with
  |false=>exact hr
  |true =>
   cases t.cols[i].notNull with
   |true=>rfl
   |false =>
    simp only[Af,Ag,Bool.true_and,Bool.false_or];refine(Asg (a:=a) (b:=rec (row,0,t.cols,(t.cols.length:Int),((i+1:Nat):Int),t)) hk h4 (λj =>?_) rfl).trans ?_
    ·simp only[Ze1 (show(0:Int)<=(j:Int) by omega),Af];exact h1 _
    ·rw[hr];cases t.key.contains t.cols[i].name<;>rfl
 ·simp only[T7,Ee,Ag,h2];rw[Zk1 (Zn1 _)];rfl
theorem At2{R:Type}{kx:Ex->Tt->Option R}{t:Tbl}{row:List Val}{c:Int->Option R}{k:Nat}(hn:t.checks.length<=4000)(h4 : 4000<k)(h1:∀r i,kx .ret (row,r,t.checks,(t.checks.length:Int),i,t)=c r)(h2:kx (.exit 2) (row,0,t.checks,(t.checks.length:Int),(t.checks.length:Int),t)=c 0) :
  Aj (λrec=>Ur rec kx) k (row,0,t.checks,(t.checks.length:Int),0,t)=c (Aqd t.cols row t.checks):=by
 have hl:ln t.checks.length:=by simp only[ln];omega
 refine(A8 t.checks.length (λi=>(row,0,t.checks,(t.checks.length:Int),(i:Int),t)) (λi=>c (Aqd t.cols row (t.checks.drop i))) (λi hi rec hr =>?_) (λrec =>?_) k 0 (Nat.zero_le _) (by omega)).trans (by rw[Zq1])
 ·have e:decide (Gu (J8 t.checks[i] t.cols row).1 ⟨2,0,[]⟩=0)=decide ((J8 t.checks[i] t.cols row).1=⟨2,0,[]⟩):=Zy1.2 (vcmp_lin.eq _ _);simp only[Ur,Ea hi,Af,As hi,chk,Al (c :=.expr) hi,Bjt,Zc1,An hi hl,hr,h1,Ak hi,Aqd,e];cases decide ((J8 t.checks[i] t.cols row).2=0) with|false=>rfl|true=>cases decide ((J8 t.checks[i] t.cols row).1=⟨2,0,[]⟩)<;>rfl
 ·simp only[Ur,Ee,Ag,h2];rw[Zk1 (Zn1 _)];rfl
theorem Bpn{t:Tbl}{row:List Val}(hk:t.key.length<=4000)(hn:t.cols.length<=4000)(hl:t.checks.length<=4000)(hs:G2 t=true){k:Nat}(h4 : 4000<k):H1 k (t,row)=some (Ec t row):=by
 simp only[H1,Ji,hs,Af,Zc1,Ec];cases J0 t with
 |false=>rfl
 |true =>simp only[Af,decide_true,Zt1,Ag];cases hf:Fu t.cols row with|false=>rfl|true =>simp only[Af,Zt1,Ag];refine(Ars (a:=some 161) (b:=some (Aqd t.cols row t.checks)) hk hn h4 (J1 hf) (λ_=>rfl) ?_).trans (Az);exact At2 (c:=some) hl h4 (λ_ _=>rfl) rfl
def hd(q:List Int)(i:Nat):Int:=q.getD i 0
def Bxf(kind:Int):Int×Int :=
 let j1:=λ(p1:Bool) =>
  cond (p1) (
  (2,2)) (
  let j:=λ(p3:Bool) =>
   cond (p3) (
   (0,2)) (
   cond (decide (12<=kind)) (
    cond (decide (kind<=15)) (
    (3,3)) (
    (0,2))) (
    (0,2)))
  cond (decide (6<=kind)) (
   j (decide (kind<=11))) (
   j false))
 cond (decide (3<=kind)) (
  j1 (decide (kind<=5))) (
  j1 false)
theorem Axu{l:List Col}{s:Str}(h:¬C7 l s<0):∃i:Nat,∃hi:i<l.length,C7 l s=(i:Int)/\at' .col l (C7 l s)=l[i]:=by
 rcases Xb l s with h1|⟨h1,h2⟩
 ·omega
 ·obtain⟨i,hi⟩:∃i:Nat,C7 l s=(i:Int):=⟨(C7 l s).toNat,by omega⟩;refine⟨i,by omega,hi,?_⟩;rw[hi];exact Al (c :=.col) (by omega)
def C4(cols:List Col)(row:List Val):List Str->List Val->List Val×Int
 |[],acc=>(acc,0)
 |s::l,acc=>cond (decide (C7 cols s<0)) ([],150) (C4 cols row l (acc++[at' .val row (C7 cols s)]))
def Bok(R:Type):Px R:=pxO [] [] [] []
def Abn(x:HV [.sv .val,.sv .val]):Option (HV [.int .i64]):=match x with
 |(a,b) =>
 let j:=λ(p1:Bool) =>
  cond (p1) (
  some (-1)) (
  cond (decide (a.kind=b.kind)) (
   cond (decide (a.n=b.n)) (
   cond (Op.bytesLess a.s b.s) (
    some (-1)) (
    cond (decide (a=b)) (
    some 0) (
    some 1))) (
   cond (decide (a=b)) (
    some 0) (
    some 1))) (
   cond (decide (a=b)) (
   some 0) (
   some 1)))
 cond (decide (a.kind<b.kind)) (
  j true) (
  cond (decide (a.kind=b.kind)) (
  j (decide (a.n<b.n))) (
  j false))
theorem Bml:FO 41 [.sv .val,.sv .val] [.int .i64] (Abn):=fR (px:=Bok _) (n:=0) Tryz.func41 rfl (λ_ H=>⟨lv H Ae Aa Ab,Ai⟩) λ(_,_)=>by kernel_rfl
def A26(a:Val)(b:Val):Int :=
 let j:=λ(p1:Bool) =>
  cond (p1) (
  (-1)) (
  cond (decide (a.kind=b.kind)) (
   cond (decide (a.n=b.n)) (
   cond (Op.bytesLess a.s b.s) (
    (-1)) (
    cond (decide (a=b)) (
    0) (
    1))) (
   cond (decide (a=b)) (
    0) (
    1))) (
   cond (decide (a=b)) (
   0) (
   1)))
 cond (decide (a.kind<b.kind)) (
  j true) (
  cond (decide (a.kind=b.kind)) (
  j (decide (a.n<b.n))) (
  j false))
theorem Bl7(x:HV [.sv .val,.sv .val]):Abn x=some (A26 x.1 x.2):=by
 first
  |exact rfl
  |simp only[Abn,A26,Az]
def Biq:FT [.sv .val,.sv .val] [.int .i64]:=λx=>some (A26 x.1 x.2)
theorem Bo9:FO 41 [.sv .val,.sv .val] [.int .i64] Biq :=.fin0 Bml λx _ _ hx=>(Bl7 x).trans hx
theorem Aq3:∀a b:Str,Op.bytesLess a b=decide (Cr a b = -1)
 |[],[]=>rfl
 |[],_::_=>rfl
 |_::_,[]=>rfl
 |a::x,b::y=>by
  have ih:=Aq3 x y;simp only[Op.bytesLess,Cr,Lib.compareBytes] at ih ⊢;by_cases h1:a<b
  ·simp[h1]
  ·by_cases h2:b<a
   ·have h3:¬a=b:=λh=>by subst h;exact h1 h2
    simp[h1,h2,h3]
   ·have h3:a=b:=UInt8.le_antisymm (UInt8.not_lt.1 h2) (UInt8.not_lt.1 h1);simp[h3,ih];exact Zy1.2 Iff.rfl
theorem Aqf:∀a b:Str,Cr a b=0↔a=b
 |[],[]=>by simp[Cr,Lib.compareBytes]
 |[],_::_=>by simp[Cr,Lib.compareBytes]
 |_::_,[]=>by simp[Cr,Lib.compareBytes]
 |a::x,b::y=>by
  have ih:=Aqf x y;simp only[Cr,Lib.compareBytes] at ih ⊢;by_cases h1:a<b
  ·have h3:¬a=b:=λh=>by subst h;exact UInt8.lt_irrefl _ h1
   simp[h1,h3]
  ·by_cases h2:b<a
   ·have h3:¬a=b:=λh=>by subst h;exact h1 h2
    simp[h1,h2,h3]
   ·have h3:a=b:=UInt8.le_antisymm (UInt8.not_lt.1 h2) (UInt8.not_lt.1 h1);simp[h3,ih]
theorem Baz:∀a b:Val,A26 a b=Gu a b
 |⟨k,n,s⟩,⟨k',n',s'⟩=>by
  simp only[A26,Gu,Dj,F2,Aq3];by_cases h1:k<k'
  ·simp[h1]
  ·by_cases h2:k'<k
   ·have h3:¬k=k':=by omega
    simp[h1,h2,h3]
   ·obtain rfl:k=k':=by omega
    by_cases h4:n<n'
    ·simp[h4]
    ·by_cases h5:n'<n
     ·have h6:¬n=n':=by omega
      simp[h4,h5,h6]
     ·obtain rfl:n=n':=by omega
      have h7:=Aqf s s';rcases V6 s s' with h|h|h
      ·simp[h]
      ·have h8:s=s':=h7.1 h;subst h8;simp[h]
      ·have h8:¬s=s':=λe=>by rw[h7.2 e] at h;cases h
       simp[h,h8]
theorem A8q{cols:List Col}{row:List Val}{P:Val->Prop}:∀{l:List Str}{acc:List Val},(∀s,s∈l->¬C7 cols s<0/\P (at' .val row (C7 cols s)))->(∀v,v∈acc->P v)->(C4 cols row l acc).2=0/\∀v,v∈(C4 cols row l acc).1->P v
 |[],acc,_,ha=>⟨rfl,ha⟩
 |s::l,acc,h,ha=>by
  have h1:=h s (by simp);simp only[C4,Zd1 h1.1,Ag];refine A8q (λq hq=>h q (by simp[hq])) λv hv =>?_;rcases List.mem_append.1 hv with hv|hv
  ·exact ha v hv
  ·rw[List.mem_singleton.1 hv];exact h1.2
theorem Awf{cols:List Col}{row:List Val}:∀{l:List Str}{acc:List Val},(C4 cols row l acc).1.length<=acc.length+l.length
 |[],acc=>by simp[C4]
 |s::l,acc=>by simp only[C4];cases decide (C7 cols s<0) with|true=>simp|false =>have:=Awf (cols:=cols) (row:=row) (l:=l) (acc:=acc++[at' .val row (C7 cols s)]);simp only[Ag,Zf1];simp only[Zh1,Zf1,Zi1] at this;omega
def Bvc{R:Type}(c:List (Nat×Ev R))(q:List (Nat×Ed R))(l:List (Nat×Ay2 R))(w:List (Nat×Gi R)):Px R:=withY (pxO c q l w) (pxO [] [] [] [])
theorem Bv7{R:Type}{cx:Cx}{l:List (Nat×Ev R)}{lq:List (Nat×Ed R)}{lp:List (Nat×Ay2 R)}{lw:List (Nat×Gi R)}(H:HX cx)(h:∀g f,(g,f)∈l->Gt cx g f)(hq:∀g f,(g,f)∈lq->Ma cx g f)(hw:∀g f,(g,f)∈lw->Fb cx g f):Lv cx (Bvc l lq lp lw) :=(lv (px:=pxO l lq lp lw) H h hq hw).withY (lv (px:=pxO [] [] [] []) H Ae Aa Ab) (by rw[H.p];exact follows)
theorem fRD{f:FuncId}{fn:Func}{c:Code}{sa sr:List Sg}{px:Px (HV sr)}{F:FT sa sr}(hf:Tryz.prog.funcs[f]? = some fn)(hb:fn.body=some c)(h:∀cx,HX cx->Lv cx px)(hF:∀x,A87 px fn sa sr x some=F x)(hl:∀b st K,px.loop b st K=none:=by exactλ_ _ _=>rfl)(hname:(fn.name == "runtime.NumGoroutine")=false:=by kernel_rfl)(hchk:(Bm fn.ntmps c&&Nat.ble sa.length fn.ntmps&&Cc (A7 0 sa) [])=true:=by kernel_rfl):FO f sa sr F:=fOD (Ajh Xa) follows hf hb hname hchk hl h hF
def Bub(R:Type):Px R:=pxO [] [] [] []
def Ai3(x:HV [.sl .byte false,.sl .byte false]):Option (HV [.bool]):=match x with
 |(a,b) =>
 some (decide (a=b))
theorem Bpb:FO 152 [.sl .byte false,.sl .byte false] [.bool] (Ai3):=fR (px:=Bub _) (n:=0) Tryz.func152 rfl (λ_ H=>⟨lv H Ae Aa Ab,Ai⟩) λ(_,_)=>by kernel_rfl
def beq(a:List UInt8)(b:List UInt8):Bool :=(decide (a=b))
theorem Bpr(x:HV [.sl .byte false,.sl .byte false]):Ai3 x=some (beq x.1 x.2):=by
 first
  |exact rfl
  |simp only[Ai3,beq,Az]
def A7q:FT [.sl .byte false,.sl .byte false] [.bool]:=λx=>some (beq x.1 x.2)
theorem A4g:FO 152 [.sl .byte false,.sl .byte false] [.bool] A7q :=.fin0 Bpb λx _ _ hx=>(Bpr x).trans hx
def Bq0(R:Type):Px R:=pxO [(152,cA A7q)] [] [] []
def Aa8(x:HV [.sl .byte false,.sl .byte false]):Option (HV [.bool]):=match x with
 |(b,a) =>
 cond (decide ((a.length:Int)<=(b.length:Int))) (
  chk (upto 0 (a.length:Int) b.length) (
  some (beq (b.take ((a.length:Int):Int).toNat) a))) (
  some false)
theorem Bko:FO 153 [.sl .byte false,.sl .byte false] [.bool] (Aa8):=fR (px:=Bq0 _) (n:=0) Tryz.func153 rfl (λ_ H=>⟨lv H (c1 H A4g Ae) Aa Ab,Ai⟩) λ(_,_)=>by kernel_rfl
def Bbi(b a:Str):Option Bool:=Aa8 (b,a)
def Aup:FT [.sl .byte false,.sl .byte false] [.bool]:=λx=>Bbi x.1 x.2
theorem Asr:FO 153 [.sl .byte false,.sl .byte false] [.bool] Aup :=.fin0 Bko λ_ _ _ hx=>hx
def Azr:Sig:=⟨21,[(3,.sl .byte true),(6,.sl .byte false),(7,.int .i64),(8,.int .i64)],[],[],0,0,0,[],[]⟩
abbrev Afw:=List UInt8×List UInt8×Int×Int
def Ano{R:Type}(rec:Afw->Option R)(kx:Ex->Afw->Option R)(v:Afw):Option R:=match v with
 |(v,v1,v2,v3) =>
 cond (decide (v3<v2)) (
  chk (inb v3 v1.length) (
  chk (decide (v.length+2<=Ah)) (
   rec ((v++[(UInt8.ofNat ((D5 .u8 ((at' .byte v1 v3).toNat:Int) 4):Int).toNat),(UInt8.ofNat ((G9 .u8 ((at' .byte v1 v3).toNat:Int) 15):Int).toNat)]),v1,v2,(wr .i64 (v3+1)))))) (
  kx (.exit 0) (v,v1,v2,v3))
def Bg1(R:Type)(k:Nat):Px R:=pxO [] [] [(3,Am k Azr (Ano))] []
def Yp(k:Nat)(x:HV [.sl .byte false]):Option (HV [.sl .byte true]):=match x with
 |b =>
 Aj (λrec=>Ano rec (λe vz=>match vz with|(v4,_,_,_)=>match e with
  |.exit 0 =>
  some v4
  |_=>none)) k ([],b,(b.length:Int),0)
theorem Bnm(k:Nat):FO 111 [.sl .byte false] [.sl .byte true] (Yp k):=fR (px:=Bg1 _ k) (n:=1) Tryz.func111 rfl (λcx H=>by have h0:Lv cx (Bg1 (HV [.sl .byte true]) k):=lv H Ae Aa Ab;have hlnof_0:=lO H h0 (b:=lp Tryz.f111 0) (k:=k) (n:=0) (s:=Azr) (step:=Ano) (λ_ _ _ (_,_,_,_)=>by kernel_rfl) Ai;exact⟨h0,(A6 Ai hlnof_0)⟩) λ_=>by kernel_rfl
def nof(b:Str):Option Str:=Yp 2000 b
def A60:FT [.sl .byte false] [.sl .byte true]:=λx=>nof x
theorem A4a:FO 111 [.sl .byte false] [.sl .byte true] A60 :=.fin 0 Bnm λ_ _ _ hx=>⟨2000,hx⟩
def Aoi:Sig:=⟨14,[(2,.bool),(5,.sl .byte false),(6,.int .i64),(7,.int .i64)],[],[],0,0,0,[],[]⟩
abbrev Aa3:=Bool×List UInt8×Int×Int
def Abp{R:Type}(rec:Aa3->Option R)(kx:Ex->Aa3->Option R)(v:Aa3):Option R:=match v with
 |(v,v1,v2,v3) =>
 cond (decide (v3<v2)) (
  chk (inb v3 v1.length) (
  cond (decide (15<((at' .byte v1 v3).toNat:Int))) (
   kx .ret (false,v1,v2,v3)) (
   rec (v,v1,v2,(wr .i64 (v3+1)))))) (
  kx (.exit 0) (v,v1,v2,v3))
def A6i(R:Type)(k:Nat):Px R:=pxO [] [] [(2,Am k Aoi (Abp))] []
def Um(k:Nat)(x:HV [.sl .byte false]):Option (HV [.bool]):=match x with
 |n =>
 Aj (λrec=>Abp rec (λe vz=>match vz with|(v4,_,_,_)=>match e with
  |.ret =>
  some v4
  |.exit 0 =>
  some true
  |_=>none)) k (false,n,(n.length:Int),0)
theorem Be2(k:Nat):FO 211 [.sl .byte false] [.bool] (Um k):=fR (px:=A6i _ k) (n:=1) Tryz.func211 rfl (λcx H=>by have h0:Lv cx (A6i (HV [.bool]) k):=lv H Ae Aa Ab;have hlnhal_0:=lO H h0 (b:=lp Tryz.f211 0) (k:=k) (n:=0) (s:=Aoi) (step:=Abp) (λ_ _ _ (_,_,_,_)=>by kernel_rfl) Ai;exact⟨h0,(A6 Ai hlnhal_0)⟩) λ_=>by kernel_rfl
def Btk(n:Str):Option Bool:=Um 2000 n
def Bff:FT [.sl .byte false] [.bool]:=λx=>Btk x
theorem Brf:FO 211 [.sl .byte false] [.bool] Bff :=.fin 0 Be2 λ_ _ _ hx=>⟨2000,hx⟩
def Aj5:Sig:=⟨26,[(0,.sl .byte false),(3,.sl .byte true),(4,.int .i64)],[],[],0,0,0,[],[]⟩
abbrev Uq:=List UInt8×List UInt8×Int
def Uk{R:Type}(rec:Uq->Option R)(kx:Ex->Uq->Option R)(v:Uq):Option R:=match v with
 |(v,v1,v2) =>
 cond (decide (v2<(v.length:Int))) (
  chk (inb (wr .i64 (v2-1)) v.length) (
  chk (inb v2 v.length) (
   chk (decide (v1.length+1<=Ah)) (
   rec (v,(v1++[(UInt8.ofNat ((ior .u8 (Afp .u8 ((at' .byte v (wr .i64 (v2-1))).toNat:Int) 4) ((at' .byte v v2).toNat:Int)):Int).toNat)]),(wr .i64 (v2+2))))))) (
  kx (.exit 0) (v,v1,v2))
def A0u(R:Type)(k:Nat):Px R:=pxO [] [] [(3,Am k Aj5 (Uk))] []
def Xf(k:Nat)(x:HV [.sl .byte false]):Option (HV [.sl .byte true]):=match x with
 |n =>
 Aj (λrec=>Uk rec (λe vz=>match vz with|(_,v4,_)=>match e with
  |.exit 0 =>
  some v4
  |_=>none)) k (n,[],1)
theorem Ba4(k:Nat):FO 212 [.sl .byte false] [.sl .byte true] (Xf k):=fR (px:=A0u _ k) (n:=1) Tryz.func212 rfl (λcx H=>by have h0:Lv cx (A0u (HV [.sl .byte true]) k):=lv H Ae Aa Ab;have hlnjoin_0:=lO H h0 (b:=lp Tryz.f212 0) (k:=k) (n:=0) (s:=Aj5) (step:=Uk) (λ_ _ _ (_,_,_)=>by kernel_rfl) Ai;exact⟨h0,(A6 Ai hlnjoin_0)⟩) λ_=>by kernel_rfl
def A7k(n:Str):Option Str:=Xf 2000 n
def A71:FT [.sl .byte false] [.sl .byte true]:=λx=>A7k x
theorem Bne:FO 212 [.sl .byte false] [.sl .byte true] A71 :=.fin 0 Ba4 λ_ _ _ hx=>⟨2000,hx⟩
def Bai(R:Type):Px R:=pxO [(211,cA Bff),(212,cA A71)] [] [] []
def Qy(x:HV [.sl .byte false]):Option (HV [.sl .byte true,.int .i64]):=match x with
 |n =>
 (Btk n).bind λx =>
  cond (!x) (
  some ([],2)) (
  cond (decide ((Int.tmod (n.length:Int) 2)=1)) (
   some ([],11)) (
   (A7k n).bind λx1 =>
   some (x1,0)))
theorem A44:FO 241 [.sl .byte false] [.sl .byte true,.int .i64] (Qy):=fR (px:=Bai _) (n:=0) Tryz.func241 rfl (λ_ H=>⟨lv H (c1 H Brf (c1 H Bne Ae)) Aa Ab,Ai⟩) λ_=>by kernel_rfl
def Acw(n:Str):Option (Str×Int):=Qy n
def Aw1:FT [.sl .byte false] [.sl .byte true,.int .i64]:=λx=>Acw x
theorem Bbu:FO 241 [.sl .byte false] [.sl .byte true,.int .i64] Aw1 :=.fin0 A44 λ_ _ _ hx=>hx
def Ap5:Sig:=⟨30,[(0,.sl .byte false),(1,.sl .byte false),(4,.int .i64),(10,.int .i64),(11,.int .i64)],[],[],0,0,0,[],[]⟩
abbrev Yk:=List UInt8×List UInt8×Int×Int×Int
def Xe{R:Type}(rec:Yk->Option R)(kx:Ex->Yk->Option R)(v:Yk):Option R:=match v with
 |(v,v1,v2,v3,v4) =>
 cond (decide (v4<v3)) (
  chk (inb v4 v.length) (
  chk (inb v4 v1.length) (
   cond (!decide (((at' .byte v v4).toNat:Int)=((at' .byte v1 v4).toNat:Int))) (
   kx .ret (v,v1,v4,v3,v4)) (
   rec (v,v1,v2,v3,(wr .i64 (v4+1))))))) (
  kx (.exit 0) (v,v1,v2,v3,v4))
def A7s(R:Type)(k:Nat):Px R:=pxO [] [] [(2,Am k Ap5 (Xe))] []
def Ue(k:Nat)(x:HV [.sl .byte false,.sl .byte false]):Option (HV [.int .i64]):=match x with
 |(a,b) =>
 Aj (λrec=>Xe rec (λe vz=>match vz with|(v5,v6,v7,_,_)=>match e with
  |.ret =>
  some v7
  |.exit 0 =>
  some (min2 (v5.length:Int) (v6.length:Int))
  |_=>none)) k (a,b,0,(min2 (a.length:Int) (b.length:Int)),0)
theorem Bju(k:Nat):FO 200 [.sl .byte false,.sl .byte false] [.int .i64] (Ue k):=fR (px:=A7s _ k) (n:=1) Tryz.func200 rfl (λcx H=>by have h0:Lv cx (A7s (HV [.int .i64]) k):=lv H Ae Aa Ab;have hlncom_0:=lO H h0 (b:=lp Tryz.f200 0) (k:=k) (n:=0) (s:=Ap5) (step:=Xe) (λ_ _ _ (_,_,_,_,_)=>by kernel_rfl) Ai;exact⟨h0,(A6 Ai hlncom_0)⟩) λ(_,_)=>by kernel_rfl
def Bqp(a b:Str):Option Int:=Ue 2000 (a,b)
def A2e:FT [.sl .byte false,.sl .byte false] [.int .i64]:=λx=>Bqp x.1 x.2
theorem A76:FO 200 [.sl .byte false,.sl .byte false] [.int .i64] A2e :=.fin 0 Bju λ_ _ _ hx=>⟨2000,hx⟩
def Bps(R:Type):Px R:=pxO [(200,cA A2e)] [] [] []
def Abd(x:HV [.sl .byte false,.sl .byte false]):Option (HV [.int .i64]):=match x with
 |(a,b) =>
 (Bqp a b).bind λx =>
  let j:=λ(p1:Bool) =>
  cond (p1) (
   some 0) (
   cond (decide (x=(a.length:Int))) (
   some (-1)) (
   cond (decide (x<(b.length:Int))) (
    chk (inb x a.length) (
    chk (inb x b.length) (
     cond (decide (((at' .byte a x).toNat:Int)<((at' .byte b x).toNat:Int))) (
     some (-1)) (
     some 1)))) (
    some 1)))
  cond (decide (x=(a.length:Int))) (
  j (decide (x=(b.length:Int)))) (
  j false)
theorem Bmu:FO 272 [.sl .byte false,.sl .byte false] [.int .i64] (Abd):=fR (px:=Bps _) (n:=0) Tryz.func272 rfl (λ_ H=>⟨lv H (c1 H A76 Ae) Aa Ab,Ai⟩) λ(_,_)=>by kernel_rfl
def A3a(a b:Str):Option Int:=Abd (a,b)
def A10:FT [.sl .byte false,.sl .byte false] [.int .i64]:=λx=>A3a x.1 x.2
theorem A9f:FO 272 [.sl .byte false,.sl .byte false] [.int .i64] A10 :=.fin0 Bmu λ_ _ _ hx=>hx
def Bpy(R:Type):Px R:=pxO [(111,cA A60)] [] [] []
def Adn(x:HV [.sl .byte false,.sl .byte false]):Option (HV [.sv .span]):=match x with
 |(a,b) =>
 (nof a).bind λx =>
  (nof b).bind λx1 =>
  some (SpanS.mk x x1 (decide ((b.length:Int)=0)))
theorem Bkl:FO 115 [.sl .byte false,.sl .byte false] [.sv .span] (Adn):=fR (px:=Bpy _) (n:=0) Tryz.func115 rfl (λ_ H=>⟨lv H (c1 H A4a Ae) Aa Ab,Ai⟩) λ(_,_)=>by kernel_rfl
def Btn(a b:Str):Option SpanS:=Adn (a,b)
def Bm4:FT [.sl .byte false,.sl .byte false] [.sv .span]:=λx=>Btn x.1 x.2
theorem Bqg:FO 115 [.sl .byte false,.sl .byte false] [.sv .span] Bm4 :=.fin0 Bkl λ_ _ _ hx=>hx
def Bg7(R:Type):Px R:=pxO [(272,cA A10)] [] [] []
def Vt(x:HV [.sv .span,.sl .byte false]):Option (HV [.bool]):=match x with
 |(s,w) =>
 (A3a w s.low).bind λx =>
  cond (decide (0<=x)) (
  cond (s.op) (
   some true) (
   (A3a w s.high).bind λx1 =>
   some (decide (x1<0)))) (
  some false)
theorem Bdr:FO 240 [.sv .span,.sl .byte false] [.bool] (Vt):=fR (px:=Bg7 _) (n:=0) Tryz.func240 rfl (λ_ H=>⟨lv H (c1 H A9f Ae) Aa Ab,Ai⟩) λ(_,_)=>by kernel_rfl
def Ayd(s:SpanS)(w:Str):Option Bool:=Vt (s,w)
def A5n:FT [.sv .span,.sl .byte false] [.bool]:=λx=>Ayd x.1 x.2
theorem Bj7:FO 240 [.sv .span,.sl .byte false] [.bool] A5n :=.fin0 Bdr λ_ _ _ hx=>hx
def A22(R:Type):Px R:=pxO [(272,cA A10),(153,cA Aup),(151,cA He)] [] [] []
def Nf(x:HV [.sv .span,.sl .byte false]):Option (HV [.bool]):=match x with
 |(s,w) =>
 let j1:=λ(p1:Bool) =>
  let j:=λ(p2:List UInt8) =>
  cond (p1) (
   cond (s.op) (
   some true) (
   (A3a p2 s.high).bind λx3 =>some (decide (x3<0)))) (
   some false)
  cond (decide ((Int.tmod (w.length:Int) 2)=1)) (
  (Mw w).bind λx2 =>
   chk (decide (x2.length+1<=Ah)) (
   j (x2++[(UInt8.ofNat (0:Int).toNat)]))) (
  j w)
 (A3a w s.low).bind λx =>
  cond (decide (0<=x)) (
  j1 true) (
  (Bbi s.low w).bind λx1 =>j1 x1)
theorem Av3:FO 238 [.sv .span,.sl .byte false] [.bool] (Nf):=fR (px:=A22 _) (n:=0) Tryz.func238 rfl (λ_ H=>⟨lv H (c1 H A9f (c1 H Asr (c1 H Gr Ae))) Aa Ab,Ai⟩) λ(_,_)=>by kernel_rfl
def Afv(s:SpanS)(w:Str):Option Bool:=Nf (s,w)
def Ap8:FT [.sv .span,.sl .byte false] [.bool]:=λx=>Afv x.1 x.2
theorem A4x:FO 238 [.sv .span,.sl .byte false] [.bool] Ap8 :=.fin0 Av3 λ_ _ _ hx=>hx
def Ais:Sig:=⟨19,[(0,.sl .byte false),(4,.int .i64),(7,.int .i64),(8,.int .i64)],[(1,.fn 150 [])],[],80,80,400,[],[]⟩
abbrev Uv:=List UInt8×Int×Int×Int
def S7{R:Type}(rec:Uv->Option R)(kx:Ex->Uv->Option R)(v:Uv):Option R:=match v with
 |(v,v1,v2,v3) =>
 cond (decide (v3<v2)) (
  chk (inb v3 v.length) (
  cond (decide (15<((at' .byte v v3).toNat:Int))) (
   kx .ret (v,v3,v2,v3)) (
   rec (v,v1,v2,(wr .i64 (v3+1)))))) (
  kx (.exit 0) (v,v1,v2,v3))
def P6(R:Type)(_k:Nat):Px R:=pxO [] [] [] []
noncomputable def Aa0(R:Type)(k:Nat):Px R:=pxO [(150,A1 120 600 (P6 R k) Tryz.f150)] [] [(2,Am k Ais (S7))] []
noncomputable def Ajq(R:Type)(k:Nat):Px R:=pxO [(198,A1 80 400 (Aa0 R k) Tryz.f198)] [] [] []
noncomputable def Azs(R:Type)(k:Nat):Px R:=pxO [(149,A1 40 200 (Ajq R k) Tryz.f149)] [] [] []
def Vk(k:Nat)(x:HV [.sl .byte false]):Option (HV [.bool]):=match x with
 |p =>
 Aj (λrec=>S7 rec (λe vz=>match vz with|(_,v5,_,_)=>match e with
  |.ret =>
  some (!(decide (0<=v5)))
  |.exit 0 =>
  some true
  |_=>none)) k (p,0,(p.length:Int),0)
theorem Bas(k:Nat):FO 105 [.sl .byte false] [.bool] (Vk k):=fR (px:=Azs _ k) (n:=0) Tryz.func105 rfl (λcx H=>by have h3:Lv cx (P6 (HV [.bool]) k):=lv H Ae Aa Ab;have h2:Lv cx (Aa0 (HV [.bool]) k):=lv H (Ao (cR H h3 Tryz.func150 rfl (n:=0) (Ai)) Ae) Aa Ab;have hlndhal_0:=lO H h2 (b:=lp Tryz.f198 0) (k:=k) (n:=0) (s:=Ais) (step:=S7) (λ_ _ _ (_,_,_,_)=>by kernel_rfl) Ai;have h1:Lv cx (Ajq (HV [.bool]) k):=lv H (Ao (cR H h2 Tryz.func198 rfl (n:=1) ((A6 Ai hlndhal_0))) Ae) Aa Ab;have h0:Lv cx (Azs (HV [.bool]) k):=lv H (Ao (cR H h1 Tryz.func149 rfl (n:=0) (Ai)) Ae) Aa Ab;exact⟨h0,Ai⟩) λ_=>by kernel_rfl
def A6r(p:Str):Option Bool:=Vk 2000 p
def A6j:FT [.sl .byte false] [.bool]:=λx=>A6r x
theorem Bmb:FO 105 [.sl .byte false] [.bool] A6j :=.fin 0 Bas λ_ _ _ hx=>⟨2000,hx⟩
def Bdg(R:Type):Px R:=pxO [] [] [] []
def Ps(x:HV [.sv .node,.bool,.bool,.bool,.bool]):Option (HV [.bool]):=match x with
 |(n,a,b,c,d) =>
 let j3:=λ(p:Bool) =>
  let j2:=λ(p2:Bool) =>
  let j1:=λ(p4:Bool) =>
   let j:=λ(p6:Bool) =>
   cond (p6) (
    cond (!n.has) (
    some true) (
    some (decide (n.kind=3)))) (
    some false)
   cond (p4) (
   cond (d) (
    j true) (
    j (decide ((n.hash.length:Int)=0)))) (
   j false)
  cond (p2) (
   cond (c) (
   j1 true) (
   j1 (decide ((n.kids.length:Int)=0)))) (
   j1 false)
  cond (p) (
  cond (b) (
   j2 true) (
   j2 (decide ((n.val.length:Int)=0)))) (
  j2 false)
 cond (a) (
  j3 true) (
  j3 (decide ((n.path.length:Int)=0)))
theorem A4e:FO 106 [.sv .node,.bool,.bool,.bool,.bool] [.bool] (Ps):=fR (px:=Bdg _) (n:=0) Tryz.func106 rfl (λ_ H=>⟨lv H Ae Aa Ab,Ai⟩) λ(_,_,_,_,_)=>by kernel_rfl
def Kv(n:NodeS)(a b c d:Bool):Option Bool:=Ps (n,a,b,c,d)
def Avn:FT [.sv .node,.bool,.bool,.bool,.bool] [.bool]:=λx=>Kv x.1 x.2.1 x.2.2.1 x.2.2.2.1 x.2.2.2.2
theorem Bcy:FO 106 [.sv .node,.bool,.bool,.bool,.bool] [.bool] Avn :=.fin0 A4e λ_ _ _ hx=>hx
def Bct(R:Type):Px R:=pxO [] [] [] []
def Qg(x:HV [.int .i64,.bool]):Option (HV [.bool]):=match x with
 |(d,e) =>
 cond (decide (d<=400)) (
  cond (!e) (
  some true) (
  some (decide ((Int.tmod d 2)=0)))) (
  some false)
theorem A1w:FO 107 [.int .i64,.bool] [.bool] (Qg):=fR (px:=Bct _) (n:=0) Tryz.func107 rfl (λ_ H=>⟨lv H Ae Aa Ab,Ai⟩) λ(_,_)=>by kernel_rfl
def Wb(d:Int)(e:Bool):Bool :=
 cond (decide (d<=400)) (
  cond (!e) (
  true) (
  (decide ((Int.tmod d 2)=0)))) (
  false)
theorem A1y(x:HV [.int .i64,.bool]):Qg x=some (Wb x.1 x.2):=by
 first
  |exact rfl
  |simp only[Qg,Wb,Az]
def A05:FT [.int .i64,.bool] [.bool]:=λx=>some (Wb x.1 x.2)
theorem Bbf:FO 107 [.int .i64,.bool] [.bool] A05 :=.fin0 A1w λx _ _ hx=>(A1y x).trans hx
def Aae:Sig:=⟨44,[(1,.int .i64),(2,.bool),(7,.int .i64),(8,.bool),(20,.sl .node false),(21,.int .i64),(22,.int .i64)],[],[],40,40,200,[],[]⟩
abbrev J9:=Int×Bool×Int×Bool×List NodeS×Int×Int
def I4{R:Type}(rf:FT [.sv .node,.int .i64,.bool] [.bool])(rec:J9->Option R)(kx:Ex->J9->Option R)(v:J9):Option R:=match v with
 |(v,v1,v2,v3,v4,v5,v6) =>
 cond (decide (v6<v5)) (
  chk (inb v6 v4.length) (
  (rf ((at' .node v4 v6),(wr .i64 (v+1)),v1)).bind λx7 =>
   cond (!x7) (
   kx (.exit 0) (v,v1,v2,x7,v4,v5,v6)) (
   cond (!decide ((at' .node v4 v6).kind=0)) (
    rec (v,v1,(wr .i64 (v2+1)),x7,v4,v5,(wr .i64 (v6+1)))) (
    rec (v,v1,v2,x7,v4,v5,(wr .i64 (v6+1))))))) (
  kx (.exit 0) (v,v1,v2,v3,v4,v5,v6))
def Yr(R:Type)(k:Nat)(rf:FT [.sv .node,.int .i64,.bool] [.bool]):Px R:=pxO [(68,cA rf)] [] [(7,Am k Aae (I4 rf))] []
noncomputable def Aja(R:Type)(k:Nat)(rf:FT [.sv .node,.int .i64,.bool] [.bool]):Px R:=pxO [(105,cA A6j),(106,cA Avn),(107,cA A05),(68,cA rf),(108,A1 40 200 (Yr R k rf) Tryz.f108)] [] [] []
def Fs(k:Nat)(rf:FT [.sv .node,.int .i64,.bool] [.bool])(x:HV [.sv .node,.int .i64,.bool]):Option (HV [.bool]):=match x with
 |(n,d,e) =>
 let j:=λ(p:Bool) =>
  cond (p) (
  some false) (
  (A6r n.path).bind λx =>
   cond (!x) (
   some false) (
   cond (decide (n.kind=0)) (
    (Kv n false false false false).bind λx1 =>
    some x1) (
    cond (decide (n.kind=1)) (
    (Kv n true true false false).bind λx2 =>
     cond (x2) (
     some (Wb (wr .i64 (d+(n.path.length:Int))) e)) (
     some false)) (
    cond (decide (n.kind=4)) (
     (Kv n false false false true).bind λx3 =>
     cond (x3) (
      some (decide ((n.hash.length:Int)=32))) (
      some false)) (
     cond (decide (n.kind=2)) (
     (Kv n true false true false).bind λx4 =>
      cond (!x4) (
      some false) (
      cond (decide ((n.path.length:Int)=0)) (
       some false) (
       cond (!decide ((n.kids.length:Int)=1)) (
       some false) (
       chk (inb 0 n.kids.length) (
        let j1:=λ(a:Bool) =>
        cond (a) (
         (rf ((at' .node n.kids 0),(wr .i64 (d+(n.path.length:Int))),e)).bind λx5 =>
         some x5) (
         some false)
        cond (decide ((at' .node n.kids 0).kind=3)) (
        j1 true) (
        j1 (decide ((at' .node n.kids 0).kind=4)))))))) (
     cond (decide (n.kind=3)) (
      (Kv n false n.has true false).bind λx6 =>
      let j3:=λ(b:Bool) =>
       cond (b) (
       cond (!decide ((n.kids.length:Int)=16)) (
        some false) (
        let j2:=λ(c:Int) =>
        Aj (λrec=>I4 rf rec (λe vz=>match vz with|(_,_,v9,f,_,_,_)=>match e with
         |.exit 0 =>
         cond (f) (
          some (decide (2<=v9))) (
          some false)
         |_=>none)) k (d,e,c,true,n.kids,(n.kids.length:Int),0)
        cond (n.has) (
        j2 1) (
        j2 0))) (
       some false)
      cond (x6) (
       cond (!n.has) (
       j3 true) (
       j3 (Wb d e))) (
       j3 false)) (
      some false)))))))
 cond (decide (400<d)) (
  j true) (
  j (decide (4000<(n.val.length:Int))))
theorem Axa(k:Nat)(rf:FT [.sv .node,.int .i64,.bool] [.bool])(hrf:FO 68 [.sv .node,.int .i64,.bool] [.bool] rf):FO 68 [.sv .node,.int .i64,.bool] [.bool] (Fs k rf):=fR (px:=Aja _ k rf) (n:=0) Tryz.func68 rfl (λcx H=>by have h1:Lv cx (Yr (HV [.bool]) k rf):=lv H (c1 H hrf Ae) Aa Ab;have hlndright_0:=lO H h1 (b:=lp Tryz.f108 0) (k:=k) (n:=0) (s:=Aae) (step:=I4 rf) (λ_ _ _ (_,_,_,_,_,_,_)=>by kernel_rfl) Ai;have h0:Lv cx (Aja (HV [.bool]) k rf):=lv H (c1 H Bmb (c1 H Bcy (c1 H Bbf (c1 H hrf (Ao (cR H h1 Tryz.func108 rfl (n:=1) ((A6 Ai hlndright_0))) Ae))))) Aa Ab;exact⟨h0,Ai⟩) λ(_,_,_)=>by kernel_rfl
def At3(n:NodeS)(d:Int)(e:Bool):Option Bool:=Aj (Fs 100) 500 (n,d,e)
def Am1:FT [.sv .node,.int .i64,.bool] [.bool]:=λx=>At3 x.1 x.2.1 x.2.2
theorem A1x:FO 68 [.sv .node,.int .i64,.bool] [.bool] Am1 :=.fin0 (FnOk.rec' (Sx.enters_of Tryz.func68 rfl rfl) (λrf hrf=>Axa 100 rf hrf) 500) λ_ _ _ hx=>hx
def A45(R:Type):Px R:=pxO [(68,cA Am1)] [] [] []
def M4(x:HV [.sv .node]):Option (HV [.int .i64]):=match x with
 |n =>
 (At3 n 0 true).bind λx =>
  cond (!x) (
  some 2) (
  some 0)
theorem Aza:FO 29 [.sv .node] [.int .i64] (M4):=fR (px:=A45 _) (n:=0) Tryz.func29 rfl (λ_ H=>⟨lv H (c1 H A1x Ae) Aa Ab,Ai⟩) λ_=>by kernel_rfl
def M6(n:NodeS):Option Int:=M4 n
def Q9:FT [.sv .node] [.int .i64]:=λx=>M6 x
theorem Vo:FO 29 [.sv .node] [.int .i64] Q9 :=.fin0 Aza λ_ _ _ hx=>hx
noncomputable section
noncomputable def Un:Sig:=⟨5,[(0,.sv .span),(1,.sv .node),(2,.sl .byte false),(3,.bool)],[(4,.yl 8)],[(2,.cells [.int .i64]),(3,.cells [.sl .kv false]),(4,.cells [.sl .byte false]),(5,.cells [.int .i64]),(6,.cells [.sl .kv true]),(8,.rc 42 (rd Tryz.f114 0).1 (rd Tryz.f114 0).2.1 (rd Tryz.f114 0).2.2 [(6,.ptr 2 0),(8,.ptr 3 0),(9,.ptr 4 0),(10,.ptr 5 0),(11,.ptr 6 0)] 0)],9,9,0,[],[]⟩
noncomputable def Sb:Sig:=⟨1,[(0,.bool)],[],[(2,.cells [.int .i64]),(3,.cells [.sl .kv false]),(4,.cells [.sl .byte false]),(5,.cells [.int .i64]),(6,.cells [.sl .kv true]),(8,.rc 42 (rd Tryz.f114 0).1 (rd Tryz.f114 0).2.1 (rd Tryz.f114 0).2.2 [(6,.ptr 2 0),(8,.ptr 3 0),(9,.ptr 4 0),(10,.ptr 5 0),(11,.ptr 6 0)] 0)],9,9,0,[],[]⟩
abbrev Nu:=SpanS×NodeS×List UInt8×Bool×Int×List KvS×List UInt8×Int×List KvS×Int
abbrev Gy:=Bool×Int×List KvS×List UInt8×Int×List KvS×Int
noncomputable def Aqu:Sig:=⟨85,[(3,.bool),(10,.bool),(46,.int .i64),(47,.int .i64)],[(5,.ptr 9 0),(6,.ptr 10 0),(7,.ptr 11 0),(9,.ptr 12 0),(11,.fn 239 [.ptr 10 0,.ptr 9 0,.ptr 11 0,.ptr 12 0])],[(2,.cells [.int .i64]),(3,.cells [.sl .kv false]),(4,.cells [.sl .byte false]),(5,.cells [.int .i64]),(6,.cells [.sl .kv true]),(8,.rc 42 (rd Tryz.f114 0).1 (rd Tryz.f114 0).2.1 (rd Tryz.f114 0).2.2 [(6,.ptr 2 0),(8,.ptr 3 0),(9,.ptr 4 0),(10,.ptr 5 0),(11,.ptr 6 0)] 0),(9,.one (.sv .span)),(10,.one (.sv .node)),(11,.cells [.sl .byte false]),(12,.fx [.yl 8])],13,9,0,[],[]⟩
abbrev Pt:=Bool×Bool×Int×Int×Int×List KvS×List UInt8×Int×List KvS×Int×SpanS×NodeS×List UInt8
def Nh{R:Type}(rf:Nu->Option Gy)(rec:Pt->Option R)(kx:Ex->Pt->Option R)(v:Pt):Option R:=match v with
 |(v,v1,v2,v3,w,w1,w2,w3,w4,w5,w6,w7,w8) =>
 cond (decide (v3<v2)) (
  let j2:=λ(a:Int) =>
  let j1:=λ(e:List UInt8) =>
   chk (inb a w7.kids.length) (
   (rf (w6,(at' .node w7.kids a),e,v,w,w1,w2,w3,w4,w5)).bind λ(x6,x7,x8,x9,b,c,d) =>
    cond (!x6) (
    kx .ret (v,false,v2,v3,x7,x8,x9,b,c,d,w6,w7,w8)) (
    rec (v,v1,v2,(wr .i64 (v3+1)),x7,x8,x9,b,c,d,w6,w7,w8)))
  cond (decide (w7.kind=3)) (
   (Mw w8).bind λx5 =>
   chk (decide (x5.length+1<=Ah)) (
    j1 (x5++[(UInt8.ofNat ((wr .u8 a):Int).toNat)]))) (
   j1 w8)
  cond (v) (
  j2 (wr .i64 ((wr .i64 ((w7.kids.length:Int)-1))-v3))) (
  j2 v3)) (
  kx (.exit 0) (v,v1,v2,v3,w,w1,w2,w3,w4,w5,w6,w7,w8))
def Ao0(R:Type)(_k:Nat)(_rf:Nu->Option Gy):Px R:=Bvc [(240,cA A5n),(241,cA Aw1)] [(69,qA Em)] [] []
noncomputable def A75(R:Type)(k:Nat)(rf:Nu->Option Gy):Px R:=Bvc [(238,cA Ap8),(151,cA He),(204,C1 Un Sb rf),(239,A1 80 400 (Ao0 R k rf) Tryz.f239)] [] [(10,Am k Aqu (Nh rf))] []
def Mh(k:Nat)(rf:Nu->Option Gy)(x:Nu):Option (Gy):=match x with
 |(sp,n,way,back,m,r8,r9,e10,o11,jj) =>
 let j5:=λ(q:List UInt8) =>
  cond (decide (n.kind=0)) (
  some (true,m,r8,r9,e10,o11,jj)) (
  (Afv sp q).bind λx =>
   cond (!x) (
   some (true,m,r8,r9,e10,o11,jj)) (
   cond (decide (n.kind=4)) (
    chk (decide (jj=0)) (
    chk (!(List.isEmpty q)) (
     some (false,m,[],q,80,o11,1)))) (
    let j4:=λ(l:List KvS) (o:Int) =>
    Aj (λrec=>Nh rf rec (λe vz=>match vz with|(v4,v5,_,_,v8,v9,b,c,a,d,p,f,i)=>match e with
     |.ret =>
     some (v5,v8,v9,b,c,a,d)
     |.exit 0 =>
     cond (!v4) (
      some (true,v8,v9,b,c,a,d)) (
      let j3:=λ(r:Bool) =>
      cond (r) (
       some (true,v8,v9,b,c,a,d)) (
       (Ayd p i).bind λs =>
       cond (!s) (
        some (true,v8,v9,b,c,a,d)) (
        (Acw i).bind λ(g,_) =>
        (Cb f.val).bind λh =>
         chk (decide (d=0)) (
         chk (decide (a.length+1<=Ah)) (
          cond (decide (((a++[(KvS.mk g h)]).length:Int)=v8)) (
          some (false,v8,v9,b,c,(a++[(KvS.mk g h)]),2)) (
          some (true,v8,v9,b,c,(a++[(KvS.mk g h)]),0))))))
      cond (!decide (f.kind=1)) (
      j3 (!f.has)) (
      j3 false))
     |_=>none)) k (back,false,(n.kids.length:Int),0,m,r8,r9,e10,l,o,sp,n,q)
    cond (!back) (
    let j:=λ(p2:Bool) =>
     cond (p2) (
     j4 o11 jj) (
     (Ayd sp q).bind λx1 =>
      cond (!x1) (
      j4 o11 jj) (
      (Acw q).bind λ(x2,_) =>
       (Cb n.val).bind λx4 =>
       chk (decide (jj=0)) (
        chk (decide (o11.length+1<=Ah)) (
        cond (decide (((o11++[(KvS.mk x2 x4)]).length:Int)=m)) (
         some (false,m,r8,r9,e10,(o11++[(KvS.mk x2 x4)]),2)) (
         j4 (o11++[(KvS.mk x2 x4)]) 0)))))
    cond (!decide (n.kind=1)) (
     j (!n.has)) (
     j false)) (
    j4 o11 jj))))
 cond (List.isEmpty way) (
  cond (List.isEmpty n.path) (
  j5 []) (
  chk (decide (0+n.path.length<=Ah)) (
   j5 ([]++n.path)))) (
  chk (decide (0+way.length<=Ah)) (
  chk (decide (([]++way).length+n.path.length<=Ah)) (
   j5 (([]++way)++n.path))))
theorem Bki(k:Nat)(rf:Nu->Option Gy)(hrf:FM 204 Un Sb rf):FM 204 Un Sb (Mh k rf):=fRL (px:=A75 _ k rf) (n:=1) Tryz.func204 rfl (λcx H=>by have h1:Lv cx (Ao0 (Gy) k rf):=Bv7 H (c1 H Bj7 (c1 H Bbu Ae)) (q1 H D6 Aa) Ab;have h0:Lv cx (A75 (Gy) k rf):=Bv7 H (c1 H A4x (c1 H Gr (l1 H hrf (Ao (cR H h1 Tryz.func239 rfl (n:=0) (Ai)) Ae)))) Aa Ab;have hlwalk_0:=lO H h0 (b:=lp Tryz.f204 0) (k:=k) (n:=0) (s:=Aqu) (step:=Nh rf) (λ_ _ _ (_,_,_,_,_,_,_,_,_,_,_,_,_)=>by kernel_rfl) Ai;exact⟨h0,(A6 Ai hlwalk_0)⟩) λ(_,_,_,_,_,_,_,_,_,_)=>by kernel_rfl
def walk(sp:SpanS)(n:NodeS)(way:Str)(back:Bool)(m:Int)(r8:List KvS)(r9:Str)(e10:Int)(o11:List KvS)(jj:Int):Option Gy:=Aj (V:=Nu) (R:=Gy) (Mh 100) 500 (sp,n,way,back,m,r8,r9,e10,o11,jj)
def Aun:Nu->Option Gy:=λx=>walk x.1 x.2.1 x.2.2.1 x.2.2.2.1 x.2.2.2.2.1 x.2.2.2.2.2.1 x.2.2.2.2.2.2.1 x.2.2.2.2.2.2.2.1 x.2.2.2.2.2.2.2.2.1 x.2.2.2.2.2.2.2.2.2
theorem Bo7:FM 204 Un Sb Aun :=.fin0 (sg:=Un) (so:=Sb) (FnLn.rec' (Sx.enters_of Tryz.func204 rfl rfl) (λrf hrf=>Bki 100 rf hrf) 500) λ_ _ _ hx=>hx
def Aig(R:Type):Px R:=pxO [] [] [] []
def Ak1(R:Type):Px R:=pxO [(204,C1 Un Sb Aun)] [] [] []
noncomputable def A0h(R:Type):Px R:=pxO [(29,cA Q9),(158,A1 40 200 (Aig R) Tryz.f158),(203,A1 80 200 (Ak1 R) Tryz.f203)] [] [] []
def Wc(x:HV [.sv .node,.sv .span,.int .i64,.bool]):Option (HV [.sl .kv false,.sl .byte false,.int .i64]):=match x with
 |(n,s,m,b) =>
 (M6 n).bind λx =>
  cond (!decide (x=0)) (
  some ([],[],2)) (
  cond (decide (m<0)) (
   some ([],[],2)) (
   cond (decide (m=0)) (
   some ([],[],0)) (
   (Aun (s,n,[],b,m,[],[],0,[],0)).bind λ(_,_,x3,x4,x5,x6,x7) =>
    cond (decide (x7=0)) (
    some (x6,[],0)) (
    cond (decide (x7=1)) (
     some (x3,x4,x5)) (
     some (x6,[],0))))))
theorem Bea:FO 114 [.sv .node,.sv .span,.int .i64,.bool] [.sl .kv false,.sl .byte false,.int .i64] (Wc):=fRD (px:=A0h _) Tryz.func114 rfl (λcx H=>by have h1:Lv cx (Aig (HV [.sl .kv false,.sl .byte false,.int .i64])):=lv H Ae Aa Ab;have h2:Lv cx (Ak1 (HV [.sl .kv false,.sl .byte false,.int .i64])):=lv H (l1 H Bo7 Ae) Aa Ab;have h0:Lv cx (A0h (HV [.sl .kv false,.sl .byte false,.int .i64])):=lv H (c1 H Vo (Ao (cR H h1 Tryz.func158 rfl (n:=0) (Ai)) (Ao (cR H h2 Tryz.func203 rfl (n:=0) (Ai)) Ae))) Aa Ab;exact h0) λ(_,_,_,_)=>by kernel_rfl
def Bfk(n:NodeS)(s:SpanS)(m:Int)(b:Bool):Option (List KvS×Str×Int):=Wc (n,s,m,b)
def A5r:FT [.sv .node,.sv .span,.int .i64,.bool] [.sl .kv false,.sl .byte false,.int .i64]:=λx=>Bfk x.1 x.2.1 x.2.2.1 x.2.2.2
theorem Bjx:FO 114 [.sv .node,.sv .span,.int .i64,.bool] [.sl .kv false,.sl .byte false,.int .i64] A5r :=.fin0 Bea λ_ _ _ hx=>hx
def Bcn(R:Type):Px R:=pxO [] [(115,qA Bm4),(114,qA A5r)] [] []
def Q5(x:HV [.sv .node,.sl .byte false,.sl .byte false,.int .i64]):Option (HV [.sl .kv false,.sl .byte false,.int .i64]):=match x with
 |(n,lo,hi,m) =>
 (Btn lo hi).bind λx =>
  (Bfk n x m false).bind λ(x1,x2,x3) =>
  some (x1,x2,x3)
theorem A5e:FO 76 [.sv .node,.sl .byte false,.sl .byte false,.int .i64] [.sl .kv false,.sl .byte false,.int .i64] (Q5):=fR (px:=Bcn _) (n:=0) Tryz.func76 rfl (λ_ H=>⟨lv H Ae (q1 H Bqg (q1 H Bjx Aa)) Ab,Ai⟩) λ(_,_,_,_)=>by kernel_rfl
def Arn(n:NodeS)(lo hi:Str)(m:Int):Option (List KvS×Str×Int):=Q5 (n,lo,hi,m)
def Axh:FT [.sv .node,.sl .byte false,.sl .byte false,.int .i64] [.sl .kv false,.sl .byte false,.int .i64]:=λx=>Arn x.1 x.2.1 x.2.2.1 x.2.2.2
theorem A92:FO 76 [.sv .node,.sl .byte false,.sl .byte false,.int .i64] [.sl .kv false,.sl .byte false,.int .i64] Axh :=.fin0 A5e λ_ _ _ hx=>hx
end
def Am4:Sig:=⟨36,[(6,.sl .byte true),(25,.sl .bytes false),(26,.int .i64),(27,.int .i64)],[],[],0,0,0,[],[]⟩
abbrev Z5:=List UInt8×List (List UInt8)×Int×Int
def V9{R:Type}(rec:Z5->Option R)(kx:Ex->Z5->Option R)(v:Z5):Option R:=match v with
 |(c,b,d,a) =>
 cond (decide (a<d)) (
  chk (inb a b.length) (
  chk (decide (c.length+(at' .bytes b a).length<=Ah)) (
   rec ((c++(at' .bytes b a)),b,d,(wr .i64 (a+1)))))) (
  kx (.exit 2) (c,b,d,a))
def An8:Sig:=⟨36,[(0,.sl .bytes false),(3,.int .i64),(9,.sl .bytes false),(10,.int .i64),(11,.int .i64)],[],[],0,0,0,[],[]⟩
abbrev Aas:=List (List UInt8)×Int×List (List UInt8)×Int×Int
def V8{R:Type}(rec:Aas->Option R)(kx:Ex->Aas->Option R)(v:Aas):Option R:=match v with
 |(v,v1,v2,v3,v4) =>
 cond (decide (v4<v3)) (
  chk (inb v4 v2.length) (
  cond (decide ((wr .i64 (v1+((at' .bytes v2 v4).length:Int)))<0)) (
   none) (
   rec (v,(wr .i64 (v1+((at' .bytes v2 v4).length:Int))),v2,v3,(wr .i64 (v4+1)))))) (
  kx (.exit 0) (v,v1,v2,v3,v4))
def A64(R:Type)(k:Nat):Px R:=pxO [(199,Xz .byte)] [] [(3,Am k An8 (V8)),(11,Am k Am4 (V9))] []
def Acd(k:Nat)(x:HV [.sl .bytes false]):Option (HV [.sl .byte true]):=match x with
 |l =>
 Aj (λrec=>V8 rec (λe vz=>match vz with|(v5,v6,_,_,_)=>match e with
  |.exit 0 =>
  chk (decide ((0:Int)<=v6)&&decide (v6<=(2000000:Int))) (
   Aj (λrec=>V9 rec (λe vz=>match vz with|(a,_,_,_)=>match e with
   |.exit 2 =>some a
   |_=>none)) k ([],v5,(v5.length:Int),0))
  |_=>none)) k (l,0,l,(l.length:Int),0)
theorem Be8(k:Nat):FO 154 [.sl .bytes false] [.sl .byte true] (Acd k):=fR (px:=A64 _ k) (n:=2) Tryz.func154 rfl (λcx H=>by have h0:Lv cx (A64 (HV [.sl .byte true]) k):=lv H (Ao (Ara H Ah9) Ae) Aa Ab;have hlbcat_0:=lO H h0 (b:=lp Tryz.f154 0) (k:=k) (n:=0) (s:=An8) (step:=V8) (λ_ _ _ (_,_,_,_,_)=>by kernel_rfl) Ai;have hlbcat_1:=lO H h0 (b:=lp Tryz.f154 1) (k:=k) (n:=0) (s:=Am4) (step:=V9) (λ_ _ _ (_,_,_,_)=>by kernel_rfl) Ai;exact⟨h0,(A6 (A6 Ai hlbcat_0) hlbcat_1)⟩) λ_=>by kernel_rfl
def Aue(l:List Str):Option Str:=Acd 100 l
def A4y:FT [.sl .bytes false] [.sl .byte true]:=λx=>Aue x
theorem A89:FO 154 [.sl .bytes false] [.sl .byte true] A4y :=.fin 0 Be8 λ_ _ _ hx=>⟨100,hx⟩
def Afb:Sig:=⟨36,[(21,.sl .node false),(22,.int .i64),(23,.int .i64)],[(2,.ptr 1 0),(3,.ptr 2 0)],[(1,.cells [.int .i64,.sl .byte true,.bool,.sl .byte true,.sl .node true,.sl .byte true]),(2,.cells [.int .i64,.sl .byte false,.bool,.sl .byte false,.sl .node true,.sl .byte false])],3,0,0,[],[]⟩
abbrev M2:=List NodeS×Int×Int×Int×List UInt8×Bool×List UInt8×List NodeS×List UInt8×Int×List UInt8×Bool×List UInt8×List NodeS×List UInt8
def Ly{R:Type}(rf:FT [.sv .node] [.sv .node])(rec:M2->Option R)(kx:Ex->M2->Option R)(v:M2):Option R:=match v with
 |(v,v1,v2,w,w1,w2,w3,w4,w5,w6,w7,w8,w9,a,w11) =>
 cond (decide (v2<v1)) (
  chk (inb v2 v.length) (
  (rf (at' .node v v2)).bind λx3 =>
   chk (decide (a.length+1<=Ah)) (
   rec (v,v1,(wr .i64 (v2+1)),w,w1,w2,w3,w4,w5,w6,w7,w8,w9,(a++[x3]),w11)))) (
  kx (.exit 0) (v,v1,v2,w,w1,w2,w3,w4,w5,w6,w7,w8,w9,a,w11))
def Ang(R:Type)(k:Nat)(rf:FT [.sv .node] [.sv .node]):Px R:=pxO [] [(69,qA Em),(30,qA rf)] [(3,Am k Afb (Ly rf))] []
def Gp(k:Nat)(rf:FT [.sv .node] [.sv .node])(x:HV [.sv .node]):Option (HV [.sv .node]):=match x with
 |n =>
 (Cb n.path).bind λx =>
  (Cb n.val).bind λx1 =>
  (Cb n.hash).bind λx2 =>
   Aj (λrec=>Ly rf rec (λe vz=>match vz with|(_,_,_,_,_,_,_,_,_,a,b,c,d,f,g)=>match e with
   |.exit 0 =>some (NodeS.mk a b c d f g)
   |_=>none)) k (n.kids,(n.kids.length:Int),0,0,[],false,[],[],[],n.kind,x,n.has,x1,[],x2)
theorem A5f(k:Nat)(rf:FT [.sv .node] [.sv .node])(hrf:FO 30 [.sv .node] [.sv .node] rf):FO 30 [.sv .node] [.sv .node] (Gp k rf):=fR (px:=Ang _ k rf) (n:=1) Tryz.func30 rfl (λcx H=>by have h0:Lv cx (Ang (HV [.sv .node]) k rf):=lv H Ae (q1 H D6 (q1 H hrf Aa)) Ab;have hlndcopy_0:=lO H h0 (b:=lp Tryz.f30 0) (k:=k) (n:=0) (s:=Afb) (step:=Ly rf) (λ_ _ _ (_,_,_,_,_,_,_,_,_,_,_,_,_,_,_)=>by kernel_rfl) Ai;exact⟨h0,(A6 Ai hlndcopy_0)⟩) λ_=>by kernel_rfl
def Ai2(n:NodeS):Option NodeS:=Aj (Gp 100) 500 n
def Aj6:FT [.sv .node] [.sv .node]:=λx=>Ai2 x
theorem Anr:FO 30 [.sv .node] [.sv .node] Aj6 :=.fin0 (FnOk.rec' (Sx.enters_of Tryz.func30 rfl rfl) (λrf hrf=>A5f 100 rf hrf) 500) λ_ _ _ hx=>hx
def Bn6(R:Type)(rf:FT [.sv .node,.sl .byte false,.sl .byte false] [.sl .byte false,.bool,.nl .byte]):Px R:=pxO [(151,cA He),(152,cA A7q),(153,cA Aup)] [(69,qA Em),(154,qA A4y),(110,qA rf)] [] []
def Ew(rf:FT [.sv .node,.sl .byte false,.sl .byte false] [.sl .byte false,.bool,.nl .byte])(x:HV [.sv .node,.sl .byte false,.sl .byte false]):Option (HV [.sl .byte false,.bool,.nl .byte]):=match x with
 |(n,p,w) =>
 cond (decide (n.kind=4)) (
  (Mw w).bind λ_ =>
  none) (
  cond (decide (n.kind=1)) (
  (Cb n.val).bind λx1 =>some (x1,(beq n.path p),())) (
  cond (decide (n.kind=2)) (
   (Bbi p n.path).bind λx2 =>
   cond (!x2) (
    some ([],false,())) (
    chk (inb 0 n.kids.length) (
    chk (upto (n.path.length:Int) p.length p.length) (
     (Aue [w,n.path]).bind λx3 =>
     (rf ((at' .node n.kids 0),(p.drop ((n.path.length:Int):Int).toNat),x3)).bind λ(x4,x5,_) =>some (x4,x5,()))))) (
   cond (decide (n.kind=3)) (
   cond (decide ((p.length:Int)=0)) (
    (Cb n.val).bind λx7 =>
    some (x7,n.has,())) (
    chk (inb 0 p.length) (
    chk (inb ((at' .byte p 0).toNat:Int) n.kids.length) (
     chk (upto 1 p.length p.length) (
     chk (upto 0 1 p.length) (
      (Aue [w,(p.take (1:Int).toNat)]).bind λx8 =>
      (rf ((at' .node n.kids ((at' .byte p 0).toNat:Int)),(p.drop (1:Int).toNat),x8)).bind λ(x9,a,_) =>some (x9,a,()))))))) (
   some ([],false,())))))
theorem Bfj(rf:FT [.sv .node,.sl .byte false,.sl .byte false] [.sl .byte false,.bool,.nl .byte])(hrf:FO 110 [.sv .node,.sl .byte false,.sl .byte false] [.sl .byte false,.bool,.nl .byte] rf):FO 110 [.sv .node,.sl .byte false,.sl .byte false] [.sl .byte false,.bool,.nl .byte] (Ew rf):=fR (px:=Bn6 _ rf) (n:=0) Tryz.func110 rfl (λ_ H=>⟨lv H (c1 H Gr (c1 H A4g (c1 H Asr Ae))) (q1 H D6 (q1 H A89 (q1 H hrf Aa))) Ab,Ai⟩) λ(_,_,_)=>by kernel_rfl
def Bu5(n:NodeS)(p w:Str):Option (Str×Bool×Unit):=Aj Ew 500 (n,p,w)
def Bni:FT [.sv .node,.sl .byte false,.sl .byte false] [.sl .byte false,.bool,.nl .byte]:=λx=>Bu5 x.1 x.2.1 x.2.2
theorem Bn5:FO 110 [.sv .node,.sl .byte false,.sl .byte false] [.sl .byte false,.bool,.nl .byte] Bni :=.fin0 (FnOk.rec' (Sx.enters_of Tryz.func110 rfl rfl) (λrf hrf=>Bfj rf hrf) 500) λ_ _ _ hx=>hx
def Bac(R:Type):Px R:=pxO [(29,cA Q9)] [] [] []
def Qm(x:HV [.sv .node,.sl .byte false,.sl .byte false]):Option (HV [.bool]):=match x with
 |(n,k,v) =>
 (M6 n).bind λx =>
  cond (decide (x=0)) (
  cond (decide ((k.length:Int)<=200)) (
   some (decide ((v.length:Int)<=4000))) (
   some false)) (
  some false)
theorem A3o:FO 109 [.sv .node,.sl .byte false,.sl .byte false] [.bool] (Qm):=fR (px:=Bac _) (n:=0) Tryz.func109 rfl (λ_ H=>⟨lv H (c1 H Vo Ae) Aa Ab,Ai⟩) λ(_,_,_)=>by kernel_rfl
def Ahw(n:NodeS)(k v:Str):Option Bool:=Qm (n,k,v)
def Aly:FT [.sv .node,.sl .byte false,.sl .byte false] [.bool]:=λx=>Ahw x.1 x.2.1 x.2.2
theorem Am0:FO 109 [.sv .node,.sl .byte false,.sl .byte false] [.bool] Aly :=.fin0 A3o λ_ _ _ hx=>hx
def Brp(R:Type):Px R:=pxO [(109,cA Aly)] [(111,qA A60),(110,qA Bni)] [] []
def Ack(x:HV [.sv .node,.sl .byte false]):Option (HV [.sl .byte false,.bool,.nl .byte,.int .i64]):=match x with
 |(n,k) =>
 (Ahw n k []).bind λx =>
  cond (!x) (
  some ([],false,(),2)) (
  (nof k).bind λx1 =>
   (Bu5 n x1 []).bind λ(x2,x3,_) =>
   cond (!x3) (
    some ([],false,(),0)) (
    some (x2,true,(),0)))
theorem Bir:FO 71 [.sv .node,.sl .byte false] [.sl .byte false,.bool,.nl .byte,.int .i64] (Ack):=fR (px:=Brp _) (n:=0) Tryz.func71 rfl (λ_ H=>⟨lv H (c1 H Am0 Ae) (q1 H A4a (q1 H Bn5 Aa)) Ab,Ai⟩) λ(_,_)=>by kernel_rfl
def Bri(n:NodeS)(k:Str):Option (Str×Bool×Unit×Int):=Ack (n,k)
def Bf4:FT [.sv .node,.sl .byte false] [.sl .byte false,.bool,.nl .byte,.int .i64]:=λx=>Bri x.1 x.2
theorem Box:FO 71 [.sv .node,.sl .byte false] [.sl .byte false,.bool,.nl .byte,.int .i64] Bf4 :=.fin0 Bir λ_ _ _ hx=>hx
def Bht(R:Type):Px R:=pxO [(151,cA He),(69,cA Em)] [] [] []
def W5(x:HV [.sl .byte false,.sl .byte false]):Option (HV [.sv .node]):=match x with
 |(p,v) =>
 (Mw p).bind λx =>
  (Cb v).bind λx1 =>
  some (NodeS.mk 1 x false x1 [] [])
theorem Bej:FO 155 [.sl .byte false,.sl .byte false] [.sv .node] (W5):=fR (px:=Bht _) (n:=0) Tryz.func155 rfl (λ_ H=>⟨lv H (c1 H Gr (c1 H D6 Ae)) Aa Ab,Ai⟩) λ(_,_)=>by kernel_rfl
def Aai(p v:Str):Option NodeS:=W5 (p,v)
def Agi:FT [.sl .byte false,.sl .byte false] [.sv .node]:=λx=>Aai x.1 x.2
theorem Agy:FO 155 [.sl .byte false,.sl .byte false] [.sv .node] Agi :=.fin0 Bej λ_ _ _ hx=>hx
def A9m(R:Type):Px R:=pxO [] [(151,qA He)] [] []
def Qt(x:HV [.sl .byte false,.sv .node]):Option (HV [.sv .node]):=match x with
 |(p,n) =>
 cond (decide ((p.length:Int)=0)) (
  some n) (
  (Mw p).bind λx =>
  some (NodeS.mk 2 x false [] [n] []))
theorem A2a:FO 202 [.sl .byte false,.sv .node] [.sv .node] (Qt):=fR (px:=A9m _) (n:=0) Tryz.func202 rfl (λ_ H=>⟨lv H Ae (q1 H Gr Aa) Ab,Ai⟩) λ(_,_)=>by kernel_rfl
def K3(p:Str)(n:NodeS):Option NodeS:=Qt (p,n)
def Ajf:FT [.sl .byte false,.sv .node] [.sv .node]:=λx=>K3 x.1 x.2
theorem Aqw:FO 202 [.sl .byte false,.sv .node] [.sv .node] Ajf :=.fin0 A2a λ_ _ _ hx=>hx
def Aie(R:Type):Px R:=pxO [(69,cA Em)] [(155,qA Agi)] [] []
def Ajb(R:Type):Px R:=pxO [(69,cA Em)] [(155,qA Agi)] [] []
noncomputable def Au6(R:Type):Px R:=pxO [(200,cA A2e),(202,cA Ajf),(201,Sp 40 200 (Aie R) Tryz.f201 (A1 40 400 (Ajb R) Tryz.f201))] [(202,qA Ajf)] [] []
def Oa(x:HV [.sv .node,.sl .byte false,.sl .byte false]):Option (HV [.sv .node]):=match x with
 |(n,p,v) =>
 (Bqp n.path p).bind λx =>
  cond (decide (n.kind=1)) (
  chk (upto x n.path.length n.path.length) (
   cond (decide (((n.path.drop (x:Int).toNat).length:Int)=0)) (
   (Cb n.val).bind λx1 =>
    chk (upto x p.length p.length) (
    cond (decide (((p.drop (x:Int).toNat).length:Int)=0)) (
     (Cb v).bind λx4 =>
     chk (upto 0 x p.length) (
      chk (decide ((0:Int)<=0)&&decide ((0:Int)<=16)&&decide (16<=((List.replicate (16:Int).toNat (zer .node)).length:Int))) (
      (K3 (p.take (x:Int).toNat) (NodeS.mk 3 [] true x4 (cut (List.replicate (16:Int).toNat (zer .node)) 0 16) [])).bind λx6 =>some x6))) (
     chk (inb 0 ((p.drop (x:Int).toNat).length)) (
     chk (upto 1 (p.drop (x:Int).toNat).length (p.drop (x:Int).toNat).length) (
      (Aai ((p.drop (x:Int).toNat).drop (1:Int).toNat) v).bind λx5 =>
      chk (inO ((at' .byte (p.drop (x:Int).toNat) 0).toNat:Int) 16) (
       chk (inb (0+((at' .byte (p.drop (x:Int).toNat) 0).toNat:Int)) ((List.replicate (16:Int).toNat (zer .node)).length)) (
       chk (upto 0 x p.length) (
        chk (decide ((0:Int)<=0)&&decide ((0:Int)<=16)&&decide (16<=(((List.replicate (16:Int).toNat (zer .node)).set ((0+((at' .byte (p.drop (x:Int).toNat) 0).toNat:Int)):Int).toNat x5).length:Int))) (
        (K3 (p.take (x:Int).toNat) (NodeS.mk 3 [] true x1 (cut ((List.replicate (16:Int).toNat (zer .node)).set ((0+((at' .byte (p.drop (x:Int).toNat) 0).toNat:Int)):Int).toNat x5) 0 16) [])).bind λx7 =>some x7))))))))) (
   chk (inb 0 ((n.path.drop (x:Int).toNat).length)) (
    chk (upto 1 (n.path.drop (x:Int).toNat).length (n.path.drop (x:Int).toNat).length) (
    (Aai ((n.path.drop (x:Int).toNat).drop (1:Int).toNat) n.val).bind λx2 =>
     chk (inO ((at' .byte (n.path.drop (x:Int).toNat) 0).toNat:Int) 16) (
     chk (inb (0+((at' .byte (n.path.drop (x:Int).toNat) 0).toNat:Int)) ((List.replicate (16:Int).toNat (zer .node)).length)) (
      chk (upto x p.length p.length) (
      cond (decide (((p.drop (x:Int).toNat).length:Int)=0)) (
       (Cb v).bind λx8 =>
       chk (upto 0 x p.length) (
        chk (decide ((0:Int)<=0)&&decide ((0:Int)<=16)&&decide (16<=(((List.replicate (16:Int).toNat (zer .node)).set ((0+((at' .byte (n.path.drop (x:Int).toNat) 0).toNat:Int)):Int).toNat x2).length:Int))) (
        (K3 (p.take (x:Int).toNat) (NodeS.mk 3 [] true x8 (cut ((List.replicate (16:Int).toNat (zer .node)).set ((0+((at' .byte (n.path.drop (x:Int).toNat) 0).toNat:Int)):Int).toNat x2) 0 16) [])).bind λb =>some b))) (
       chk (inb 0 ((p.drop (x:Int).toNat).length)) (
       chk (upto 1 (p.drop (x:Int).toNat).length (p.drop (x:Int).toNat).length) (
        (Aai ((p.drop (x:Int).toNat).drop (1:Int).toNat) v).bind λx9 =>
        chk (inO ((at' .byte (p.drop (x:Int).toNat) 0).toNat:Int) 16) (
         chk (inb (0+((at' .byte (p.drop (x:Int).toNat) 0).toNat:Int)) (((List.replicate (16:Int).toNat (zer .node)).set ((0+((at' .byte (n.path.drop (x:Int).toNat) 0).toNat:Int)):Int).toNat x2).length)) (
         chk (upto 0 x p.length) (
          chk (decide ((0:Int)<=0)&&decide ((0:Int)<=16)&&decide (16<=((((List.replicate (16:Int).toNat (zer .node)).set ((0+((at' .byte (n.path.drop (x:Int).toNat) 0).toNat:Int)):Int).toNat x2).set ((0+((at' .byte (p.drop (x:Int).toNat) 0).toNat:Int)):Int).toNat x9).length:Int))) (
          (K3 (p.take (x:Int).toNat) (NodeS.mk 3 [] false [] (cut (((List.replicate (16:Int).toNat (zer .node)).set ((0+((at' .byte (n.path.drop (x:Int).toNat) 0).toNat:Int)):Int).toNat x2).set ((0+((at' .byte (p.drop (x:Int).toNat) 0).toNat:Int)):Int).toNat x9) 0 16) [])).bind λc =>some c))))))))))))))) (
  chk (inb x n.path.length) (
   chk (upto (wr .i64 (x+1)) n.path.length n.path.length) (
   chk (inb 0 n.kids.length) (
    (K3 (n.path.drop ((wr .i64 (x+1)):Int).toNat) (at' .node n.kids 0)).bind λx3 =>
    chk (inO ((at' .byte n.path x).toNat:Int) 16) (
     chk (inb (0+((at' .byte n.path x).toNat:Int)) ((List.replicate (16:Int).toNat (zer .node)).length)) (
     chk (upto x p.length p.length) (
      cond (decide (((p.drop (x:Int).toNat).length:Int)=0)) (
      (Cb v).bind λd =>
       chk (upto 0 x p.length) (
       chk (decide ((0:Int)<=0)&&decide ((0:Int)<=16)&&decide (16<=(((List.replicate (16:Int).toNat (zer .node)).set ((0+((at' .byte n.path x).toNat:Int)):Int).toNat x3).length:Int))) (
        (K3 (p.take (x:Int).toNat) (NodeS.mk 3 [] true d (cut ((List.replicate (16:Int).toNat (zer .node)).set ((0+((at' .byte n.path x).toNat:Int)):Int).toNat x3) 0 16) [])).bind λe =>
        some e))) (
      chk (inb 0 ((p.drop (x:Int).toNat).length)) (
       chk (upto 1 (p.drop (x:Int).toNat).length (p.drop (x:Int).toNat).length) (
       (Aai ((p.drop (x:Int).toNat).drop (1:Int).toNat) v).bind λa =>
        chk (inO ((at' .byte (p.drop (x:Int).toNat) 0).toNat:Int) 16) (
        chk (inb (0+((at' .byte (p.drop (x:Int).toNat) 0).toNat:Int)) (((List.replicate (16:Int).toNat (zer .node)).set ((0+((at' .byte n.path x).toNat:Int)):Int).toNat x3).length)) (
         chk (upto 0 x p.length) (
         chk (decide ((0:Int)<=0)&&decide ((0:Int)<=16)&&decide (16<=((((List.replicate (16:Int).toNat (zer .node)).set ((0+((at' .byte n.path x).toNat:Int)):Int).toNat x3).set ((0+((at' .byte (p.drop (x:Int).toNat) 0).toNat:Int)):Int).toNat a).length:Int))) (
          (K3 (p.take (x:Int).toNat) (NodeS.mk 3 [] false [] (cut (((List.replicate (16:Int).toNat (zer .node)).set ((0+((at' .byte n.path x).toNat:Int)):Int).toNat x3).set ((0+((at' .byte (p.drop (x:Int).toNat) 0).toNat:Int)):Int).toNat a) 0 16) [])).bind λf =>
          some f))))))))))))))
theorem A9r:FO 156 [.sv .node,.sl .byte false,.sl .byte false] [.sv .node] (Oa):=fR (px:=Au6 _) (n:=0) Tryz.func156 rfl (λcx H=>by have h1:Lv cx (Aie (HV [.sv .node])):=lv H (c1 H D6 Ae) (q1 H Agy Aa) Ab;have h2:Lv cx (Ajb (HV [.sv .node])):=lv H (c1 H D6 Ae) (q1 H Agy Aa) Ab;have h0:Lv cx (Au6 (HV [.sv .node])):=lv H (c1 H A76 (c1 H Aqw (Ao (Azl (cR H h1 Tryz.func201 rfl (n:=0) (Ai)) (cR H h2 Tryz.func201 rfl (n:=0) (Ai))) Ae))) (q1 H Aqw Aa) Ab;exact⟨h0,Ai⟩) λ(_,_,_)=>by kernel_rfl
def Al2(n:NodeS)(p v:Str):Option NodeS:=Oa (n,p,v)
def A66:FT [.sv .node,.sl .byte false,.sl .byte false] [.sv .node]:=λx=>Al2 x.1 x.2.1 x.2.2
theorem Bjy:FO 156 [.sv .node,.sl .byte false,.sl .byte false] [.sv .node] A66 :=.fin0 A9r λ_ _ _ hx=>hx
def Boj(R:Type)(rf:FT [.sv .node,.sl .byte false,.sl .byte false,.sl .byte false] [.sv .node,.nl .byte]):Px R:=pxO [(155,cA Agi),(152,cA A7q),(156,cA A66),(153,cA Aup),(157,V1 .node),(69,cA Em)] [(151,qA He),(154,qA A4y),(112,qA rf)] [] []
def H2(rf:FT [.sv .node,.sl .byte false,.sl .byte false,.sl .byte false] [.sv .node,.nl .byte])(x:HV [.sv .node,.sl .byte false,.sl .byte false,.sl .byte false]):Option (HV [.sv .node,.nl .byte]):=match x with
 |(n,p,v,w) =>
 cond (decide (n.kind=4)) (
  (Mw w).bind λ_ =>
  none) (
  cond (decide (n.kind=0)) (
  (Aai p v).bind λx1 =>some (x1,())) (
  cond (decide (n.kind=1)) (
   cond ((beq n.path p)) (
   (Aai p v).bind λx2 =>some (x2,())) (
   (Al2 n p v).bind λx3 =>some (x3,()))) (
   cond (decide (n.kind=2)) (
   (Bbi p n.path).bind λx4 =>
    cond (!x4) (
    (Al2 n p v).bind λx5 =>some (x5,())) (
    chk (inb 0 n.kids.length) (
     chk (upto (n.path.length:Int) p.length p.length) (
     (Aue [w,n.path]).bind λx6 =>
      (rf ((at' .node n.kids 0),(p.drop ((n.path.length:Int):Int).toNat),v,x6)).bind λ(x7,_) =>
      some ((NodeS.mk n.kind n.path n.has n.val [x7] n.hash),()))))) (
   chk (decide (n.kids.length<=2000000)) (
    cond (List.isEmpty n.kids) (
    cond (decide ((p.length:Int)=0)) (
     (Cb v).bind λx9 =>
     some ((NodeS.mk n.kind n.path true x9 [] n.hash),())) (
     chk (inb 0 p.length) (
     chk (inb ((at' .byte p 0).toNat:Int) 0) (
      chk (upto 1 p.length p.length) (
      chk (upto 0 1 p.length) (
       (Aue [w,(p.take (1:Int).toNat)]).bind λb =>
       (rf ((at' .node [] ((at' .byte p 0).toNat:Int)),(p.drop (1:Int).toNat),v,b)).bind λ(_,_) =>
        chk (inb 0 p.length) (
        chk (inb ((at' .byte p 0).toNat:Int) 0) (
         none)))))))) (
    cond (decide ((p.length:Int)=0)) (
     (Cb v).bind λc =>
     chk (decide ((0:Int)<=0)&&decide ((0:Int)<=(n.kids.length:Int))&&decide ((0+(n.kids.length:Int))<=(n.kids.length:Int))) (
      some ((NodeS.mk n.kind n.path true c (cut n.kids 0 (0+(n.kids.length:Int))) n.hash),()))) (
     chk (inb 0 p.length) (
     chk (inO ((at' .byte p 0).toNat:Int) (n.kids.length:Int)) (
      chk (inb (0+((at' .byte p 0).toNat:Int)) n.kids.length) (
      chk (upto 1 p.length p.length) (
       chk (upto 0 1 p.length) (
       (Aue [w,(p.take (1:Int).toNat)]).bind λd =>
        (rf ((at' .node n.kids (0+((at' .byte p 0).toNat:Int))),(p.drop (1:Int).toNat),v,d)).bind λ(a,_) =>
        chk (inb 0 p.length) (
         chk (inO ((at' .byte p 0).toNat:Int) (n.kids.length:Int)) (
         chk (inb (0+((at' .byte p 0).toNat:Int)) n.kids.length) (
          chk (decide ((0:Int)<=0)&&decide ((0:Int)<=(n.kids.length:Int))&&decide ((0+(n.kids.length:Int))<=((n.kids.set ((0+((at' .byte p 0).toNat:Int)):Int).toNat a).length:Int))) (
          some ((NodeS.mk n.kind n.path n.has n.val (cut (n.kids.set ((0+((at' .byte p 0).toNat:Int)):Int).toNat a) 0 (0+(n.kids.length:Int))) n.hash),())))))))))))))))))
theorem Bk3(rf:FT [.sv .node,.sl .byte false,.sl .byte false,.sl .byte false] [.sv .node,.nl .byte])(hrf:FO 112 [.sv .node,.sl .byte false,.sl .byte false,.sl .byte false] [.sv .node,.nl .byte] rf):FO 112 [.sv .node,.sl .byte false,.sl .byte false,.sl .byte false] [.sv .node,.nl .byte] (H2 rf):=fR (px:=Boj _ rf) (n:=0) Tryz.func112 rfl (λ_ H=>⟨lv H (c1 H Agy (c1 H A4g (c1 H Bjy (c1 H Asr (Ao (cCl H Aea Zm) (c1 H D6 Ae)))))) (q1 H Gr (q1 H A89 (q1 H hrf Aa))) Ab,Ai⟩) λ(_,_,_,_)=>by kernel_rfl
def Bt3(n:NodeS)(p v w:Str):Option (NodeS×Unit):=Aj H2 500 (n,p,v,w)
def Bjq:FT [.sv .node,.sl .byte false,.sl .byte false,.sl .byte false] [.sv .node,.nl .byte]:=λx=>Bt3 x.1 x.2.1 x.2.2.1 x.2.2.2
theorem Bn4:FO 112 [.sv .node,.sl .byte false,.sl .byte false,.sl .byte false] [.sv .node,.nl .byte] Bjq :=.fin0 (FnOk.rec' (Sx.enters_of Tryz.func112 rfl rfl) (λrf hrf=>Bk3 rf hrf) 500) λ_ _ _ hx=>hx
def Boo(R:Type):Px R:=pxO [(109,cA Aly),(30,cA Aj6),(111,cA A60),(112,cA Bjq)] [] [] []
def Abz(x:HV [.sv .node,.sl .byte false,.sl .byte false]):Option (HV [.sv .node,.nl .byte,.int .i64]):=match x with
 |(n,k,v) =>
 (Ahw n k v).bind λx =>
  cond (!x) (
  some ((NodeS.mk 0 [] false [] [] []),(),2)) (
  (Ai2 n).bind λx1 =>
   (nof k).bind λx2 =>
   (Bt3 x1 x2 v []).bind λ(x3,_) =>some (x3,(),0))
theorem Bip:FO 73 [.sv .node,.sl .byte false,.sl .byte false] [.sv .node,.nl .byte,.int .i64] (Abz):=fR (px:=Boo _) (n:=0) Tryz.func73 rfl (λ_ H=>⟨lv H (c1 H Am0 (c1 H Anr (c1 H A4a (c1 H Bn4 Ae)))) Aa Ab,Ai⟩) λ(_,_,_)=>by kernel_rfl
def Bo5(n:NodeS)(k v:Str):Option (NodeS×Unit×Int):=Abz (n,k,v)
def Bf6:FT [.sv .node,.sl .byte false,.sl .byte false] [.sv .node,.nl .byte,.int .i64]:=λx=>Bo5 x.1 x.2.1 x.2.2
theorem Bqk:FO 73 [.sv .node,.sl .byte false,.sl .byte false] [.sv .node,.nl .byte,.int .i64] Bf6 :=.fin0 Bip λ_ _ _ hx=>hx
noncomputable section
def Ar1:Sig:=⟨2,[(1,.sl .byte false)],[(0,.ptr 0 0)],[(0,.cells [.int .i64,.sl .byte false,.bool,.sl .byte false,.sl .node false,.sl .byte false,.sl .stt false,.sl .byte false])],1,1,0,[],[]⟩
def Ath:Sig:=⟨3,[(0,.sl .byte false),(1,.bool),(2,.int .i64)],[],[(0,.cells [.int .i64,.sl .byte false,.bool,.sl .byte false,.sl .node false,.sl .byte false,.sl .stt false,.sl .byte false])],1,1,0,[],[]⟩
abbrev Bi2:=List UInt8×Int×List UInt8×Bool×List UInt8×List NodeS×List UInt8×List NodeS×List UInt8
abbrev Asx:=List UInt8×Bool×Int×Int×List UInt8×Bool×List UInt8×List NodeS×List UInt8×List NodeS×List UInt8
def Ane(R:Type):Px R:=pxO [] [] [] []
noncomputable def A52(R:Type):Px R:=pxO [(71,cA Bf4),(72,A1 80 400 (Ane R) Tryz.f72)] [] [] []
def R2(x:Bi2):Option (Asx):=match x with
 |(k,a,b,c,d,e,f,g,h) =>
 (Bri (NodeS.mk a b c d e f) k).bind λ(x,x1,_,x3) =>
  cond (decide (x3=80)) (
  some (x,x1,x3,a,b,c,d,e,f,g,[])) (
  some (x,x1,x3,a,b,c,d,e,f,g,h))
theorem Bj6:FM 32 Ar1 Ath (R2):=fRL (px:=A52 _) (n:=0) Tryz.func32 rfl (λcx H=>by have h1:Lv cx (Ane (Asx)):=lv H Ae Aa Ab;have h0:Lv cx (A52 (Asx)):=lv H (c1 H Box (Ao (cR H h1 Tryz.func72 rfl (n:=0) (Ai)) Ae)) Aa Ab;exact⟨h0,Ai⟩) λ(_,_,_,_,_,_,_,_,_)=>by kernel_rfl
def Atc:Bi2->Option Asx:=λx=>R2 x
theorem Bq9:FM 32 Ar1 Ath (Atc):=Bj6
def Auu:Sig:=⟨3,[(1,.sl .byte false),(2,.sl .byte false)],[(0,.ptr 0 0)],[(0,.cells [.int .i64,.sl .byte false,.bool,.sl .byte false,.sl .node false,.sl .byte false,.sl .stt false,.sl .byte false])],1,1,0,[],[]⟩
def Atu:Sig:=⟨1,[(0,.int .i64)],[],[(0,.cells [.int .i64,.sl .byte false,.bool,.sl .byte false,.sl .node false,.sl .byte false,.sl .stt false,.sl .byte false])],1,1,0,[],[]⟩
abbrev Bmz:=List UInt8×List UInt8×Int×List UInt8×Bool×List UInt8×List NodeS×List UInt8×List NodeS×List UInt8
abbrev Auc:=Int×Int×List UInt8×Bool×List UInt8×List NodeS×List UInt8×List NodeS×List UInt8
def Ape(R:Type):Px R:=pxO [] [] [] []
noncomputable def A5o(R:Type):Px R:=pxO [(73,cA Bf6),(72,A1 80 400 (Ape R) Tryz.f72)] [] [] []
def Rw(x:Bmz):Option (Auc):=match x with
 |(k,v,a,b,c,d,e,f,g,h) =>
 (Bo5 (NodeS.mk a b c d e f) k v).bind λ(x,_,x2) =>
  cond (decide (x2=0)) (
  cond (decide (x2=80)) (
   some (x2,x.kind,x.path,x.has,x.val,x.kids,x.hash,g,[])) (
   some (x2,x.kind,x.path,x.has,x.val,x.kids,x.hash,g,h))) (
  cond (decide (x2=80)) (
   some (x2,a,b,c,d,e,f,g,[])) (
   some (x2,a,b,c,d,e,f,g,h)))
theorem Bi7:FM 33 Auu Atu (Rw):=fRL (px:=A5o _) (n:=0) Tryz.func33 rfl (λcx H=>by have h1:Lv cx (Ape (Auc)):=lv H Ae Aa Ab;have h0:Lv cx (A5o (Auc)):=lv H (c1 H Bqk (Ao (cR H h1 Tryz.func72 rfl (n:=0) (Ai)) Ae)) Aa Ab;exact⟨h0,Ai⟩) λ(_,_,_,_,_,_,_,_,_,_)=>by kernel_rfl
def As2:Bmz->Option Auc:=λx=>Rw x
theorem Bpp:FM 33 Auu Atu (As2):=Bi7
def Ac8:Sig:=⟨4,[(1,.sl .byte false),(2,.sl .byte false),(3,.int .i64)],[(0,.ptr 0 0)],[(0,.cells [.int .i64,.sl .byte false,.bool,.sl .byte false,.sl .node false,.sl .byte false,.sl .stt false,.sl .byte false])],1,1,0,[],[]⟩
def Acu:Sig:=⟨2,[(0,.sl .kv false),(1,.int .i64)],[],[(0,.cells [.int .i64,.sl .byte false,.bool,.sl .byte false,.sl .node false,.sl .byte false,.sl .stt false,.sl .byte false])],1,1,0,[],[]⟩
abbrev A0y:=List UInt8×List UInt8×Int×Int×List UInt8×Bool×List UInt8×List NodeS×List UInt8×List NodeS×List UInt8
abbrev Y0:=List KvS×Int×Int×List UInt8×Bool×List UInt8×List NodeS×List UInt8×List NodeS×List UInt8
def Aep(R:Type):Px R:=pxO [] [] [] []
noncomputable def Ann(R:Type):Px R:=pxO [(76,cA Axh),(72,A1 80 400 (Aep R) Tryz.f72)] [] [] []
def J3(x:A0y):Option (Y0):=match x with
 |(lo,hi,m,a,b,c,d,e,f,g,h) =>
 (Arn (NodeS.mk a b c d e f) lo hi m).bind λ(x,x1,x2) =>
  cond (decide (x2=80)) (
  chk (decide (0+x1.length<=Ah)) (
   some (x,x2,a,b,c,d,e,f,g,([]++x1)))) (
  some (x,x2,a,b,c,d,e,f,g,h))
theorem A3m:FM 37 Ac8 Acu (J3):=fRL (px:=Ann _) (n:=0) Tryz.func37 rfl (λcx H=>by have h1:Lv cx (Aep (Y0)):=lv H Ae Aa Ab;have h0:Lv cx (Ann (Y0)):=lv H (c1 H A92 (Ao (cR H h1 Tryz.func72 rfl (n:=0) (Ai)) Ae)) Aa Ab;exact⟨h0,Ai⟩) λ(_,_,_,_,_,_,_,_,_,_,_)=>by kernel_rfl
def Yj:A0y->Option Y0:=λx=>J3 x
theorem Bb4:FM 37 Ac8 Acu (Yj):=A3m
end
def tbL(R:Type):List (Nat×Ev R):=[
 (38,cA Af0),
 (69,cA Em),
 (151,cA He),
 (157,V1 .node),
 (199,Xz .byte),
 (113,Xz .val),
 (70,Xz .kv),
 (124,cA Aab)]
theorem Bgt{R:Type}{cx:Cx}(H:HX cx):∀g f,(g,f)∈tbL R->Gt cx g f:=(c1 H (Axy) (c1 H (D6) (c1 H (Gr) (Ao (cCl H Aea Zm) (Ao (Ara H Ah9) (Ao (Ara H Aho) (Ao (Ara H Aqe) (c1 H (Aqc) Ae))))))))
def tbT(R:Type)(g:Nat):Option (Ev R):=tbl (tbL R) g
def tqL(R:Type):List (Nat×Ed R):=[
 (69,qA Em),
 (151,qA He)]
theorem Bf9{R:Type}{cx:Cx}(H:HX cx):∀g f,(g,f)∈tqL R->Ma cx g f:=(q1 H (D6) (q1 H (Gr) Aa))
def tqT(R:Type)(g:Nat):Option (Ed R):=tbl (tqL R) g
def swL:List (Nat×(Sig×Sig)):=[
 (32,(⟨2,[(1,.sl .byte false)],[(0,.ptr 0 0)],[(0,.cells [.int .i64,.sl .byte false,.bool,.sl .byte false,.sl .node false,.sl .byte false,.sl .stt true,.sl .byte false])],1,1,0,[],[]⟩,⟨3,[(0,.sl .byte false),(1,.bool),(2,.int .i64)],[],[(0,.cells [.int .i64,.sl .byte false,.bool,.sl .byte false,.sl .node false,.sl .byte false,.sl .stt true,.sl .byte false])],1,1,0,[],[]⟩)),
 (13,(⟨3,[(1,.sv .tbl),(2,.sl .val false)],[(0,.ptr 0 0)],[(0,.cells [.int .i64,.sl .byte false,.bool,.sl .byte false,.sl .node false,.sl .byte false,.sl .stt true,.sl .byte false])],1,1,0,[],[]⟩,⟨1,[(0,.int .i64)],[],[(0,.cells [.int .i64,.sl .byte false,.bool,.sl .byte false,.sl .node false,.sl .byte false,.sl .stt true,.sl .byte false])],1,1,0,[],[]⟩)),
 (18,(⟨4,[(1,.sv .tbl),(2,.str),(3,.sv .val)],[(0,.ptr 0 0)],[(0,.cells [.int .i64,.sl .byte false,.bool,.sl .byte false,.sl .node false,.sl .byte false,.sl .stt true,.sl .byte false])],1,1,0,[],[]⟩,⟨2,[(0,.sl .vals false),(1,.int .i64)],[],[(0,.cells [.int .i64,.sl .byte false,.bool,.sl .byte false,.sl .node false,.sl .byte false,.sl .stt true,.sl .byte false])],1,1,0,[],[]⟩)),
 (21,(⟨3,[(1,.sv .tbl),(2,.sl .val false)],[(0,.ptr 0 0)],[(0,.cells [.int .i64,.sl .byte false,.bool,.sl .byte false,.sl .node false,.sl .byte false,.sl .stt true,.sl .byte false])],1,1,0,[],[]⟩,⟨3,[(0,.sl .val false),(1,.bool),(2,.int .i64)],[],[(0,.cells [.int .i64,.sl .byte false,.bool,.sl .byte false,.sl .node false,.sl .byte false,.sl .stt true,.sl .byte false])],1,1,0,[],[]⟩)),
 (59,(⟨3,[(1,.sl .byte false),(2,.sl .vals false)],[(0,.ptr 0 0)],[(0,.cells [.sl .kv true,.int .i64])],1,1,0,[],[]⟩,⟨0,[],[],[(0,.cells [.sl .kv true,.int .i64])],1,1,0,[],[]⟩))]
def swT(g:Nat):Option (Sig×Sig):=tbl swL g
def fnL:List Nat:=[8,9,12,13,16,18,21,24,25,26,29,30,31,32,33,34,35,36,37,39,41,45,46,47,48,52,53,54,55,56,57,58,59,68,71,72,73,74,75,76,77,80,81,82,86,87,88,89,90,91,92,93,94,95,96,105,106,107,108,109,110,111,112,114,115,116,117,123,125,129,130,131,132,133,134,135,136,137,138,139,140,149,150,152,153,154,155,156,158,159,160,161,162,168,176,177,178,179,180,181,182,183,184,185,186,187,188,189,190,191,192,198,200,201,202,203,204,205,206,211,212,213,214,215,216,217,218,219,220,221,222,223,224,225,227,228,229,230,231,232,233,238,239,240,241,251,252,253,254,255,256,257,258,259,260,261,262,263,264,265,266,267,268,272,277,278]
noncomputable def A7r(g:Nat):Option Func:=match fnL.contains g with|true=>Tryz.prog.funcs.toList[g]?|false=>none
theorem Bum:(fnL.all λg=>match Tryz.prog.funcs.toList[g]? with
  |some fn => !(fn.name == "runtime.NumGoroutine")&&match fn.body with|some c=>Bm fn.ntmps c|none=>false
  |none=>true)=true:=by kernel_rfl
theorem Avo:Aed Tryz.prog A7r:=by
 intro g fn h;unfold A7r at h;split at h
 ·rename_i hc;have h1:=Zg2.1 Bum g (by simpa using hc);rw[h] at h1;simp only[Zb1,Bool.not_eq_true'] at h1;refine⟨by simpa using h,h1.1,?_⟩;cases hb:fn.body with|none=>rw[hb] at h1;simp at h1|some c=>rw[hb] at h1;exact⟨c,rfl,h1.2⟩
 ·cases h
noncomputable def Amo(R:Type):Px R:=co (Ag6 ttL) glT A7r tbT tqT swT 3000 R
theorem Aa1{cx:Cx}(e1:cx.P=Tryz.prog)(e2:cx.el=elT)(e3:cx.gl=glT):HX cx:=⟨e1,e2,e3,Ajh Xa,follows⟩
theorem Bf2:(swL.all λq=>lnB q.2.1 q.2.2)=true:=by kernel_rfl
theorem A8r(R:Type)(cx:Cx)(e1:cx.P=Tryz.prog)(e2:cx.el=elT)(e3:cx.gl=glT):Lv2 cx (Amo R) :=Avm follows (Ajh Xa) Avo (λR cx e1 e2 e3 g f h=>Bgt (Aa1 e1 e2 e3) g f (Df h)) (λR cx e1 e2 e3 g f h=>Bf9 (Aa1 e1 e2 e3) g f (Df h)) (λg q h=>Zg2.1 Bf2 (g,q) (Df h)) 3000 R cx e1 e2 e3
theorem Bxc{f:FuncId}{fn:Func}{c:Code}{sr:List Sg}{r:HV sr}(hf:Tryz.prog.funcs[f]? = some fn)(hb:fn.body=some c)(hname:(fn.name == "runtime.NumGoroutine")=false)(hc:(Bm fn.ntmps c)=true)(hr:Zj (Amo (HV sr)) fn [] sr () some=some r):FO f [] sr (λ_=>some r):=by refine Agb hf hb hname follows (px:=Amo (HV sr)) (by rw[hc];simp[A7,Cc]) (λcx e1 e2 e3 _ =>?_) (λ_=>hr);have h:=(A8r (HV sr) cx e1 e2 e3).to1;exact⟨h.1,h.2.1,h.2.2.1,λb _=>h.2.2.2 b⟩
end Go.Proofs.YtcoaaebppfbbnaaGreatDoor
