/- Texts of the proof,one behind the other: Zl,Fe,Ob,Oq,Zw,Da,Db,Oc,Ora,Od,Oe,Oi,Oj,Ok,Ol,Om,Oh,On,Ooa,Oo,Or,Rv,Ty2,Ni,Nod,Sea,Tri,Trp,Sto,Ce. -/
import Derived.Test.YtcoaaebppfbbnaaGreatDoorK6
set_option linter.all false
namespace Go.Proofs.YtcoaaebppfbbnaaGreatDoor
open Go.Ax
theorem Wo:∀{cols:List Col}{row:List Val},Ha cols row=true->∀(i:Nat) (h1:i<cols.length) (h2:i<row.length),Aas row[i] cols[i].kind=true
 |[],_,_,i,h1,_=>by simp at h1
 |_::_,[],_,i,_,h2=>by simp at h2
 |c::cs,v::vs,h,i,h1,h2=>by simp only[Ha,Zb1] at h;cases i with|zero=>exact h.1|succ i=>exact Wo h.2 i (by simpa using h1) (by simpa using h2)
theorem Aq6{v:Val}{k:Int}:Aas v k=true↔Aq v=true/\(v.kind=1\/v.kind=k):=by simp only[Aas];cases Aq v<;>simp
theorem Aej(b:Bool):Aq (Fy b)=true/\(Fy b).kind=2:=by cases b<;>decide
theorem A4r:Aq ⟨1,0,[]⟩=true:=by decide
theorem Bbx(n:Int):Aq ⟨3,n,[]⟩=true:=by simp[Aq]
theorem Bta(a b:Int):(Afm a b).2=0\/(Afm a b).2=20:=by simp only[Afm];cases decide (decide (a<wr .i64 (a+b))=decide (0<b))<;>simp
theorem Bmv(a b:Int):(Pi a b).2=0\/(Pi a b).2=20:=by simp only[Pi];cases decide (decide (wr .i64 (a-b)<a)=decide (0<b))<;>simp
theorem Bs7(a b:Int):(Afr a b).2=0\/(Afr a b).2=20:=by simp only[Afr];generalize decide (0<(Im (Du a) (Du b)).1)=p;generalize decide ((Im (Du a) (Du b)).2=9223372036854775808)=q;generalize decide (9223372036854775808<(Im (Du a) (Du b)).2)=r;generalize (!decide ((decide (a<0))=(decide (b<0))))=t;cases p<;>cases q<;>cases r<;>cases t<;>simp
theorem Bqc(k a b:Int):(∃n,U0 k a b=(⟨3,n,[]⟩,0))\/U0 k a b=(⟨0,0,[]⟩,20):=by
 have h1:=Bta a b;have h2:=Bmv a b;have h3:=Bs7 a b;have h4:=Bmv 0 a;simp only[U0,Bool.cond_decide];split
 ·rcases h1 with h|h<;>simp[h]
 ·split
  ·rcases h2 with h|h<;>simp[h]
  ·split
   ·rcases h3 with h|h<;>simp[h]
   ·rcases h4 with h|h<;>simp[h]
theorem Bhz(k:Int)(l:List Val):(∃b,Ad1 k l=Fy b)\/Ad1 k l=⟨1,0,[]⟩:=by
 simp only[Ad1];cases l.any λv=>decide (v=Fy (decide (k=5)))
 ·cases l.any Ii
  ·exact .inl ⟨_,rfl⟩
  ·exact .inr rfl
 ·exact .inl ⟨_,rfl⟩
def Bdh(v:Val)(f k:Int):Prop:=(f=0/\Aq v=true/\(v.kind=1\/v.kind=k))\/(f=20/\v=⟨0,0,[]⟩)
theorem Nt(b:Bool):Bdh (Fy b) 0 2 :=.inl ⟨rfl,(Aej b).1,.inr (Aej b).2⟩
theorem Sv(k:Int):Bdh ⟨1,0,[]⟩ 0 k :=.inl ⟨rfl,A4r,.inl rfl⟩
theorem Az5(k a b:Int):Bdh (U0 k a b).1 (U0 k a b).2 3:=by
 rcases Bqc k a b with ⟨n,h⟩|h
 ·rw[h];exact .inl ⟨rfl,Bbx n,.inr rfl⟩
 ·rw[h];exact .inr ⟨rfl,rfl⟩
theorem Ahq(k:Int)(l:List Val):Bdh (Ad1 k l) 0 2:=by
 rcases Bhz k l with ⟨b,h⟩|h
 ·rw[h];exact Nt b
 ·rw[h];exact Sv 2
theorem Br2{e:Xpr}{cols:List Col}{a b:Int}(h:(Pe e cols a b).2=0)(h3:e.kind=3\/e.kind=4\/e.kind=5):Pe e cols a b=(2,0):=by
 simp only[Pe] at h ⊢;rw[if_neg (by omega),if_neg (by omega),if_neg (by omega),if_pos h3] at h ⊢;split at h
 ·rename_i hc;rw[if_pos hc]
 ·simp at h
theorem Br1{e:Xpr}{cols:List Col}{a b:Int}(h:(Pe e cols a b).2=0)(h3:e.kind=12\/e.kind=13\/e.kind=14\/e.kind=15):Pe e cols a b=(3,0):=by
 simp only[Pe] at h ⊢;rw[if_neg (by omega),if_neg (by omega),if_neg (by omega),if_neg (by omega),if_pos h3] at h ⊢;split at h
 ·rename_i hc;rw[if_pos hc]
 ·simp at h
theorem Bv6{e:Xpr}{cols:List Col}{a b:Int}(h:(Pe e cols a b).2=0)(h3 : 6<=e.kind/\e.kind<=11):Pe e cols a b=(2,0):=by
 simp only[Pe] at h ⊢;rw[if_neg (by omega),if_neg (by omega),if_neg (by omega),if_neg (by omega),if_neg (by omega)] at h ⊢;split at h
 ·rename_i hc;rw[if_pos hc]
 ·simp at h
theorem Bu0{e:Xpr}{cols:List Col}{a b:Int}(h3:e.kind=16):Pe e cols a b=(2,0):=by simp only[Pe];rw[if_neg (by omega),if_neg (by omega),if_pos h3]
theorem N6{cols:List Col}{row:List Val}(hf:Ha cols row=true):∀(n:Nat) (e:Xpr) (m:Int),Be e<=n->B1 e m=true->(Bj e cols).2=0->∃v f,Q0 e cols row=some (v,f)/\Bdh v f (Bj e cols).1
 |0,e,_,h,_,_=>by have:=Hw e;omega
 |n+1,e,m,h,hr,hk=>by
  obtain⟨hp,hok,hs⟩:=Atc hr;rw[Mj] at h;rw[Au8] at hk ⊢;rw[A0z];have i1:∀v:Val,inb 0 [v].length=true:=λv=>rfl;have i2:∀v u:Val,inb 0 [v,u].length=true:=λv u=>rfl;have i3:∀v u:Val,inb 1 [v,u].length=true:=λv u=>rfl;rcases A3o e.kind with ⟨h0,hk0⟩|⟨h0,hk1⟩|⟨h0,hk2⟩|h0
  ·
   have hl:e.l=[]:=List.eq_nil_of_length_eq_zero (by omega);rw[hl] at hk ⊢;simp only[kindL,Ay4,evalL] at hk ⊢;have hc:chk (decide (([]:List Xpr).length<=Ah))=λx:Option (Val×Int)=>x:=rfl;rw[hc];simp only[if_true];rcases hk0 with h1|h2
   ·refine⟨e.v,0,by simp[A2a,h1],.inl ⟨rfl,?_,.inr ?_⟩⟩
    ·simp only[eok,h1] at hok;simp only[decide_true,Af,Zb1,Zg1] at hok;exact Ak3.1 hok.1.1
    ·simp[Pe,h1]
   ·simp only[Pe,h2] at hk ⊢;simp only[show ¬((2:Int)=1) by decide,if_false,if_true] at hk ⊢;by_cases hfd:C8 cols e.name<0
    ·simp[hfd] at hk
    ·rw[if_neg hfd];have hlen:=Jl hf;have hrg:=Wu cols e.name;obtain⟨i,hi⟩:∃i:Nat,C8 cols e.name=(i:Int):=⟨(C8 cols e.name).toNat,by omega⟩;have h1:i<cols.length:=by omega
     have h2':i<row.length:=by omega
     have hfit:=Wo hf i h1 h2';rw[Aq6] at hfit;refine⟨row[i],0,?_,.inl ⟨rfl,hfit.1,?_⟩⟩
     ·simp only[A2a,h2];rw[hi,As h2',Al (c :=.val) h2'];rfl
     ·rw[hi,Al (c :=.col) h1];exact hfit.2
  ·
   obtain⟨x,hl⟩:∃x,e.l=[x]:=List.length_eq_one_iff.1 (by omega);rw[hl] at hk hs ⊢;simp only[kindL,Ay4,erights,Bool.and_true] at hk hs ⊢;have hx0:(Bj x cols).2=0:=by
    by_cases hx:(Bj x cols).2=0
    ·exact hx
    ·rw[if_neg hx] at hk;exact absurd hk hx
   rw[if_pos hx0] at hk ⊢;obtain⟨v,f,hv,hg⟩:=N6 hf n x _ (by rw[hl] at h;simp only[esizes] at h;omega) hs hx0;simp only[evalL,hv];rcases hg with ⟨rfl,hg⟩|⟨rfl,rfl⟩
   ·simp only[if_true];have hc:chk (decide (([x]:List Xpr).length<=Ah))=λy:Option (Val×Int)=>y:=rfl;rw[hc];simp only[A2a];have at0:at' .val [v] 0=v:=rfl;rcases hk1 with h3|h15|h16
    ·rw[Br2 hk (.inl h3)];simp only[h3,show decide ((3:Int)=1)=false from rfl,show decide ((3:Int)=2)=false from rfl,show decide ((3:Int)=16)=false from rfl,show decide ((3:Int)=4)=false from rfl,show decide ((3:Int)=5)=false from rfl,Ag,decide_true,Af,i1,chk,at0];cases [v].any Ii
     ·exact⟨_,_,rfl,Nt _⟩
     ·exact⟨_,_,rfl,Sv _⟩
    ·rw[Br1 hk (.inr (.inr (.inr h15)))];simp only[h15,show decide ((15:Int)=1)=false from rfl,show decide ((15:Int)=2)=false from rfl,show decide ((15:Int)=16)=false from rfl,show decide ((15:Int)=3)=false from rfl,show decide ((15:Int)=4)=false from rfl,show decide ((15:Int)=5)=false from rfl,Ag,decide_true,Af,i1,chk,at0];cases [v].any Ii
     ·exact⟨_,_,rfl,Az5 _ _ _⟩
     ·exact⟨_,_,rfl,Sv _⟩
    ·rw[Bu0 h16];simp only[h16,show decide ((16:Int)=1)=false from rfl,show decide ((16:Int)=2)=false from rfl,decide_true,Ag,Af];exact⟨_,_,rfl,Nt _⟩
   ·exact⟨_,_,rfl,.inr ⟨rfl,rfl⟩⟩
  ·
   obtain⟨x,y,hl⟩:∃x y,e.l=[x,y]:=by match hq:e.l,(show e.l.length=2 by omega) with|[x,y],_=>exact⟨x,y,rfl⟩
   rw[hl] at hk hs ⊢;simp only[kindL,Ay4,erights,Bool.and_true,Zb1] at hk hs ⊢;have hx0:(Bj x cols).2=0:=by
    by_cases hx:(Bj x cols).2=0
    ·exact hx
    ·rw[if_neg hx] at hk;exact absurd hk hx
   rw[if_pos hx0] at hk ⊢;have hy0:(Bj y cols).2=0:=by
    by_cases hy:(Bj y cols).2=0
    ·exact hy
    ·rw[if_neg hy] at hk;exact absurd hk hy
   rw[if_pos hy0] at hk ⊢;have hsz:Be x<=n/\Be y<=n:=by rw[hl] at h;simp only[esizes] at h;omega
   obtain⟨v,f,hv,hg⟩:=N6 hf n x _ hsz.1 hs.1 hx0;obtain⟨u,g,hu,hg'⟩:=N6 hf n y _ hsz.2 hs.2 hy0;simp only[evalL,hv,hu];rcases hg with ⟨rfl,hg⟩|⟨rfl,rfl⟩
   ·simp only[if_true];rcases hg' with ⟨rfl,hg'⟩|⟨rfl,rfl⟩
    ·simp only[if_true];have hc:chk (decide (([x,y]:List Xpr).length<=Ah))=λz:Option (Val×Int)=>z:=rfl;rw[hc];simp only[A2a];have at0:at' .val [v,u] 0=v:=rfl;have at1:at' .val [v,u] 1=u:=rfl;rw[Zd1 (show ¬e.kind=1 by omega),Zd1 (show ¬e.kind=2 by omega),Zd1 (show ¬e.kind=16 by omega),Zd1 (show ¬e.kind=3 by omega),Zd1 (show ¬e.kind=15 by omega)];simp only[Ag,i2,i3,chk,Af,at0,at1];by_cases h45:e.kind=4\/e.kind=5
     ·rw[Br2 hk (.inr h45)];rcases h45 with h4|h5
      ·simp only[h4,decide_true,Af];exact⟨_,_,rfl,Ahq _ _⟩
      ·simp only[h5,show decide ((5:Int)=4)=false from rfl,decide_true,Af,Ag];exact⟨_,_,rfl,Ahq _ _⟩
     ·rw[Zd1 (show ¬e.kind=4 by omega),Zd1 (show ¬e.kind=5 by omega)];simp only[Ag];cases hn:[v,u].any Ii
      ·simp only[Ag];by_cases h12 : 12<=e.kind
       ·rw[Br1 hk (by omega),Ze1 h12];exact⟨_,_,rfl,Az5 _ _ _⟩
       ·rw[Bv6 hk (by omega),Zd1 h12];exact⟨_,_,rfl,Nt _⟩
      ·exact⟨_,_,rfl,Sv _⟩
    ·exact⟨_,_,rfl,.inr ⟨rfl,rfl⟩⟩
   ·exact⟨_,_,rfl,.inr ⟨rfl,rfl⟩⟩
  ·omega
def Kp(e:Xpr)(cols:List Col)(row:List Val):Val×Int:=cond (!decide (Io e=0)) (⟨0,0,[]⟩,2) (cond (!Fs cols row) (⟨0,0,[]⟩,2) (cond (!decide ((Bj e cols).2=0)) (⟨0,0,[]⟩,(Bj e cols).2) ((Q0 e cols row).getD (⟨0,0,[]⟩,0))))
theorem A2j(e:Xpr)(cols:List Col)(row:List Val):(Io e≠0\/Fs cols row=false)/\Kp e cols row=(⟨0,0,[]⟩,2)\/(Io e=0/\Fs cols row=true/\(Bj e cols).2≠0/\Kp e cols row=(⟨0,0,[]⟩,(Bj e cols).2))\/(Io e=0/\Fs cols row=true/\(Bj e cols).2=0/\Q0 e cols row=some (Kp e cols row)/\Bdh (Kp e cols row).1 (Kp e cols row).2 (Bj e cols).1):=by
 simp only[Kp];by_cases h1:Io e=0
 ·rw[Ze1 h1];cases h2:Fs cols row with
  |false=>left;simp
  |true =>
   by_cases h3:(Bj e cols).2=0
   ·right;right;obtain⟨v,f,h4,h5⟩:=N6 h2 (Be e) e 30 (Zn1 _) (Bcj.1 h1) h3;rw[h4];refine⟨h1,rfl,h3,?_,?_⟩
    ·simp[h3]
    ·simpa[h3] using h5
   ·right;left;refine⟨h1,rfl,h3,?_⟩;simp[h3]
 ·left;refine⟨.inl h1,?_⟩;simp[h1]
theorem Bez(e:Xpr)(cols:List Col)(row:List Val):A7d e cols row=some (Kp e cols row):=by
 simp only[A7d,Vy];rcases A2j e cols row with ⟨h,h2⟩|⟨h1,h2,h3,h4⟩|⟨h1,h2,h3,h4,_⟩
 ·rw[h2];by_cases h1:Io e=0
  ·rw[h.resolve_left (by simpa using h1)];simp[h1]
  ·simp[h1]
 ·rw[h4,h2];simp[h1,h3]
 ·rw[h2,h4];simp[h1,h3]
def Bk4(key:List Str):List Col->List Val->Bool
 |c::cs,v::vs=>(decide (v.kind=1)&&(c.notNull||key.contains c.name))||Bk4 key cs vs
 |_,_=>false
def Anl(cols:List Col)(row:List Val):List Xpr->Int
 |[]=>0
 |e::l=>cond (decide ((Kp e cols row).2=0)) (cond (decide ((Kp e cols row).1=⟨2,0,[]⟩)) 162 (Anl cols row l)) (Kp e cols row).2
def Ec(t:Tbl)(row:List Val):Int:=cond (Js t) (cond (Fs t.cols row) (cond (Bk4 t.key t.cols row) 161 (Anl t.cols row t.checks)) 151) 2
theorem Auc{R:Type}{kx:Ex->R6->Option R}{l:List Str}{nm:Str}{w:Tbl}{a b:Option R}{k:Nat}(hn:l.length<=4000)(h4 : 4000<k)(h1:∀i:Nat,kx .ret (l,nm,(i:Int),(l.length:Int),(i:Int),w)=a)(h2:kx (.exit 0) (l,nm,0,(l.length:Int),(l.length:Int),w)=b) :
  Aj (λrec=>S1 rec kx) k (l,nm,0,(l.length:Int),0,w)=cond (l.contains nm) a b:=by
 have hl:ln l.length:=by simp only[ln];omega
 refine(A8 l.length (λi=>(l,nm,0,(l.length:Int),(i:Int),w)) (λi=>cond ((l.drop i).contains nm) a b) (λi hi rec hr =>?_) (λrec =>?_) k 0 (Nat.zero_le _) (by omega)).trans (by rw[Zq1])
 ·have e:decide (nm=l[i])=(nm == l[i]):=by rw[Bool.eq_iff_iff];simp
  simp only[S1,Ea hi,Af,As hi,chk,Al (c :=.str) hi,An hi hl,hr,h1,Ak hi,List.contains_cons,e];cases nm == l[i]<;>rfl
 ·simp only[S1,Ee,Ag,h2];rw[Zk1 (Zn1 _)];rfl
theorem As4{R:Type}{kx:Ex->To->Option R}{t:Tbl}{row:List Val}{a b:Option R}(hk:t.key.length<=4000)(hn:t.cols.length<=4000){k:Nat}(h4 : 4000<k)(he:t.cols.length=row.length)(h1:∀i,kx .ret (row,161,t.cols,(t.cols.length:Int),i,t)=a)(h2:kx (.exit 0) (row,0,t.cols,(t.cols.length:Int),(t.cols.length:Int),t)=b) :
  Aj (λrec=>Sw k rec kx) k (row,0,t.cols,(t.cols.length:Int),0,t)=cond (Bk4 t.key t.cols row) a b:=by
 have hl:ln t.cols.length:=by simp only[ln];omega
 refine(A8 t.cols.length (λi=>(row,0,t.cols,(t.cols.length:Int),(i:Int),t)) (λi=>cond (Bk4 t.key (t.cols.drop i) (row.drop i)) a b) (λi hi rec hr =>?_) (λrec =>?_) k 0 (Nat.zero_le _) (by omega)).trans (by rw[Zq1,Zq1])
 ·have hi2:i<row.length:=by omega
  simp only[Sw,Ea hi,Af,As hi,As hi2,chk,Al (c :=.col) hi,Al (c :=.val) hi2,An hi hl,Ak hi,Ak hi2,Bk4,h1];cases decide (row[i].kind=1) with
  |false=>exact hr
  |true =>
   cases t.cols[i].notNull with
   |true=>rfl
   |false =>
    simp only[Af,Ag,Bool.true_and,Bool.false_or];refine(Auc (a:=a) (b:=rec (row,0,t.cols,(t.cols.length:Int),((i+1:Nat):Int),t)) hk h4 (λj =>?_) rfl).trans ?_
    ·simp only[Ze1 (show(0:Int)<=(j:Int) by omega),Af];exact h1 _
    ·rw[hr];cases t.key.contains t.cols[i].name<;>rfl
 ·simp only[Sw,Ee,Ag,h2];rw[Zk1 (Zn1 _)];rfl
theorem Auu{R:Type}{kx:Ex->Rx->Option R}{t:Tbl}{row:List Val}{c:Int->Option R}{k:Nat}(hn:t.checks.length<=4000)(h4 : 4000<k)(h1:∀r i,kx .ret (row,r,t.checks,(t.checks.length:Int),i,t)=c r)(h2:kx (.exit 2) (row,0,t.checks,(t.checks.length:Int),(t.checks.length:Int),t)=c 0) :
  Aj (λrec=>S4 rec kx) k (row,0,t.checks,(t.checks.length:Int),0,t)=c (Anl t.cols row t.checks):=by
 have hl:ln t.checks.length:=by simp only[ln];omega
 refine(A8 t.checks.length (λi=>(row,0,t.checks,(t.checks.length:Int),(i:Int),t)) (λi=>c (Anl t.cols row (t.checks.drop i))) (λi hi rec hr =>?_) (λrec =>?_) k 0 (Nat.zero_le _) (by omega)).trans (by rw[Zq1])
 ·have e:decide (Gt (Kp t.checks[i] t.cols row).1 ⟨2,0,[]⟩=0)=decide ((Kp t.checks[i] t.cols row).1=⟨2,0,[]⟩):=Zy1.2 (vcmp_lin.eq _ _);simp only[S4,Ea hi,Af,As hi,chk,Al (c :=.expr) hi,Bez,Zc1,An hi hl,hr,h1,Ak hi,Anl,e];cases decide ((Kp t.checks[i] t.cols row).2=0) with|false=>rfl|true=>cases decide ((Kp t.checks[i] t.cols row).1=⟨2,0,[]⟩)<;>rfl
 ·simp only[S4,Ee,Ag,h2];rw[Zk1 (Zn1 _)];rfl
theorem Bqj{t:Tbl}{row:List Val}(hk:t.key.length<=4000)(hn:t.cols.length<=4000)(hl:t.checks.length<=4000)(hs:G4 t=true){k:Nat}(h4 : 4000<k):Hz k (t,row)=some (Ec t row):=by
 simp only[Hz,Jx,hs,Af,Zc1,Ec];cases Js t with
 |false=>rfl
 |true =>simp only[Af,decide_true,Zt1,Ag];cases hf:Fs t.cols row with|false=>rfl|true =>simp only[Af,Zt1,Ag];refine(As4 (a:=some 161) (b:=some (Anl t.cols row t.checks)) hk hn h4 (Jl hf) (λ_=>rfl) ?_).trans (Az);exact Auu (c:=some) hl h4 (λ_ _=>rfl) rfl
def hd(q:List Int)(i:Nat):Int:=q.getD i 0
def Bxf(kind:Int):Int×Int :=
 let j1:=λ(p1:Bool) =>
  cond (p1) (
  (2,2)) (
  let j:=λ(p3:Bool) =>
   cond (p3) (
   (0,2)) (
   cond (decide (12<=kind)) (
    cond (decide (kind<=15)) (
    (3,3)) (
    (0,2))) (
    (0,2)))
  cond (decide (6<=kind)) (
   j (decide (kind<=11))) (
   j false))
 cond (decide (3<=kind)) (
  j1 (decide (kind<=5))) (
  j1 false)
theorem A0r{l:List Col}{s:Str}(h:¬C8 l s<0):∃i:Nat,∃hi:i<l.length,C8 l s=(i:Int)/\at' .col l (C8 l s)=l[i]:=by
 rcases Wu l s with h1|⟨h1,h2⟩
 ·omega
 ·obtain⟨i,hi⟩:∃i:Nat,C8 l s=(i:Int):=⟨(C8 l s).toNat,by omega⟩;refine⟨i,by omega,hi,?_⟩;rw[hi];exact Al (c :=.col) (by omega)
def C5(cols:List Col)(row:List Val):List Str->List Val->List Val×Int
 |[],acc=>(acc,0)
 |s::l,acc=>cond (decide (C8 cols s<0)) ([],150) (C5 cols row l (acc++[at' .val row (C8 cols s)]))
def Bo9(R:Type):Px R:=pxO [] [] [] []
def Adl(x:HV [.sv .val,.sv .val]):Option (HV [.int .i64]):=match x with
 |(a,b) =>
 let j:=λ(p1:Bool) =>
  cond (p1) (
  some (-1)) (
  cond (decide (a.kind=b.kind)) (
   cond (decide (a.n=b.n)) (
   cond (Op.bytesLess a.s b.s) (
    some (-1)) (
    cond (decide (a=b)) (
    some 0) (
    some 1))) (
   cond (decide (a=b)) (
    some 0) (
    some 1))) (
   cond (decide (a=b)) (
   some 0) (
   some 1)))
 cond (decide (a.kind<b.kind)) (
  j true) (
  cond (decide (a.kind=b.kind)) (
  j (decide (a.n<b.n))) (
  j false))
theorem Bfy:FO 41 [.sv .val,.sv .val] [.int .i64] (Adl):=fR (px:=Bo9 _) (n:=0) Tryz.func41 rfl (λ_ H=>⟨lv H Ae Aa Ab,Ai⟩) λ(_,_)=>by kernel_rfl
def A16(a:Val)(b:Val):Int :=
 let j:=λ(p1:Bool) =>
  cond (p1) (
  (-1)) (
  cond (decide (a.kind=b.kind)) (
   cond (decide (a.n=b.n)) (
   cond (Op.bytesLess a.s b.s) (
    (-1)) (
    cond (decide (a=b)) (
    0) (
    1))) (
   cond (decide (a=b)) (
    0) (
    1))) (
   cond (decide (a=b)) (
   0) (
   1)))
 cond (decide (a.kind<b.kind)) (
  j true) (
  cond (decide (a.kind=b.kind)) (
  j (decide (a.n<b.n))) (
  j false))
theorem Bk0(x:HV [.sv .val,.sv .val]):Adl x=some (A16 x.1 x.2):=by
 first
  |exact rfl
  |simp only[Adl,A16,Az]
def Bf2:FT [.sv .val,.sv .val] [.int .i64]:=λx=>some (A16 x.1 x.2)
theorem Bpq:FO 41 [.sv .val,.sv .val] [.int .i64] Bf2 :=.fin0 Bfy λx _ _ hx=>(Bk0 x).trans hx
theorem Aq8:∀a b:Str,Op.bytesLess a b=decide (C1 a b = -1)
 |[],[]=>rfl
 |[],_::_=>rfl
 |_::_,[]=>rfl
 |a::x,b::y=>by
  have ih:=Aq8 x y;simp only[Op.bytesLess,C1,Lib.compareBytes] at ih ⊢;by_cases h1:a<b
  ·simp[h1]
  ·by_cases h2:b<a
   ·have h3:¬a=b:=λh=>by subst h;exact h1 h2
    simp[h1,h2,h3]
   ·have h3:a=b:=UInt8.le_antisymm (UInt8.not_lt.1 h2) (UInt8.not_lt.1 h1);simp[h3,ih];exact Zy1.2 Iff.rfl
theorem Aop:∀a b:Str,C1 a b=0↔a=b
 |[],[]=>by simp[C1,Lib.compareBytes]
 |[],_::_=>by simp[C1,Lib.compareBytes]
 |_::_,[]=>by simp[C1,Lib.compareBytes]
 |a::x,b::y=>by
  have ih:=Aop x y;simp only[C1,Lib.compareBytes] at ih ⊢;by_cases h1:a<b
  ·have h3:¬a=b:=λh=>by subst h;exact UInt8.lt_irrefl _ h1
   simp[h1,h3]
  ·by_cases h2:b<a
   ·have h3:¬a=b:=λh=>by subst h;exact h1 h2
    simp[h1,h2,h3]
   ·have h3:a=b:=UInt8.le_antisymm (UInt8.not_lt.1 h2) (UInt8.not_lt.1 h1);simp[h3,ih]
theorem Bbn:∀a b:Val,A16 a b=Gt a b
 |⟨k,n,s⟩,⟨k',n',s'⟩=>by
  simp only[A16,Gt,Di,F6,Aq8];by_cases h1:k<k'
  ·simp[h1]
  ·by_cases h2:k'<k
   ·have h3:¬k=k':=by omega
    simp[h1,h2,h3]
   ·obtain rfl:k=k':=by omega
    by_cases h4:n<n'
    ·simp[h4]
    ·by_cases h5:n'<n
     ·have h6:¬n=n':=by omega
      simp[h4,h5,h6]
     ·obtain rfl:n=n':=by omega
      have h7:=Aop s s';rcases Wj s s' with h|h|h
      ·simp[h]
      ·have h8:s=s':=h7.1 h;subst h8;simp[h]
      ·have h8:¬s=s':=λe=>by rw[h7.2 e] at h;cases h
       simp[h,h8]
theorem A6e{cols:List Col}{row:List Val}{P:Val->Prop}:∀{l:List Str}{acc:List Val},(∀s,s∈l->¬C8 cols s<0/\P (at' .val row (C8 cols s)))->(∀v,v∈acc->P v)->(C5 cols row l acc).2=0/\∀v,v∈(C5 cols row l acc).1->P v
 |[],acc,_,ha=>⟨rfl,ha⟩
 |s::l,acc,h,ha=>by
  have h1:=h s (by simp);simp only[C5,Zd1 h1.1,Ag];refine A6e (λq hq=>h q (by simp[hq])) λv hv =>?_;rcases List.mem_append.1 hv with hv|hv
  ·exact ha v hv
  ·rw[List.mem_singleton.1 hv];exact h1.2
theorem Avj{cols:List Col}{row:List Val}:∀{l:List Str}{acc:List Val},(C5 cols row l acc).1.length<=acc.length+l.length
 |[],acc=>by simp[C5]
 |s::l,acc=>by simp only[C5];cases decide (C8 cols s<0) with|true=>simp|false =>have:=Avj (cols:=cols) (row:=row) (l:=l) (acc:=acc++[at' .val row (C8 cols s)]);simp only[Ag,Zf1];simp only[Zh1,Zf1,Zi1] at this;omega
def Bs9{R:Type}(c:List (Nat×Et R))(q:List (Nat×Eh R))(l:List (Nat×Av0 R))(w:List (Nat×Gf R)):Px R:=withY (pxO c q l w) (pxO [] [] [] [])
theorem Bwk{R:Type}{cx:Cx}{l:List (Nat×Et R)}{lq:List (Nat×Eh R)}{lp:List (Nat×Av0 R)}{lw:List (Nat×Gf R)}(H:HX cx)(h:∀g f,(g,f)∈l->Gw cx g f)(hq:∀g f,(g,f)∈lq->Mq cx g f)(hw:∀g f,(g,f)∈lw->Fb cx g f):Lv cx (Bs9 l lq lp lw) :=(lv (px:=pxO l lq lp lw) H h hq hw).withY (lv (px:=pxO [] [] [] []) H Ae Aa Ab) (by rw[H.p];exact follows)
theorem fRD{f:FuncId}{fn:Func}{c:Code}{sa sr:List Sg}{px:Px (HV sr)}{F:FT sa sr}(hf:Tryz.prog.funcs[f]? = some fn)(hb:fn.body=some c)(h:∀cx,HX cx->Lv cx px)(hF:∀x,A8g px fn sa sr x some=F x)(hl:∀b st K,px.loop b st K=none:=by exactλ_ _ _=>rfl)(hname:(fn.name == "runtime.NumGoroutine")=false:=by kernel_rfl)(hchk:(Bm fn.ntmps c&&Nat.ble sa.length fn.ntmps&&Ci (A7 0 sa) [])=true:=by kernel_rfl):FO f sa sr F:=fOD (Ajm V8) follows hf hb hname hchk hl h hF
def Bvc(R:Type):Px R:=pxO [] [] [] []
def Ajz(x:HV [.sl .byte false,.sl .byte false]):Option (HV [.bool]):=match x with
 |(a,b) =>
 some (decide (a=b))
theorem Bq6:FO 152 [.sl .byte false,.sl .byte false] [.bool] (Ajz):=fR (px:=Bvc _) (n:=0) Tryz.func152 rfl (λ_ H=>⟨lv H Ae Aa Ab,Ai⟩) λ(_,_)=>by kernel_rfl
def beq(a:List UInt8)(b:List UInt8):Bool :=(decide (a=b))
theorem Bqt(x:HV [.sl .byte false,.sl .byte false]):Ajz x=some (beq x.1 x.2):=by
 first
  |exact rfl
  |simp only[Ajz,beq,Az]
def A7z:FT [.sl .byte false,.sl .byte false] [.bool]:=λx=>some (beq x.1 x.2)
theorem A10:FO 152 [.sl .byte false,.sl .byte false] [.bool] A7z :=.fin0 Bq6 λx _ _ hx=>(Bqt x).trans hx
def Bp7(R:Type):Px R:=pxO [(152,cA A7z)] [] [] []
def Aa7(x:HV [.sl .byte false,.sl .byte false]):Option (HV [.bool]):=match x with
 |(b,a) =>
 cond (decide ((a.length:Int)<=(b.length:Int))) (
  chk (upto 0 (a.length:Int) b.length) (
  some (beq (b.take ((a.length:Int):Int).toNat) a))) (
  some false)
theorem Bh6:FO 153 [.sl .byte false,.sl .byte false] [.bool] (Aa7):=fR (px:=Bp7 _) (n:=0) Tryz.func153 rfl (λ_ H=>⟨lv H (c1 H A10 Ae) Aa Ab,Ai⟩) λ(_,_)=>by kernel_rfl
def Bbd(b a:Str):Option Bool:=Aa7 (b,a)
def Asj:FT [.sl .byte false,.sl .byte false] [.bool]:=λx=>Bbd x.1 x.2
theorem Asv:FO 153 [.sl .byte false,.sl .byte false] [.bool] Asj :=.fin0 Bh6 λ_ _ _ hx=>hx
def Axf:Sig:=⟨21,[(3,.sl .byte true),(6,.sl .byte false),(7,.int .i64),(8,.int .i64)],[],[],0,0,0,[],[]⟩
abbrev Agb:=List UInt8×List UInt8×Int×Int
def Aqo{R:Type}(rec:Agb->Option R)(kx:Ex->Agb->Option R)(v:Agb):Option R:=match v with
 |(v,v1,v2,v3) =>
 cond (decide (v3<v2)) (
  chk (inb v3 v1.length) (
  chk (decide (v.length+2<=Ah)) (
   rec ((v++[(UInt8.ofNat ((D5 .u8 ((at' .byte v1 v3).toNat:Int) 4):Int).toNat),(UInt8.ofNat ((Gy .u8 ((at' .byte v1 v3).toNat:Int) 15):Int).toNat)]),v1,v2,(wr .i64 (v3+1)))))) (
  kx (.exit 0) (v,v1,v2,v3))
def Blp(R:Type)(k:Nat):Px R:=pxO [] [] [(3,Am k Axf (Aqo))] []
def X0(k:Nat)(x:HV [.sl .byte false]):Option (HV [.sl .byte true]):=match x with
 |b =>
 Aj (λrec=>Aqo rec (λe vz=>match vz with|(v4,_,_,_)=>match e with
  |.exit 0 =>
  some v4
  |_=>none)) k ([],b,(b.length:Int),0)
theorem Bq8(k:Nat):FO 111 [.sl .byte false] [.sl .byte true] (X0 k):=fR (px:=Blp _ k) (n:=1) Tryz.func111 rfl (λcx H=>by have h0:Lv cx (Blp (HV [.sl .byte true]) k):=lv H Ae Aa Ab;have hlnof_0:=lO H h0 (b:=lp Tryz.f111 0) (k:=k) (n:=0) (s:=Axf) (step:=Aqo) (λ_ _ _ (_,_,_,_)=>by kernel_rfl) Ai;exact⟨h0,(A6 Ai hlnof_0)⟩) λ_=>by kernel_rfl
def nof(b:Str):Option Str:=X0 2000 b
def A5l:FT [.sl .byte false] [.sl .byte true]:=λx=>nof x
theorem A4b:FO 111 [.sl .byte false] [.sl .byte true] A5l :=.fin 0 Bq8 λ_ _ _ hx=>⟨2000,hx⟩
def An5:Sig:=⟨14,[(2,.bool),(5,.sl .byte false),(6,.int .i64),(7,.int .i64)],[],[],0,0,0,[],[]⟩
abbrev Y5:=Bool×List UInt8×Int×Int
def Ab3{R:Type}(rec:Y5->Option R)(kx:Ex->Y5->Option R)(v:Y5):Option R:=match v with
 |(v,v1,v2,v3) =>
 cond (decide (v3<v2)) (
  chk (inb v3 v1.length) (
  cond (decide (15<((at' .byte v1 v3).toNat:Int))) (
   kx .ret (false,v1,v2,v3)) (
   rec (v,v1,v2,(wr .i64 (v3+1)))))) (
  kx (.exit 0) (v,v1,v2,v3))
def A53(R:Type)(k:Nat):Px R:=pxO [] [] [(2,Am k An5 (Ab3))] []
def Rm(k:Nat)(x:HV [.sl .byte false]):Option (HV [.bool]):=match x with
 |n =>
 Aj (λrec=>Ab3 rec (λe vz=>match vz with|(v4,_,_,_)=>match e with
  |.ret =>
  some v4
  |.exit 0 =>
  some true
  |_=>none)) k (false,n,(n.length:Int),0)
theorem Bgk(k:Nat):FO 211 [.sl .byte false] [.bool] (Rm k):=fR (px:=A53 _ k) (n:=1) Tryz.func211 rfl (λcx H=>by have h0:Lv cx (A53 (HV [.bool]) k):=lv H Ae Aa Ab;have hlnhal_0:=lO H h0 (b:=lp Tryz.f211 0) (k:=k) (n:=0) (s:=An5) (step:=Ab3) (λ_ _ _ (_,_,_,_)=>by kernel_rfl) Ai;exact⟨h0,(A6 Ai hlnhal_0)⟩) λ_=>by kernel_rfl
def Bs1(n:Str):Option Bool:=Rm 2000 n
def Blg:FT [.sl .byte false] [.bool]:=λx=>Bs1 x
theorem Boj:FO 211 [.sl .byte false] [.bool] Blg :=.fin 0 Bgk λ_ _ _ hx=>⟨2000,hx⟩
def Ag3:Sig:=⟨26,[(0,.sl .byte false),(3,.sl .byte true),(4,.int .i64)],[],[],0,0,0,[],[]⟩
abbrev Q9:=List UInt8×List UInt8×Int
def Uh{R:Type}(rec:Q9->Option R)(kx:Ex->Q9->Option R)(v:Q9):Option R:=match v with
 |(v,v1,v2) =>
 cond (decide (v2<(v.length:Int))) (
  chk (inb (wr .i64 (v2-1)) v.length) (
  chk (inb v2 v.length) (
   chk (decide (v1.length+1<=Ah)) (
   rec (v,(v1++[(UInt8.ofNat ((ior .u8 (Afq .u8 ((at' .byte v (wr .i64 (v2-1))).toNat:Int) 4) ((at' .byte v v2).toNat:Int)):Int).toNat)]),(wr .i64 (v2+2))))))) (
  kx (.exit 0) (v,v1,v2))
def Aw4(R:Type)(k:Nat):Px R:=pxO [] [] [(3,Am k Ag3 (Uh))] []
def Vs(k:Nat)(x:HV [.sl .byte false]):Option (HV [.sl .byte true]):=match x with
 |n =>
 Aj (λrec=>Uh rec (λe vz=>match vz with|(_,v4,_)=>match e with
  |.exit 0 =>
  some v4
  |_=>none)) k (n,[],1)
theorem Bc9(k:Nat):FO 212 [.sl .byte false] [.sl .byte true] (Vs k):=fR (px:=Aw4 _ k) (n:=1) Tryz.func212 rfl (λcx H=>by have h0:Lv cx (Aw4 (HV [.sl .byte true]) k):=lv H Ae Aa Ab;have hlnjoin_0:=lO H h0 (b:=lp Tryz.f212 0) (k:=k) (n:=0) (s:=Ag3) (step:=Uh) (λ_ _ _ (_,_,_)=>by kernel_rfl) Ai;exact⟨h0,(A6 Ai hlnjoin_0)⟩) λ_=>by kernel_rfl
def A56(n:Str):Option Str:=Vs 2000 n
def A76:FT [.sl .byte false] [.sl .byte true]:=λx=>A56 x
theorem Bj3:FO 212 [.sl .byte false] [.sl .byte true] A76 :=.fin 0 Bc9 λ_ _ _ hx=>⟨2000,hx⟩
def Bb6(R:Type):Px R:=pxO [(211,cA Blg),(212,cA A76)] [] [] []
def Qj(x:HV [.sl .byte false]):Option (HV [.sl .byte true,.int .i64]):=match x with
 |n =>
 (Bs1 n).bind λx =>
  cond (!x) (
  some ([],2)) (
  cond (decide ((Int.tmod (n.length:Int) 2)=1)) (
   some ([],11)) (
   (A56 n).bind λx1 =>
   some (x1,0)))
theorem A12:FO 241 [.sl .byte false] [.sl .byte true,.int .i64] (Qj):=fR (px:=Bb6 _) (n:=0) Tryz.func241 rfl (λ_ H=>⟨lv H (c1 H Boj (c1 H Bj3 Ae)) Aa Ab,Ai⟩) λ_=>by kernel_rfl
def Abx(n:Str):Option (Str×Int):=Qj n
def Avb:FT [.sl .byte false] [.sl .byte true,.int .i64]:=λx=>Abx x
theorem Bd5:FO 241 [.sl .byte false] [.sl .byte true,.int .i64] Avb :=.fin0 A12 λ_ _ _ hx=>hx
def Aqc:Sig:=⟨30,[(0,.sl .byte false),(1,.sl .byte false),(4,.int .i64),(10,.int .i64),(11,.int .i64)],[],[],0,0,0,[],[]⟩
abbrev Y4:=List UInt8×List UInt8×Int×Int×Int
def Xl{R:Type}(rec:Y4->Option R)(kx:Ex->Y4->Option R)(v:Y4):Option R:=match v with
 |(v,v1,v2,v3,v4) =>
 cond (decide (v4<v3)) (
  chk (inb v4 v.length) (
  chk (inb v4 v1.length) (
   cond (!decide (((at' .byte v v4).toNat:Int)=((at' .byte v1 v4).toNat:Int))) (
   kx .ret (v,v1,v4,v3,v4)) (
   rec (v,v1,v2,v3,(wr .i64 (v4+1))))))) (
  kx (.exit 0) (v,v1,v2,v3,v4))
def A7h(R:Type)(k:Nat):Px R:=pxO [] [] [(2,Am k Aqc (Xl))] []
def Rc(k:Nat)(x:HV [.sl .byte false,.sl .byte false]):Option (HV [.int .i64]):=match x with
 |(a,b) =>
 Aj (λrec=>Xl rec (λe vz=>match vz with|(v5,v6,v7,_,_)=>match e with
  |.ret =>
  some v7
  |.exit 0 =>
  some (min2 (v5.length:Int) (v6.length:Int))
  |_=>none)) k (a,b,0,(min2 (a.length:Int) (b.length:Int)),0)
theorem Bg1(k:Nat):FO 200 [.sl .byte false,.sl .byte false] [.int .i64] (Rc k):=fR (px:=A7h _ k) (n:=1) Tryz.func200 rfl (λcx H=>by have h0:Lv cx (A7h (HV [.int .i64]) k):=lv H Ae Aa Ab;have hlncom_0:=lO H h0 (b:=lp Tryz.f200 0) (k:=k) (n:=0) (s:=Aqc) (step:=Xl) (λ_ _ _ (_,_,_,_,_)=>by kernel_rfl) Ai;exact⟨h0,(A6 Ai hlncom_0)⟩) λ(_,_)=>by kernel_rfl
def Bo8(a b:Str):Option Int:=Rc 2000 (a,b)
def A4t:FT [.sl .byte false,.sl .byte false] [.int .i64]:=λx=>Bo8 x.1 x.2
theorem A5q:FO 200 [.sl .byte false,.sl .byte false] [.int .i64] A4t :=.fin 0 Bg1 λ_ _ _ hx=>⟨2000,hx⟩
def Bqa(R:Type):Px R:=pxO [(200,cA A4t)] [] [] []
def Abg(x:HV [.sl .byte false,.sl .byte false]):Option (HV [.int .i64]):=match x with
 |(a,b) =>
 (Bo8 a b).bind λx =>
  let j:=λ(p1:Bool) =>
  cond (p1) (
   some 0) (
   cond (decide (x=(a.length:Int))) (
   some (-1)) (
   cond (decide (x<(b.length:Int))) (
    chk (inb x a.length) (
    chk (inb x b.length) (
     cond (decide (((at' .byte a x).toNat:Int)<((at' .byte b x).toNat:Int))) (
     some (-1)) (
     some 1)))) (
    some 1)))
  cond (decide (x=(a.length:Int))) (
  j (decide (x=(b.length:Int)))) (
  j false)
theorem Bmt:FO 272 [.sl .byte false,.sl .byte false] [.int .i64] (Abg):=fR (px:=Bqa _) (n:=0) Tryz.func272 rfl (λ_ H=>⟨lv H (c1 H A5q Ae) Aa Ab,Ai⟩) λ(_,_)=>by kernel_rfl
def A19(a b:Str):Option Int:=Abg (a,b)
def A23:FT [.sl .byte false,.sl .byte false] [.int .i64]:=λx=>A19 x.1 x.2
theorem A72:FO 272 [.sl .byte false,.sl .byte false] [.int .i64] A23 :=.fin0 Bmt λ_ _ _ hx=>hx
def Boy(R:Type):Px R:=pxO [(111,cA A5l)] [] [] []
def Adn(x:HV [.sl .byte false,.sl .byte false]):Option (HV [.sv .span]):=match x with
 |(a,b) =>
 (nof a).bind λx =>
  (nof b).bind λx1 =>
  some (SpanS.mk x x1 (decide ((b.length:Int)=0)))
theorem Bmm:FO 115 [.sl .byte false,.sl .byte false] [.sv .span] (Adn):=fR (px:=Boy _) (n:=0) Tryz.func115 rfl (λ_ H=>⟨lv H (c1 H A4b Ae) Aa Ab,Ai⟩) λ(_,_)=>by kernel_rfl
def Bt8(a b:Str):Option SpanS:=Adn (a,b)
def Bi5:FT [.sl .byte false,.sl .byte false] [.sv .span]:=λx=>Bt8 x.1 x.2
theorem Bo5:FO 115 [.sl .byte false,.sl .byte false] [.sv .span] Bi5 :=.fin0 Bmm λ_ _ _ hx=>hx
def Be9(R:Type):Px R:=pxO [(272,cA A23)] [] [] []
def Xm(x:HV [.sv .span,.sl .byte false]):Option (HV [.bool]):=match x with
 |(s,w) =>
 (A19 w s.low).bind λx =>
  cond (decide (0<=x)) (
  cond (s.op) (
   some true) (
   (A19 w s.high).bind λx1 =>
   some (decide (x1<0)))) (
  some false)
theorem Bbe:FO 240 [.sv .span,.sl .byte false] [.bool] (Xm):=fR (px:=Be9 _) (n:=0) Tryz.func240 rfl (λ_ H=>⟨lv H (c1 H A72 Ae) Aa Ab,Ai⟩) λ(_,_)=>by kernel_rfl
def Axi(s:SpanS)(w:Str):Option Bool:=Xm (s,w)
def A9k:FT [.sv .span,.sl .byte false] [.bool]:=λx=>Axi x.1 x.2
theorem Bl2:FO 240 [.sv .span,.sl .byte false] [.bool] A9k :=.fin0 Bbe λ_ _ _ hx=>hx
def A1g(R:Type):Px R:=pxO [(272,cA A23),(153,cA Asj),(151,cA Hd)] [] [] []
def Nu(x:HV [.sv .span,.sl .byte false]):Option (HV [.bool]):=match x with
 |(s,w) =>
 let j1:=λ(p1:Bool) =>
  let j:=λ(p2:List UInt8) =>
  cond (p1) (
   cond (s.op) (
   some true) (
   (A19 p2 s.high).bind λx3 =>some (decide (x3<0)))) (
   some false)
  cond (decide ((Int.tmod (w.length:Int) 2)=1)) (
  (Ow w).bind λx2 =>
   chk (decide (x2.length+1<=Ah)) (
   j (x2++[(UInt8.ofNat (0:Int).toNat)]))) (
  j w)
 (A19 w s.low).bind λx =>
  cond (decide (0<=x)) (
  j1 true) (
  (Bbd s.low w).bind λx1 =>j1 x1)
theorem Aw3:FO 238 [.sv .span,.sl .byte false] [.bool] (Nu):=fR (px:=A1g _) (n:=0) Tryz.func238 rfl (λ_ H=>⟨lv H (c1 H A72 (c1 H Asv (c1 H Gn Ae))) Aa Ab,Ai⟩) λ(_,_)=>by kernel_rfl
def Agi(s:SpanS)(w:Str):Option Bool:=Nu (s,w)
def Aoj:FT [.sv .span,.sl .byte false] [.bool]:=λx=>Agi x.1 x.2
theorem A2t:FO 238 [.sv .span,.sl .byte false] [.bool] Aoj :=.fin0 Aw3 λ_ _ _ hx=>hx
def Ajx:Sig:=⟨19,[(0,.sl .byte false),(4,.int .i64),(7,.int .i64),(8,.int .i64)],[(1,.fn 150 [])],[],80,80,400,[],[]⟩
abbrev Rb:=List UInt8×Int×Int×Int
def Rn{R:Type}(rec:Rb->Option R)(kx:Ex->Rb->Option R)(v:Rb):Option R:=match v with
 |(v,v1,v2,v3) =>
 cond (decide (v3<v2)) (
  chk (inb v3 v.length) (
  cond (decide (15<((at' .byte v v3).toNat:Int))) (
   kx .ret (v,v3,v2,v3)) (
   rec (v,v1,v2,(wr .i64 (v3+1)))))) (
  kx (.exit 0) (v,v1,v2,v3))
def Q5(R:Type)(_k:Nat):Px R:=pxO [] [] [] []
noncomputable def X9(R:Type)(k:Nat):Px R:=pxO [(150,A1 120 600 (Q5 R k) Tryz.f150)] [] [(2,Am k Ajx (Rn))] []
noncomputable def Aiu(R:Type)(k:Nat):Px R:=pxO [(198,A1 80 400 (X9 R k) Tryz.f198)] [] [] []
noncomputable def Aza(R:Type)(k:Nat):Px R:=pxO [(149,A1 40 200 (Aiu R k) Tryz.f149)] [] [] []
def Vt(k:Nat)(x:HV [.sl .byte false]):Option (HV [.bool]):=match x with
 |p =>
 Aj (λrec=>Rn rec (λe vz=>match vz with|(_,v5,_,_)=>match e with
  |.ret =>
  some (!(decide (0<=v5)))
  |.exit 0 =>
  some true
  |_=>none)) k (p,0,(p.length:Int),0)
theorem Bev(k:Nat):FO 105 [.sl .byte false] [.bool] (Vt k):=fR (px:=Aza _ k) (n:=0) Tryz.func105 rfl (λcx H=>by have h3:Lv cx (Q5 (HV [.bool]) k):=lv H Ae Aa Ab;have h2:Lv cx (X9 (HV [.bool]) k):=lv H (Ao (cR H h3 Tryz.func150 rfl (n:=0) (Ai)) Ae) Aa Ab;have hlndhal_0:=lO H h2 (b:=lp Tryz.f198 0) (k:=k) (n:=0) (s:=Ajx) (step:=Rn) (λ_ _ _ (_,_,_,_)=>by kernel_rfl) Ai;have h1:Lv cx (Aiu (HV [.bool]) k):=lv H (Ao (cR H h2 Tryz.func198 rfl (n:=1) ((A6 Ai hlndhal_0))) Ae) Aa Ab;have h0:Lv cx (Aza (HV [.bool]) k):=lv H (Ao (cR H h1 Tryz.func149 rfl (n:=0) (Ai)) Ae) Aa Ab;exact⟨h0,Ai⟩) λ_=>by kernel_rfl
def A6l(p:Str):Option Bool:=Vt 2000 p
def A7p:FT [.sl .byte false] [.bool]:=λx=>A6l x
theorem Bic:FO 105 [.sl .byte false] [.bool] A7p :=.fin 0 Bev λ_ _ _ hx=>⟨2000,hx⟩
def A9r(R:Type):Px R:=pxO [] [] [] []
def Q8(x:HV [.sv .node,.bool,.bool,.bool,.bool]):Option (HV [.bool]):=match x with
 |(n,a,b,c,d) =>
 let j3:=λ(p:Bool) =>
  let j2:=λ(p2:Bool) =>
  let j1:=λ(p4:Bool) =>
   let j:=λ(p6:Bool) =>
   cond (p6) (
    cond (!n.has) (
    some true) (
    some (decide (n.kind=3)))) (
    some false)
   cond (p4) (
   cond (d) (
    j true) (
    j (decide ((n.hash.length:Int)=0)))) (
   j false)
  cond (p2) (
   cond (c) (
   j1 true) (
   j1 (decide ((n.kids.length:Int)=0)))) (
   j1 false)
  cond (p) (
  cond (b) (
   j2 true) (
   j2 (decide ((n.val.length:Int)=0)))) (
  j2 false)
 cond (a) (
  j3 true) (
  j3 (decide ((n.path.length:Int)=0)))
theorem A2k:FO 106 [.sv .node,.bool,.bool,.bool,.bool] [.bool] (Q8):=fR (px:=A9r _) (n:=0) Tryz.func106 rfl (λ_ H=>⟨lv H Ae Aa Ab,Ai⟩) λ(_,_,_,_,_)=>by kernel_rfl
def Kv(n:NodeS)(a b c d:Bool):Option Bool:=Q8 (n,a,b,c,d)
def A1a:FT [.sv .node,.bool,.bool,.bool,.bool] [.bool]:=λx=>Kv x.1 x.2.1 x.2.2.1 x.2.2.2.1 x.2.2.2.2
theorem Bdf:FO 106 [.sv .node,.bool,.bool,.bool,.bool] [.bool] A1a :=.fin0 A2k λ_ _ _ hx=>hx
def Bcy(R:Type):Px R:=pxO [] [] [] []
def Pp(x:HV [.int .i64,.bool]):Option (HV [.bool]):=match x with
 |(d,e) =>
 cond (decide (d<=400)) (
  cond (!e) (
  some true) (
  some (decide ((Int.tmod d 2)=0)))) (
  some false)
theorem A35:FO 107 [.int .i64,.bool] [.bool] (Pp):=fR (px:=Bcy _) (n:=0) Tryz.func107 rfl (λ_ H=>⟨lv H Ae Aa Ab,Ai⟩) λ(_,_)=>by kernel_rfl
def V9(d:Int)(e:Bool):Bool :=
 cond (decide (d<=400)) (
  cond (!e) (
  true) (
  (decide ((Int.tmod d 2)=0)))) (
  false)
theorem A4y(x:HV [.int .i64,.bool]):Pp x=some (V9 x.1 x.2):=by
 first
  |exact rfl
  |simp only[Pp,V9,Az]
def Awm:FT [.int .i64,.bool] [.bool]:=λx=>some (V9 x.1 x.2)
theorem Baz:FO 107 [.int .i64,.bool] [.bool] Awm :=.fin0 A35 λx _ _ hx=>(A4y x).trans hx
def Aad:Sig:=⟨44,[(1,.int .i64),(2,.bool),(7,.int .i64),(8,.bool),(20,.sl .node false),(21,.int .i64),(22,.int .i64)],[],[],40,40,200,[],[]⟩
abbrev Kj:=Int×Bool×Int×Bool×List NodeS×Int×Int
def I7{R:Type}(rf:FT [.sv .node,.int .i64,.bool] [.bool])(rec:Kj->Option R)(kx:Ex->Kj->Option R)(v:Kj):Option R:=match v with
 |(v,v1,v2,v3,v4,v5,v6) =>
 cond (decide (v6<v5)) (
  chk (inb v6 v4.length) (
  (rf ((at' .node v4 v6),(wr .i64 (v+1)),v1)).bind λx7 =>
   cond (!x7) (
   kx (.exit 0) (v,v1,v2,x7,v4,v5,v6)) (
   cond (!decide ((at' .node v4 v6).kind=0)) (
    rec (v,v1,(wr .i64 (v2+1)),x7,v4,v5,(wr .i64 (v6+1)))) (
    rec (v,v1,v2,x7,v4,v5,(wr .i64 (v6+1))))))) (
  kx (.exit 0) (v,v1,v2,v3,v4,v5,v6))
def Z5(R:Type)(k:Nat)(rf:FT [.sv .node,.int .i64,.bool] [.bool]):Px R:=pxO [(68,cA rf)] [] [(7,Am k Aad (I7 rf))] []
noncomputable def Ale(R:Type)(k:Nat)(rf:FT [.sv .node,.int .i64,.bool] [.bool]):Px R:=pxO [(105,cA A7p),(106,cA A1a),(107,cA Awm),(68,cA rf),(108,A1 40 200 (Z5 R k rf) Tryz.f108)] [] [] []
def Fu(k:Nat)(rf:FT [.sv .node,.int .i64,.bool] [.bool])(x:HV [.sv .node,.int .i64,.bool]):Option (HV [.bool]):=match x with
 |(n,d,e) =>
 let j:=λ(p:Bool) =>
  cond (p) (
  some false) (
  (A6l n.path).bind λx =>
   cond (!x) (
   some false) (
   cond (decide (n.kind=0)) (
    (Kv n false false false false).bind λx1 =>
    some x1) (
    cond (decide (n.kind=1)) (
    (Kv n true true false false).bind λx2 =>
     cond (x2) (
     some (V9 (wr .i64 (d+(n.path.length:Int))) e)) (
     some false)) (
    cond (decide (n.kind=4)) (
     (Kv n false false false true).bind λx3 =>
     cond (x3) (
      some (decide ((n.hash.length:Int)=32))) (
      some false)) (
     cond (decide (n.kind=2)) (
     (Kv n true false true false).bind λx4 =>
      cond (!x4) (
      some false) (
      cond (decide ((n.path.length:Int)=0)) (
       some false) (
       cond (!decide ((n.kids.length:Int)=1)) (
       some false) (
       chk (inb 0 n.kids.length) (
        let j1:=λ(a:Bool) =>
        cond (a) (
         (rf ((at' .node n.kids 0),(wr .i64 (d+(n.path.length:Int))),e)).bind λx5 =>
         some x5) (
         some false)
        cond (decide ((at' .node n.kids 0).kind=3)) (
        j1 true) (
        j1 (decide ((at' .node n.kids 0).kind=4)))))))) (
     cond (decide (n.kind=3)) (
      (Kv n false n.has true false).bind λx6 =>
      let j3:=λ(b:Bool) =>
       cond (b) (
       cond (!decide ((n.kids.length:Int)=16)) (
        some false) (
        let j2:=λ(c:Int) =>
        Aj (λrec=>I7 rf rec (λe vz=>match vz with|(_,_,v9,f,_,_,_)=>match e with
         |.exit 0 =>
         cond (f) (
          some (decide (2<=v9))) (
          some false)
         |_=>none)) k (d,e,c,true,n.kids,(n.kids.length:Int),0)
        cond (n.has) (
        j2 1) (
        j2 0))) (
       some false)
      cond (x6) (
       cond (!n.has) (
       j3 true) (
       j3 (V9 d e))) (
       j3 false)) (
      some false)))))))
 cond (decide (400<d)) (
  j true) (
  j (decide (4000<(n.val.length:Int))))
theorem Aws(k:Nat)(rf:FT [.sv .node,.int .i64,.bool] [.bool])(hrf:FO 68 [.sv .node,.int .i64,.bool] [.bool] rf):FO 68 [.sv .node,.int .i64,.bool] [.bool] (Fu k rf):=fR (px:=Ale _ k rf) (n:=0) Tryz.func68 rfl (λcx H=>by have h1:Lv cx (Z5 (HV [.bool]) k rf):=lv H (c1 H hrf Ae) Aa Ab;have hlndright_0:=lO H h1 (b:=lp Tryz.f108 0) (k:=k) (n:=0) (s:=Aad) (step:=I7 rf) (λ_ _ _ (_,_,_,_,_,_,_)=>by kernel_rfl) Ai;have h0:Lv cx (Ale (HV [.bool]) k rf):=lv H (c1 H Bic (c1 H Bdf (c1 H Baz (c1 H hrf (Ao (cR H h1 Tryz.func108 rfl (n:=1) ((A6 Ai hlndright_0))) Ae))))) Aa Ab;exact⟨h0,Ai⟩) λ(_,_,_)=>by kernel_rfl
def Asy(n:NodeS)(d:Int)(e:Bool):Option Bool:=Aj (Fu 100) 500 (n,d,e)
def Anp:FT [.sv .node,.int .i64,.bool] [.bool]:=λx=>Asy x.1 x.2.1 x.2.2
theorem A4q:FO 68 [.sv .node,.int .i64,.bool] [.bool] Anp :=.fin0 (FnOk.rec' (Sx.enters_of Tryz.func68 rfl rfl) (λrf hrf=>Aws 100 rf hrf) 500) λ_ _ _ hx=>hx
def A5f(R:Type):Px R:=pxO [(68,cA Anp)] [] [] []
def Oy(x:HV [.sv .node]):Option (HV [.int .i64]):=match x with
 |n =>
 (Asy n 0 true).bind λx =>
  cond (!x) (
  some 2) (
  some 0)
theorem Awe:FO 29 [.sv .node] [.int .i64] (Oy):=fR (px:=A5f _) (n:=0) Tryz.func29 rfl (λ_ H=>⟨lv H (c1 H A4q Ae) Aa Ab,Ai⟩) λ_=>by kernel_rfl
def Of(n:NodeS):Option Int:=Oy n
def Ry:FT [.sv .node] [.int .i64]:=λx=>Of x
theorem V5:FO 29 [.sv .node] [.int .i64] Ry :=.fin0 Awe λ_ _ _ hx=>hx
noncomputable section
def Uo:Sig:=⟨5,[(0,.sv .span),(1,.sv .node),(2,.sl .byte false),(3,.bool)],[(4,.yl 8)],[(2,.cells [.int .i64]),(3,.cells [.sl .kv false]),(4,.cells [.sl .byte false]),(5,.cells [.int .i64]),(6,.cells [.sl .kv true]),(8,.rc 42 (rd Tryz.f114 0).1 (rd Tryz.f114 0).2.1 (rd Tryz.f114 0).2.2 [(6,.ptr 2 0),(8,.ptr 3 0),(9,.ptr 4 0),(10,.ptr 5 0),(11,.ptr 6 0)] 0)],9,9,0,[],[]⟩
def Rf:Sig:=⟨1,[(0,.bool)],[],[(2,.cells [.int .i64]),(3,.cells [.sl .kv false]),(4,.cells [.sl .byte false]),(5,.cells [.int .i64]),(6,.cells [.sl .kv true]),(8,.rc 42 (rd Tryz.f114 0).1 (rd Tryz.f114 0).2.1 (rd Tryz.f114 0).2.2 [(6,.ptr 2 0),(8,.ptr 3 0),(9,.ptr 4 0),(10,.ptr 5 0),(11,.ptr 6 0)] 0)],9,9,0,[],[]⟩
abbrev Mv:=SpanS×NodeS×List UInt8×Bool×Int×List KvS×List UInt8×Int×List KvS×Int
abbrev G0:=Bool×Int×List KvS×List UInt8×Int×List KvS×Int
def Aq4:Sig:=⟨85,[(3,.bool),(10,.bool),(46,.int .i64),(47,.int .i64)],[(5,.ptr 9 0),(6,.ptr 10 0),(7,.ptr 11 0),(9,.ptr 12 0),(11,.fn 239 [.ptr 10 0,.ptr 9 0,.ptr 11 0,.ptr 12 0])],[(2,.cells [.int .i64]),(3,.cells [.sl .kv false]),(4,.cells [.sl .byte false]),(5,.cells [.int .i64]),(6,.cells [.sl .kv true]),(8,.rc 42 (rd Tryz.f114 0).1 (rd Tryz.f114 0).2.1 (rd Tryz.f114 0).2.2 [(6,.ptr 2 0),(8,.ptr 3 0),(9,.ptr 4 0),(10,.ptr 5 0),(11,.ptr 6 0)] 0),(9,.one (.sv .span)),(10,.one (.sv .node)),(11,.cells [.sl .byte false]),(12,.fx [.yl 8])],13,9,0,[],[]⟩
abbrev Qd:=Bool×Bool×Int×Int×Int×List KvS×List UInt8×Int×List KvS×Int×SpanS×NodeS×List UInt8
def Nl{R:Type}(rf:Mv->Option G0)(rec:Qd->Option R)(kx:Ex->Qd->Option R)(v:Qd):Option R:=match v with
 |(v,v1,v2,v3,w,w1,w2,w3,w4,w5,w6,w7,w8) =>
 cond (decide (v3<v2)) (
  let j2:=λ(a:Int) =>
  let j1:=λ(e:List UInt8) =>
   chk (inb a w7.kids.length) (
   (rf (w6,(at' .node w7.kids a),e,v,w,w1,w2,w3,w4,w5)).bind λ(x6,x7,x8,x9,b,c,d) =>
    cond (!x6) (
    kx .ret (v,false,v2,v3,x7,x8,x9,b,c,d,w6,w7,w8)) (
    rec (v,v1,v2,(wr .i64 (v3+1)),x7,x8,x9,b,c,d,w6,w7,w8)))
  cond (decide (w7.kind=3)) (
   (Ow w8).bind λx5 =>
   chk (decide (x5.length+1<=Ah)) (
    j1 (x5++[(UInt8.ofNat ((wr .u8 a):Int).toNat)]))) (
   j1 w8)
  cond (v) (
  j2 (wr .i64 ((wr .i64 ((w7.kids.length:Int)-1))-v3))) (
  j2 v3)) (
  kx (.exit 0) (v,v1,v2,v3,w,w1,w2,w3,w4,w5,w6,w7,w8))
def Am2(R:Type)(_k:Nat)(_rf:Mv->Option G0):Px R:=Bs9 [(240,cA A9k),(241,cA Avb)] [(69,qA Em)] [] []
noncomputable def A88(R:Type)(k:Nat)(rf:Mv->Option G0):Px R:=Bs9 [(238,cA Aoj),(151,cA Hd),(204,Cs Uo Rf rf),(239,A1 80 400 (Am2 R k rf) Tryz.f239)] [] [(10,Am k Aq4 (Nl rf))] []
def Ms(k:Nat)(rf:Mv->Option G0)(x:Mv):Option (G0):=match x with
 |(sp,n,way,back,m,r8,r9,e10,o11,jj) =>
 let j5:=λ(q:List UInt8) =>
  cond (decide (n.kind=0)) (
  some (true,m,r8,r9,e10,o11,jj)) (
  (Agi sp q).bind λx =>
   cond (!x) (
   some (true,m,r8,r9,e10,o11,jj)) (
   cond (decide (n.kind=4)) (
    chk (decide (jj=0)) (
    chk (!(List.isEmpty q)) (
     some (false,m,[],q,80,o11,1)))) (
    let j4:=λ(l:List KvS) (o:Int) =>
    Aj (λrec=>Nl rf rec (λe vz=>match vz with|(v4,v5,_,_,v8,v9,b,c,a,d,p,f,i)=>match e with
     |.ret =>
     some (v5,v8,v9,b,c,a,d)
     |.exit 0 =>
     cond (!v4) (
      some (true,v8,v9,b,c,a,d)) (
      let j3:=λ(r:Bool) =>
      cond (r) (
       some (true,v8,v9,b,c,a,d)) (
       (Axi p i).bind λs =>
       cond (!s) (
        some (true,v8,v9,b,c,a,d)) (
        (Abx i).bind λ(g,_) =>
        (Cc f.val).bind λh =>
         chk (decide (d=0)) (
         chk (decide (a.length+1<=Ah)) (
          cond (decide (((a++[(KvS.mk g h)]).length:Int)=v8)) (
          some (false,v8,v9,b,c,(a++[(KvS.mk g h)]),2)) (
          some (true,v8,v9,b,c,(a++[(KvS.mk g h)]),0))))))
      cond (!decide (f.kind=1)) (
      j3 (!f.has)) (
      j3 false))
     |_=>none)) k (back,false,(n.kids.length:Int),0,m,r8,r9,e10,l,o,sp,n,q)
    cond (!back) (
    let j:=λ(p2:Bool) =>
     cond (p2) (
     j4 o11 jj) (
     (Axi sp q).bind λx1 =>
      cond (!x1) (
      j4 o11 jj) (
      (Abx q).bind λ(x2,_) =>
       (Cc n.val).bind λx4 =>
       chk (decide (jj=0)) (
        chk (decide (o11.length+1<=Ah)) (
        cond (decide (((o11++[(KvS.mk x2 x4)]).length:Int)=m)) (
         some (false,m,r8,r9,e10,(o11++[(KvS.mk x2 x4)]),2)) (
         j4 (o11++[(KvS.mk x2 x4)]) 0)))))
    cond (!decide (n.kind=1)) (
     j (!n.has)) (
     j false)) (
    j4 o11 jj))))
 cond (List.isEmpty way) (
  cond (List.isEmpty n.path) (
  j5 []) (
  chk (decide (0+n.path.length<=Ah)) (
   j5 ([]++n.path)))) (
  chk (decide (0+way.length<=Ah)) (
  chk (decide (([]++way).length+n.path.length<=Ah)) (
   j5 (([]++way)++n.path))))
theorem Bgq(k:Nat)(rf:Mv->Option G0)(hrf:FM 204 Uo Rf rf):FM 204 Uo Rf (Ms k rf):=fRL (px:=A88 _ k rf) (n:=1) Tryz.func204 rfl (λcx H=>by have h1:Lv cx (Am2 (G0) k rf):=Bwk H (c1 H Bl2 (c1 H Bd5 Ae)) (q1 H D9 Aa) Ab;have h0:Lv cx (A88 (G0) k rf):=Bwk H (c1 H A2t (c1 H Gn (l1 H hrf (Ao (cR H h1 Tryz.func239 rfl (n:=0) (Ai)) Ae)))) Aa Ab;have hlwalk_0:=lO H h0 (b:=lp Tryz.f204 0) (k:=k) (n:=0) (s:=Aq4) (step:=Nl rf) (λ_ _ _ (_,_,_,_,_,_,_,_,_,_,_,_,_)=>by kernel_rfl) Ai;exact⟨h0,(A6 Ai hlwalk_0)⟩) λ(_,_,_,_,_,_,_,_,_,_)=>by kernel_rfl
def walk(sp:SpanS)(n:NodeS)(way:Str)(back:Bool)(m:Int)(r8:List KvS)(r9:Str)(e10:Int)(o11:List KvS)(jj:Int):Option G0:=Aj (V:=Mv) (R:=G0) (Ms 100) 500 (sp,n,way,back,m,r8,r9,e10,o11,jj)
def Arz:Mv->Option G0:=λx=>walk x.1 x.2.1 x.2.2.1 x.2.2.2.1 x.2.2.2.2.1 x.2.2.2.2.2.1 x.2.2.2.2.2.2.1 x.2.2.2.2.2.2.2.1 x.2.2.2.2.2.2.2.2.1 x.2.2.2.2.2.2.2.2.2
theorem Brr:FM 204 Uo Rf Arz :=.fin0 (sg:=Uo) (so:=Rf) (FnLn.rec' (Sx.enters_of Tryz.func204 rfl rfl) (λrf hrf=>Bgq 100 rf hrf) 500) λ_ _ _ hx=>hx
def Alc(R:Type):Px R:=pxO [] [] [] []
def Ajw(R:Type):Px R:=pxO [(204,Cs Uo Rf Arz)] [] [] []
noncomputable def Awu(R:Type):Px R:=pxO [(29,cA Ry),(158,A1 40 200 (Alc R) Tryz.f158),(203,A1 80 200 (Ajw R) Tryz.f203)] [] [] []
def Xe(x:HV [.sv .node,.sv .span,.int .i64,.bool]):Option (HV [.sl .kv false,.sl .byte false,.int .i64]):=match x with
 |(n,s,m,b) =>
 (Of n).bind λx =>
  cond (!decide (x=0)) (
  some ([],[],2)) (
  cond (decide (m<0)) (
   some ([],[],2)) (
   cond (decide (m=0)) (
   some ([],[],0)) (
   (Arz (s,n,[],b,m,[],[],0,[],0)).bind λ(_,_,x3,x4,x5,x6,x7) =>
    cond (decide (x7=0)) (
    some (x6,[],0)) (
    cond (decide (x7=1)) (
     some (x3,x4,x5)) (
     some (x6,[],0))))))
theorem Bej:FO 114 [.sv .node,.sv .span,.int .i64,.bool] [.sl .kv false,.sl .byte false,.int .i64] (Xe):=fRD (px:=Awu _) Tryz.func114 rfl (λcx H=>by have h1:Lv cx (Alc (HV [.sl .kv false,.sl .byte false,.int .i64])):=lv H Ae Aa Ab;have h2:Lv cx (Ajw (HV [.sl .kv false,.sl .byte false,.int .i64])):=lv H (l1 H Brr Ae) Aa Ab;have h0:Lv cx (Awu (HV [.sl .kv false,.sl .byte false,.int .i64])):=lv H (c1 H V5 (Ao (cR H h1 Tryz.func158 rfl (n:=0) (Ai)) (Ao (cR H h2 Tryz.func203 rfl (n:=0) (Ai)) Ae))) Aa Ab;exact h0) λ(_,_,_,_)=>by kernel_rfl
def Bjr(n:NodeS)(s:SpanS)(m:Int)(b:Bool):Option (List KvS×Str×Int):=Xe (n,s,m,b)
def A9i:FT [.sv .node,.sv .span,.int .i64,.bool] [.sl .kv false,.sl .byte false,.int .i64]:=λx=>Bjr x.1 x.2.1 x.2.2.1 x.2.2.2
theorem Bmk:FO 114 [.sv .node,.sv .span,.int .i64,.bool] [.sl .kv false,.sl .byte false,.int .i64] A9i :=.fin0 Bej λ_ _ _ hx=>hx
def Bcu(R:Type):Px R:=pxO [] [(115,qA Bi5),(114,qA A9i)] [] []
def Pv(x:HV [.sv .node,.sl .byte false,.sl .byte false,.int .i64]):Option (HV [.sl .kv false,.sl .byte false,.int .i64]):=match x with
 |(n,lo,hi,m) =>
 (Bt8 lo hi).bind λx =>
  (Bjr n x m false).bind λ(x1,x2,x3) =>
  some (x1,x2,x3)
theorem A4e:FO 76 [.sv .node,.sl .byte false,.sl .byte false,.int .i64] [.sl .kv false,.sl .byte false,.int .i64] (Pv):=fR (px:=Bcu _) (n:=0) Tryz.func76 rfl (λ_ H=>⟨lv H Ae (q1 H Bo5 (q1 H Bmk Aa)) Ab,Ai⟩) λ(_,_,_,_)=>by kernel_rfl
def Ar4(n:NodeS)(lo hi:Str)(m:Int):Option (List KvS×Str×Int):=Pv (n,lo,hi,m)
def Ay7:FT [.sv .node,.sl .byte false,.sl .byte false,.int .i64] [.sl .kv false,.sl .byte false,.int .i64]:=λx=>Ar4 x.1 x.2.1 x.2.2.1 x.2.2.2
theorem A94:FO 76 [.sv .node,.sl .byte false,.sl .byte false,.int .i64] [.sl .kv false,.sl .byte false,.int .i64] Ay7 :=.fin0 A4e λ_ _ _ hx=>hx
end
def Anv:Sig:=⟨36,[(6,.sl .byte true),(25,.sl .bytes false),(26,.int .i64),(27,.int .i64)],[],[],0,0,0,[],[]⟩
abbrev Yc:=List UInt8×List (List UInt8)×Int×Int
def Wn{R:Type}(rec:Yc->Option R)(kx:Ex->Yc->Option R)(v:Yc):Option R:=match v with
 |(c,b,d,a) =>
 cond (decide (a<d)) (
  chk (inb a b.length) (
  chk (decide (c.length+(at' .bytes b a).length<=Ah)) (
   rec ((c++(at' .bytes b a)),b,d,(wr .i64 (a+1)))))) (
  kx (.exit 2) (c,b,d,a))
def Aou:Sig:=⟨36,[(0,.sl .bytes false),(3,.int .i64),(9,.sl .bytes false),(10,.int .i64),(11,.int .i64)],[],[],0,0,0,[],[]⟩
abbrev Xw:=List (List UInt8)×Int×List (List UInt8)×Int×Int
def Vj{R:Type}(rec:Xw->Option R)(kx:Ex->Xw->Option R)(v:Xw):Option R:=match v with
 |(v,v1,v2,v3,v4) =>
 cond (decide (v4<v3)) (
  chk (inb v4 v2.length) (
  cond (decide ((wr .i64 (v1+((at' .bytes v2 v4).length:Int)))<0)) (
   none) (
   rec (v,(wr .i64 (v1+((at' .bytes v2 v4).length:Int))),v2,v3,(wr .i64 (v4+1)))))) (
  kx (.exit 0) (v,v1,v2,v3,v4))
def A5r(R:Type)(k:Nat):Px R:=pxO [(199,Aaf .byte)] [] [(3,Am k Aou (Vj)),(11,Am k Anv (Wn))] []
def Ab5(k:Nat)(x:HV [.sl .bytes false]):Option (HV [.sl .byte true]):=match x with
 |l =>
 Aj (λrec=>Vj rec (λe vz=>match vz with|(v5,v6,_,_,_)=>match e with
  |.exit 0 =>
  chk (decide ((0:Int)<=v6)&&decide (v6<=(2000000:Int))) (
   Aj (λrec=>Wn rec (λe vz=>match vz with|(a,_,_,_)=>match e with
   |.exit 2 =>some a
   |_=>none)) k ([],v5,(v5.length:Int),0))
  |_=>none)) k (l,0,l,(l.length:Int),0)
theorem Bf4(k:Nat):FO 154 [.sl .bytes false] [.sl .byte true] (Ab5 k):=fR (px:=A5r _ k) (n:=2) Tryz.func154 rfl (λcx H=>by have h0:Lv cx (A5r (HV [.sl .byte true]) k):=lv H (Ao (Ap8 H Ahx) Ae) Aa Ab;have hlbcat_0:=lO H h0 (b:=lp Tryz.f154 0) (k:=k) (n:=0) (s:=Aou) (step:=Vj) (λ_ _ _ (_,_,_,_,_)=>by kernel_rfl) Ai;have hlbcat_1:=lO H h0 (b:=lp Tryz.f154 1) (k:=k) (n:=0) (s:=Anv) (step:=Wn) (λ_ _ _ (_,_,_,_)=>by kernel_rfl) Ai;exact⟨h0,(A6 (A6 Ai hlbcat_0) hlbcat_1)⟩) λ_=>by kernel_rfl
def Aup(l:List Str):Option Str:=Ab5 100 l
def A26:FT [.sl .bytes false] [.sl .byte true]:=λx=>Aup x
theorem A8h:FO 154 [.sl .bytes false] [.sl .byte true] A26 :=.fin 0 Bf4 λ_ _ _ hx=>⟨100,hx⟩
def Ae5:Sig:=⟨36,[(21,.sl .node false),(22,.int .i64),(23,.int .i64)],[(2,.ptr 1 0),(3,.ptr 2 0)],[(1,.cells [.int .i64,.sl .byte true,.bool,.sl .byte true,.sl .node true,.sl .byte true]),(2,.cells [.int .i64,.sl .byte false,.bool,.sl .byte false,.sl .node true,.sl .byte false])],3,0,0,[],[]⟩
abbrev Ox:=List NodeS×Int×Int×Int×List UInt8×Bool×List UInt8×List NodeS×List UInt8×Int×List UInt8×Bool×List UInt8×List NodeS×List UInt8
def L5{R:Type}(rf:FT [.sv .node] [.sv .node])(rec:Ox->Option R)(kx:Ex->Ox->Option R)(v:Ox):Option R:=match v with
 |(v,v1,v2,w,w1,w2,w3,w4,w5,w6,w7,w8,w9,a,b) =>
 cond (decide (v2<v1)) (
  chk (inb v2 v.length) (
  (rf (at' .node v v2)).bind λx3 =>
   chk (decide (a.length+1<=Ah)) (
   rec (v,v1,(wr .i64 (v2+1)),w,w1,w2,w3,w4,w5,w6,w7,w8,w9,(a++[x3]),b)))) (
  kx (.exit 0) (v,v1,v2,w,w1,w2,w3,w4,w5,w6,w7,w8,w9,a,b))
def Aqu(R:Type)(k:Nat)(rf:FT [.sv .node] [.sv .node]):Px R:=pxO [] [(69,qA Em),(30,qA rf)] [(3,Am k Ae5 (L5 rf))] []
def Gl(k:Nat)(rf:FT [.sv .node] [.sv .node])(x:HV [.sv .node]):Option (HV [.sv .node]):=match x with
 |n =>
 (Cc n.path).bind λx =>
  (Cc n.val).bind λx1 =>
  (Cc n.hash).bind λx2 =>
   Aj (λrec=>L5 rf rec (λe vz=>match vz with|(_,_,_,_,_,_,_,_,_,a,b,c,d,f,g)=>match e with
   |.exit 0 =>some (NodeS.mk a b c d f g)
   |_=>none)) k (n.kids,(n.kids.length:Int),0,0,[],false,[],[],[],n.kind,x,n.has,x1,[],x2)
theorem A48(k:Nat)(rf:FT [.sv .node] [.sv .node])(hrf:FO 30 [.sv .node] [.sv .node] rf):FO 30 [.sv .node] [.sv .node] (Gl k rf):=fR (px:=Aqu _ k rf) (n:=1) Tryz.func30 rfl (λcx H=>by have h0:Lv cx (Aqu (HV [.sv .node]) k rf):=lv H Ae (q1 H D9 (q1 H hrf Aa)) Ab;have hlndcopy_0:=lO H h0 (b:=lp Tryz.f30 0) (k:=k) (n:=0) (s:=Ae5) (step:=L5 rf) (λ_ _ _ (_,_,_,_,_,_,_,_,_,_,_,_,_,_,_)=>by kernel_rfl) Ai;exact⟨h0,(A6 Ai hlndcopy_0)⟩) λ_=>by kernel_rfl
def Aka(n:NodeS):Option NodeS:=Aj (Gl 100) 500 n
def Ah1:FT [.sv .node] [.sv .node]:=λx=>Aka x
theorem Aqd:FO 30 [.sv .node] [.sv .node] Ah1 :=.fin0 (FnOk.rec' (Sx.enters_of Tryz.func30 rfl rfl) (λrf hrf=>A48 100 rf hrf) 500) λ_ _ _ hx=>hx
def Bq7(R:Type)(rf:FT [.sv .node,.sl .byte false,.sl .byte false] [.sl .byte false,.bool,.nl .byte]):Px R:=pxO [(151,cA Hd),(152,cA A7z),(153,cA Asj)] [(69,qA Em),(154,qA A26),(110,qA rf)] [] []
def Ez(rf:FT [.sv .node,.sl .byte false,.sl .byte false] [.sl .byte false,.bool,.nl .byte])(x:HV [.sv .node,.sl .byte false,.sl .byte false]):Option (HV [.sl .byte false,.bool,.nl .byte]):=match x with
 |(n,p,w) =>
 cond (decide (n.kind=4)) (
  (Ow w).bind λ_ =>
  none) (
  cond (decide (n.kind=1)) (
  (Cc n.val).bind λx1 =>some (x1,(beq n.path p),())) (
  cond (decide (n.kind=2)) (
   (Bbd p n.path).bind λx2 =>
   cond (!x2) (
    some ([],false,())) (
    chk (inb 0 n.kids.length) (
    chk (upto (n.path.length:Int) p.length p.length) (
     (Aup [w,n.path]).bind λx3 =>
     (rf ((at' .node n.kids 0),(p.drop ((n.path.length:Int):Int).toNat),x3)).bind λ(x4,x5,_) =>some (x4,x5,()))))) (
   cond (decide (n.kind=3)) (
   cond (decide ((p.length:Int)=0)) (
    (Cc n.val).bind λx7 =>
    some (x7,n.has,())) (
    chk (inb 0 p.length) (
    chk (inb ((at' .byte p 0).toNat:Int) n.kids.length) (
     chk (upto 1 p.length p.length) (
     chk (upto 0 1 p.length) (
      (Aup [w,(p.take (1:Int).toNat)]).bind λx8 =>
      (rf ((at' .node n.kids ((at' .byte p 0).toNat:Int)),(p.drop (1:Int).toNat),x8)).bind λ(x9,a,_) =>some (x9,a,()))))))) (
   some ([],false,())))))
theorem Bl9(rf:FT [.sv .node,.sl .byte false,.sl .byte false] [.sl .byte false,.bool,.nl .byte])(hrf:FO 110 [.sv .node,.sl .byte false,.sl .byte false] [.sl .byte false,.bool,.nl .byte] rf):FO 110 [.sv .node,.sl .byte false,.sl .byte false] [.sl .byte false,.bool,.nl .byte] (Ez rf):=fR (px:=Bq7 _ rf) (n:=0) Tryz.func110 rfl (λ_ H=>⟨lv H (c1 H Gn (c1 H A10 (c1 H Asv Ae))) (q1 H D9 (q1 H A8h (q1 H hrf Aa))) Ab,Ai⟩) λ(_,_,_)=>by kernel_rfl
def Bu3(n:NodeS)(p w:Str):Option (Str×Bool×Unit):=Aj Ez 500 (n,p,w)
def Bfp:FT [.sv .node,.sl .byte false,.sl .byte false] [.sl .byte false,.bool,.nl .byte]:=λx=>Bu3 x.1 x.2.1 x.2.2
theorem Brn:FO 110 [.sv .node,.sl .byte false,.sl .byte false] [.sl .byte false,.bool,.nl .byte] Bfp :=.fin0 (FnOk.rec' (Sx.enters_of Tryz.func110 rfl rfl) (λrf hrf=>Bl9 rf hrf) 500) λ_ _ _ hx=>hx
def Bbk(R:Type):Px R:=pxO [(29,cA Ry)] [] [] []
def Pn(x:HV [.sv .node,.sl .byte false,.sl .byte false]):Option (HV [.bool]):=match x with
 |(n,k,v) =>
 (Of n).bind λx =>
  cond (decide (x=0)) (
  cond (decide ((k.length:Int)<=200)) (
   some (decide ((v.length:Int)<=4000))) (
   some false)) (
  some false)
theorem A36:FO 109 [.sv .node,.sl .byte false,.sl .byte false] [.bool] (Pn):=fR (px:=Bbk _) (n:=0) Tryz.func109 rfl (λ_ H=>⟨lv H (c1 H V5 Ae) Aa Ab,Ai⟩) λ(_,_,_)=>by kernel_rfl
def Aia(n:NodeS)(k v:Str):Option Bool:=Pn (n,k,v)
def Ajv:FT [.sv .node,.sl .byte false,.sl .byte false] [.bool]:=λx=>Aia x.1 x.2.1 x.2.2
theorem Ann:FO 109 [.sv .node,.sl .byte false,.sl .byte false] [.bool] Ajv :=.fin0 A36 λ_ _ _ hx=>hx
def Bqw(R:Type):Px R:=pxO [(109,cA Ajv)] [(111,qA A5l),(110,qA Bfp)] [] []
def Ady(x:HV [.sv .node,.sl .byte false]):Option (HV [.sl .byte false,.bool,.nl .byte,.int .i64]):=match x with
 |(n,k) =>
 (Aia n k []).bind λx =>
  cond (!x) (
  some ([],false,(),2)) (
  (nof k).bind λx1 =>
   (Bu3 n x1 []).bind λ(x2,x3,_) =>
   cond (!x3) (
    some ([],false,(),0)) (
    some (x2,true,(),0)))
theorem Bg8:FO 71 [.sv .node,.sl .byte false] [.sl .byte false,.bool,.nl .byte,.int .i64] (Ady):=fR (px:=Bqw _) (n:=0) Tryz.func71 rfl (λ_ H=>⟨lv H (c1 H Ann Ae) (q1 H A4b (q1 H Brn Aa)) Ab,Ai⟩) λ(_,_)=>by kernel_rfl
def Bnv(n:NodeS)(k:Str):Option (Str×Bool×Unit×Int):=Ady (n,k)
def Bkj:FT [.sv .node,.sl .byte false] [.sl .byte false,.bool,.nl .byte,.int .i64]:=λx=>Bnv x.1 x.2
theorem Brb:FO 71 [.sv .node,.sl .byte false] [.sl .byte false,.bool,.nl .byte,.int .i64] Bkj :=.fin0 Bg8 λ_ _ _ hx=>hx
def Blw(R:Type):Px R:=pxO [(151,cA Hd),(69,cA Em)] [] [] []
def Vw(x:HV [.sl .byte false,.sl .byte false]):Option (HV [.sv .node]):=match x with
 |(p,v) =>
 (Ow p).bind λx =>
  (Cc v).bind λx1 =>
  some (NodeS.mk 1 x false x1 [] [])
theorem Bac:FO 155 [.sl .byte false,.sl .byte false] [.sv .node] (Vw):=fR (px:=Blw _) (n:=0) Tryz.func155 rfl (λ_ H=>⟨lv H (c1 H Gn (c1 H D9 Ae)) Aa Ab,Ai⟩) λ(_,_)=>by kernel_rfl
def X4(p v:Str):Option NodeS:=Vw (p,v)
def Af8:FT [.sl .byte false,.sl .byte false] [.sv .node]:=λx=>X4 x.1 x.2
theorem Akt:FO 155 [.sl .byte false,.sl .byte false] [.sv .node] Af8 :=.fin0 Bac λ_ _ _ hx=>hx
def Bcr(R:Type):Px R:=pxO [] [(151,qA Hd)] [] []
def Pr(x:HV [.sl .byte false,.sv .node]):Option (HV [.sv .node]):=match x with
 |(p,n) =>
 cond (decide ((p.length:Int)=0)) (
  some n) (
  (Ow p).bind λx =>
  some (NodeS.mk 2 x false [] [n] []))
theorem A5d:FO 202 [.sl .byte false,.sv .node] [.sv .node] (Pr):=fR (px:=Bcr _) (n:=0) Tryz.func202 rfl (λ_ H=>⟨lv H Ae (q1 H Gn Aa) Ab,Ai⟩) λ(_,_)=>by kernel_rfl
def Ks(p:Str)(n:NodeS):Option NodeS:=Pr (p,n)
def Agy:FT [.sl .byte false,.sv .node] [.sv .node]:=λx=>Ks x.1 x.2
theorem Apj:FO 202 [.sl .byte false,.sv .node] [.sv .node] Agy :=.fin0 A5d λ_ _ _ hx=>hx
def Ajd(R:Type):Px R:=pxO [(69,cA Em)] [(155,qA Af8)] [] []
def Aht(R:Type):Px R:=pxO [(69,cA Em)] [(155,qA Af8)] [] []
noncomputable def Azb(R:Type):Px R:=pxO [(200,cA A4t),(202,cA Agy),(201,Ui 40 200 (Ajd R) Tryz.f201 (A1 40 400 (Aht R) Tryz.f201))] [(202,qA Agy)] [] []
def Nk(x:HV [.sv .node,.sl .byte false,.sl .byte false]):Option (HV [.sv .node]):=match x with
 |(n,p,v) =>
 (Bo8 n.path p).bind λx =>
  cond (decide (n.kind=1)) (
  chk (upto x n.path.length n.path.length) (
   cond (decide (((n.path.drop (x:Int).toNat).length:Int)=0)) (
   (Cc n.val).bind λx1 =>
    chk (upto x p.length p.length) (
    cond (decide (((p.drop (x:Int).toNat).length:Int)=0)) (
     (Cc v).bind λx4 =>
     chk (upto 0 x p.length) (
      chk (decide ((0:Int)<=0)&&decide ((0:Int)<=16)&&decide (16<=((List.replicate (16:Int).toNat (zer .node)).length:Int))) (
      (Ks (p.take (x:Int).toNat) (NodeS.mk 3 [] true x4 (cut (List.replicate (16:Int).toNat (zer .node)) 0 16) [])).bind λx6 =>some x6))) (
     chk (inb 0 ((p.drop (x:Int).toNat).length)) (
     chk (upto 1 (p.drop (x:Int).toNat).length (p.drop (x:Int).toNat).length) (
      (X4 ((p.drop (x:Int).toNat).drop (1:Int).toNat) v).bind λx5 =>
      chk (inO ((at' .byte (p.drop (x:Int).toNat) 0).toNat:Int) 16) (
       chk (inb (0+((at' .byte (p.drop (x:Int).toNat) 0).toNat:Int)) ((List.replicate (16:Int).toNat (zer .node)).length)) (
       chk (upto 0 x p.length) (
        chk (decide ((0:Int)<=0)&&decide ((0:Int)<=16)&&decide (16<=(((List.replicate (16:Int).toNat (zer .node)).set ((0+((at' .byte (p.drop (x:Int).toNat) 0).toNat:Int)):Int).toNat x5).length:Int))) (
        (Ks (p.take (x:Int).toNat) (NodeS.mk 3 [] true x1 (cut ((List.replicate (16:Int).toNat (zer .node)).set ((0+((at' .byte (p.drop (x:Int).toNat) 0).toNat:Int)):Int).toNat x5) 0 16) [])).bind λx7 =>some x7))))))))) (
   chk (inb 0 ((n.path.drop (x:Int).toNat).length)) (
    chk (upto 1 (n.path.drop (x:Int).toNat).length (n.path.drop (x:Int).toNat).length) (
    (X4 ((n.path.drop (x:Int).toNat).drop (1:Int).toNat) n.val).bind λx2 =>
     chk (inO ((at' .byte (n.path.drop (x:Int).toNat) 0).toNat:Int) 16) (
     chk (inb (0+((at' .byte (n.path.drop (x:Int).toNat) 0).toNat:Int)) ((List.replicate (16:Int).toNat (zer .node)).length)) (
      chk (upto x p.length p.length) (
      cond (decide (((p.drop (x:Int).toNat).length:Int)=0)) (
       (Cc v).bind λx8 =>
       chk (upto 0 x p.length) (
        chk (decide ((0:Int)<=0)&&decide ((0:Int)<=16)&&decide (16<=(((List.replicate (16:Int).toNat (zer .node)).set ((0+((at' .byte (n.path.drop (x:Int).toNat) 0).toNat:Int)):Int).toNat x2).length:Int))) (
        (Ks (p.take (x:Int).toNat) (NodeS.mk 3 [] true x8 (cut ((List.replicate (16:Int).toNat (zer .node)).set ((0+((at' .byte (n.path.drop (x:Int).toNat) 0).toNat:Int)):Int).toNat x2) 0 16) [])).bind λb =>some b))) (
       chk (inb 0 ((p.drop (x:Int).toNat).length)) (
       chk (upto 1 (p.drop (x:Int).toNat).length (p.drop (x:Int).toNat).length) (
        (X4 ((p.drop (x:Int).toNat).drop (1:Int).toNat) v).bind λx9 =>
        chk (inO ((at' .byte (p.drop (x:Int).toNat) 0).toNat:Int) 16) (
         chk (inb (0+((at' .byte (p.drop (x:Int).toNat) 0).toNat:Int)) (((List.replicate (16:Int).toNat (zer .node)).set ((0+((at' .byte (n.path.drop (x:Int).toNat) 0).toNat:Int)):Int).toNat x2).length)) (
         chk (upto 0 x p.length) (
          chk (decide ((0:Int)<=0)&&decide ((0:Int)<=16)&&decide (16<=((((List.replicate (16:Int).toNat (zer .node)).set ((0+((at' .byte (n.path.drop (x:Int).toNat) 0).toNat:Int)):Int).toNat x2).set ((0+((at' .byte (p.drop (x:Int).toNat) 0).toNat:Int)):Int).toNat x9).length:Int))) (
          (Ks (p.take (x:Int).toNat) (NodeS.mk 3 [] false [] (cut (((List.replicate (16:Int).toNat (zer .node)).set ((0+((at' .byte (n.path.drop (x:Int).toNat) 0).toNat:Int)):Int).toNat x2).set ((0+((at' .byte (p.drop (x:Int).toNat) 0).toNat:Int)):Int).toNat x9) 0 16) [])).bind λc =>some c))))))))))))))) (
  chk (inb x n.path.length) (
   chk (upto (wr .i64 (x+1)) n.path.length n.path.length) (
   chk (inb 0 n.kids.length) (
    (Ks (n.path.drop ((wr .i64 (x+1)):Int).toNat) (at' .node n.kids 0)).bind λx3 =>
    chk (inO ((at' .byte n.path x).toNat:Int) 16) (
     chk (inb (0+((at' .byte n.path x).toNat:Int)) ((List.replicate (16:Int).toNat (zer .node)).length)) (
     chk (upto x p.length p.length) (
      cond (decide (((p.drop (x:Int).toNat).length:Int)=0)) (
      (Cc v).bind λd =>
       chk (upto 0 x p.length) (
       chk (decide ((0:Int)<=0)&&decide ((0:Int)<=16)&&decide (16<=(((List.replicate (16:Int).toNat (zer .node)).set ((0+((at' .byte n.path x).toNat:Int)):Int).toNat x3).length:Int))) (
        (Ks (p.take (x:Int).toNat) (NodeS.mk 3 [] true d (cut ((List.replicate (16:Int).toNat (zer .node)).set ((0+((at' .byte n.path x).toNat:Int)):Int).toNat x3) 0 16) [])).bind λe =>
        some e))) (
      chk (inb 0 ((p.drop (x:Int).toNat).length)) (
       chk (upto 1 (p.drop (x:Int).toNat).length (p.drop (x:Int).toNat).length) (
       (X4 ((p.drop (x:Int).toNat).drop (1:Int).toNat) v).bind λa =>
        chk (inO ((at' .byte (p.drop (x:Int).toNat) 0).toNat:Int) 16) (
        chk (inb (0+((at' .byte (p.drop (x:Int).toNat) 0).toNat:Int)) (((List.replicate (16:Int).toNat (zer .node)).set ((0+((at' .byte n.path x).toNat:Int)):Int).toNat x3).length)) (
         chk (upto 0 x p.length) (
         chk (decide ((0:Int)<=0)&&decide ((0:Int)<=16)&&decide (16<=((((List.replicate (16:Int).toNat (zer .node)).set ((0+((at' .byte n.path x).toNat:Int)):Int).toNat x3).set ((0+((at' .byte (p.drop (x:Int).toNat) 0).toNat:Int)):Int).toNat a).length:Int))) (
          (Ks (p.take (x:Int).toNat) (NodeS.mk 3 [] false [] (cut (((List.replicate (16:Int).toNat (zer .node)).set ((0+((at' .byte n.path x).toNat:Int)):Int).toNat x3).set ((0+((at' .byte (p.drop (x:Int).toNat) 0).toNat:Int)):Int).toNat a) 0 16) [])).bind λf =>
          some f))))))))))))))
theorem Bbb:FO 156 [.sv .node,.sl .byte false,.sl .byte false] [.sv .node] (Nk):=fR (px:=Azb _) (n:=0) Tryz.func156 rfl (λcx H=>by have h1:Lv cx (Ajd (HV [.sv .node])):=lv H (c1 H D9 Ae) (q1 H Akt Aa) Ab;have h2:Lv cx (Aht (HV [.sv .node])):=lv H (c1 H D9 Ae) (q1 H Akt Aa) Ab;have h0:Lv cx (Azb (HV [.sv .node])):=lv H (c1 H A5q (c1 H Apj (Ao (Axa (cR H h1 Tryz.func201 rfl (n:=0) (Ai)) (cR H h2 Tryz.func201 rfl (n:=0) (Ai))) Ae))) (q1 H Apj Aa) Ab;exact⟨h0,Ai⟩) λ(_,_,_)=>by kernel_rfl
def Ajt(n:NodeS)(p v:Str):Option NodeS:=Nk (n,p,v)
def A89:FT [.sv .node,.sl .byte false,.sl .byte false] [.sv .node]:=λx=>Ajt x.1 x.2.1 x.2.2
theorem Biw:FO 156 [.sv .node,.sl .byte false,.sl .byte false] [.sv .node] A89 :=.fin0 Bbb λ_ _ _ hx=>hx
def Bql(R:Type)(rf:FT [.sv .node,.sl .byte false,.sl .byte false,.sl .byte false] [.sv .node,.nl .byte]):Px R:=pxO [(155,cA Af8),(152,cA A7z),(156,cA A89),(153,cA Asj),(157,W0 .node),(69,cA Em)] [(151,qA Hd),(154,qA A26),(112,qA rf)] [] []
def Hr(rf:FT [.sv .node,.sl .byte false,.sl .byte false,.sl .byte false] [.sv .node,.nl .byte])(x:HV [.sv .node,.sl .byte false,.sl .byte false,.sl .byte false]):Option (HV [.sv .node,.nl .byte]):=match x with
 |(n,p,v,w) =>
 cond (decide (n.kind=4)) (
  (Ow w).bind λ_ =>
  none) (
  cond (decide (n.kind=0)) (
  (X4 p v).bind λx1 =>some (x1,())) (
  cond (decide (n.kind=1)) (
   cond ((beq n.path p)) (
   (X4 p v).bind λx2 =>some (x2,())) (
   (Ajt n p v).bind λx3 =>some (x3,()))) (
   cond (decide (n.kind=2)) (
   (Bbd p n.path).bind λx4 =>
    cond (!x4) (
    (Ajt n p v).bind λx5 =>some (x5,())) (
    chk (inb 0 n.kids.length) (
     chk (upto (n.path.length:Int) p.length p.length) (
     (Aup [w,n.path]).bind λx6 =>
      (rf ((at' .node n.kids 0),(p.drop ((n.path.length:Int):Int).toNat),v,x6)).bind λ(x7,_) =>
      some ((NodeS.mk n.kind n.path n.has n.val [x7] n.hash),()))))) (
   chk (decide (n.kids.length<=2000000)) (
    cond (List.isEmpty n.kids) (
    cond (decide ((p.length:Int)=0)) (
     (Cc v).bind λx9 =>
     some ((NodeS.mk n.kind n.path true x9 [] n.hash),())) (
     chk (inb 0 p.length) (
     chk (inb ((at' .byte p 0).toNat:Int) 0) (
      chk (upto 1 p.length p.length) (
      chk (upto 0 1 p.length) (
       (Aup [w,(p.take (1:Int).toNat)]).bind λb =>
       (rf ((at' .node [] ((at' .byte p 0).toNat:Int)),(p.drop (1:Int).toNat),v,b)).bind λ(_,_) =>
        chk (inb 0 p.length) (
        chk (inb ((at' .byte p 0).toNat:Int) 0) (
         none)))))))) (
    cond (decide ((p.length:Int)=0)) (
     (Cc v).bind λc =>
     chk (decide ((0:Int)<=0)&&decide ((0:Int)<=(n.kids.length:Int))&&decide ((0+(n.kids.length:Int))<=(n.kids.length:Int))) (
      some ((NodeS.mk n.kind n.path true c (cut n.kids 0 (0+(n.kids.length:Int))) n.hash),()))) (
     chk (inb 0 p.length) (
     chk (inO ((at' .byte p 0).toNat:Int) (n.kids.length:Int)) (
      chk (inb (0+((at' .byte p 0).toNat:Int)) n.kids.length) (
      chk (upto 1 p.length p.length) (
       chk (upto 0 1 p.length) (
       (Aup [w,(p.take (1:Int).toNat)]).bind λd =>
        (rf ((at' .node n.kids (0+((at' .byte p 0).toNat:Int))),(p.drop (1:Int).toNat),v,d)).bind λ(a,_) =>
        chk (inb 0 p.length) (
         chk (inO ((at' .byte p 0).toNat:Int) (n.kids.length:Int)) (
         chk (inb (0+((at' .byte p 0).toNat:Int)) n.kids.length) (
          chk (decide ((0:Int)<=0)&&decide ((0:Int)<=(n.kids.length:Int))&&decide ((0+(n.kids.length:Int))<=((n.kids.set ((0+((at' .byte p 0).toNat:Int)):Int).toNat a).length:Int))) (
          some ((NodeS.mk n.kind n.path n.has n.val (cut (n.kids.set ((0+((at' .byte p 0).toNat:Int)):Int).toNat a) 0 (0+(n.kids.length:Int))) n.hash),())))))))))))))))))
theorem Bkm(rf:FT [.sv .node,.sl .byte false,.sl .byte false,.sl .byte false] [.sv .node,.nl .byte])(hrf:FO 112 [.sv .node,.sl .byte false,.sl .byte false,.sl .byte false] [.sv .node,.nl .byte] rf):FO 112 [.sv .node,.sl .byte false,.sl .byte false,.sl .byte false] [.sv .node,.nl .byte] (Hr rf):=fR (px:=Bql _ rf) (n:=0) Tryz.func112 rfl (λ_ H=>⟨lv H (c1 H Akt (c1 H A10 (c1 H Biw (c1 H Asv (Ao (cCl H Ad8 Z7) (c1 H D9 Ae)))))) (q1 H Gn (q1 H A8h (q1 H hrf Aa))) Ab,Ai⟩) λ(_,_,_,_)=>by kernel_rfl
def Bua(n:NodeS)(p v w:Str):Option (NodeS×Unit):=Aj Hr 500 (n,p,v,w)
def Bl0:FT [.sv .node,.sl .byte false,.sl .byte false,.sl .byte false] [.sv .node,.nl .byte]:=λx=>Bua x.1 x.2.1 x.2.2.1 x.2.2.2
theorem Brh:FO 112 [.sv .node,.sl .byte false,.sl .byte false,.sl .byte false] [.sv .node,.nl .byte] Bl0 :=.fin0 (FnOk.rec' (Sx.enters_of Tryz.func112 rfl rfl) (λrf hrf=>Bkm rf hrf) 500) λ_ _ _ hx=>hx
def Brc(R:Type):Px R:=pxO [(109,cA Ajv),(30,cA Ah1),(111,cA A5l),(112,cA Bl0)] [] [] []
def Ach(x:HV [.sv .node,.sl .byte false,.sl .byte false]):Option (HV [.sv .node,.nl .byte,.int .i64]):=match x with
 |(n,k,v) =>
 (Aia n k v).bind λx =>
  cond (!x) (
  some ((NodeS.mk 0 [] false [] [] []),(),2)) (
  (Aka n).bind λx1 =>
   (nof k).bind λx2 =>
   (Bua x1 x2 v []).bind λ(x3,_) =>some (x3,(),0))
theorem Bm6:FO 73 [.sv .node,.sl .byte false,.sl .byte false] [.sv .node,.nl .byte,.int .i64] (Ach):=fR (px:=Brc _) (n:=0) Tryz.func73 rfl (λ_ H=>⟨lv H (c1 H Ann (c1 H Aqd (c1 H A4b (c1 H Brh Ae)))) Aa Ab,Ai⟩) λ(_,_,_)=>by kernel_rfl
def Bp6(n:NodeS)(k v:Str):Option (NodeS×Unit×Int):=Ach (n,k,v)
def Bk5:FT [.sv .node,.sl .byte false,.sl .byte false] [.sv .node,.nl .byte,.int .i64]:=λx=>Bp6 x.1 x.2.1 x.2.2
theorem Bo1:FO 73 [.sv .node,.sl .byte false,.sl .byte false] [.sv .node,.nl .byte,.int .i64] Bk5 :=.fin0 Bm6 λ_ _ _ hx=>hx
noncomputable section
def Ary:Sig:=⟨2,[(1,.sl .byte false)],[(0,.ptr 0 0)],[(0,.cells [.int .i64,.sl .byte false,.bool,.sl .byte false,.sl .node false,.sl .byte false,.sl .stt false,.sl .byte false])],1,1,0,[],[]⟩
def Arj:Sig:=⟨3,[(0,.sl .byte false),(1,.bool),(2,.int .i64)],[],[(0,.cells [.int .i64,.sl .byte false,.bool,.sl .byte false,.sl .node false,.sl .byte false,.sl .stt false,.sl .byte false])],1,1,0,[],[]⟩
abbrev Bfs:=List UInt8×Int×List UInt8×Bool×List UInt8×List NodeS×List UInt8×List NodeS×List UInt8
abbrev Ar3:=List UInt8×Bool×Int×Int×List UInt8×Bool×List UInt8×List NodeS×List UInt8×List NodeS×List UInt8
def Aod(R:Type):Px R:=pxO [] [] [] []
noncomputable def A65(R:Type):Px R:=pxO [(71,cA Bkj),(72,A1 80 400 (Aod R) Tryz.f72)] [] [] []
def Sf(x:Bfs):Option (Ar3):=match x with
 |(k,a,b,c,d,e,f,g,h) =>
 (Bnv (NodeS.mk a b c d e f) k).bind λ(x,x1,_,x3) =>
  cond (decide (x3=80)) (
  some (x,x1,x3,a,b,c,d,e,f,g,[])) (
  some (x,x1,x3,a,b,c,d,e,f,g,h))
theorem Bi9:FM 32 Ary Arj (Sf):=fRL (px:=A65 _) (n:=0) Tryz.func32 rfl (λcx H=>by have h1:Lv cx (Aod (Ar3)):=lv H Ae Aa Ab;have h0:Lv cx (A65 (Ar3)):=lv H (c1 H Brb (Ao (cR H h1 Tryz.func72 rfl (n:=0) (Ai)) Ae)) Aa Ab;exact⟨h0,Ai⟩) λ(_,_,_,_,_,_,_,_,_)=>by kernel_rfl
def Au2:Bfs->Option Ar3:=λx=>Sf x
theorem Brt:FM 32 Ary Arj (Au2):=Bi9
def Asd:Sig:=⟨3,[(1,.sl .byte false),(2,.sl .byte false)],[(0,.ptr 0 0)],[(0,.cells [.int .i64,.sl .byte false,.bool,.sl .byte false,.sl .node false,.sl .byte false,.sl .stt false,.sl .byte false])],1,1,0,[],[]⟩
def Ar7:Sig:=⟨1,[(0,.int .i64)],[],[(0,.cells [.int .i64,.sl .byte false,.bool,.sl .byte false,.sl .node false,.sl .byte false,.sl .stt false,.sl .byte false])],1,1,0,[],[]⟩
abbrev Bl3:=List UInt8×List UInt8×Int×List UInt8×Bool×List UInt8×List NodeS×List UInt8×List NodeS×List UInt8
abbrev Arq:=Int×Int×List UInt8×Bool×List UInt8×List NodeS×List UInt8×List NodeS×List UInt8
def An1(R:Type):Px R:=pxO [] [] [] []
noncomputable def A9e(R:Type):Px R:=pxO [(73,cA Bk5),(72,A1 80 400 (An1 R) Tryz.f72)] [] [] []
def Rk(x:Bl3):Option (Arq):=match x with
 |(k,v,a,b,c,d,e,f,g,h) =>
 (Bp6 (NodeS.mk a b c d e f) k v).bind λ(x,_,x2) =>
  cond (decide (x2=0)) (
  cond (decide (x2=80)) (
   some (x2,x.kind,x.path,x.has,x.val,x.kids,x.hash,g,[])) (
   some (x2,x.kind,x.path,x.has,x.val,x.kids,x.hash,g,h))) (
  cond (decide (x2=80)) (
   some (x2,a,b,c,d,e,f,g,[])) (
   some (x2,a,b,c,d,e,f,g,h)))
theorem Bng:FM 33 Asd Ar7 (Rk):=fRL (px:=A9e _) (n:=0) Tryz.func33 rfl (λcx H=>by have h1:Lv cx (An1 (Arq)):=lv H Ae Aa Ab;have h0:Lv cx (A9e (Arq)):=lv H (c1 H Bo1 (Ao (cR H h1 Tryz.func72 rfl (n:=0) (Ai)) Ae)) Aa Ab;exact⟨h0,Ai⟩) λ(_,_,_,_,_,_,_,_,_,_)=>by kernel_rfl
def Arl:Bl3->Option Arq:=λx=>Rk x
theorem Bru:FM 33 Asd Ar7 (Arl):=Bng
def Ada:Sig:=⟨4,[(1,.sl .byte false),(2,.sl .byte false),(3,.int .i64)],[(0,.ptr 0 0)],[(0,.cells [.int .i64,.sl .byte false,.bool,.sl .byte false,.sl .node false,.sl .byte false,.sl .stt false,.sl .byte false])],1,1,0,[],[]⟩
def Abu:Sig:=⟨2,[(0,.sl .kv false),(1,.int .i64)],[],[(0,.cells [.int .i64,.sl .byte false,.bool,.sl .byte false,.sl .node false,.sl .byte false,.sl .stt false,.sl .byte false])],1,1,0,[],[]⟩
abbrev Ax5:=List UInt8×List UInt8×Int×Int×List UInt8×Bool×List UInt8×List NodeS×List UInt8×List NodeS×List UInt8
abbrev Aag:=List KvS×Int×Int×List UInt8×Bool×List UInt8×List NodeS×List UInt8×List NodeS×List UInt8
def Aew(R:Type):Px R:=pxO [] [] [] []
noncomputable def Aos(R:Type):Px R:=pxO [(76,cA Ay7),(72,A1 80 400 (Aew R) Tryz.f72)] [] [] []
def J9(x:Ax5):Option (Aag):=match x with
 |(lo,hi,m,a,b,c,d,e,f,g,h) =>
 (Ar4 (NodeS.mk a b c d e f) lo hi m).bind λ(x,x1,x2) =>
  cond (decide (x2=80)) (
  chk (decide (0+x1.length<=Ah)) (
   some (x,x2,a,b,c,d,e,f,g,([]++x1)))) (
  some (x,x2,a,b,c,d,e,f,g,h))
theorem A3f:FM 37 Ada Abu (J9):=fRL (px:=Aos _) (n:=0) Tryz.func37 rfl (λcx H=>by have h1:Lv cx (Aew (Aag)):=lv H Ae Aa Ab;have h0:Lv cx (Aos (Aag)):=lv H (c1 H A94 (Ao (cR H h1 Tryz.func72 rfl (n:=0) (Ai)) Ae)) Aa Ab;exact⟨h0,Ai⟩) λ(_,_,_,_,_,_,_,_,_,_,_)=>by kernel_rfl
def Xp:Ax5->Option Aag:=λx=>J9 x
theorem Bce:FM 37 Ada Abu (Xp):=A3f
end
def tbL(R:Type):List (Nat×Et R):=[
 (38,cA Agk),
 (69,cA Em),
 (151,cA Hd),
 (157,W0 .node),
 (199,Aaf .byte),
 (113,Aaf .val),
 (70,Aaf .kv),
 (124,cA Aaa)]
theorem Bmp{R:Type}{cx:Cx}(H:HX cx):∀g f,(g,f)∈tbL R->Gw cx g f:=(c1 H (Ay5) (c1 H (D9) (c1 H (Gn) (Ao (cCl H Ad8 Z7) (Ao (Ap8 H Ahx) (Ao (Ap8 H Aj5) (Ao (Ap8 H Apd) (c1 H (Anj) Ae))))))))
def tbT(R:Type)(g:Nat):Option (Et R):=tbl (tbL R) g
def tqL(R:Type):List (Nat×Eh R):=[
 (69,qA Em),
 (151,qA Hd)]
theorem Bix{R:Type}{cx:Cx}(H:HX cx):∀g f,(g,f)∈tqL R->Mq cx g f:=(q1 H (D9) (q1 H (Gn) Aa))
def tqT(R:Type)(g:Nat):Option (Eh R):=tbl (tqL R) g
def swL:List (Nat×(Sig×Sig)):=[
 (32,(⟨2,[(1,.sl .byte false)],[(0,.ptr 0 0)],[(0,.cells [.int .i64,.sl .byte false,.bool,.sl .byte false,.sl .node false,.sl .byte false,.sl .stt true,.sl .byte false])],1,1,0,[],[]⟩,⟨3,[(0,.sl .byte false),(1,.bool),(2,.int .i64)],[],[(0,.cells [.int .i64,.sl .byte false,.bool,.sl .byte false,.sl .node false,.sl .byte false,.sl .stt true,.sl .byte false])],1,1,0,[],[]⟩)),
 (13,(⟨3,[(1,.sv .tbl),(2,.sl .val false)],[(0,.ptr 0 0)],[(0,.cells [.int .i64,.sl .byte false,.bool,.sl .byte false,.sl .node false,.sl .byte false,.sl .stt true,.sl .byte false])],1,1,0,[],[]⟩,⟨1,[(0,.int .i64)],[],[(0,.cells [.int .i64,.sl .byte false,.bool,.sl .byte false,.sl .node false,.sl .byte false,.sl .stt true,.sl .byte false])],1,1,0,[],[]⟩)),
 (18,(⟨4,[(1,.sv .tbl),(2,.str),(3,.sv .val)],[(0,.ptr 0 0)],[(0,.cells [.int .i64,.sl .byte false,.bool,.sl .byte false,.sl .node false,.sl .byte false,.sl .stt true,.sl .byte false])],1,1,0,[],[]⟩,⟨2,[(0,.sl .vals false),(1,.int .i64)],[],[(0,.cells [.int .i64,.sl .byte false,.bool,.sl .byte false,.sl .node false,.sl .byte false,.sl .stt true,.sl .byte false])],1,1,0,[],[]⟩)),
 (21,(⟨3,[(1,.sv .tbl),(2,.sl .val false)],[(0,.ptr 0 0)],[(0,.cells [.int .i64,.sl .byte false,.bool,.sl .byte false,.sl .node false,.sl .byte false,.sl .stt true,.sl .byte false])],1,1,0,[],[]⟩,⟨3,[(0,.sl .val false),(1,.bool),(2,.int .i64)],[],[(0,.cells [.int .i64,.sl .byte false,.bool,.sl .byte false,.sl .node false,.sl .byte false,.sl .stt true,.sl .byte false])],1,1,0,[],[]⟩)),
 (59,(⟨3,[(1,.sl .byte false),(2,.sl .vals false)],[(0,.ptr 0 0)],[(0,.cells [.sl .kv true,.int .i64])],1,1,0,[],[]⟩,⟨0,[],[],[(0,.cells [.sl .kv true,.int .i64])],1,1,0,[],[]⟩))]
def swT(g:Nat):Option (Sig×Sig):=tbl swL g
def fnL:List Nat:=[8,9,12,13,16,18,21,24,25,26,29,30,31,32,33,34,35,36,37,39,41,45,46,47,48,52,53,54,55,56,57,58,59,68,71,72,73,74,75,76,77,80,81,82,86,87,88,89,90,91,92,93,94,95,96,105,106,107,108,109,110,111,112,114,115,116,117,123,125,129,130,131,132,133,134,135,136,137,138,139,140,149,150,152,153,154,155,156,158,159,160,161,162,168,176,177,178,179,180,181,182,183,184,185,186,187,188,189,190,191,192,198,200,201,202,203,204,205,206,211,212,213,214,215,216,217,218,219,220,221,222,223,224,225,227,228,229,230,231,232,233,238,239,240,241,251,252,253,254,255,256,257,258,259,260,261,262,263,264,265,266,267,268,272,277,278]
noncomputable def A5o(g:Nat):Option Func:=match fnL.contains g with|true=>Tryz.prog.funcs.toList[g]?|false=>none
theorem Bti:(fnL.all λg=>match Tryz.prog.funcs.toList[g]? with
  |some fn => !(fn.name == "runtime.NumGoroutine")&&match fn.body with|some c=>Bm fn.ntmps c|none=>false
  |none=>true)=true:=by kernel_rfl
theorem A0i:Afi Tryz.prog A5o:=by
 intro g fn h;unfold A5o at h;split at h
 ·rename_i hc;have h1:=Zg2.1 Bti g (by simpa using hc);rw[h] at h1;simp only[Zb1,Bool.not_eq_true'] at h1;refine⟨by simpa using h,h1.1,?_⟩;cases hb:fn.body with|none=>rw[hb] at h1;simp at h1|some c=>rw[hb] at h1;exact⟨c,rfl,h1.2⟩
 ·cases h
noncomputable def Amt(R:Type):Px R:=co (Aiz ttL) glT A5o tbT tqT swT 3000 R
theorem Aa1{cx:Cx}(e1:cx.P=Tryz.prog)(e2:cx.el=elT)(e3:cx.gl=glT):HX cx:=⟨e1,e2,e3,Ajm V8,follows⟩
theorem Bhs:(swL.all λq=>lnB q.2.1 q.2.2)=true:=by kernel_rfl
theorem A81(R:Type)(cx:Cx)(e1:cx.P=Tryz.prog)(e2:cx.el=elT)(e3:cx.gl=glT):Lv2 cx (Amt R) :=Azr follows (Ajm V8) A0i (λR cx e1 e2 e3 g f h=>Bmp (Aa1 e1 e2 e3) g f (Df h)) (λR cx e1 e2 e3 g f h=>Bix (Aa1 e1 e2 e3) g f (Df h)) (λg q h=>Zg2.1 Bhs (g,q) (Df h)) 3000 R cx e1 e2 e3
theorem Bxb{f:FuncId}{fn:Func}{c:Code}{sr:List Sg}{r:HV sr}(hf:Tryz.prog.funcs[f]? = some fn)(hb:fn.body=some c)(hname:(fn.name == "runtime.NumGoroutine")=false)(hc:(Bm fn.ntmps c)=true)(hr:Za (Amt (HV sr)) fn [] sr () some=some r):FO f [] sr (λ_=>some r):=by refine Af9 hf hb hname follows (px:=Amt (HV sr)) (by rw[hc];simp[A7,Ci]) (λcx e1 e2 e3 _ =>?_) (λ_=>hr);have h:=(A81 (HV sr) cx e1 e2 e3).to1;exact⟨h.1,h.2.1,h.2.2.1,λb _=>h.2.2.2 b⟩
end Go.Proofs.YtcoaaebppfbbnaaGreatDoor
