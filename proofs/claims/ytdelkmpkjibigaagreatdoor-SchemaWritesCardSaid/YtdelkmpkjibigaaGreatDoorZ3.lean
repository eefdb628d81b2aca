/- Texts of the proof,one behind the other: AxT,AxU,AxQf,AxQg,AxQh,AxV,AxW,AxX,AxY,AxZ,AxBd,AxLn,AxLo. -/
import Derived.Test.YtdelkmpkjibigaaGreatDoorZ2
set_option linter.all false
open List renaming length->I,range->hg,eq_nil_of_length_eq_zero->k0,mem_append->lx,mem_of_getElem?->lW,range'->j4,getElem?_take->h5,getElem?_drop->kr,mem_cons->hv,length_take->jL
open Option renaming some->J,none->aj
open Bool renaming true->ab,false->ai,true_and->jo
open Decidable renaming decide->aa
open Nat renaming mul_le_mul_right->ly,beq->cp,ble->eF,blt->eU,le_trans->fV,zero_le->cL,zero_add->h6
open Go.IntKind renaming signed->lu,bits->kp
open Go.Region renaming ready->iB
open Go.Sem renaming run_bind->e3,run_pure->ga
open Go.World renaming cell?->h7
open Ne renaming symm->hE
open Go renaming Value->aD,IntKind->df,Operand->cO,Oper->bx,World->aT,TypeId->bD,maxLen->dr,Program->cP,execOp->cE
namespace Go
theorem j5{p:Prop}(h:p:=by cases h):p:=h
theorem S5{p:Prop}(h:p:=by rw[show(aB st).au b=J _ from al];simp):p:=h
theorem AG{p:Prop}(h:p:=by simp[s',z,aB]):p:=h
theorem S9{p:Prop}(h:p:=by rw[jL];omega):p:=h
theorem akn{p:Prop}(h:p:=by simp only[s];rw[if_neg (by omega)]):p:=h
theorem KS{p:Prop}(h:p:=by simp[jg,al]):p:=h
end Go
namespace Go
theorem v'{p:Prop}(h:p:=by rw[if_neg j]at f;exact jz _ _ b k a5 f):p:=h
theorem wa{p:Prop}(h:p:=by rw[if_neg a]at h;exact .inr (akt h)):p:=h
theorem NV{p:Prop}(h:p:=by simp only[aG]at a;obtain⟨b,us,e,f,g⟩:=a;obtain rfl:=inj us e;exact⟨b,vs,t,i,f,g⟩):p:=h
theorem ado{p:Prop}(h:p:=by simp[s,if_pos (show i<=N by omega),if_pos (show i+1<=N by omega)];exact this):p:=h
theorem adr{p:Prop}(h:p:=by simp only[bN]at h;obtain rfl:=dS h.1;simp[aG]at a ⊢;obtain⟨vs,e,c⟩:=a;exact⟨vs,e,amA al h.2 c⟩):p:=h
theorem adC{p:Prop}(h:p:=by simp at ar;subst ar;simp[aG]at a ⊢;obtain⟨vs,c,f⟩:=a;exact⟨vs,c,h.dL g f⟩):p:=h
end Go
namespace Go.ft
open Go.RowKit
def r9:cA->Bool|.bm _|.rw _ _|.fx _=>ai|_=>ab
def qj(nb:Nat):D->Bool
 |.ptr b _=>eU b nb
 |.fn _ cs=>cs.all λd=>match d with|.ptr b _=>eU b nb|_=>ai
 |.hB _ cs=>cs.all λd=>match d with|.ptr b _=>eU b nb|_=>ai
 |.oI _=>ab
 |.n8=>ab
 |_=>ai
def Kq(nb:Nat):D->Bool|.agg _=>ab|d=>qj nb d
def T5(nb:Nat):h9->Bool|.cells l=>l.all r9|.one s=> !r9 s|.fb _=>ab|.i' az=>az.all (qj nb)|.hQ l b _=>l.all r9&&eU b nb
def nE(s:bn):Bool:=(s.fix.all λp=>Kq s.nb p.2)&&(s.au.all λp=>eU p.1 s.nb&&T5 s.nb p.2)&&eF s.c7 s.nb&&s.lR.all λp=>eU p.2.1 s.nb
def aky(s:cA)(d:D):Prop:=(r9 s=ab->e_ d=ab)/\(r9 s=ai->(∃c y,d = .bm c y)\/(∃c n xs,d = .rw c n xs)\/∃c xs,d = .fx c xs)/\(s = .sl .byte ab->∃l t,d = .sl .byte l t)
def kP:U cA->U D->Prop|[],az=>az=[]|s::l,az=>∃d r,az=d::r/\aky s d/\kP l r
theorem ag2(i:Nat):∀(s:cA) (y:den s),aky s (fy i s y)
 |.int _,_=>⟨λ_=>rfl,λh=>j5,λh=>j5⟩
 |.bool,_=>⟨λ_=>rfl,λh=>j5,λh=>j5⟩
 |.str,_=>⟨λ_=>rfl,λh=>j5,λh=>j5⟩
 |.sl _ ab,l=>⟨λ_=>rfl,λh=>j5,λh=>(by cases h;exact⟨l,_,rfl⟩)⟩
 |.sl _ ai,_=>⟨λ_=>rfl,λh=>j5,λh=>j5⟩
 |.bm c,y=>⟨λh=>j5,λ_=>.inl ⟨c,y,rfl⟩,λh=>j5⟩
 |.rw c n,xs=>⟨λh=>j5,λ_=>.inr (.inl ⟨c,n,xs,rfl⟩),λh=>j5⟩
 |.fx c,xs=>⟨λh=>j5,λ_=>.inr (.inr ⟨c,xs,rfl⟩),λh=>j5⟩
theorem I_:∀(i:Nat) (l:U cA) (x:aw l),kP l (eK i l x)
 |_,[],_=>rfl
 |i,[a],x=>⟨_,[],rfl,ag2 i a x,rfl⟩
 |i,a::b::l,(x,y)=>⟨_,_,rfl,ag2 i a x,I_ (i+1) (b::l) y⟩
theorem kP.len:∀{l:U cA}{az:U D},kP l az->I az=I l
 |[],az,h=>by simp[kP]at h;subst h;rfl
 |s::l,az,h=>by obtain⟨d,r,rfl,_,a⟩:=h;simp[kP.len a]
theorem kP.split:∀{l m:U cA}{az:U D},kP (l++m) az->kP l (az.take (I l))/\kP m (az.drop (I l))
 |[],m,az,h=>by simpa[kP]using h
 |s::l,m,az,h=>by obtain⟨d,r,rfl,a,b⟩:=h;obtain⟨c,e⟩:=kP.split b;exact⟨⟨d,_,by simp,a,c⟩,by simpa using e⟩
theorem kP.e_:∀{l:U cA}{az:U D},kP l az->l.all r9=ab->az.all e_=ab
 |[],az,h,_=>by simp[kP]at h;subst h;rfl
 |s::l,az,h,bz=>by obtain⟨d,r,rfl,a,b⟩:=h;simp only[fk,bN]at bz ⊢;exact⟨a.1 bz.1,b.e_ bz.2⟩
variable{x:dn}
theorem bl.split:∀{A B:U D}{vs:U aD},bl x (A++B) vs->∃us ws,vs=us++ws/\bl x A us/\bl x B ws
 |[],B,vs,h=>⟨[],vs,rfl,by simp[bl],h⟩
 |d::A,B,vs,h=>by simp at h;obtain⟨u,us,rfl,a,b⟩:=h;obtain⟨p,q,rfl,c,e⟩:=bl.split b;exact⟨u::p,q,rfl,by simp only[bl];exact⟨u,p,rfl,a,c⟩,e⟩
variable{az:U D}{us:U aD}
theorem bl.take{ws:U aD}(h:bl x az (us++ws)):bl x (az.take (I us)) us/\bl x (az.drop (I us)) ws:=by
 have b:=h.len;simp at b;rw[<-List.take_append_drop (I us) az]at h;obtain⟨p,q,c,a,d⟩:=bl.split h;have e:I p=I us:=by rw[a.len];simp;omega
 obtain⟨rfl,rfl⟩:=List.append_inj c e.symm;exact⟨a,d⟩
theorem Lc{x:dn}{n:Nat}{env:Env}{a:Act}(c:mx x n (get env) a):∀{vars:U (Nat×cA)}{A:U D},qU env vars=J A->∃oB:U aD,bl x A oB/\∀(i k:Nat) (s:cA),vars[i]? = J (k,s)->∃v,oB[i]? = J v/\a.tmps[k]? = J v
 |[],A,h=>by simp[qU]at h;subst h;exact⟨[],by simp[bl],by simp⟩
 |(mm,e0)::vars,A,h=>by
  simp[qU]at h;split at h
  .rename_i d az ar b;simp at h;subst h;obtain⟨oB,e,g⟩:=Lc c b;obtain⟨v,j,f⟩:=c.get mm d ar;refine⟨v::oB,by simp only[bl];exact⟨v,oB,rfl,f,e⟩,λi k s l=>?_⟩;cases i with|zero=>grind|succ i=>grind
  .cases h
theorem VB:∀(vars:U (Nat×cA)) (E:U D),I vars<=I E->(uC vars E).2=E.drop (I vars)/\∀k d,get (uC vars E).1 k=J d->∃(i:Nat) (s:cA),vars[i]? = J (k,s)/\E[i]? = J d
 |[],E,_=>by cases E<;>simp[uC,get]
 |(mm,e0)::vars,[],h=>by simp at h
 |(mm,e0)::vars,e::E,h=>by
  obtain⟨c,f⟩:=VB vars E uO;simp only[uC];refine⟨by simpa using c,λk d a=>?_⟩;rw[k3]at a;by_cases b:k=mm
  .subst b;simp at a;subst a;exact⟨0,e0,by simp,by simp⟩
  .rw[if_neg b]at a;obtain⟨i,s,g,j⟩:=f k d a;exact⟨i+1,s,by simpa using g,by simpa using j⟩
theorem aa9(e f:Env)(k:Nat)(d:D)(h:get (e++f) k=J d):get e k=J d\/get f k=J d:=by
 induction e with
 |nil=>exact .inr h
 |cons p e a=>
  obtain⟨q,v⟩:=p;rw[se,k3]at h;rw[k3];by_cases b:k=q
  .grind
  .grind
theorem agf{env:Env}{nb:Nat}:∀{i':U (Nat×D)}{k:Nat}{d:D},J1 env i'=ab->(i'.all λp=>Kq nb p.2)=ab->get i' k=J d->Kq nb d=ab/\∃a,get env k=J a/\C1 d a = ab
 |[],k,d,_,_,h=>by simp[get]at h
 |(q,v)::i',k,d,aY,aZ,h=>by
  simp[J1]at aY;simp only[fk,bN]at aZ;rw[k3]at h;split at aY
  .rename_i a b;simp at aY;by_cases c:k=q
   .subst c;simp at h;subst h;exact⟨aZ.1,a,b,aY.1⟩
   .rw[if_neg c]at h;exact agf aY.2 aZ.2 h
  .cases aY
def uh:D->U Nat|.ptr b _=>[b]|_=>[]
def lH:D->U Nat|.ptr b _=>[b]|.fn _ cs=>cs.flatMap uh|.hB _ cs=>cs.flatMap uh|_=>[]
variable{x':dn}
theorem amA:∀{cs cs':U D}{vs:U aD},(∀b,b∈cs.flatMap uh->x'.m.au b=x.m.au b/\b<x'.nb)->BS cs cs' = ab->bl x cs' vs->bl x' cs vs:=by
 intro cs;induction cs with
 |nil=>intro cs' vs _ h e;cases cs' with|nil=>simpa[bl]using e|cons _ _=>simp[BS]at h
 |cons d cs g=>
  intro cs' vs al h e;unfold BS at h;split at h
  .exact absurd (by assumption:d::cs=[]) (by simp)
  .rename_i b o l cu dq m a;simp at a;obtain⟨rfl,rfl⟩:=a;simp only[bN]at h;obtain rfl:=dS h.1.1;obtain rfl:=dS h.1.2;simp[bl]at e ⊢;obtain⟨u,us,rfl,f,i⟩:=e;simp[aG]at f;obtain⟨j,k⟩:=al b (by simp[uh]);exact⟨u,us,rfl,by simp[aG];exact⟨k,by rw[j];exact f.2⟩,g (λc ao=>al c (by rw[List.flatMap_cons,lx];exact .inr ao)) h.2 i⟩
  .cases h
variable{nb:Nat}
theorem Wi{d:D}(h:qj nb d=ab):∀b,b∈lH d->b<nb:=by
 intro b al;cases d with
 |ptr k o=>simp[lH]at al;subst al;simpa[qj]using h
 |fn f cs=>simp[lH]at al;obtain⟨c,ao,a⟩:=al;simp only[qj]at h;have e:=dH.1 h c ao;cases c with|ptr k o=>simp[uh]at a;subst a;simpa using e|_=>simp[uh]at a
 |hB f cs=>simp[lH]at al;obtain⟨c,ao,a⟩:=al;simp only[qj]at h;have e:=dH.1 h c ao;cases c with|ptr k o=>simp[uh]at a;subst a;simpa using e|_=>simp[uh]at a
 |_=>simp[lH]at al
theorem axL{d:D}(h:Kq nb d=ab):∀b,b∈lH d->b<nb:=by cases d with|agg l=>intro b al;simp[lH]at al|_=>exact Wi h
theorem _J{x x':dn}:∀{az c:U D}{vs:U aD},zC az c = ab->bl x c vs->bl x' az vs/\az.all e_=ab
 |[],[],vs,_,aF=>⟨by simpa[bl]using aF,rfl⟩
 |d::az,iw::c,vs,h,aF=>by
  unfold zC at h;split at h
  .rename_i e f;cases e
  .rename_i a l b m e f;cases e;cases f;simp at h;obtain⟨rfl,h⟩:=h;simp at aF ⊢;obtain⟨u,us,rfl,g,i⟩:=aF;obtain⟨j,k⟩:=_J (x':=x') h i;exact⟨⟨u,us,rfl,by simpa only[aG]using g,j⟩,by simpa[e_]using k⟩
  .cases h
 |[],_::_,_,h,_=>by simp[zC]at h
 |_::_,[],_,h,_=>by simp[zC]at h
theorem azS{d:D}(h:qj nb d=ab):e_ d=true:=by cases d<;>first|rfl|(simp[qj]at h)
theorem _A{d f:D}{v:aD}(al:∀b,b∈lH d->x'.m.au b=x.m.au b/\b<x'.nb)(h:C1 d f = ab)(a:aG x f v):aG x' d v:=by
 unfold C1 at h;split at h
 .simp only[bN]at h;obtain rfl:=dS h.1;obtain rfl:=dS h.2;simp[aG]at a ⊢;obtain⟨g,i⟩:=al _ (List.mem_singleton.2 rfl);exact⟨i,by rw[g];exact a.2⟩
 .exact adr
 .exact adr
 .obtain rfl:=dS h;simp[aG]at a ⊢;exact a
 .simp[aG]at a ⊢;exact a
 .simp only[aG]at a ⊢;obtain⟨_,vs,rfl,c⟩:=a;obtain⟨j,k⟩:=_J (x':=x') h c;exact⟨k,vs,rfl,j⟩
 .cases h
theorem Y6{x x':dn}:∀{az a:U D}{vs:U aD},(∀d,d∈az->∀b,b∈lH d->x'.m.au b=x.m.au b/\b<x'.nb)->BI az a = ab->bl x a vs->bl x' az vs
 |[],[],vs,_,_,aF=>by simpa[bl]using aF
 |[],_::_,_,_,h,_=>by simp[BI]at h
 |_::_,[],_,_,h,_=>by simp[BI]at h
 |d::az,iw::a,vs,al,h,aF=>by simp[BI]at h;simp[bl]at aF ⊢;obtain⟨u,us,rfl,c,f⟩:=aF;exact⟨u,us,rfl,_A (al d jy) h.1 c,Y6 (λe g=>al e (mg _ g)) h.2 f⟩
def kS:U (Nat×h9)->U D|[]=>[]|(_,.i' az)::l=>az++kS l|(_,.cells _)::l=>kS l|(_,.one _)::l=>kS l|(_,.fb _)::l=>kS l|(_,.hQ _ b _)::l=>.ptr b 0::kS l
variable{β:Nat}
theorem anM{k:dW}(h:kK x β k)(g:∀t d,k ≠ .fb t d):∃(vs:U aD) (t:bD),x.w.heap[β]? = J (.cells vs.toArray t (0,0))/\aG x (Au k) (.agg vs.toArray):=by cases k with|fb t d=>exact absurd rfl (g t d)|cells az=>obtain⟨a,vs,t,b,e⟩:=h;exact⟨vs,t,b,by simp only[Au,aG];exact⟨a,vs,rfl,e⟩⟩|box c y=>obtain⟨a,vs,t,b,e,f⟩:=h;exact⟨vs,t,b,by simp only[Au,aG];exact⟨a,vs,rfl,e,f⟩⟩|row c n xs=>obtain⟨a,vs,t,b,e,f⟩:=h;exact⟨vs,t,b,by simp only[Au,aG];exact⟨a,vs,rfl,e,f⟩⟩|dyn c xs=>obtain⟨a,vs,t,b,e,f⟩:=h;exact⟨vs,t,b,by simp only[Au,aG];exact⟨a,vs,rfl,e,f⟩⟩
variable{t:bD}{vs:U aD}
theorem axR{d:D}(ar:(∃c y,d = .bm c y)\/(∃c n xs,d = .rw c n xs)\/∃c xs,d = .fx c xs)(i:x.w.heap[β]? = J (.cells vs.toArray t (0,0)))(a:aG x d (.agg vs.toArray)):kK x β (alV d):=by
 have inj:∀us:U aD,(aD.agg vs.toArray) = .agg us.toArray->vs=us:=λus h=>by simpa using h
 rcases ar with ⟨c,y,rfl⟩|⟨c,n,xs,rfl⟩|⟨c,xs,rfl⟩
 .exact NV
 .exact NV
 .exact NV
theorem ab4:∀{k b:Nat}{c:cl}{az a:U D},yM k b c az=J a->∃f s n,az=f++[.h3 b c s n]/\a = f++[.int .i64 s,.int .i64 n]/\I f=k
 |0,b,c,az,a,h=>by
  unfold yM at h;split at h
  .split at h
   .rename_i ao;simp only[bN,fQ]at ao;obtain⟨g,rfl⟩:=ao;have g:=dS g;subst g;simp at h;exact⟨[],_,_,rfl,h.symm,rfl⟩
   .cases h
  .rename_i e;cases e
  .cases h
 |k+1,b,c,[],a,h=>by simp[yM]at h
 |k+1,b,c,d::az,a,h=>by
  simp[yM]at h;split at h
  .rename_i es i;simp at h;obtain⟨f,s,n,rfl,rfl,j⟩:=ab4 i;exact⟨d::f,s,n,rfl,h.symm,by simp[j]⟩
  .cases h
theorem LL:∀(k b:Nat) (c:cl) (E:U D),rC k b c (E.take (k+(0+1+1)))=rC k b c E
 |0,b,c,[]=>rfl
 |0,b,c,[d]=>rfl
 |0,b,c,d::e::E=>by cases d<;>first|rfl|(cases e<;>rfl)
 |k+1,b,c,[]=>rfl
 |k+1,b,c,d::E=>by rw[show k+1+(0+1+1)=(k+(0+1+1))+1 by omega,List.take_succ_cons];simp[rC,LL k b c E]
theorem abx{d:D}{z:Int}(j:e_ d=ab)(h:aG x d (.int .i64 z)):∃k,d = .int k z:=by cases d with|int k m=>simp[aG]at h;exact⟨k,by rw[h.1.2]⟩|bool b=>simp[aG]at h|str l=>simp[aG]at h|sl c xs t=>simp[aG]at h;obtain⟨a,cap,e,_⟩:=h.1.here.slice;cases e|lo c y o=>simp only[aG]at h;obtain⟨_,_,e,_⟩:=h;cases e|ptr b o=>simp only[aG]at h;cases h.2|n8=>simp[aG]at h|oI g=>simp[aG]at h|F4 l=>simp only[aG]at h;obtain⟨_,_,_,e,_⟩:=h;cases e|h3 b c s n=>simp only[aG]at h;obtain⟨_,_,_,_,_,_,e,_⟩:=h;cases e|oG b c i=>simp only[aG]at h;cases h.2.1|qd b c n i=>simp only[aG]at h;cases h.2.1|fn f nn=>simp only[aG]at h;obtain⟨_,e,_⟩:=h;cases e|hB f nn=>simp only[aG]at h;obtain⟨_,e,_⟩:=h;cases e|tS=>simp[aG]at h|bm c y=>simp[e_]at j|fx c xs=>simp[e_]at j|rw c n xs=>simp[e_]at j|agg az=>simp[e_]at j|sB az=>simp[e_]at j|undef=>simp[e_]at j|tP=>simp[e_]at j
theorem _3{x:dn}{b:Nat}{c:cl}{s n:Int}:∀{l:U cA}{E:U D}{vs:U aD},I l=I vs->kP (l++[an,an]) E->bl x E (vs++[.int .i64 s,.int .i64 n])->∃g,rC (I l) b c E=g++[.h3 b c s n]/\bl x g vs/\kP l g
 |[],E,vs,bz,a,aF=>by have j:vs=[]:=k0 bz.symm;subst j;simp at a aF;obtain⟨p,aC8,rfl,h,a⟩:=a;obtain⟨q,aC9,rfl,i,a⟩:=a;simp[bl]at aF;obtain⟨_,_,⟨rfl,rfl⟩,e,_,_,⟨rfl,rfl⟩,f,k⟩:=aF;obtain⟨r,rfl⟩:=abx (h.1 rfl) e;obtain⟨t,rfl⟩:=abx (i.1 rfl) f;exact⟨[],rfl,by simp[bl],rfl⟩
 |e0::l,E,[],bz,a,aF=>by simp at bz
 |e0::l,E,v::vs,bz,a,aF=>by obtain⟨d,AD,rfl,m,o⟩:=a;simp[ bl]at aF;obtain⟨_,_,⟨rfl,rfl⟩,e,f⟩:=aF;obtain⟨g,p1,p2,p3⟩:=_3 (b:=b) (c:=c) uM o f;exact⟨d::g,by simp[ rC,p1],by simp only[bl];exact⟨v,vs,rfl,e,p2⟩,d,g,rfl,m,p3⟩
theorem bl.snoc:∀{az:U D}{d:D}{vs:U aD},bl x (az++[d]) vs->∃us u,vs=us++[u]/\bl x az us/\aG x d u
 |[],d,vs,h=>by simp only[nX,bl]at h;obtain⟨u,us,rfl,a,rfl⟩:=h;exact⟨[],u,rfl,by simp[bl],a⟩
 |e::az,d,vs,h=>by simp[ bl]at h;obtain⟨u,us,rfl,a,b⟩:=h;obtain⟨ws,z,rfl,c,f⟩:=bl.snoc b;exact⟨u::ws,z,rfl,by simp only[bl];exact⟨u,ws,rfl,a,c⟩,f⟩
theorem uQ{x:dn}{m:Nat->Nat}{tY:U (Nat×dW)}(al:∀b k,bF tY b=J k->kK x (m b) k){nb:Nat}:∀{au:U (Nat×h9)}{B:U D},jt tY au=J B->(au.all λp=>eU p.1 nb&&T5 nb p.2)=ab ->
  ∃kc:U aD,bl x B kc/\∀(x':dn) (E:U D),(x'.w=x.w/\x'.el=x.el)->(∀d,d∈kS au->∀b,b∈lH d->x'.m.au b=x.m.au b/\b<x'.nb)->kP ((au.map (·.2.cF)).flatten) E->bl x' E kc->∀b k,bF (fG au E) b=J k->kK x' (m b) k/\bF tY b≠aj/\b<nb
 |[],B,h,_=>by simp[jt]at h;subst h;exact⟨[],by simp[bl],λx' E _ _ _ _ b k f=>by simp[fG,bF]at f⟩
 |(dp,.cells l)::au,B,h,hr=>by
  simp[jt]at h;simp only[fk,bN]at hr;split at h
  .rename_i az es q o;split at h
   .rename_i ct;simp at h;subst h;obtain⟨kc,aY,aZ⟩:=uQ al o hr.2;obtain⟨cZ,vs,t,ch,j⟩:=al dp _ q;refine⟨vs++kc,j.append aY,λx' E r n g y b k f=>?_⟩;simp[hk,h9.cF]at g;obtain⟨s1,s2⟩:=g.split;have a4:I vs=I l:=by rw[j.len,(dS ct)]
    obtain⟨mn,gY⟩:=y.take;rw[a4]at mn gY;simp[fG]at f;rw[gu]at f;by_cases i:b=dp
    .subst i;simp[if_true]at f;subst f;exact⟨⟨s1.e_ hr.1.2,vs,t,by rw[r.1];exact ch,mn⟩,by rw[q];simp,by simpa[Nat.blt_eq]using hr.1.1⟩
    .rw[if_neg i]at f;exact aZ x' _ r n s2 gY b k f
   .cases h
  .cases h
 |(dp,.one s)::au,B,h,hr=>by
  simp[jt]at h;simp only[fk,bN]at hr;split at h
  .cases h
  .rename_i mm es am z o;simp at h;subst h;obtain⟨kc,aY,aZ⟩:=uQ al o hr.2;obtain⟨vs,t,ch,a2⟩:=anM (al dp _ z) (λt d e=>am t d e);refine⟨.agg vs.toArray::kc,by simp only[bl];exact⟨_,kc,rfl,a2,aY⟩,λx' E r n g y b k f=>?_⟩;simp[hk,h9.cF]at g;obtain⟨d,AD,rfl,a5,bB⟩:=g;simp only[bl]at y;obtain⟨u,us,hu,bE,bG⟩:=y;simp[mL]at hu;obtain⟨rfl,rfl⟩:=hu;simp[fG]at f;rw[gu]at f;by_cases i:b=dp
   .subst i;simp[if_true]at f;subst f;exact⟨axR (a5.2.1 (by have a3:(!r9 s)=true:=hr.1.2;simpa using a3)) (by rw[r.1];exact ch) bE,by rw[z];simp,by simpa[Nat.blt_eq]using hr.1.1⟩
   .rw[if_neg i]at f;exact aZ x' _ r n bB bG b k f
  .cases h
 |(dp,.fb t0)::au,B,h,hr=>by
  simp[jt]at h;simp only[fk,bN]at hr;split at h
  .rename_i t1 d0 es z o;split at h
   case h_2=>cases h
   rename_i b';obtain rfl:=dS b';simp at h;subst h;obtain⟨kc,aY,aZ⟩:=uQ al o hr.2;obtain⟨_,a,v,ch,c5,a2⟩:=al dp _ z;refine⟨v::kc,by simp only[bl];exact⟨_,kc,rfl,a2,aY⟩,λx' E r n g y b k f=>?_⟩;simp[hk,h9.cF]at g;obtain⟨d,AD,rfl,a5,bB⟩:=g;simp only[bl]at y;obtain⟨u,us,hu,bE,bG⟩:=y;simp[mL]at hu;obtain⟨rfl,rfl⟩:=hu;simp[fG]at f;rw[gu]at f;by_cases i:b=dp
   .subst i;simp[if_true]at f;subst f;exact⟨⟨a5.2.2 rfl,a,v,by rw[r.1];exact ch,c5,bE⟩,by rw[z];simp,by simpa[Nat.blt_eq]using hr.1.1⟩
   .rw[if_neg i]at f;exact aZ x' _ r n bB bG b k f
  .cases h
 |(dp,.i' l)::au,B,h,hr=>by
  simp[jt]at h;simp only[fk,bN]at hr;split at h
  .rename_i az es q o;split at h
   .rename_i a9;simp at h;subst h;obtain⟨kc,aY,aZ⟩:=uQ al o hr.2;obtain⟨_,vs,t,ch,j⟩:=al dp _ q;refine⟨kc,aY,λx' E r n g y b k f=>?_⟩;simp[hk,h9.cF,nX]at g;simp[fG]at f;rw[gu]at f;have bz:l.all (qj nb)=true:=hr.1.2;by_cases i:b=dp
    .subst i;simp[if_true]at f;subst f;exact⟨⟨dH.2 λd ar=>azS (dH.1 bz d ar),vs,t,by rw[r.1];exact ch,Y6 (λd ar=>n d (by simp[kS,lx];exact .inl ar)) a9 j⟩,by rw[q];simp,by simpa[Nat.blt_eq]using hr.1.1⟩
    .rw[if_neg i]at f;exact aZ x' _ r (λd ar=>n d (by simp[kS,lx];exact .inr ar)) g y b k f
   .cases h
  .cases h
 |(dp,.hQ l dC c)::au,B,h,hr=>by
  simp[jt]at h;simp only[fk,bN]at hr;split at h
  .rename_i az es q o;split at h
   .rename_i dv db;simp at h;subst h;obtain⟨dI,e0,iz,rfl,rfl,dk⟩:=ab4 db;obtain⟨kc,aY,aZ⟩:=uQ al o hr.2;obtain⟨cZ,vs,t,ch,j⟩:=al dp _ q;obtain⟨bZ,hT,rfl,nt,ro⟩:=j.snoc;have cM:=ro;simp[aG]at ro;obtain⟨_,g2,g3,g4,_⟩:=ro;have sD:hY .i64 e0=true:=by have:=wh (show e0.toNat<=dr by omega);rwa[Int.toNat_of_nonneg g2]at this
    have ny:hY .i64 iz=true:=by have:=wh (show iz.toNat<=dr by omega);rwa[Int.toNat_of_nonneg g3]at this
    have b7:l.all r9=ab/\dC<nb:=by have a3:(l.all r9&&eU dC nb)=true:=hr.1.2;simp only[bN]at a3;exact⟨a3.1,by simpa[Nat.blt_eq]using a3.2⟩
    refine⟨(bZ++[.int .i64 e0,.int .i64 iz])++kc,(nt.append (by simp only[bl];exact⟨_,_,rfl,k4 sD,_,_,rfl,k4 ny,rfl⟩)).append aY,λx' E r n g y b k f=>?_⟩;simp only[hk,h9.cF]at g;obtain⟨s1,s2⟩:=g.split;have a4:I bZ=I l:=by rw[nt.len,dk]
    simp[ eo,dB]at s1 s2;obtain⟨bc,ep⟩:=y.take;simp[e7,eo,dB,a4]at bc ep;simp[fG]at f;rw[gu]at f;by_cases i:b=dp
    .subst i;simp[if_true,dN]at f;subst f;obtain⟨jZ,cV,ac,cS⟩:=_3 (b:=dC) (c:=c) a4.symm s1 bc;have cq:rC (I l) dC c E=jZ++[.h3 dC c e0 iz]:=(LL (I l) dC c E).symm.trans cV;rw[cq];obtain⟨hm,ap⟩:=n (.ptr dC 0) (by simp[kS]) dC (by simp[lH]);refine⟨⟨?_,bZ++[hT],t,by rw[r.1];exact ch,ac.append ?_⟩,by rw[q];simp,by simpa[Nat.blt_eq]using hr.1.1⟩
     .simp[List.all_append,cS.e_ b7.1,jo];rfl
     .simp only[bl];refine⟨hT,[],rfl,?_,rfl⟩;simp[aG]at cM ⊢;rw[hm,r.1,r.2];exact⟨ap,cM.2⟩
    .rw[if_neg i]at f;exact aZ x' _ r (λd ar=>n d (by simp[kS,hv];exact .inr ar)) s2 ep b k f
   .cases h
  .cases h
theorem KZ{x:dn}{n:Nat}{env:Env}{a:Act}(s:mx x n (get env) a):∀{lR:U (Nat×Nat×cl)}{O:U D},vl env lR=J O->∃tF:U aD,bl x O tF/\∀(x':dn) (E:U D),(x'.m.au=x.m.au/\x'.w=x.w/\x'.el=x.el)->(∀p,p∈lR->p.2.1<x'.nb)->kP (uF lR) E->bl x' E tF->∀k d,get (sQ lR E) k=J d->∃v,a.tmps[k]? = J v/\aG x' d v
 |[],O,h=>by simp[vl]at h;subst h;exact⟨[],by simp[bl],λx' E _ _ _ _ k d f=>by simp[sQ,get]at f⟩
 |(mm,b,c)::lR,O,h=>by
  simp[vl]at h;split at h
  .rename_i cu dT e0 iz az ar q;split at h
   .rename_i ao;simp only[bN,fQ]at ao;obtain⟨g,rfl⟩:=ao;have g:=dS g;subst g;simp at h;subst h;obtain⟨tF,z,aZ⟩:=KZ s q;obtain⟨v,en,t⟩:=s.get mm _ ar;simp only[aG]at t;obtain⟨g1,u,y,g4,g5⟩:=t;have sD:hY .i64 e0=true:=by have:=wh (show e0.toNat<=dr by omega);rwa[Int.toNat_of_nonneg u]at this
    have ny:hY .i64 iz=true:=by have:=wh (show iz.toNat<=dr by omega);rwa[Int.toNat_of_nonneg y]at this
    refine⟨.int .i64 e0 :: .int .i64 iz::tF,by simp only[bl];exact⟨_,_,rfl,k4 sD,_,_,rfl,k4 ny,z⟩,λx' E hm al e i k d f=>?_⟩;simp[uF]at e;obtain⟨de,aC8,rfl,a2,e⟩:=e;obtain⟨eH,aC9,rfl,a3,e⟩:=e;simp[bl,mL]at i;obtain⟨_,_,⟨rfl,rfl⟩,j,_,_,⟨rfl,rfl⟩,l,r⟩:=i;cases de with
    |int fJ jc=>
     cases eH with
     |int f_ kW=>
      simp[aG,aD.int.injEq]at j l;obtain⟨⟨_,rfl⟩,_⟩:=j;obtain⟨⟨_,rfl⟩,_⟩:=l;simp[sQ]at f;rw[k3]at f;by_cases o:k=mm
      .subst o;simp at f;subst f;refine⟨v,en,?_⟩;simp only[aG];exact⟨al _ jy,u,y,g4,by rw[hm.1,hm.2.1,hm.2.2];exact g5⟩
      .rw[if_neg o]at f;exact aZ x' _ hm (λp aW=>al p (by simp[aW])) e r k d f
     |_=>simp[sQ,get]at f
    |_=>simp[sQ,get]at f
   .cases h
  .cases h
theorem HU{x:dn}:∀{jI:U Fr}{as_:U Act}{c7 lt p q:Nat},pz x c7 lt jI as_↔pz { x with nb:=p,bu:=q } c7 lt jI as_
 |[],_,_,_,_,_=>Iff.rfl
 |f::jI,as_,c7,lt,p,q=>by
  simp[pz];constructor
  .rintro⟨a,r,b,c,d,e,g⟩;exact⟨a,r,b,c,d,e,HU.1 g⟩
  .rintro⟨a,r,b,c,d,e,g⟩;exact⟨a,r,b,c,d,e,HU.2 g⟩
theorem tp:∀(l:U cA) (i p:Nat),p∈dw i l->i<=p/\p<i+I l
 |[],i,p,a=>by simp[dw]at a
 |s::l,i,p,a=>by
  have lq:p∈dw (i+1) l->i<=p/\p<i+I (s::l):=λh=>by have:=tp l (i+1) p h;simp;omega
  cases s with
  |sl c own=>
   cases own with
   |true=>
    simp[dw]at a;rcases a with rfl|a
    .simp
    .exact lq a
   |false=>exact lq (by simpa[dw]using a)
  |_=>exact lq (by simpa[dw]using a)
theorem M2:∀{l m:U Nat},l8 l m=ab->l=m
 |[],[],_=>rfl
 |a::l,b::m,h=>by simp only[l8,bN]at h;rw[dS h.1,M2 h.2]
 |[],_::_,h=>by simp[l8]at h
 |_::_,[],h=>by simp[l8]at h
theorem ad0(i:Nat)(l:U cA)(x:aw l):I (eK i l x)=I l:=(I_ i l x).len
theorem u2:∀(au:U (Nat×h9)) (E:U D),fG au (E.take (I ((au.map (·.2.cF)).flatten)))=fG au E
 |[],E=>by simp[fG]
 |(b,.cells l)::au,E=>by have a:=u2 au (E.drop (I l));simp only[fG,hk,oC,h9.cF,e7]at a ⊢;rw[List.take_take,Nat.min_eq_left (Nat.le_add_right _ _),List.drop_take,Nat.add_sub_cancel_left,a]
 |(b,.one s)::au,[]=>by simp
 |(b,.one s)::au,d::E=>by have a:=u2 au E;simp only[hk,oC,h9.cF,e7,eo,dB]at a ⊢;rw[Nat.add_comm,List.take_succ_cons];simp only[fG];rw[a]
 |(b,.fb _)::au,[]=>by simp
 |(b,.fb _)::au,d::E=>by have a:=u2 au E;simp only[hk,oC,h9.cF,e7,eo,dB]at a ⊢;rw[Nat.add_comm,List.take_succ_cons];simp only[fG];rw[a]
 |(b,.i' l)::au,E=>by have a:=u2 au E;simp[fG,h9.cF]at a ⊢;rw[a]
 |(b,.hQ l dC c)::au,E=>by
  have a:=u2 au (E.drop (I l+2));simp only[fG,hk,oC,h9.cF,e7,eo,dB]at a ⊢;have e:∀q:Nat,rC (I l) dC c (E.take (I l+(0+1+1)+q))=rC (I l) dC c E:=λq=>by rw[<-LL (I l) dC c (E.take _),List.take_take,Nat.min_eq_left (Nat.le_add_right _ _),LL]
  have f:∀q:Nat,I l+(0+1+1)+q-(I l+2)=q:=λq=>by omega
  rw[e,List.drop_take,f,a]
theorem zG{nb:Nat}:∀{au:U (Nat×h9)},(au.all λp=>eU p.1 nb&&T5 nb p.2)=ab->∀d,d∈kS au->qj nb d=ab
 |[],_,d,ar=>by cases ar
 |(_,.cells _)::au,h,d,ar=>by simp only[fk,bN]at h;exact zG h.2 d ar
 |(_,.one _)::au,h,d,ar=>by simp only[fk,bN]at h;exact zG h.2 d ar
 |(_,.fb _)::au,h,d,ar=>by simp only[fk,bN]at h;exact zG h.2 d ar
 |(_,.i' l)::au,h,d,ar=>by
  simp only[fk,bN]at h;simp[kS]at ar;rcases ar with ar|ar
  .have b:l.all (qj nb)=true:=h.1.2;exact dH.1 b d ar
  .exact zG h.2 d ar
 |(_,.hQ l dC c)::au,h,d,ar=>by
  simp only[fk,bN]at h;simp[kS]at ar;rcases ar with rfl|ar
  .have a:(l.all r9&&eU dC nb)=true:=h.1.2;simp only[bN]at a;exact a.2
  .exact zG h.2 d ar
theorem TM{env:Env}:∀{lR:U (Nat×Nat×cl)}{O:U D},vl env lR=J O->I O=I (uF lR)
 |[],O,h=>by simp[vl]at h;subst h;rfl
 |(k,b,c)::lR,O,h=>by
  simp[vl]at h;split at h
  .rename_i a;split at h
   .simp at h;subst h;simp[uF,TM a]
   .cases h
  .cases h
section
variable {ah:di}
variable{a:Act}{as_:U Act}{m:ed}{aM:bn}{st:bw}{w:aT}
theorem Rel.Vi{x:aw aM.cF}(dI:nE aM=ab)(ar:nW aM st=J x)(aF:Rel ah m a as_ (aB st) w):∃a6,Rel ah a6 a as_ (aB (iF aM st.cx x)) w:=by
 simp only[nE,bN]at dI;obtain⟨⟨⟨ek,cV⟩,bZ⟩,ev⟩:=dI;have bZ:aM.c7<=aM.nb:=KQ
 unfold nW at ar;split at ar
 .rename_i A B O mQ n4 yb ao;simp only[bN]at ao;obtain⟨⟨⟨⟨nY,dk⟩,ap⟩,dv⟩,nZ⟩:=ao;have dk:st.n=aM.n:=dS dk;have ap:st.c7=aM.c7:=dS ap;have dv:st.lt=aM.lt:=dS dv;obtain⟨oB,e8,eX⟩:=Lc (env:=st.env) aF.env mQ;obtain⟨kc,n0,eY⟩:=uQ (x:=vx ah m (aB st) w) (m:=m.au) (tY:=st.au) (λb k f=>(aF.gp b k f).2) n4 cV;obtain⟨tF,hq,iZ⟩:=KZ (env:=st.env) aF.env yb;obtain⟨bi,pc⟩:=Ih aM.lt ar;have cS:∀t,t∈(st.bh.filter λt=> !aM.bh.contains t)->t∈st.bh/\t∉aM.bh:=λt b'=>by
   simp only[List.mem_filter]at b';refine⟨b'.1,λhm=>?_⟩;have:aM.bh.contains t=true:=by simpa using hm
   rw[this]at b';cases b'.2
  have pY:∀t,t∈aM.bh->(t∈st.bh/\t<aM.lt):=λt b'=>by have:=dH.1 nZ t b';simp at this;exact⟨by simpa using this.2,by simpa using this.1⟩
  let E:=eK aM.lt aM.cF x;have kU:I E=I aM.cF:=ad0 _ _ _;have pZ:I aM.vars<=I E:=by rw[kU];simp[bn.cF]
  obtain⟨dF,z2⟩:=VB aM.vars E pZ;let a6:ed:=⟨m.au,λt=>if t<aM.lt then m.bh t else(iX aM.lt aM.cF (A++(B++O)) t).bind m.bh⟩;have z:iF aM st.cx x=⟨aM.n,(uC aM.vars E).1++(aM.fix++sQ aM.lR ((E.drop (I aM.vars)).drop (I ((aM.au.map (·.2.cF)).flatten)))),aM.c7,aM.lt,st.cx,fG aM.au (E.drop (I aM.vars)),aM.nb,dw aM.lt aM.cF++aM.bh,aM.lt+I aM.cF⟩:=by unfold iF;rw[<-dF]
  have b7:kP ((aM.au.map (·.2.cF)).flatten++uF aM.lR) (E.drop (I aM.vars)):=by have iK:=(I_ aM.lt aM.cF x);simp[bn.cF]at iK;have jF:=iK.split.2;simp at jF;exact jF
  have p0:∀(X':dn),(X'.w=w/\X'.el=ah.el)->(∀d,d∈kS aM.au->∀b,b∈lH d->X'.m.au b=m.au b/\b<X'.nb)->bl X' ((E.drop (I aM.vars)).take (I ((aM.au.map (·.2.cF)).flatten))) kc->∀b k,bF (fG aM.au (E.drop (I aM.vars))) b=J k->kK X' (m.au b) k/\bF st.au b≠aj/\b<aM.nb:=λX' hw p4 p5 b k f=>by exact eY X' _ hw p4 b7.split.1 p5 b k (by rw[u2];exact f)
  have bG:∀t,t∈dw aM.lt aM.cF++aM.bh->t<aM.lt+I aM.cF/\((t<aM.lt/\(t∈st.bh/\t∈aM.bh)/\a6.bh t=m.bh t)\/(aM.lt<=t/\t∈dw aM.lt aM.cF/\a6.bh t=(iX aM.lt aM.cF (A++(B++O)) t).bind m.bh)):=λt b'=>by
   simp at b';rcases b' with b'|b'
   .obtain⟨aY,aZ⟩:=tp _ _ _ b';exact⟨aZ,.inr ⟨aY,b',by simp[a6,Nat.not_lt.2 aY]⟩⟩
   .obtain⟨aY,aZ⟩:=pY t b';exact⟨by omega,.inl ⟨aZ,⟨aY,b'⟩,by simp[a6,aZ]⟩⟩
  have bB:∀t g o,t∈dw aM.lt aM.cF++aM.bh->a6.bh t=J (g,o)->∃t',t'∈st.bh/\m.bh t' = J (g,o)/\(((t<aM.lt/\t∈aM.bh)/\t' = t)\/(aM.lt<=t/\t'∉aM.bh/\iX aM.lt aM.cF (A++(B++O)) t=J t')):=λt g o b' cr=>by
   rcases(bG t b').2 with ⟨aY,aZ,bg⟩|⟨aY,_,bg⟩
   .rw[bg]at cr;exact⟨t,aZ.1,cr,.inl ⟨⟨aY,aZ.2⟩,rfl⟩⟩
   .rw[bg]at cr;cases ac:iX aM.lt aM.cF (A++(B++O)) t with|none=>rw[ac]at cr;cases cr|some t'=>rw[ac,bA]at cr;obtain⟨bc,ep⟩:=cS t' (bi t t' ac).1;exact⟨t',bc,cr,.inr ⟨aY,ep,rfl⟩⟩
  let s':FS:=aB (iF aM st.cx x);have a4:∀t,s'.bJ t↔t∈dw aM.lt aM.cF++aM.bh:=λt=>by simp[s',z,aB]
  have cq:s'.au=bF (fG aM.au (E.drop (I aM.vars))):=AG
  have hO:∀b,s'.au b≠aj->bF st.au b≠none:=λb al=>by
   rw[cq]at al;cases f:bF (fG aM.au (E.drop (I aM.vars))) b with
   |none=>exact absurd f al
   |some k=>
    have:∀(au:U (Nat×h9)) (B:U D) (E:U D) (b:Nat) (k:dW),jt st.au au=J B->bF (fG au E) b=J k->bF st.au b≠none:=by
     intro au;induction au with
     |nil=>intro B E b k _ f;simp[fG,bF]at f
     |cons p au jz=>
      intro B E b k cr f;obtain⟨dp,pd⟩:=p;cases pd with
      |cells l=>
       simp[jt]at cr;split at cr
       .rename_i az es a9 a5;simp[fG]at f;rw[gu]at f;by_cases j:b=dp
        .rw[j,a9];simp
        .exact v'
       .cases cr
      |fb t0=>
       simp[jt]at cr;split at cr
       .rename_i t1 mm es ct a5;cases E with
        |nil=>
         simp[fG]at f;rw[gu]at f;by_cases j:b=dp
         .rw[j,ct];simp
         .exact v'
        |cons e E=>
         simp[fG]at f;rw[gu]at f;by_cases j:b=dp
         .rw[j,ct];simp
         .exact v'
       .cases cr
      |i' l=>
       simp[jt]at cr;split at cr
       .rename_i az es a9 a5;split at cr
        .simp[fG]at f;rw[gu]at f;by_cases j:b=dp
         .rw[j,a9];simp
         .exact v'
        .cases cr
       .cases cr
      |hQ l dC c=>
       simp[jt]at cr;split at cr
       .rename_i az es a9 a5;simp[fG]at f;rw[gu]at f;by_cases j:b=dp
        .rw[j,a9];simp
        .exact v'
       .cases cr
      |one s=>
       simp[jt]at cr;split at cr
       .cases cr
       .rename_i mm es n2 ct a5;cases E with
        |nil=>
         simp[fG]at f;rw[gu]at f;by_cases j:b=dp
         .rw[j,ct];simp
         .exact v'
        |cons e E=>
         simp[fG]at f;rw[gu]at f;by_cases j:b=dp
         .rw[j,ct];simp
         .exact v'
       .cases cr
    exact this aM.au B _ b k n4 f
  have ke:∀b i,fF a6 s' b i->fF m (aB st) b i:=by
   rintro b i (⟨q,bV,rfl⟩|⟨t,o,aY,aZ,bg⟩)
   .exact .inl ⟨q,hO q bV,rfl⟩
   .obtain⟨t',bc,ep,_⟩:=bB t b o ((a4 t).1 aY) aZ;exact .inr ⟨t',o,bc,ep,bg⟩
  have ja:∀b i,(vx ah a6 s' w).S b i->(vx ah m (aB st) w).S b i:=by
   rintro b i (h|h)
   .exact .inl h
   .exact .inr (ke b i h)
  have jY:(vx ah a6 s' w).bu=aM.lt+I aM.cF:=by simp[vx,s',z,aB]
  have cM:bl (vx ah a6 s' w) E (oB++(kc++tF)):=u7 (X:=vx ah m (aB st) w) (X':=vx ah a6 s' w) ja rfl rfl aM.lt ar (λt b'=>(cS t b').1) (e8.append (n0.append hq)) (λp aW=>by obtain⟨bc,ep⟩:=tp _ _ _ aW;refine⟨by rw[jY];exact ep,?_⟩;simp[vx,a6,Nat.not_lt.2 bc])
  have mO:I oB=I aM.vars:=by
   have aY:=e8.len;have:I A=I aM.vars:=by
    have:∀(vars:U (Nat×cA)) (A:U D),qU st.env vars=J A->I A=I vars:=by
     intro vars;induction vars with
     |nil=>intro A h;simp[qU]at h;subst h;rfl
     |cons p vars jz=>
      intro A h;simp[qU]at h;split at h
      .rename_i d az _ a9;simp at h;subst h;simp[jz az a9]
      .cases h
    exact this _ _ mQ
   omega
  obtain⟨mn,gY⟩:=cM.take;rw[mO]at mn gY;have nj:I kc=I ((aM.au.map (·.2.cF)).flatten):=by have de:=gY.len;have eH:=b7.len;have gy:=hq.len;have pg:=TM yb;simp only[e7]at de eH;omega
  obtain⟨lT,Gc⟩:=gY.take;rw[nj]at lT Gc;refine⟨a6,?_⟩;show Rel ah a6 a as_ s' w;have cZ:s'.c7=aM.c7:=AG
  have am:s'.lt=aM.lt:=AG
  have be:s'.cx=st.cx:=AG
  have bE:s'.nb=aM.nb:=AG
  have db:s'.bu=aM.lt+I aM.cF:=jY;refine⟨aF.fw,⟨aF.env.defers,?_,λk d f=>?_⟩,?_,?_,?_,λb k f=>?_,λt b'=>?_,λb cu aY aZ=>aF.inj b cu (hO b aY) (hO cu aZ),?_,?_,λb i bO=>aF.own b i (ke b i bO),aF.hN,?_⟩
  .have:s'.n=aM.n:=AG
   rw[this,<-dk];exact aF.env.size
  .have n1:get ((uC aM.vars E).1++(aM.fix++sQ aM.lR ((E.drop (I aM.vars)).drop (I ((aM.au.map (·.2.cF)).flatten))))) k=J d:=by simpa only[s',z,aB]using f
   rcases aa9 _ _ _ _ n1 with h|h
   .obtain⟨i,s,aY,aZ⟩:=z2 k d h;obtain⟨v,bg,cB⟩:=eX i k s aY;have q7:i<I oB:=(lN.1 bg).1;obtain⟨u,hu,bv⟩:=cM.get aZ;rw[List.getElem?_append_left q7,bg]at hu;simp at hu;subst hu;exact⟨v,cB,bv⟩
   rcases aa9 _ _ _ _ h with h|h
   .obtain⟨aY,iw,aZ,bg⟩:=agf nY ek h;obtain⟨v,cB,dE⟩:=aF.env.get k iw aZ;exact⟨v,cB,_A (x:=vx ah m (aB st) w) (λb al=>⟨rfl,by simp[vx,bE];exact axL aY b al⟩) bg dE⟩
   .exact iZ (vx ah a6 s' w) _ ⟨rfl,rfl,rfl⟩ (λp aW=>by have:=dH.1 ev p aW;simp[vx,bE];simpa using this) b7.split.2 Gc k d h
  .rw[cZ,am,be];have dm:=aF.jI;have de:(aB st).c7=aM.c7:=ap;have eH:(aB st).lt=aM.lt:=dv;rw[de,eH]at dm;have aY:=(HU (p:=aM.c7) (q:=aM.lt)).1 dm;refine(HU (p:=aM.c7) (q:=aM.lt)).2 (pz.later (x:={ vx ah m (aB st) w with nb:=aM.c7,bu:=aM.lt }) ?_ (bU _) (bU _) aY);refine⟨bM.refl _ _,λb i bO=>.inl (ja b i bO),rfl,λ_ _=>rfl,bU _,bU _,λt b' c5=>?_⟩;have b':t<aM.lt:=b';rcases(bG t ((a4 t).1 c5)).2 with ⟨_,ep,fr⟩|⟨bc,_,_⟩
   .exact⟨ep.1,fr,λ_ _ _=>rfl⟩
   .omega
  .rw[cZ,bE];exact bZ
  .rw[am,db];omega
  .rw[cq]at f;obtain⟨bc,_,fr⟩:=p0 (vx ah a6 s' w) ⟨rfl,rfl⟩ (λd ar b al=>⟨rfl,by simp[vx,bE];exact Wi (zG cV d ar) b al⟩) lT b k f;exact⟨by rw[bE];exact fr,bc⟩
  .rw[db];exact(bG t ((a4 t).1 b')).1
  .intro t t' g o dq aY aZ bg cB;obtain⟨u,bc,ep,fr⟩:=bB t g o ((a4 t).1 aY) bg;obtain⟨kk,p1,p2,p3⟩:=bB t' g dq ((a4 t').1 aZ) cB;have sg:=aF.jm u kk g o dq bc p1 ep p2;subst sg;rcases fr with ⟨bI,a2⟩|⟨bI,a2,a3⟩<;>rcases p3 with ⟨dC,eM⟩|⟨dC,eM,gF⟩
   .rw[<-a2,<-eM]
   .rw[a2]at eM;exact absurd bI.2 eM
   .rw[eM]at a2;exact absurd dC.2 a2
   .exact pc t t' u a3 gF
  .intro b t g o aY aZ bg;obtain⟨u,bc,ep,_⟩:=bB t g o ((a4 t).1 aZ) bg;exact aF.h0 b u g o (hO b aY) bc ep
  .exact⟨λg c xs ag i y aE w' hw=>aF.kT.1 g c xs ag i y aE w' (hw.mono ja),λg l bz=>by obtain⟨r,es,nk,bc,ep⟩:=aF.kT.2.1 g l bz;exact⟨r,es,nk,λw' hw=>bc w' (hw.mono ja),ep⟩,λg k f=>by obtain⟨n,bc⟩:=aF.kT.2.2 g k f;exact⟨n,λw' hw=>bc w' (hw.mono ja)⟩⟩
 .cases ar
end
theorem HJ(n:Nat)(p:Nat->Bool):(fa n p).size=n:=by simp[fa]
variable{i:Nat}
theorem Qf{n:Nat}{p:Nat->Bool}(h:i<n)(d:Bool):(fa n p).getD i d=p i:=by
 have a:i<(fa n p).size:=by rw[HJ];exact h
 rw[Array.getD_eq_getD_getElem?,mM a];simp[fa]
variable{listed:Array Bool}
theorem aiS{n:Nat}{p:Nat->Bool}(g:listed.size=n)(h:∀i,i<n->listed.getD i ab=p i):listed=fa n p:=by
 apply Array.ext_getElem?;intro i;by_cases b:i<n
 .have c:=h i b;have d:(fa n p).getD i ab=p i:=Qf b ab;have e:listed[i]? = J (listed[i]' af):=mM af;have a:i<(fa n p).size:=by rw[HJ];exact b
  have f:(fa n p)[i]? = J ((fa n p)[i]'a):=mM a;rw[Array.getD_eq_getD_getElem?,e]at c;rw[Array.getD_eq_getD_getElem?,f]at d;rw[e,f];simp at c d;rw[c,d]
 .rw[Array.getElem?_eq_none af,Array.getElem?_eq_none (by rw[HJ];omega)]
variable{j:Nat}
theorem u5{n:Nat}{p:Nat->Bool}(c:j<n){q:Nat->Bool}(h:∀i,i<n->q i=(p i||cp i j)):(fa n p).setIfInBounds j ab=fa n q:=by
 refine aiS (by rw[Array.size_setIfInBounds,HJ]) λi b=>?_;rw[h i b];by_cases a:i=j
 .simp_all
 .rw[getD_set_ne ab (hE a),Qf b,m5 a,Bool.or_false]
theorem az5{n:Nat}{p:Nat->Bool}{ops:Array bx}(c:ops.size=n)(h:j∈iB .any ops (fa n p)):j<n/\p j=false:=by
 obtain⟨a,o,d,_⟩:=mem_ready.1 h;have b:j<n:=by rw[<-c];exact(hZ.1 d).1
 rw[Qf b]at a;exact⟨b,a⟩
variable{K:Act->aT->Prop}{gw:Act->aT->Prop}{P:cP}{Q:Exit->Act->aT->Prop}{qV:Exit->Act->aT->Prop}{a:Act}{o:bx}{w:aT}
theorem apW(d:∀a w,K a w->gw a w)(h:∀e a w,Q e a w->qV e a w)(b:o.wp P a w K Q):o.wp P a w gw qV:=by
 unfold bx.wp at *;generalize (cE a.eval o).run P w=r at *;have f:LetsOut Q->LetsOut qV:=λ⟨a,w,g⟩=>⟨a,w,h _ _ _ g⟩;cases r with
 |ok n w'=>
  cases n<;>simp[bx.upon]at b ⊢ <;>
   first
    |exact d _ _ b
    |exact Calls.mono b (λe i c=>by cases e<;>first|exact d _ _ c|exact f c|exact h _ _ _ c)
    |exact Rows.mono b (λ_ _ c=>d _ _ c)
    |exact b
 |halt x w'=>cases x<;>simp[bx.upon]at b ⊢ <;> first|exact b|exact h _ _ _ b
theorem atN{ops:Array bx}(c:∀a w,K a w->gw a w)(h:∀e a w,Q e a w->qV e a w)(b:wpOp P ops Q i K a w):wpOp P ops qV i gw a w:=by
 unfold wpOp at *;split
 .grind
 .rename_i o d;simp[d]at b;split
  .rename_i f;simp[f]at b;exact b.imp (apW c h) λ⟨g,a,w,j⟩=>⟨g,a,w,h _ _ _ j⟩
  .grind
theorem _k{P:cP}{ops:Array bx}{Q qV:Exit->Act->aT->Prop}(h:∀e a w,Q e a w->qV e a w):∀(fuel:Nat) (listed:Array Bool) (a:Act) (w:aT),wpAny P .any ops Q fuel listed a w->wpAny P .any ops qV fuel listed a w
 |0,_,_,_,ch=>⟨ch.1,h _ _ _ ch.2⟩
 |fuel+1,_,_,_,ch=>⟨λb=>h _ _ _ (ch.1 b),λi c=>atN (λca w'=>_k h fuel _ ca w') h (ch.2 i c)⟩
def l_(Q:Exit->Act->aT->Prop):Exit->Act->aT->Prop:=λe a w=>e = .normal/\Q e a w
theorem ah4(h:LetsOut (l_ Q)):False:=by obtain⟨_,_,h,_⟩:=h;cases h
variable{w':aT}
theorem ati{ops:Array bx}{v:aD}(b:ops[i]? = J o)(c:o.guard=aj)(ag:(cE a.eval o).run P w = .ok (.value v) w')(d:K (a.put o.dst v) w'):wpOp P ops Q i K a w:=by unfold wpOp;simp[b,rQ c,bx.wp,ag];exact .inl d
theorem HM{ops:Array bx}(b:ops[i]? = J o)(c:o.guard=aj)(ar:o.dst=aj)(ag:(cE a.eval o).run P w = .ok .skip w')(d:K a w'):wpOp P ops Q i K a w:=by unfold wpOp;simp[b,rQ c,bx.wp,ag,bx.upon,ar];exact .inl d
theorem Y3{ops:Array bx}{l:U bx}{v:aD}(b:o.guard=aj)(ag:(cE a.eval o).run P w = .ok (.value v) w')(h:wpList P ops (l_ Q) (o::l) a w):wpList P ops (l_ Q) l (a.put o.dst v) w':=by
 simp[wpList,rQ b,bx.wp,ag]at h;rcases h with h|⟨_,h⟩
 .exact h
 .exact(ah4 h).elim
theorem arA{ops:Array bx}{l:U bx}(b:o.guard=aj)(ar:o.dst=aj)(ag:(cE a.eval o).run P w = .ok .skip w')(h:wpList P ops (l_ Q) (o::l) a w):wpList P ops (l_ Q) l a w':=by
 simp[wpList,rQ b,bx.wp,ag,bx.upon,ar]at h;rcases h with h|⟨_,h⟩
 .exact h
 .exact(ah4 h).elim
variable{u:bD}{y:cO}
theorem VV{x:cO}{off:Nat}{v:aD}(f:o.op = .store u x y)(ag:a.eval x = .pointer (J ⟨β,off,aj⟩))(aE:a.eval y=v)(d:av.one v=ab)(g:av.gA P u=J 1)(h:w.heap[β]? = J (.cells vs.toArray t (0,0)))(j:off<I vs):(cE a.eval o).run P w = .ok .skip (av.setCells w β off [v]):=by
 have b:v.cells.toList=[v]:=by rw[av.Mc d]
 have c:v.cells.size=1:=by rw[<-Array.length_toList,b];rfl
 obtain⟨i,_,_⟩:=av.yv (P:=P) [v] w β off 0 vs t h d' (λq e=>by simp at e;subst e;exact d);simp[cE,f,Instr.storeAt,ag,aE,Instr.sureAddr,storeVar,av.run_sizeOf g,c,b];rw[i];simp
variable{cs:U aD}{g:Nat}
theorem amS{off F9:Nat}{az:U aD}{t':bD}{f gI:Nat×Nat}(b:w.heap[g]? = J (.cells cs.toArray t f))(alc:w.heap[β]? = J (.cells az.toArray t' gI))(a : β≠g):av.setCells (av.setCells w g off us) β F9 vs=av.setCells (av.setCells w β F9 vs) g off us:=by
 rw[tf us cs w g off b,tf vs az w β F9 alc];have c:(w.setRow g (av.je cs off us).toArray).heap[β]? = J (.cells az.toArray t' gI):=by rw[setRow_other w g β _ a];exact alc
 have d:(w.setRow β (av.je az F9 vs).toArray).heap[g]? = J (.cells cs.toArray t f):=by rw[setRow_other w β g _ (hE a)];exact b
 rw[tf vs az _ β F9 c,tf us cs _ g off d];exact arv w (hE a) _ _
variable{k:Nat}
theorem akH{off:Nat}{f:Nat×Nat}(b:w.heap[g]? = J (.cells cs.toArray t f))(a:k≠g):(av.setCells w g off us).heap[k]? = w.heap[k]? :=by rw[tf us cs w g off b,setRow_other w g k _ a]
theorem xr{a:Nat}{l:U Nat}(h:vD a l=ab):∀b,b∈l->a≠b:=λb al e=>by have:=dH.1 h b al;rw[e]at this;simp at this
section
variable {R:Type}{px:aR R}{ah:di}
variable{st:bw}
theorem ahY(j:gx ah px){x:cO}{b off:Nat}{c:cl}{xs:U (dy c)}{t:l'}{K:bw->ae R}{r:R}(m:o.op = .store u x y)(ag:aJ px st 0 x=J (.ptr b off))(aE:aJ px st u y=J (.sl c xs t))(al:(∃az,bF st.au b=J (.cells az))\/∃c y,bF st.au b=J (.box c y))(h:uq px o st K=J r) :
  av.gA ah.P u=J 1/\∀(x:dn) (β:Nat) k,bF st.au b=J k->kK x β k->∃(vs:U aD) (t:bD),x.w.heap[β]? = J (.cells vs.toArray t (0,0))/\off<I vs:=by
 unfold uq at h;simp[m,ag,aE]at h;rcases al with ⟨az,al⟩|⟨p,q,al⟩
 .simp[al]at h;split at h
  .rename_i ao;simp only[bN]at ao;obtain⟨⟨⟨a,d⟩,_⟩,e⟩:=ao;have a : 1=(px.a1 u).n:=dS a;have d:off+1<=I az:=Nat.le_of_ble_eq_true d;refine⟨by rw[(pE (j.a1 u) (pH e).1).2.2,<-a],λx β k f g=>?_⟩;rw[al]at f;simp at f;subst f;obtain⟨_,vs,t,i,l⟩:=g;exact⟨vs,t,i,by rw[l.len];omega⟩
  .cases h
 .simp[al]at h;split at h
  .rename_i ao;simp only[bN]at ao;obtain⟨⟨⟨a,d⟩,_⟩,e⟩:=ao;have a : 1=(px.a1 u).n:=dS a;have d:off+1<=I (enc p q):=Nat.le_of_ble_eq_true d;rw[k5]at d;refine⟨by rw[(pE (j.a1 u) (pH e).1).2.2,<-a],λx β k f g=>?_⟩;rw[al]at f;simp at f;subst f;obtain⟨_,vs,t,i,l,_⟩:=g;exact⟨vs,t,i,by omega⟩
  .cases h
theorem ta{a b:Nat}:eF a b=aa (a<=b):=by cases h:eF a b with|true=>exact(aH (Nat.le_of_ble_eq_true h)).symm|false=>exact(aL λe=>by rw[Nat.ble_eq_true_of_le e]at h;cases h).symm
theorem pU{a b:Nat}:cp a b=aa (a=b):=by
 by_cases h:a=b
 .subst h;simp
 .rw[m5 h,aL h]
theorem ajq{a b:Nat}:eU a b=aa (a<b):=by cases h:eU a b with|true=>rw[Nat.blt_eq]at h;exact(aH h).symm|false=>exact(aL λe=>by rw[<-Nat.blt_eq]at e;rw[e]at h;cases h).symm
end
section
variable {R:Type}{px:aR R}{ah:di}
theorem PG{f:Act->Act}:∀c (a:Act) (w:aT),l_ Q (.panic c) (f a) w->l_ Q (.panic c) a w:=λ_ _ _ h=>by cases h.1
structure KO (ah:di) (o:bx) (u:bD) (g:Nat) (gh:aT) (β off:Nat) (vs:List aD) (t:bD):Prop where
 bX:av.gA ah.P u=J 1
 ne : β≠g
 row:gh.heap[β]? = J (.cells vs.toArray t (0,0))
 lt:off<I vs
variable{hQ:bx}{os:bx}
theorem adV{ops:Array bx}{p' q9:Nat}{x:cO}{gh:aT}{ym off:Nat}{t0:bD}{v:aD}{k p1 p2 p3:Nat->Bool}(w:ops[p']? = J hQ)(z:ops[q9]? = J os)(a4:p'≠q9)
  (ak2:hQ.guard=aj) (akW:hQ.dst=aj) (lp:os.guard=aj) (pf:os.dst=aj) (l:os.op = .store u x y) (ag:a.eval x = .pointer (J ⟨β,off,aj⟩)) (aE:a.eval y=v) (en:av.one v=ab) (d:KO ah os u g gh β off vs t)
  (c:gh.heap[g]? = J (.cells cs.toArray t0 (0,0))) (ao:∀(w':aT) (cs':U aD),w'.heap[g]? = J (.cells cs'.toArray t0 (0,0))->I cs'=I cs->(cE a.eval hQ).run ah.P w' = .ok .skip (av.setCells w' g ym us))
  (dm:∀i,i<ops.size->k i=aa (i≠p'/\i≠q9)) (aY:∀i,i<ops.size->p1 i=aa (i≠q9)) (aZ:∀i,i<ops.size->p2 i=aa (i≠p')) (bg:∀i,i<ops.size->p3 i=ab)
  (nt:(iB .any ops (fa ops.size k)).contains p'=ab) (mn:iB .any ops (fa ops.size p1)=[q9]) (gY:iB .any ops (fa ops.size p2)=[p']) (lT:iB .any ops (fa ops.size p3)=[])
  (m:wpList ah.P ops (l_ Q) [os] a (av.setCells gh g ym us)) (fuel:Nat):wpAny ah.P .any ops (l_ Q) (fuel+2) (fa ops.size k) a gh:=by
 have n:p'<ops.size:=(hZ.1 w).1;have o:q9<ops.size:=(hZ.1 z).1;have s1:(fa ops.size k).setIfInBounds p' ab=fa ops.size p1:=u5 n λi b=>by rw[dm i b,aY i b,pU];rw[<-Bool.decide_or];exact hL.2 af
 have s2:(fa ops.size k).setIfInBounds q9 ab=fa ops.size p2:=u5 o λi b=>by rw[dm i b,aZ i b,pU];rw[<-Bool.decide_or];exact hL.2 af
 have sx:(fa ops.size p1).setIfInBounds q9 ab=fa ops.size p3:=u5 o λi b=>by rw[aY i b,bg i b,pU];rw[<-Bool.decide_or];exact(aH af).symm
 have aER:(fa ops.size p2).setIfInBounds p' ab=fa ops.size p3:=u5 n λi b=>by rw[aZ i b,bg i b,pU];rw[<-Bool.decide_or];exact(aH af).symm
 have p:(av.setCells gh g ym us).heap[β]? = J (.cells vs.toArray t (0,0)):=by rw[akH c d.ne];exact d.row
 have q:(av.setCells gh β off [v]).heap[g]? = J (.cells cs.toArray t0 (0,0)):=by rw[akH d.row (hE d.ne)];exact c
 have gB:=VV (P:=ah.P) l ag aE en d.bX p d.lt;have yF:=VV (P:=ah.P) l ag aE en d.bX d.row d.lt;have f:l_ Q .normal a (av.setCells (av.setCells gh g ym us) β off [v]):=by have:=arA lp pf gB m;simpa[wpList]using this
 refine⟨λh=>(by rw[h]at nt;cases nt),λj dh=>?_⟩;obtain⟨a2,r⟩:=az5 rfl dh;rw[dm j a2,decide_eq_false_iff_not]at r;by_cases s:j=p'
 .subst s;refine HM w ak2 akW (ao gh cs c rfl) ?_;rw[s1];refine wpAny_all mn (by simp) λi b=>?_;simp at b;subst b;refine HM z lp pf gB ?_;rw[sx];exact wpAny_done lT f fuel
 .have a3:j=q9:=Decidable.byContradiction λe=>r ⟨s,e⟩;subst a3;refine HM z lp pf yF ?_;rw[s2];refine wpAny_all gY (by simp) λi b=>?_;simp at b;subst b;refine HM w ak2 akW (ao _ cs q rfl) ?_;rw[aER,<-amS c d.row d.ne];exact wpAny_done lT f fuel
variable{as_:U Act}{e:Nat}{m:ed}{st:bw}{e1:bw}
theorem WQ{ops:Array bx}{u:Bool}{q g:bx}(r:ops[e]? = J q)(s:ops[e+1]? = J g)(x:Rel ah m a as_ (aB st) w)(f:El ah q g hQ st e1 m a as_ w)(t:pb ops e u=ab)(fuel:Nat)
  (h:wpAny ah.P .any ops (l_ Q) fuel (fa ops.size λi=>eF i (e+1)) ((a.put (J f.d) f.bb).put (J f.d2) f.lr) f.gh):wpAny ah.P .any ops (l_ Q) (fuel+2) (fa ops.size λi=>eU i e) a w:=by
 simp only[pb,bN]at t;obtain⟨⟨⟨⟨⟨⟨y,_⟩,b⟩,j⟩,k⟩,_⟩,_⟩:=t;have b:iB .any ops (fa ops.size λi=>eU i e)=[e]:=Ei
 have l:e<ops.size:=(hZ.1 r).1;have o:e+1<ops.size:=(hZ.1 s).1;have z:(fa ops.size λi=>eU i e).setIfInBounds e ab=fa ops.size λi=>eF i e:=u5 l λi c=>by rw[ta,ajq,pU];rw[<-Bool.decide_or];exact hL.2 af
 have s2:(fa ops.size λi=>eF i e).setIfInBounds (e+1) ab=fa ops.size λi=>eF i (e+1):=u5 o λi c=>by rw[ta,ta,pU];rw[<-Bool.decide_or];exact hL.2 af
 have p:a.tmps.size=st.n:=x.env.size;have ar:f.d<a.tmps.size:=by rw[p];exact f.lt
 refine wpAny_all b (by simp) λi c=>?_;simp at c;subst c;refine ati r f.ak3 f.run ?_;rw[f.dst,z];refine wpAny_take (v:=f.lr) s y k j (PG (f:=λa=>a.put g.dst f.lr)) (.inl ⟨rQ f.ak4 _,λw'=>f.alN _ w' (uY ar) (k6 f.alo)⟩) ?_;rw[s2,f.L1];exact h
variable{ra:bx}{nr:bx}
theorem aB5{ops:Array bx}(mQ:ops[e]? = J ra)(n4:ops[e+1]? = J nr)(tO:ops[e+2]? = J hQ)(ja:ops[e+3]? = J os)(aF:Rel ah m a as_ (aB st) w)(f:El ah ra nr hQ st e1 m a as_ w)(p:pb ops e ai=ab)
  {off:Nat}(q:os.op = .store u (.tmp k) (.tmp f.d)) (lp:os.guard=aj) (pf:os.dst=aj) (r:k≠f.d) (s:k≠f.d2) (ag:a.eval (.tmp k) = .pointer (J ⟨β,off,aj⟩)) (fC:KO ah os u f.g f.gh β off vs t)
  (j:wpList ah.P ops (l_ Q) [os] ((a.put (J f.d) f.bb).put (J f.d2) f.lr) (av.setCells f.gh f.g f.off f.us)) (fuel:Nat):wpAny ah.P .any ops (l_ Q) (fuel+4) (fa ops.size λi=>eU i e) a w:=by
 refine WQ mQ n4 aF f p (fuel+2) ?_;have a4:=p;simp only[pb,bN]at p;obtain⟨⟨⟨⟨⟨⟨cw,_⟩,_⟩,_⟩,_⟩,l⟩,⟨⟨ck,y⟩,z⟩,a2⟩:=p;have ck:ops.size=e+4:=dS ck;have o:a.tmps.size=st.n:=aF.env.size;have ar:f.d<a.tmps.size:=by rw[o];exact f.lt
 have a3:f.d2<(a.put (J f.d) f.bb).tmps.size:=by simp[Act.put,o];exact f.UO
 have c:∀{x b:Nat},x≠b->lk (.tmp x) b=true:=λh=>by simp[lk,m5 h]
 refine adV (p':=e+2) (q9:=e+3) (p1:=λi=>eF i (e+2)) (p2:=λi=>eF i (e+1)||cp i (e+3)) (p3:=λ_=>ab) (v:=f.bb) tO ja af f.UG f.FU lp pf q ?_ ?_ f.one fC f.row (λw' cs' aY aZ=>f.Vj _ w' cs' (uY a3) ((k6 f.US).trans (k6 f.UR)) aY aZ)
  (λi bO=>?_) (λi bO=>?_) (λi bO=>?_) (λ_ _=>rfl) y (by simpa using z) (by simpa using a2) (by simpa using l) j fuel
 .rw[k6 (c s),k6 (c r)];exact ag
 .rw[k6 (c f.ne)];exact uY ar
 .rw[ta];exact wb
 .rw[ta];exact wb
 .rw[ta,pU,<-Bool.decide_or];exact wb
theorem aBL(aW:gx ah px){ops:Array bx}{on of:bx}(mQ:ops[e]? = J ra)(n4:ops[e+1]? = J nr)(tO:ops[e+2]? = J hQ)(mR:ops[e+3]? = J on)(yb:ops[e+4]? = J of)(ja:ops[e+5]? = J os)(aF:Rel ah m a as_ (aB st) w)(f:El ah ra nr hQ st e1 m a as_ w)(kU:pb ops e ab=ab)
  {e0:bD}{fx kf F0 gJ off:Nat}{F1:ej}(z:on.op = .nilCheck (.tmp k)) (a2:of.op = .fieldAddr e0 (.tmp fx) F0) (bG:os.op = .store u (.tmp kf) (.tmp f.d)) (F2:on.guard=aj) (p_:of.guard=aj) (lp:os.guard=aj) (FT:on.dst=J fx) (FR:of.dst=J kf) (pf:os.dst=aj)
  (bf:vD k [f.d,f.d2,fx,kf]=ab) (j:vD fx [f.d,f.d2,kf]=ab) (q:vD kf [f.d,f.d2]=ab) (a9:lk f.y fx=ab) (bZ:lk f.y kf=ab) (r:fx<st.n) (a3:kf<st.n) (b7:sL px e0 F0=J (gJ,F1)) (ag:a.eval (.tmp k) = .pointer (J ⟨β,off,aj⟩)) (fC:KO ah os u f.g f.gh β (off+gJ) vs t)
  (a4:wpList ah.P ops (l_ Q) [on,of,os] ((a.put (J f.d) f.bb).put (J f.d2) f.lr) (av.setCells f.gh f.g f.off f.us)) (fuel:Nat):wpAny ah.P .any ops (l_ Q) (fuel+6) (fa ops.size λi=>eU i e) a w:=by
 refine WQ mQ n4 aF f kU (fuel+4) ?_;have ek:=kU;simp only[pb,bN]at kU;obtain⟨⟨⟨⟨⟨⟨cw,_⟩,_⟩,_⟩,_⟩,a5⟩,⟨⟨⟨⟨⟨⟨ck,ac⟩,cq⟩,ct⟩,cM⟩,cV⟩,cS⟩,cZ⟩:=kU;have ck:ops.size=e+6:=dS ck;have l:a.tmps.size=st.n:=aF.env.size;have ar:f.d<a.tmps.size:=by rw[l];exact f.lt
 have am:f.d2<(a.put (J f.d) f.bb).tmps.size:=by simp[Act.put,l];exact f.UO
 have c:∀{x b:Nat},x≠b->lk (.tmp x) b=true:=λh=>by simp[lk,m5 h]
 have bf:=xr bf;have j:=xr j;have q:=xr q;have fJ:k≠f.d:=bf _ (by simp);have f_:k≠f.d2:=bf _ (by simp);have tR:fx≠f.d:=j _ (by simp);have yk:fx≠f.d2:=j _ (by simp);have UP:fx≠kf:=j _ (by simp);have jc:kf≠f.d:=q _ (by simp);have kW:kf≠f.d2:=q _ (by simp);have db:((a.put (J f.d) f.bb).put (J f.d2) f.lr).eval (.tmp k) = .pointer (J ⟨β,off,aj⟩):=by rw[k6 (c f_),k6 (c fJ)];exact ag
 have al2:∀w',(cE ((a.put (J f.d) f.bb).put (J f.d2) f.lr).eval on).run ah.P w' = .ok (.value (.pointer (J ⟨β,off,aj⟩))) w':=λw'=>by simp[cE,z,db]
 have dI:fx<((a.put (J f.d) f.bb).put (J f.d2) f.lr).tmps.size:=by simp[Act.put,l];exact r
 have bB:kf<(((a.put (J f.d) f.bb).put (J f.d2) f.lr).put (J fx) (.pointer (J ⟨β,off,aj⟩))).tmps.size:=by simp[Act.put,l];exact a3
 have bE:(((a.put (J f.d) f.bb).put (J f.d2) f.lr).put (J fx) (.pointer (J ⟨β,off,aj⟩))).defers=[]:=by simpa[Act.put]using aF.env.defers
 obtain⟨_,_,_,_,_,_,_,_,_,_,dk⟩:=EU aW b7;have al1:∀w',(cE (((a.put (J f.d) f.bb).put (J f.d2) f.lr).put (J fx) (.pointer (J ⟨β,off,aj⟩))).eval of).run ah.P w' = .ok (.value (.pointer (J ⟨β,off+gJ,aj⟩))) w':=λw'=>by have aY:av.Env.aJ (sS (((a.put (J f.d) f.bb).put (J f.d2) f.lr).put (J fx) (.pointer (J ⟨β,off,aj⟩)))) (.tmp fx)=J (.pointer (J ⟨β,off,aj⟩)):=ae7 (by simp[Act.put,show fx<a.tmps.size by rw[l];exact r]);have o:=av.rb (P:=ah.P) (s:=e0) (f:=F0) (by simpa using dk) aY;rw[<-a2]at o;exact o _ _ w' of (MI bE) rfl
 have p:=Y3 p_ (al1 _) (by have:=Y3 F2 (al2 _) a4;rw[FT]at this;exact this)
 rw[FR]at p;have ap:e+3<ops.size:=af
 have dv:e+4<ops.size:=af
 have s1:(fa ops.size λi=>eF i (e+1)).setIfInBounds (e+3) ab=fa ops.size λi=>eF i (e+1)||cp i (e+3):=u5 ap λi _=>rfl;have s2:(fa ops.size λi=>eF i (e+1)||cp i (e+3)).setIfInBounds (e+4) ab=fa ops.size λi=>eF i (e+1)||cp i (e+3)||cp i (e+4):=u5 dv λi _=>rfl;refine wpAny_take (v:=.pointer (J ⟨β,off,aj⟩)) mR cw cq ac (PG (f:=λa=>a.put on.dst _)) (.inl ⟨rQ F2 _,al2⟩) ?_;rw[s1,FT];refine wpAny_take (v:=.pointer (J ⟨β,off+gJ,aj⟩)) yb cw cM ct (PG (f:=λa=>a.put of.dst _)) (.inl ⟨rQ p_ _,al1⟩) ?_;rw[s2,FR];refine adV (p':=e+2) (q9:=e+5) (p1:=λi=>eF i (e+4)) (p2:=λi=>eF i (e+1)||cp i (e+3)||cp i (e+4)||cp i (e+5)) (p3:=λ_=>ab) (v:=f.bb) tO ja af f.UG f.FU lp pf bG (uY bB) ?_ f.one fC f.row (λw' cs' aY aZ=>f.Vj _ w' cs' ?_ ?_ aY aZ)
  (λi bO=>?_) (λi bO=>?_) (λi bO=>?_) (λ_ _=>rfl) cV (by simpa using cS) (by simpa using cZ) (by simpa using a5) p fuel
 .rw[k6 (c (hE jc)),k6 (c (hE tR)),k6 (c f.ne)];exact uY ar
 .rw[k6 (c (hE kW)),k6 (c (hE yk))];exact uY am
 .rw[k6 bZ,k6 a9];exact(k6 f.US).trans (k6 f.UR)
 .rw[ta,pU,pU,<-Bool.decide_or,<-Bool.decide_or];exact wb
 .rw[ta];exact wb
 .rw[ta,pU,pU,pU,<-Bool.decide_or,<-Bool.decide_or,<-Bool.decide_or];exact wb
end
theorem xL{ops:Array bx}(h:ops[j]? = J o):ops.toList.drop j=o::ops.toList.drop (j+1):=by
 have a:j<I ops.toList:=by simpa using (hZ.1 h).1
 rw[List.drop_eq_getElem_cons a]
 grind
variable{e:Nat}
theorem ZN{ops:Array bx}{a:Bool}(h:Dz ops=J (e,a)):JY ops e a=ab/\pb ops e a=true:=by
 unfold Dz at h;split at h
 .rename_i ao;obtain⟨rfl,rfl⟩:=h;simp[J7]at ao;exact ao.2
 .split at h
  .rename_i ao;obtain⟨rfl,rfl⟩:=h;simp[J7]at ao;exact ao.2
  .cases h
theorem asT{ops:Array bx}{c:Bool}(h:pb ops e c=ab){b:bx}(g:e<=j)(d:ops[j]? = J b){q:Nat}(i:q<e):kD ops 12 b q=true:=by
 simp only[pb,bN]at h;obtain⟨⟨⟨⟨⟨⟨_,f⟩,_⟩,_⟩,_⟩,_⟩,_⟩:=h;have a:=dH.1 f j (List.mem_range.2 (hZ.1 d).1);simp only[mK]at a;rcases a with a|a
 .rw[Nat.blt_eq]at a;omega
 .grind
theorem abk{ops:Array bx}{a:Bool}(h:pb ops e a=ab):ops.size=e+(match a with|true=>6|false=>4):=by
 cases a with
 |true=>
  simp only[pb,bN]at h
  simp_all
 |false=>
  simp only[pb,bN]at h
  simp_all
theorem Ot(ops:Array bx):lb ops<=ops.size/\∀j a,lb ops<=j->ops[j]? = J a->∀q,q<lb ops->kD ops 12 a q=true:=by
 unfold lb;split
 .grind
 .split
  .rename_i p g;obtain⟨e,h⟩:=p;obtain⟨_,f⟩:=ZN g;refine⟨by have:=abk f;omega,λj a b c q d=>asT f b c d⟩
  .exact⟨_w _ _,λj a b c q d=>KV _ j a b (hZ.1 c).1 c q (iv d b)⟩
section
variable {R:Type}{px:aR R}{ah:di}
theorem ad5{ops:Array bx}{n:Nat}(h:(ops.toList.all λo=>oM o&&rG n o)=ab)(e:Nat):((ops.toList.drop e).all λo=>oM o&&rG n o)=true:=dH.2 λo a=>dH.1 h o (List.mem_of_mem_drop a)
theorem acg{n fuel:Nat}(a:n=e+k)(c:∀i,i<n->listed.getD i ab=aa (i<e))(b:I ((hg n).filter λj=> !listed.getD j ab)<=fuel):k<=fuel:=by
 subst a;refine fV ?_ b;rw[List.range_eq_range',show j4 0 (e+k)=j4 0 e++j4 (0+1*e) k from(List.range'_append (s:=0) (m:=e) (n:=k) (step:=1)).symm,List.filter_append,e7];have:((j4 (0+1*e) k).filter λj=> !listed.getD j ab)=j4 (0+1*e) k:=List.filter_eq_self.2 λj d=>by grind
 grind
variable{st:bw}
theorem avK{K:bw->ae R}{r:R}{all:Array bx}(a:o.guard=aj)(ar:o.dst=aj)(h:ops px all [o] st K=J r):uq px o st K=J r:=by simp[ops,vR,a,one,ar]at h;exact h
theorem aqj{x:cO}{b off:Nat}{K:D->bw->ae R}(a:o.op = .nilCheck x)(ag:aJ px st 0 x=J (.ptr b off)):step px o st K=K (.ptr b off) st:=by unfold step;rw[a];unfold rE;rw[a];simp[ag]
theorem ayK{s f:Nat}{x:cO}{b off:Nat}{K:D->bw->ae R}(a:o.op = .fieldAddr s x f)(ag:aJ px st 0 x=J (.ptr b off)):step px o st K=match sL px s f with
  |some (gJ,_)=>K (.ptr b (off+gJ)) st
  |none=>none:=by
 unfold step;rw[a];unfold rE
 grind
variable{as_:U Act}{m:ed}
theorem anr(aW:gx ah px)(ao:lG ah px){all:Array bx}(he:∀j pn,all[j]? = J pn->∀e∈pn.after,Region.binds .any e=ab->e.on<j){K:bw->ae R}{r:R}(al:(all.toList.all λo=>oM o&&rG st.n o)=ab)(a5:GK px all st=ab)(h:ops px all (all.toList.drop (lb all)) st K=J r)
  (aF:Rel ah m a as_ (aB st) w) (gg:∀aS a6 ca w',K aS = J r->(aS.n=st.n/\aS.cx=st.cx)->Rel ah a6 ca as_ (aB aS) w'->Q .normal ca w') :
  ∀(fuel:Nat) (listed:Array Bool),listed.size=all.size->(∀i,i<all.size->listed.getD i ab=aa (i<lb all))->I ((hg all.size).filter λj=> !listed.getD j ab)<=fuel->wpAny ah.P .any all Q fuel listed a w:=by
 intro fuel listed cw bz v;have ac:(∀j pn,lb all<=j->all[j]? = J pn->∀q,q<j->kD all 12 pn q=ab)->wpAny ah.P .any all Q fuel listed a w:=λb'=>arx he fuel (lb all) listed a w ((Ot all).1) b' cw bz v (B2 aW ao (ad5 al _) h aF gg)
 cases dm:cp (rY all all.size) 0 with
 |true=>refine ac λj pn _ bS q bV=>KV all.size j pn (by rw[dS dm];exact cL _) (hZ.1 bS).1 bS q bV
 |false=>
  cases fC:Dz all with
  |none=>
   have ar:lb all=rY all all.size:=by simp[lb,dm,fC]
   exact ac λj pn dh bS q bV=>KV all.size j pn (by rw[<-ar];exact dh) (hZ.1 bS).1 bS q bV
  |some p=>
   obtain⟨e,fr⟩:=p;obtain⟨s,kU⟩:=ZN fC;have a9:=abk kU;have ar:lb all=e:=by simp[lb,dm,fC]
   rw[ar]at h bz;simp[GK,dm,fC]at a5;split at a5
   .rename_i k ra nr hQ bf mQ n4 tO;simp at a5;obtain⟨ek,a2⟩:=a5;rw[xL mQ,xL n4,xL tO]at h;simp[ops]at h;cases bg:wJ px ra nr hQ st with
    |none=>rw[bg]at ek;cases ek
    |some p3=>
     obtain⟨c,e1⟩:=p3;rw[bg]at h;obtain⟨ev,l⟩:=h_ h;simp only at ev l;subst ev;obtain⟨f⟩:=ae9 aW bg aF;have cV:listed=fa all.size λi=>eU i e:=aiS cw λi bO=>by rw[bz i bO,ajq]
     have e8:∃b off,get st.env k=J (.ptr b off)/\((∃az,bF st.au b=J (.cells az))\/∃c y,bF st.au b=J (.box c y)):=by
      split at a2
      .rename_i b off iZ;refine⟨b,off,iZ,?_⟩;split at a2
       .rename_i az iK;exact .inl ⟨az,iK⟩
       .rename_i c y jF;exact .inr ⟨c,y,jF⟩
       .cases a2
      .cases a2
     obtain⟨b,off,cS,cZ⟩:=e8;have am:bF st.au b≠none:=by rcases cZ with ⟨_,h⟩|⟨_,_,h⟩<;>rw[h]<;>simp
     obtain⟨rl,ke,eX⟩:=aF.env.get k _ cS;simp[aG]at eX;obtain⟨_,rfl⟩:=eX;have eY:a.eval (.tmp k) = .pointer (J ⟨m.au b,off,aj⟩):=by simp[Act.eval,ke];rfl
     have a3:=B2 aW ao (all:=all) (Q:=l_ Q) (by rw[f.n.1];exact ad5 al _) l f.rel (λaS a6 ca w' fJ f_ kh=>⟨rfl,gg aS a6 ca w' fJ ⟨f_.1.trans f.n.1,f_.2.trans f.n.2⟩ kh⟩);have cq:∀{o:bx}{u:bD}{bB:Nat},(av.gA ah.P u=J 1/\∀(x:dn) (β:Nat) k,bF st.au b=J k->kK x β k->∃(vs:U aD) (t:bD),x.w.heap[β]? = J (.cells vs.toArray t (0,0))/\bB<I vs)->∃vs t,KO ah o u f.g f.gh (m.au b) bB vs t:=λ{o u bB} ch=>by cases gK:bF st.au b with|none=>exact absurd gK am|some alg=>obtain⟨_,jY⟩:=aF.gp b alg gK;obtain⟨vs,t,bc,ep⟩:=ch.2 _ _ alg gK jY;have z:=f.aDC b am;exact⟨vs,t,ch.1,z,by rw[f.rest _ (aF.n9 am) z];exact bc,ep⟩
     refine _k (Q:=l_ Q) (λ_ _ _ bV=>bV.2) fuel listed a w ?_;rw[cV];cases fr with
     |false=>
      simp[JY,mQ,n4,tO,f.alv,f.alw,f.dst,f.L1,f.FU]at s;have s:=s.2;simp only at a9;have db:∃n,fuel=n+4:=⟨fuel-4,by have:=acg (k:=4) a9 bz v;omega⟩;obtain⟨F1,rfl⟩:=db;cases bE:all[e+3]? with
      |none=>simp only[bE]at s;cases s
      |some os=>
       simp[bE]at s;split at s
       .rename_i u fg q dk pf;simp only[bN,Option.isNone_iff_eq_none]at s;obtain⟨⟨lp,bV⟩,z⟩:=s;obtain rfl:=dS bV;have ap:fg = k:=by simp[RA,bE,dk]at bf;exact bf
        subst ap;have z:=xr z;have aY:fg≠f.d:=z _ (by simp);have aZ:fg≠f.d2:=z _ (by simp);have bG:all.toList.drop (e+3+1)=[]:=gn d';rw[xL bE,bG]at l a3;obtain⟨nm,dp,t7,jJ⟩:=f.akY;obtain⟨vs,t,fC⟩:=cq (o:=os) (ahY (st:=e1) aW dk ((f.akZ fg aY aZ).trans cS) jJ (by rw[f.au];exact cZ) (avK lp pf l)|> λch=>⟨ch.1,by have:=ch.2;rw[f.au]at this;exact this⟩);exact aB5 mQ n4 tO bE aF f kU dk lp pf aY aZ eY fC a3 F1
       .cases s
     |true=>
      simp[JY,mQ,n4,tO,f.alv,f.alw,f.dst,f.L1,f.FU]at s;have s:=s.2;simp only at a9;have db:∃n,fuel=n+6:=⟨fuel-6,by have:=acg (k:=6) a9 bz v;omega⟩;obtain⟨F1,rfl⟩:=db;split at s
      .rename_i on of os dv dC eM;split at s
       .rename_i fg e0 f1 F0 u p q fx kf a4 ct cM FT FR pf;simp only[bN,Option.isNone_iff_eq_none]at s;obtain⟨⟨⟨⟨⟨⟨⟨⟨⟨⟨F2,p_⟩,lp⟩,bc⟩,ep⟩,mO⟩,tR⟩,yk⟩,UP⟩,aD9⟩,aEa⟩:=s;obtain rfl:=dS bc;obtain rfl:=dS ep;obtain rfl:=dS mO;have ap:fg = k:=by simp[RA,dv,a4]at bf;exact bf
        subst ap;have de:=xr tR;have aY:fg≠f.d:=de _ (by simp);have aZ:fg≠f.d2:=de _ (by simp);have eH:=xr yk;have jc:f1≠f.d:=eH _ (by simp);have alm:f1≠p:=eH _ (by simp);have aQ:p≠f.d:=(xr UP) _ (by simp);have bG:all.toList.drop (e+5+1)=[]:=gn d';rw[xL dv,xL dC,xL eM,bG]at l a3;have gF:get e1.env fg = J (.ptr b off):=(f.akZ fg aY aZ).trans cS;have nj:wJ px on of os e1=none:=by simp[wJ,a4]
        simp[ops,nj]at l;simp[vR,F2,one,FT]at l;split at l
        .rename_i bZ;rw[aqj a4 (show aJ px e1 0 (.tmp fg)=J (.ptr b off) from gF)]at l;simp[p_,FR]at l;split at l
         .rename_i b7;have be:get ((bw.put e1 f1 (.ptr b off)).env) f1=J (.ptr b off):=by simp[bw.put,k3]
          rw[ayK ct (show aJ px (e1.put f1 (.ptr b off)) 0 (.tmp f1)=J (.ptr b off) from be)]at l;cases dI:sL px e0 F0 with
          |none=>rw[dI]at l;cases l
          |some aEK=>
           obtain⟨gJ,n0⟩:=aEK;rw[dI]at l;simp[lp,pf]at l;obtain⟨nm,dp,t7,jJ⟩:=f.akY;have nY:aJ px ((e1.put f1 (.ptr b off)).put p (.ptr b (off+gJ))) 0 (.tmp p)=J (.ptr b (off+gJ)):=by simp[aJ,bw.put,k3]
           have nZ:aJ px ((e1.put f1 (.ptr b off)).put p (.ptr b (off+gJ))) u (.tmp f.d)=J (.sl nm dp t7):=by simp[aJ,bw.put,k3,if_neg (hE aQ),if_neg (hE jc)];exact jJ
           have hq:=ahY (st:=(e1.put f1 (.ptr b off)).put p (.ptr b (off+gJ))) aW cM nY nZ (by show(∃az,bF e1.au b=J (.cells az))\/∃c y,bF e1.au b=J (.box c y);rw[f.au];exact cZ) l;obtain⟨vs,t,fC⟩:=cq (o:=os) ⟨hq.1,by have:=hq.2;have tM:((e1.put f1 (.ptr b off)).put p (.ptr b (off+gJ))).au=st.au:=f.au;rw[tM]at this;exact this⟩
           have bZ:f1<e1.n:=KQ
           have b7:p<e1.n:=by simpa[ bw.put]using b7
           rw[f.n.1]at bZ b7;exact aBL aW mQ n4 tO dv dC eM aF f kU a4 ct cM F2 p_ lp FT FR pf tR yk UP aD9 aEa bZ b7 dI eY fC a3 F1
         .cases l
        .cases l
       .cases s
      .cases s
   .cases a5
end
def lg(n:Nat):Code->Bool|.region _ os c=>(os.toList.all λo=>oM o&&rG n o)&&(!c||JH os)|.seq a b=>lg n a&&lg n b|.cond _ a b=>lg n a&&lg n b|.block _ b=>lg n b|.loop b=>lg n b|.scope b=>lg n b|_=>ab
def GL:aX->Exit|.normal=>.normal|.exit id=>.exit id|.ret=>.ret
section
variable {R:Type}{px:aR R}{ah:di}
def hX(ah:di)(px:aR R)(b:Code):Prop:=∀(st:bw) (K:aX->bw->ae R) (r:R),px.loop b st K=J r->∀(Q:Exit->Act->aT->Prop) (m:ed) (a:Act) (as_:U Act) (w:aT),lg st.n b=ab->Rel ah m a as_ (aB st) w->(∀e aS a6 ca w',K e aS = J r->(aS.n=st.n/\aS.cx=st.cx)->Rel ah a6 ca as_ (aB aS) w'->Q (GL e) ca w')->(Code.loop b).wp ah.P Q a w
theorem afA{ops:Array bx}{s:Nat->FS}(ao:nV ops s):∀t,t<=ops.size->(s t).cx=(s 0).cx
 |0,_=>rfl
 |t+1,b'=>by obtain⟨o,bS⟩:∃o,ops[t]? = J o:=⟨_,mM af⟩;have:=congrArg FS.cx (ao t o bS);rw[this];exact afA ao t af
theorem Ni{ops:Array bx}{s:Nat->FS}:∀t,Fd ops s (λ_=>ai) t=s 0
 |0=>rfl
 |t+1=>by
  simp[Fd];split
  .simp[Ni t]
  .exact Ni t
theorem qx(aW:gx ah px)(ao:lG ah px)(f:mv ah px)(hm:ah.P.follows .mixedOrders=ab):∀(c:Code) (st:bw) (K:aX->bw->ae R) (r:R),lg st.n c=ab->(∀b,b∈jg c->hX ah px b)->ll px c st K=J r ->
  ∀(Q:Exit->Act->aT->Prop) (m:ed) (a:Act) (as_:U Act) (w:aT),Rel ah m a as_ (aB st) w->(∀e aS a6 ca w',K e aS = J r->(aS.n=st.n/\aS.cx=st.cx)->Rel ah a6 ca as_ (aB aS) w'->Q (GL e) ca w')->c.wp ah.P Q a w
 |.skip,st,K,r,_,_,h,Q,m,a,as_,w,aF,gg=>wp_skip (gg .normal st m a w h ⟨rfl,rfl⟩ aF)
 |.label l,st,K,r,_,_,h,Q,m,a,as_,w,aF,gg=>wp_label (gg .normal st m a w h ⟨rfl,rfl⟩ aF)
 |.exit id,st,K,r,_,_,h,Q,m,a,as_,w,aF,gg=>wp_exit (gg (.exit id) st m a w h ⟨rfl,rfl⟩ aF)
 |.ret,st,K,r,_,_,h,Q,m,a,as_,w,aF,gg=>wp_ret (gg .ret st m a w h ⟨rfl,rfl⟩ aF)
 |.region id ⟨l⟩ x4,st,K,r,al,_,h,Q,m,a,as_,w,aF,gg=>by
  simp only[lg,bN]at al;simp[ll]at h;cases x4 with
  |false=>exact wp_region_lit (B2 aW ao al.1 h aF (λaS a6 ca w' aY aZ bg=>gg .normal aS a6 ca w' aY aZ bg))
  |true=>
   simp only at h;generalize k:lb (Array.mk l)=N at h;have mR:N<=I l:=by rw[<-k];exact(Ot _).1
   have b7:I (l.take N)=N:=S9
   obtain⟨aS,aY,aZ,bg⟩:=PK aW f (dH.2 λo bS=>dH.1 al.1 o (List.mem_of_mem_take bS)) h;cases a3:GK px (Array.mk l) aS with
   |false=>rw[a3]at aY;cases aY
   |true=>
   rw[a3]at aY;simp only at aY;obtain⟨e0,jZ,de,eH⟩:=_V bg;rw[b7]at de;let s:Nat->FS:=λi=>if i<=N then e0 i else e0 N
   have g:∀{i:Nat}{o:bx},i<N->(Array.mk l)[i]? = J o->(l.take N)[i]? = J o:=λ{i o} p bS=>by rw[List.getElem?_take_of_lt p];simpa using bS
   have a4:nV (Array.mk l) s:=λi o bS=>by
    by_cases p:i<N
    .have:=(eH i o (g p bS)).1;exact ado
    .have cB:s (i+1)=e0 N:=akn
     have dE:s i=e0 N:=by
      simp only[s];split
      .rw[show i=N by omega]
      .rfl
     rw[cB,dE,atV]
   have ev:(Array.mk l).size=I l:=rfl;refine wp_region_any hm (amc (N:=N) (s:=s) (as_:=as_) mR k.symm (by simpa using al.2) (λj pn cB dE q bV=>(Ot _).2 j pn (by rw[k];exact cB) dE q (by rw[k];exact bV)) a4 (λi o p bS=>?_) (λi o bS=>?_) (λi j Mb pn p dh bB ac _ _ _ bE b cq=>?_) (λa6 ca w' d fuel listed ct cM cV=>?_) _ _ _ _ (by simp) ?_ ?_ (λq _ bV=>by have j0:q<I l:=bV;simp[ j0]) ⟨m,?_⟩)
   .simp[s,if_pos (show i<=N by omega),if_pos (show i+1<=N by omega)];exact(eH i o (g p bS)).2.2.2
   .by_cases p:i<N
    .simp[s,if_pos (show i<=N by omega),if_pos (show i+1<=N by omega)];exact(eH i o (g p bS)).2.1
    .have cB:s (i+1)=e0 N:=akn
     have dE:s i=e0 N:=by
      simp only[s];split
      .rw[show i=N by omega]
      .rfl
     rw[cB,dE];exact bU _
   .refine ayG a4 (T:=N) mR dh ac bB ?_ bE cq;have:=(eH i Mb (g bB p)).2.2.1;rw[h6]at this;exact ado
   .have bG:s N=aB aS:=by simp[s];exact de
    rw[bG]at d;have cS:aS.cx=st.cx:=by
     have:=afA a4 N mR;have eI:s 0=aB st:=by simp[s];exact jZ
     rw[bG,eI]at this;exact this
    refine anr aW ao (λj pn cZ=>(xi (by simpa using al.2) cZ).1) (by rw[aZ];exact al.1) a3 (by rw[k];exact aY) d (λa9 am db dk fJ f_ kh=>gg .normal a9 am db dk fJ ⟨f_.1.trans aZ,f_.2.trans cS⟩ kh) fuel listed ct (by rw[k];exact cM) cV
   .intro j o bS t;have ap:j<I l:=by have:=(hZ.1 bS).1;exact this
    simp[ap]at t
   .have:=List.length_filter_le (λj=> !(Array.replicate (Array.mk l).size ai).getD j ab) (hg (Array.mk l).size);simpa using this
   .rw[Ik (T:=λ_=>ai) _ mR (λj dh=>by
     have jJ:j<I l:=af
     simp[jJ]),Ni]
    have eI:s 0=aB st:=by simp[s];exact jZ
    rw[eI];exact aF.quiet (bM.drawn _ _ _)
 |.seq x y,st,K,r,al,t,h,Q,m,a,as_,w,aF,gg=>by simp[lg]at al;simp[ll]at h;refine wp_seq (qx aW ao f hm x st _ r al.1 (λb al=>t b KS) h _ m a as_ w aF ?_);intro e aS a6 ca w' u z d;cases e with|normal=>show y.wp ah.P Q ca w';exact qx aW ao f hm y aS K r (by rw[z.1];exact al.2) (λb al=>t b KS) u Q a6 ca as_ w' d (λeH e1 kW a2 b4 fJ f_ kh=>gg eH e1 kW a2 b4 fJ ⟨f_.1.trans z.1,f_.2.trans z.2⟩ kh)|exit id=>exact gg (.exit id) aS a6 ca w' u z d|ret=>exact gg .ret aS a6 ca w' u z d
 |.cond c x y,st,K,r,al,t,h,Q,m,a,as_,w,aF,gg=>by
  simp[lg]at al;simp[ll]at h;split at h
  .rename_i q bV;rw[dx]at bV;obtain⟨v,_,en,bZ⟩:=aF.env.aJ (env:=get st.env) bV;obtain rfl:=aG.bool bZ;refine wp_cond_split en (λdv=>?_) (λdI=>?_)
   .subst dv;exact qx aW ao f hm x st K r al.1 (λb al=>t b KS) h Q m a as_ w aF gg
   .subst dI;exact qx aW ao f hm y st K r al.2 (λb al=>t b KS) h Q m a as_ w aF gg
  .cases h
 |.block id b,st,K,r,al,t,h,Q,m,a,as_,w,aF,gg=>by
  simp[lg]at al;simp[ll]at h;refine wp_block (qx aW ao f hm b st _ r al (λcu a5=>t cu (by simpa[jg]using a5)) h _ m a as_ w aF ?_);intro e aS a6 ca w' u z d;cases e with
  |normal=>exact gg .normal aS a6 ca w' u z d
  |ret=>exact gg .ret aS a6 ca w' u z d
  |exit i=>
   show Exit.inBlock id Q (.exit i) ca w';simp only at u;split at u
   .rename_i p;obtain rfl:=dS p;simp[Exit.inBlock];exact gg .normal aS a6 ca w' u z d
   .rename_i p;have ek:i≠id:=Nat.ne_of_beq_eq_false p;simp[Exit.inBlock,if_neg ek];exact gg (.exit i) aS a6 ca w' u z d
 |.loop b,st,K,r,al,t,h,Q,m,a,as_,w,aF,gg=>t b (by simp[jg]) st K r h Q m a as_ w al aF gg
 |.scope b,st,K,r,al,t,h,Q,m,a,as_,w,aF,gg=>by simp[lg]at al;simp[ll]at h;refine wp_scope_straight (qx aW ao f hm b st K r al (λcu a5=>t cu (by simpa[jg]using a5)) h _ m a as_ w aF ?_);intro e aS a6 ca w' u z d;have:=gg e aS a6 ca w' u z d;cases e with|normal=>show Exit.noGoto Q .normal ca w';exact this|exit i=>show Exit.noGoto Q (.exit i) ca w';exact this|ret=>show Exit.noGoto Q .ret ca w';rw[Exit.noGoto_ret];exact this
 |.rangeFunc _ _ _ _,st,K,r,_,_,h,_,_,_,_,_,_,_=>by simp[ll]at h
 |.goto _,st,K,r,_,_,h,_,_,_,_,_,_,_=>by simp[ll]at h
 |.refuse _,st,K,r,_,_,h,_,_,_,_,_,_,_=>by simp[ll]at h
variable{as_:U Act}{m:ed}{s:bn}{st:bw}
theorem Nd(aW:gx ah px)(ao:lG ah px)(u:mv ah px)(hm:ah.P.follows .mixedOrders=ab){b:Code}{step:rF (aw s.cF) R}(cw:nE s=ab)(g:∀cx rec kx v,q6 px s b cx rec kx v=step rec kx v)(x:∀cu,cu∈jg b->hX ah px cu){K:aX->bw->ae R}{r:R}(h:b8 k s step st K=J r)(al:lg st.n b=ab)(aF:Rel ah m a as_ (aB st) w)(gg:∀e aS a6 ca w',K e aS = J r->(aS.n=st.n/\aS.cx=st.cx)->Rel ah a6 ca as_ (aB aS) w'->Q (GL e) ca w'):(Code.loop b).wp ah.P Q a w:=by
 unfold b8 at h;split at h
 .rename_i v f;have y:st.n=s.n:=by
   unfold nW at f;split at f
   .rename_i i;simp only[bN]at i;exact dS i.1.1.1.2
   .cases f
  have key:∀(n:Nat) (v:aw s.cF),aI (λrec=>step rec (λe j=>K e (iF s st.cx j))) n v=J r->∀m a w,Rel ah m a as_ (aB (iF s st.cx v)) w->av.Ep ah.P b Q a w:=by
   intro n;induction n with
   |zero=>intro v f;simp[aI]at f
   |succ n jz=>
    intro v f m a w q;simp[aI]at f;rw[<-g st.cx]at f;have c:∀v,(iF s st.cx v).n=s.n/\(iF s st.cx v).cx=st.cx:=λv=>by unfold iF;split;exact⟨rfl,rfl⟩
    refine av.akr (qx aW ao u hm b _ _ r (by rw[(c v).1,<-y];exact al) x f _ m a as_ w q ?_);intro e aS a6 ca w' t l o;split at t
    .rename_i j z;obtain⟨kW,d⟩:=o.Vi cw z;have a2:aS.cx=st.cx:=l.2.trans (c v).2;rw[a2]at d;cases e with|normal=>exact jz j t kW ca w' d|exit id=>exact gg (.exit id) _ kW ca w' t ⟨(c j).1.trans y.symm,(c j).2⟩ d|ret=>exact gg .ret _ kW ca w' t ⟨(c j).1.trans y.symm,(c j).2⟩ d
    .cases t
  obtain⟨yj,p⟩:=aF.Vi cw f;exact av.al0 (key k v h yj a w p)
 .cases h
theorem azO(g:gx ah px)(ao:lG ah px)(d:mv ah px)(hm:ah.P.follows .mixedOrders=ab){b:Code}{step:rF (aw s.cF) R}(e:∀st K,px.loop b st K=b8 k s step st K)(i:nE s=ab)(c:∀cx rec kx v,q6 px s b cx rec kx v=step rec kx v)(f:∀cu,cu∈jg b->hX ah px cu):hX ah px b:=by intro st K r h Q m a as_ w al j l;rw[e]at h;exact Nd g ao d hm i c f h al j l
theorem ar1(y:gx ah px)(ao:lG ah px)(j:mv ah px)(hm:ah.P.follows .mixedOrders=ab){c:aR R}(l:gx ah c)(n:lG ah c)(g:mv ah c)(o:∀b st K,c.loop b st K=aj){b:Code}{step:rF (aw s.cF) R}(p:∀st K,px.loop b st K=SK c b k s step st K)(i:nE s=ab)(d:∀cx rec kx v,q6 px s b cx rec kx v=step rec kx v)(q:∀cu,cu∈jg b->hX ah px cu):hX ah px b:=by
 intro st K r h Q m a as_ w al x t;rw[p]at h;unfold SK at h;split at h
 .exact Nd y ao j hm i d q h al x t
 .unfold ajY at h;refine av.al0 (av.akr (qx l n g hm b st _ r al (λcu _ st K r h=>by rw[o]at h;cases h) h _ m a as_ w x ?_));intro e aS a6 ca w' u i f;cases e with|normal=>cases u|exit id=>exact t (.exit id) aS a6 ca w' u i f|ret=>exact t .ret aS a6 ca w' u i f
def D5(ah:di)(b:Code)(f:bw->(aX->bw->ae R)->ae R):Prop:=∀(st:bw) (K:aX->bw->ae R) (r:R),f st K=J r->∀(Q:Exit->Act->aT->Prop) (m:ed) (a:Act) (as_:U Act) (w:aT),lg st.n b=ab->Rel ah m a as_ (aB st) w->(∀e aS a6 ca w',K e aS = J r->(aS.n=st.n/\aS.cx=st.cx)->Rel ah a6 ca as_ (aB aS) w'->Q (GL e) ca w')->(Code.loop b).wp ah.P Q a w
theorem FB(f:gx ah px)(ao:lG ah px)(d:mv ah px)(hm:ah.P.follows .mixedOrders=ab){b:Code}{step:rF (aw s.cF) R}(g:nE s=ab)(c:∀cx rec kx v,q6 px s b cx rec kx v=step rec kx v)(e:∀cu,cu∈jg b->hX ah px cu):D5 ah b (b8 k s step):=by intro st K r h Q m a as_ w al i j;exact Nd f ao d hm g c e h al i j
def C9(k:Nat)(s:bn)(step:rF (aw s.cF) R)(a:bw->(aX->bw->ae R)->ae R)(st:bw)(K:aX->bw->ae R):ae R:=match nW s st with|some _=>b8 k s step st K|none=>a st K
theorem O5{b:Code}{step:rF (aw s.cF) R}{a:bw->(aX->bw->ae R)->ae R}(c:D5 ah b (b8 k s step))(d:D5 ah b a):D5 ah b (C9 k s step a):=by
 intro st K r h;unfold C9 at h;split at h
 .exact c st K r h
 .exact d st K r h
theorem agy{b:Code}{f:bw->(aX->bw->ae R)->ae R}(a:∀st K,px.loop b st K=f st K)(h:D5 ah b f):hX ah px b:=by intro st K r c;rw[a]at c;exact h st K r c
end
def v0(el:cl->bD)(M:hn)(w:aT):dn:=⟨⟨λ_=>0,λ_=>aj⟩,λ_=>False,M,w,0,0,el⟩
def sF(el:cl->bD)(M:hn)(m:ed)(b3:U cA)(w:aT):dn:=⟨m,λt=>t∈dw 0 b3,λb i=>M b i\/∃p o,p∈dw 0 b3/\m.bh p=J (b,o)/\o<=i,w,0,I b3,el⟩
structure fH (P:cP) (el:cl->bD) (cD:Nat->Option lI) (f:FuncId) (cj b3:List cA) (F:aw cj->Option (aw b3)):Prop where
 enters:av.Enters P f
 run:∀x r,F x=J r->∀(w:aT) (M:hn) (vs:List aD),(∀b i,M b i->b<w.heap.size)->qE (v0 el M w) cD->bl (v0 el M w) (eK 0 cj x) vs ->
  Calls P f vs.toArray w λdJ w'=>∃v m,dJ = .returned v/\bM fE w w'/\(∀p g o,p∈dw 0 b3->m.bh p=J (g,o)->w.heap.size<=g/\g<w'.heap.size)/\(∀p q g o dq,p∈dw 0 b3->q∈dw 0 b3->m.bh p=J (g,o)->m.bh q=J (g,dq)->p=q)/\aG (sF el M m b3 w') (iU (eK 0 b3 r)) v
section
variable {R:Type}{px:aR R}{ah:di}
theorem Ev(i:gx ah px){m:ed}{a:Act}{as_:U Act}{st:bw}{w:aT}(g:Rel ah m a as_ (aB st) w):∀{rs:U ResultVar}{az:U D},results px st rs=J az->∃vs,Sem.run ah.P (rs.mapM (av.rdv a.tmps)) w=Result.ok vs w/\bl (vx ah m (aB st) w) az vs
 |[],az,h=>by simp[results]at h;subst h;exact⟨[],by simp,by simp[bl]⟩
 |.tmp t::rs,az,h=>by
  simp[results]at h;split at h
  .rename_i d j ar f;simp at h;subst h;obtain⟨vs,k,l⟩:=Ev i g f;obtain⟨v,y,c⟩:=g.env.get t d ar;refine⟨v::vs,?_,by simp only[bl];exact⟨v,vs,rfl,c,l⟩⟩;simp[ av.rdv,y,k]
  .cases h
 |.cell q t::rs,az,h=>by
  simp[results]at h;split at h
  .rename_i p n;split at h
   .rename_i d j z ar f;simp at h;subst h;obtain⟨vs,k,l⟩:=Ev i g f;obtain⟨aEL,r,c⟩:=g.env.get q p n;rw[af4]at ar;obtain⟨u,x,dE⟩:=Wl (s:=aB st) i g z ar c;obtain⟨ad,rfl⟩:∃ad,aEL = .pointer (J ad):=by cases p<;>simp[uc]at ar<;>first|(cases ar;done)|(simp[aG]at c;first|exact⟨_,c⟩|exact⟨_,c.2⟩|exact⟨_,c.2.1⟩|(obtain⟨b,o,e,_⟩:=c;exact⟨_,e⟩))
    refine⟨u::vs,?_,by simp only[bl];exact⟨u,vs,rfl,dE,l⟩⟩;simp[Instr.loadAt,Instr.sureAddr]at x;simp[ av.rdv,r,asAddr,x,k]
   .cases h
  .cases h
theorem BE(h:bl x az vs):aG x (iU az) (av.oN vs):=by
 match az,vs,h with
 |[],vs,h=>simp[bl]at h;subst h;simp only[iU];exact⟨[],rfl,by simp[bl]⟩
 |[d],vs,h=>simp only[bl]at h;obtain⟨u,us,rfl,a,rfl⟩:=h;exact a
 |d::e::az,vs,h=>match vs,h.len with|u::w::us,_=>simp only[iU];exact⟨_,rfl,h⟩
theorem Q5{v:aD}(h:aG x (iU az) v):∃vs,v=av.oN vs/\bl x az vs:=by
 match az,h with
 |[],h=>simp[iU]at h;obtain⟨vs,rfl,a⟩:=h;simp[bl]at a;subst a;exact⟨[],rfl,by simp[bl]⟩
 |[d],h=>exact⟨[v],rfl,by simp only[bl];exact⟨v,[],rfl,h,rfl⟩⟩
 |d::e::az,h=>simp[iU]at h;obtain⟨vs,rfl,a⟩:=h;match vs,a.len with|u::w::us,_=>exact⟨_,rfl,a⟩
theorem qB{b:Nat}:∀(l:U (Nat×dW)) (c:Nat),bF (fM l b) c=if c=b then aj else bF l c
 |[],c=>by simp[fM,bF]
 |(q,v)::l,c=>by
  simp[fM];by_cases a:q=b
  .subst a;simp;rw[qB l c,gu];by_cases ao:c=q
   .simp[ao]
   .simp[ao]
  .simp[m5 a];rw[gu,qB l c,gu];by_cases ao:c=q
   .subst ao;simp[a]
   .grind
variable{as_:U Act}{m:ed}{st:bw}
theorem Rel.drop(d:Rel ah m a as_ (aB st) w)(b:Nat):Rel ah m a as_ (aB { st with au:=fM st.au b }) w/\fI (vx ah m (aB st) w) (vx ah m (aB { st with au:=fM st.au b }) w):=by
 have sub:∀c k,bF (fM st.au b) c=J k->bF st.au c=J k:=λc k h=>by
  rw[qB]at h;split at h
  .cases h
  .exact h
 have e:∀c,bF (fM st.au b) c≠aj->bF st.au c≠none:=λc h=>by cases l:bF (fM st.au b) c with|none=>exact absurd l h|some k=>rw[sub c k l];simp
 have dZ:∀c i,fF m (aB { st with au:=fM st.au b }) c i->fF m (aB st) c i:=by
  rintro c i (⟨q,r,rfl⟩|h)
  .exact .inl ⟨q,e q r,rfl⟩
  .exact .inr h
 have f:fI (vx ah m (aB st) w) (vx ah m (aB { st with au:=fM st.au b }) w):=by
  refine⟨bM.refl _ _,?_,rfl,λ_ _=>rfl,bU _,bU _,λt _ s=>⟨s,rfl,λ_ _ _=>rfl⟩⟩;rintro c i (h|h)
  .exact .inl (.inl h)
  .exact .inl (.inr (dZ c i h))
 refine⟨⟨d.fw,d.env.later f,d.jI.later f d.c7 d.lt,d.c7,d.lt,λc k l=>?_,d.mi,λc p j n=>d.inj c p (e c j) (e p n),d.jm,λc t g o j=>d.h0 c t g o (e c j),λc i h=>d.own c i (dZ c i h),d.hN,d.kT.later f⟩,f⟩;obtain⟨j,n⟩:=d.gp c k (sub c k l);exact⟨j,n.later f rfl⟩
theorem fI.trans{y z:dn}(h:fI x y)(k:fI y z):fI x z:=
 ⟨h.fw.later h.dZ k.fw,λb i f=>by
  rcases k.dZ b i f with a|a
  .exact h.dZ b i a
  .exact .inr (fV h.fw.size a),k.el.trans h.el,λb al=>(k.au b (iv al h.nb)).trans (h.au b al),fV h.nb k.nb,fV h.bu k.bu,λt c j=>by
  obtain⟨bI,l,m⟩:=k.bh t (iv c h.bu) j;obtain⟨n,d,p⟩:=h.bh t c bI;exact⟨n,l.trans d,λg o e=>(m g o (d.trans e)).trans (p g o e)⟩⟩
theorem Nc(l:Rel ah m a as_ (aB st) w){d:D}{v:aD}(ar:aG (vx ah m (aB st) w) d v){K:D->U (Nat×dW)->ae R}{r:R}(h:As st.au d K=J r):∃iw e,K iw e = J r/\Rel ah m a as_ (aB { st with au:=e }) w/\fI (vx ah m (aB st) w) (vx ah m (aB { st with au:=e }) w)/\aG (vx ah m (aB { st with au:=e }) w) iw v/\(e_ d=ab->e_ iw = ab):=by
 unfold As at h;split at h
 .rename_i b c s n;split at h
  .rename_i dT xs al;split at h
   .rename_i ao;simp at ao;subst ao;obtain⟨ao,bf⟩:=h_ h;simp at ao;obtain⟨⟨cw,ck⟩,bB⟩:=ao;obtain⟨x,eN⟩:=l.drop b;refine⟨_,_,bf,x,eN,?_⟩;simp[aG]at ar ⊢;obtain⟨g1,_,_,_,ad,cap,rfl,g5,g6,g7,_⟩:=ar;refine⟨⟨?_,trivial⟩,λ_=>rfl⟩;have z:n.toNat=I (cut xs s (s+n)):=by simp[cut];omega
    refine Br z ?_;by_cases a2:n=0
    .left;exact k0 af
    .right;obtain⟨_,bE,vs,ty,ch,bG,f⟩:=l.gp b _ al;refine⟨m.au b,s.toNat*a8 c,g5.resolve_left a2,by omega,λi y aE w' hw j d ar=>?_⟩;have a3:xs[s.toNat+i]? = J y:=by
      simp[cut]at aE;rw[h5]at aE;split at aE
      .rwa[kr]at aE
      .cases aE
     obtain⟨u,hu,cb⟩:=f _ y j d a3 ar;refine⟨u,?_,(eN.rf cb) w' hw⟩;have g:w.cell? ⟨m.au b,s.toNat*a8 c+i*a8 c+j,aj⟩=J u:=by have ch:w.heap[m.au b]? = J (.cells vs.toArray ty (0,0)):=ch;simp[h7,ch];rw[<-Nat.add_mul];simpa using hu
     refine hw.cell _ _ _ g ?_;have k:(aB st).au b≠none:=S5
     rintro(gL|a4)
     .exact l.Cr gL (.inl ⟨b,k,rfl⟩:fF m (aB st) (m.au b) 0)
     .rcases a4 with ⟨q,p,he⟩|⟨t,o,aY,aZ,_⟩
      .have p:bF (fM st.au b) q≠none:=p;rw[qB]at p;split at p
       .exact p rfl
       .rename_i a5;exact a5 (l.inj q b p k he)
      .exact l.h0 b t _ o k aY aZ rfl
   .cases h
  .cases h
 .exact⟨d,st.au,h,l,⟨bM.refl _ _,λ_ _ h=>.inl h,rfl,λ_ _=>rfl,bU _,bU _,λt _ c5=>⟨c5,rfl,λ_ _ _=>rfl⟩⟩,ar,id⟩
theorem ahp{m:ed}{a:Act}{as_:U Act}{w:aT}{r:R}:∀{az:U D}{st:bw}{vs:U aD}{K:U D->U (Nat×dW)->ae R},Rel ah m a as_ (aB st) w->bl (vx ah m (aB st) w) az vs->Kr st.au az K=J r->∃b c,K b c = J r/\Rel ah m a as_ (aB { st with au:=c }) w/\fI (vx ah m (aB st) w) (vx ah m (aB { st with au:=c }) w)/\bl (vx ah m (aB { st with au:=c }) w) b vs/\(az.all e_=ab->b.all e_=ab)
 |[],st,vs,K,aF,ar,h=>⟨[],st.au,h,aF,⟨bM.refl _ _,λ_ _ h=>.inl h,rfl,λ_ _=>rfl,bU _,bU _,λt _ s=>⟨s,rfl,λ_ _ _=>rfl⟩⟩,by simpa using ar,id⟩
 |d::az,st,vs,K,aF,ar,h=>by simp[bl]at ar;obtain⟨u,us,rfl,v,x⟩:=ar;simp[Kr]at h;obtain⟨y,g,z,i,e,j,k⟩:=Nc aF v h;obtain⟨b,l,n,o,f,p,q⟩:=ahp (st:={ st with au:=g }) i (bl.later e _ _ x) z;refine⟨y::b,l,n,o,e.trans f,by simp only[bl];exact⟨u,us,rfl,aG.later f _ _ j,p⟩,λh=>?_⟩;simp only[fk,bN]at h ⊢;exact⟨k h.1,q h.2⟩
theorem agw(l:Rel ah m a as_ (aB st) w){d:D}{v:aD}(ar:aG (vx ah m (aB st) w) d v){K:D->U (Nat×dW)->ae R}{r:R}(h:Ay st.au d K=J r):∃g b,K g b = J r/\Rel ah m a as_ (aB { st with au:=b }) w/\fI (vx ah m (aB st) w) (vx ah m (aB { st with au:=b }) w)/\aG (vx ah m (aB { st with au:=b }) w) g v:=by
 unfold Ay at h;split at h
 .rename_i az;simp only[aG]at ar;obtain⟨n,vs,rfl,e⟩:=ar;obtain⟨o,b,i,c,j,f,k⟩:=ahp l e h;exact⟨_,b,i,c,j,by simp only[aG];exact⟨k n,vs,rfl,f⟩⟩
 .obtain⟨g,b,i,c,j,f,_⟩:=Nc l ar h;exact⟨g,b,i,c,j,f⟩
theorem ah6{m:ed}{a:Act}{as_:U Act}{w:aT}{r:R}:∀{az:U D}{st:bw}{vs:U aD}{K:U D->U (Nat×dW)->ae R},Rel ah m a as_ (aB st) w->bl (vx ah m (aB st) w) az vs->Kj st.au az K=J r->∃b c,K b c = J r/\Rel ah m a as_ (aB { st with au:=c }) w/\fI (vx ah m (aB st) w) (vx ah m (aB { st with au:=c }) w)/\bl (vx ah m (aB { st with au:=c }) w) b vs
 |[],st,vs,K,aF,ar,h=>⟨[],st.au,h,aF,⟨bM.refl _ _,λ_ _ h=>.inl h,rfl,λ_ _=>rfl,bU _,bU _,λt _ p=>⟨p,rfl,λ_ _ _=>rfl⟩⟩,by simpa using ar⟩
 |d::az,st,vs,K,aF,ar,h=>by simp[bl]at ar;obtain⟨u,us,rfl,q,s⟩:=ar;simp[Kj]at h;obtain⟨v,g,x,i,e,j⟩:=agw aF q h;obtain⟨b,k,l,n,f,o⟩:=ah6 (st:={ st with au:=g }) i (bl.later e _ _ s) x;exact⟨v::b,k,l,n,e.trans f,by simp only[bl];exact⟨u,us,rfl,aG.later f _ _ j,o⟩⟩
theorem Rel.aDR(d:Rel ah m a as_ (aB st) w){b:Nat}(al:(aB st).au b≠aj)(o:Nat):∃a6,Rel ah a6 a as_ (aB (lf { st with au:=fM st.au b })) w/\fI (vx ah m (aB st) w) (vx ah a6 (aB (lf { st with au:=fM st.au b })) w)/\a6.au=m.au/\a6.bh st.bu=J (m.au b,o)/\∀i,i<o->¬(vx ah a6 (aB (lf { st with au:=fM st.au b })) w).S (m.au b) i:=by
 let a6:ed:={ m with bh:=λt=>if t=st.bu then J (m.au b,o)else m.bh t };let s':FS:=aB (lf { st with au:=fM st.au b });have j:∀c,s'.au c≠aj->(aB st).au c≠aj/\c≠b:=λc h=>by
  have h:bF (fM st.au b) c≠none:=h;rw[qB]at h;by_cases ao:c=b
  .rw[if_pos ao]at h;exact absurd rfl h
  .rw[if_neg ao]at h;exact⟨h,ao⟩
 have n:∀t,s'.bJ t->(t=st.bu/\a6.bh t=J (m.au b,o))\/((aB st).bJ t/\t<st.bu/\a6.bh t=m.bh t):=λt r=>by
  have r:t∈st.bu::st.bh:=r;rcases hv.1 r with rfl|r
  .exact .inl ⟨rfl,by simp[a6]⟩
  .have y:t<st.bu:=d.mi t r;exact .inr ⟨r,y,by simp[a6,Nat.ne_of_lt y]⟩
 have dZ:∀c i,fF a6 s' c i->fF m (aB st) c i/\(c=m.au b->o<=i):=by
  rintro c i (⟨q,bV,rfl⟩|⟨t,p,u,l,f⟩)
  .obtain⟨s,g2⟩:=j q bV;exact⟨.inl ⟨q,s,rfl⟩,λe=>absurd (d.inj q b s al e) g2⟩
  .rcases n t u with ⟨rfl,e⟩|⟨s,_,e⟩
   .rw[e]at l;simp at l;obtain⟨rfl,rfl⟩:=l;exact⟨.inl ⟨b,al,rfl⟩,λ_=>f⟩
   .rw[e]at l;refine⟨.inr ⟨t,p,s,l,f⟩,λz=>?_⟩;subst z;exact absurd rfl (d.h0 b t _ p al s l)
 have eN:fI (vx ah m (aB st) w) (vx ah a6 s' w):=by
  refine⟨bM.refl _ _,?_,rfl,λ_ _=>rfl,bU _,Nat.le_succ _,λt r c5=>?_⟩
  .rintro c i (h|h)
   .exact .inl (.inl h)
   .exact .inl (.inr (dZ c i h).1)
  .have r:t<st.bu:=r;rcases n t c5 with ⟨e,_⟩|⟨s,_,e⟩
   .omega
   .exact⟨s,e,λ_ _ _=>rfl⟩
 refine⟨a6,⟨d.fw,d.env.later eN,d.jI.later eN d.c7 d.lt,d.c7,Nat.le_succ_of_le d.lt,λc k x=>?_,λt r=>?_,λc dT u l=>d.inj c dT (j c u).1 (j dT l).1,λt t' g p alx u l f v=>?_,λc t g p u l f=>?_,λc i h=>d.own c i (dZ c i h).1,d.hN,d.kT.later eN⟩,eN,rfl,by simp[a6],λi bO h=>?_⟩
 .have a2:(aB st).au c=J k:=by
   have x:bF (fM st.au b) c=J k:=x;rw[qB]at x;split at x
   .cases x
   .exact x
  obtain⟨u,l⟩:=d.gp c k a2;exact⟨u,l.later eN rfl⟩
 .rcases n t r with ⟨rfl,_⟩|⟨_,h,_⟩
  .exact Nat.lt_succ_self _
  .exact Nat.lt_succ_of_lt h
 .rcases n t u with ⟨de,fJ⟩|⟨bc,_,fJ⟩<;>rcases n t' l with ⟨z,f_⟩|⟨ep,_,f_⟩
  .rw[de,z]
  .rw[fJ]at f;rw[f_]at v
   simp at f;exact absurd f.1 (d.h0 b t' g alx al ep v)
  .rw[fJ]at f;rw[f_]at v
   simp at v;exact absurd v.1 (d.h0 b t g p al bc f)
  .rw[fJ]at f;rw[f_]at v
   exact d.jm t t' g p alx bc ep f v
 .obtain⟨s,g2⟩:=j c u;rcases n t l with ⟨_,e⟩|⟨bc,_,e⟩
  .rw[e]at f;simp at f;exactλz=>g2 (d.inj c b s al (z.trans f.1.symm))
  .rw[e]at f;exact d.h0 c t g p s bc f
 .rcases h with h|h
  .exact d.Cr h (.inl ⟨b,al,rfl⟩:fF m (aB st) (m.au b) 0)
  .have:=(dZ _ i h).2 rfl;omega
theorem I0{a:Act}{as_:U Act}{w:aT}{r:R}:∀{b3:U cA}{m:ed}{az:U D}{st:bw}{vs:U aD}{K:U D->bw->ae R},Rel ah m a as_ (aB st) w->bl (vx ah m (aB st) w) az vs->qk b3 st az K=J r->∃f aS a6,K f aS = J r/\Rel ah a6 a as_ (aB aS) w/\fI (vx ah m (aB st) w) (vx ah a6 (aB aS) w)/\bl (vx ah a6 (aB aS) w) f vs
 |[],m,[],st,vs,K,aF,ar,h=>⟨[],st,m,h,aF,⟨bM.refl _ _,λ_ _ h=>.inl h,rfl,λ_ _=>rfl,bU _,bU _,λt _ c5=>⟨c5,rfl,λ_ _ _=>rfl⟩⟩,ar⟩
 |[],m,_::_,st,vs,K,aF,ar,h=>by simp[qk]at h
 |_::_,m,[],st,vs,K,aF,ar,h=>by simp[qk]at h
 |e0::b3,m,d::az,st,vs,K,aF,ar,h=>by
  simp[bl]at ar;obtain⟨u,us,rfl,aY,aZ⟩:=ar;have q:(Ay st.au d λiw v=>qk b3 { st with au:=v } az λf aS=>K (iw::f) aS)=J r->∃f aS a6,K f aS = J r/\Rel ah a6 a as_ (aB aS) w/\fI (vx ah m (aB st) w) (vx ah a6 (aB aS) w)/\bl (vx ah a6 (aB aS) w) f (u::us):=λh=>by obtain⟨iw,bE,bf,x,g,bG⟩:=agw aF aY h;obtain⟨f,e1,kW,z,a2,k,a3⟩:=I0 (st:={ st with au:=bE }) x (bl.later g _ _ aZ) bf;exact⟨iw::f,e1,kW,z,a2,g.trans k,by simp only[bl];exact⟨u,us,rfl,aG.later k _ _ bG,a3⟩⟩
  by_cases l:∃dD b c s n,e0 = .sl dD ab/\d = .h3 b c s n
  .obtain⟨dD,b,c,s,n,rfl,rfl⟩:=l;simp[qk]at h;split at h
   .rename_i dT xs al;split at h
    .rename_i ao;simp at ao;subst ao;obtain⟨ao,bf⟩:=h_ h;simp at ao;obtain⟨⟨a9,ck⟩,ac⟩:=ao;subst a9;have bZ:(aB st).au b≠none:=S5
     simp only[aG]at aY;obtain⟨g1,_,_,_,ad,cap,rfl,g5,g6,g7,cur,UE,p,g9⟩:=aY;obtain rfl:=g5.resolve_left af;obtain⟨_,cq,vs,ty,ch,ct,a4⟩:=aF.gp b _ al;have ch:w.heap[m.au b]? = J (.cells vs.toArray ty (0,0)):=ch;have p:w.heap[m.au b]? = J (.cells cur (ah.el c) (0,0)):=by have p:w.heap[m.au b]? = J (.cells cur (ah.el c) UE):=p;rw[ch]at p;simp at p;rw[ch,p.1,p.2.1]
     obtain⟨jc,x,g,vG,FY,ja⟩:=aF.aDR bZ (n.toNat*a8 c);obtain⟨f,e1,kW,z,a2,k,a3⟩:=I0 x (bl.later g _ _ aZ) bf;refine⟨_::f,e1,kW,z,a2,g.trans k,?_⟩;simp only[bl];refine⟨_,us,rfl,aG.later k _ _ ?_,a3⟩;simp;have o:n.toNat=I (xs.take n.toNat):=d'
     refine⟨Br o (.inr ⟨m.au b,0,by simp[vx],by omega,λi y aE w' hw j d ar=>?_⟩),Nat.lt_succ_self _,λ_=>.inr ⟨m.au b,cap,cur,by rw[<-o];simp[vx],by rw[<-o];exact FY,p,by rw[g9];simp,by omega,g7⟩⟩;have bB:i<n.toNat:=by have:=(lN.1 aE).1;omega
     have dh:j<a8 c:=S7
     have b7:xs[i]? = J y:=by rw[h5,if_pos bB]at aE;exact aE
     obtain⟨u,hu,cb⟩:=a4 i y j d b7 ar;refine⟨u,?_,(g.rf cb) w' hw⟩;have a5:w.cell? ⟨m.au b,0+i*a8 c+j,aj⟩=J u:=by simp[h7,ch];simpa using hu
     refine hw.cell _ _ _ a5 (ja _ ?_);have:(i+1)*a8 c<=n.toNat*a8 c:=ly _ bB;rw[Nat.succ_mul]at this;omega
    .cases h
   .cases h
  .have e:qk (e0::b3) st (d::az) K=(Ay st.au d λiw v=>qk b3 { st with au:=v } az λf aS=>K (iw::f) aS):=by
    cases e0 with
    |sl dD own=>cases own with
     |true=>cases d<;>first|rfl|exact absurd ⟨_,_,_,_,_,rfl,rfl⟩ l
     |false=>rfl
    |_=>rfl
   exact q (e▸h)
variable{cj:U cA}{el:cl->bD}{cD:Nat->ae lI}
theorem azj(q:dw 0 cj=[]){x:aw cj}{n:Nat}(ck:I cj<=n){M:hn}(gL:∀b i,M b i->b<w.heap.size)(r:qE (v0 el M w) cD)(l:bl (v0 el M w) (eK 0 cj x) vs) :
  Rel ⟨P,w,fE,M,el,cD⟩ ⟨λ_=>0,λ_=>aj⟩ { tmps:=vs.toArray++Array.replicate (n-vs.toArray.size) undef,defers:=[] } [] (aB (hS n cj x)) w:=by
 have m:∀b i,fF ⟨λ_=>0,λ_=>aj⟩ (aB (hS n cj x)) b i->False:=by
  rintro b i (⟨k,a,_⟩|⟨t,o,_,c,_⟩)
  .exact a rfl
  .cases c
 have a2:I vs=I cj:=by rw[l.len,ad0]
 have eN:fI (v0 el M w) (vx ⟨P,w,fE,M,el,cD⟩ ⟨λ_=>0,λ_=>aj⟩ (aB (hS n cj x)) w):=⟨bM.refl _ _,λb i s=>s.elim .inl (λh=>(m b i h).elim),rfl,λb al=>(dY _ al).elim,cL _,cL _,λt y=>(dY _ y).elim⟩;have f:=bl.later eN _ _ l;have p:∀(az:U D) (us:U aD) (i k:Nat) (d:D),bl (vx ⟨P,w,fE,M,el,cD⟩ ⟨λ_=>0,λ_=>aj⟩ (aB (hS n cj x)) w) az us->get (gf i az) k=J d->∃v,i<=k/\us[k-i]? = J v/\aG (vx ⟨P,w,fE,M,el,cD⟩ ⟨λ_=>0,λ_=>aj⟩ (aB (hS n cj x)) w) d v:=by
  intro az;induction az with
  |nil=>intro us i k d _ h;simp[gf,get]at h
  |cons e az jz=>
   intro us i k d l h;simp[bl]at l;obtain⟨u,us,rfl,aY,c⟩:=l;simp[gf]at h;rw[k3]at h;by_cases a:k=i
   .subst a;simp at h;subst h;exact⟨u,bU _,by simp,aY⟩
   .rw[if_neg a]at h;obtain⟨v,bg,cB,dE⟩:=jz us (i+1) k d c h;refine⟨v,by omega,?_,dE⟩;rw[show k-i=(k-(i+1))+1 by omega];simpa using cB
 refine⟨bM.refl _ _,⟨rfl,?_,λk d a=>?_⟩,rfl,cL _,cL _,λb k a=>?_,λt y=>?_,λb cu h=>(h rfl).elim,λt t' g o dq _ _ h=>j5,λb t g o h=>(h rfl).elim,λb i s=>(m b i s).elim,λb i j hm=>⟨gL b i hm,id⟩,?_⟩
 .show _=n;simp;omega
 .obtain⟨v,_,c,bg⟩:=p _ _ 0 k d f a;rw[Nat.sub_zero]at c;refine⟨v,?_,bg⟩;have z:k<I vs:=(lN.1 c).1;simp only[Array.getElem?_append,List.size_toArray,z];simpa using c
 .cases a
 .have:t∈dw 0 cj:=y;rw[q]at this;cases this
 .exact r.later eN
variable{b3:U cA}{F:aw cj->ae (aw b3)}{c:Code}{f:FuncId}{fn:Func}
theorem ayF{px:aR (aw b3)}(cb:P.funcs[f]? = J fn)(al:fn.body=J c)(u:(fn.name == "runtime.NumGoroutine")=ai)(hm:P.follows .mixedOrders=ab)(k:(lg fn.ntmps c&&eF (I cj) fn.ntmps&&l8 (dw 0 cj) [])=ab)
  (bE:∀ah:di,ah.P=P->ah.el=el->ah.cD=cD->ah.gE=fE->gx ah px/\lG ah px/\mv ah px/\∀b,b∈jg c->hX ah px b) (fC:∀x,DT px fn cj b3 x J=F x):fH P el cD f cj b3 F:=by
 refine⟨av.enters_of cb (by rw[al];rfl) u,λx r ag w M vs gL bG aF=>?_⟩;simp at k;have ck:I cj<=fn.ntmps:=by simpa using k.1.2
 have a2:=azj (P:=P) (M2 k.2) ck gL bG aF;rw[<-fC]at ag;unfold DT at ag;rw[al]at ag;simp only at ag;obtain⟨aY,aZ,bg,cB⟩:=bE ⟨P,w,fE,M,el,cD⟩ rfl rfl rfl rfl;refine calls_of_wp cb al (qx aY aZ bg hm c _ _ r k.1.1 cB ag _ _ _ [] w a2 ?_);intro e aS a6 ca w' m _ a;cases e
 case exit=>cases m
 all_goals
  simp only at m;split at m
  .rename_i cq a9;obtain⟨us,n,l⟩:=Ev aY a a9;have a3:=a.env.defers;obtain⟨rs,e1,kW,m,j,_,y⟩:=I0 a l m;clear l a;split at m
   .rename_i alH a4;simp at m;subst m;obtain⟨bZ,b7⟩:=Ih 0 a4;let z:ed:=⟨λ_=>0,λp=>(iX 0 b3 rs p).bind kW.bh⟩;have d:∀p g o,z.bh p=J (g,o)->∃t,iX 0 b3 rs p=J t/\t∈e1.bh/\kW.bh t=J (g,o):=λp g o s=>by cases c5:iX 0 b3 rs p with|none=>simp only[z,c5]at s;cases s|some t=>simp[z,c5]at s;exact⟨t,rfl,(bZ p t c5).1,s⟩
    have ja:∀b i,(sF el M z b3 w').S b i->(vx ⟨P,w,fE,M,el,cD⟩ kW (aB e1) w').S b i:=by
     rintro b i (h|⟨p,o,_,aZ,bg⟩)
     .exact .inl h
     .obtain⟨t,_,ep,fr⟩:=d p b o aZ;exact .inr (.inr ⟨t,o,ep,fr,bg⟩)
    have a5:=u7 (X:=vx ⟨P,w,fE,M,el,cD⟩ kW (aB e1) w') (X':=sF el M z b3 w') ja rfl rfl 0 a4 (λt b'=>b') y (λp aW=>by have:=(tp _ _ _ aW).2;exact⟨by simpa[sF]using this,rfl⟩)
    refine⟨a3,av.oN us,?_,av.oN us,z,rfl,j.fw,λp g o aW s=>?_,λp q g o dq _ _ s ac=>?_,BE a5⟩
    .obtain⟨vU⟩:∃vU,fn.results=List.toArray vU:=⟨fn.results.toList,by simp⟩;rename_i bB;rw[av.Mh,bB];rw[bB]at n;simp only[List.mapM_toArray,e3,map_eq_pure_bind,ga,n];congr 1;match us with|[]=>rfl|[v]=>rfl|_::_::_=>simp[av.oN]
    .obtain⟨t,_,ep,fr⟩:=d p g o s;have:=j.own g o (.inr ⟨t,o,ep,fr,bU _⟩);exact⟨this.2.resolve_left id,this.1⟩
    .obtain⟨t,bc,ep,fr⟩:=d p g o s;obtain⟨t',p1,p2,p3⟩:=d q g dq ac;have:=j.jm t t' g o dq ep p2 fr p3;subst this;exact b7 p q t bc p1
   .cases m
  .cases m
end
section
variable {R:Type}{px:aR R}{ah:di}
theorem abC{n:Nat}(ja:∀b j,x'.S b j->x.S b j)(hw:x'.w=x.w)(a5:x'.el=x.el):∀{s:cA}{y:den s}{v:aD},aG x (fy i s y) v->(∀c,s = .sl c ab->x.bJ i/\n+i<x'.bu/\x'.m.bh (n+i)=x.m.bh i)->aG x' (fy (n+i) s y) v:=by
 have a:∀{d:D}{v:aD},gl x.S x.w d v->gl x'.S x'.w d v:=λh=>by rw[hw];exact h.later (bM.refl _ _) (λk j bf=>.inl (ja k j bf))
 intro s y v h o;cases s with
 |int k=>simpa[fy,aG]using h
 |bool=>simpa[fy,aG]using h
 |str=>simpa[fy,aG]using h
 |sl c own=>
  cases own with
  |false=>simp[fy]at h ⊢;exact⟨a h.1,trivial⟩
  |true=>
   obtain⟨f,l,e⟩:=o c rfl;simp[fy]at h ⊢;refine⟨a h.1,l,λ_=>?_⟩;rcases h.2.2 f with ⟨bI,a2,a3⟩|⟨g,cap,cur,bI,a2,a3,a4⟩
   .exact .inl ⟨bI,e.trans a2,a3⟩
   .exact .inr ⟨g,cap,cur,bI,e.trans a2,by rw[hw,a5];exact a3,a4⟩
 |bm c=>simp[fy]at h ⊢;obtain⟨f,vs,l,e,p⟩:=h;exact⟨f,vs,l,e,λj d ar=>by obtain⟨u,r,t⟩:=p j d ar;exact⟨u,r,a t⟩⟩
 |rw c k=>simp[fy]at h ⊢;obtain⟨f,vs,l,e,p⟩:=h;exact⟨f,vs,l,e,λq z j d dK ar=>by obtain⟨u,r,t⟩:=p q z j d dK ar;exact⟨u,r,a t⟩⟩
 |fx c=>simp[fy]at h ⊢;obtain⟨f,vs,l,e,p⟩:=h;exact⟨f,vs,l,e,λq z j d dK ar=>by obtain⟨u,r,t⟩:=p q z j d dK ar;exact⟨u,r,a t⟩⟩
theorem avA{p:Nat}{a:cA}{l:U cA}(h:p∈dw (i+1) l):p∈dw i (a::l):=by
 cases a with
 |sl c own=>cases own with|true=>exact mg _ h|false=>exact h
 |_=>exact h
theorem aag{x x':dn}{n:Nat}(e:∀b j,x'.S b j->x.S b j)(f:x'.w=x.w)(d:x'.el=x.el):∀{l:U cA}{y:aw l}{vs:U aD}(i:Nat),bl x (eK i l y) vs->(∀p,p∈dw i l->x.bJ p/\n+p<x'.bu/\x'.m.bh (n+p)=x.m.bh p)->bl x' (eK (n+i) l y) vs
 |[],y,vs,i,h,_=>by simpa[eK,bl]using h
 |[a],y,vs,i,h,yd=>by simp only[eK]at h ⊢;obtain⟨u,us,g,k,o⟩:=h;exact⟨u,us,g,abC e f d k (λc ao=>by subst ao;exact yd i (by simp[dw])),o⟩
 |a::b::l,(y,z),vs,i,h,yd=>by simp[eK]at h ⊢;obtain⟨u,us,g,k,o⟩:=h;refine⟨u,us,g,abC e f d k (λc ao=>by subst ao;exact yd i (by simp[dw])),?_⟩;have:=aag e f d (i+1) o (λp q=>yd p (avA q));rwa[<-Nat.add_assoc]at this
theorem abe:∀(l:U cA) (n i p:Nat),p∈dw (n+i) l↔∃q,q∈dw i l/\p=n+q
 |[],n,i,p=>by simp[dw]
 |s::l,n,i,p=>by
  have d:=abe l n (i+1) p;have rest:(dw (n+i) (s::l)=dw (n+i+1) l/\dw i (s::l)=dw (i+1) l)\/(dw (n+i) (s::l)=(n+i)::dw (n+i+1) l/\dw i (s::l)=i::dw (i+1) l):=by
   cases s with
   |sl c own=>cases own with|true=>exact .inr ⟨rfl,rfl⟩|false=>exact .inl ⟨rfl,rfl⟩
   |_=>exact .inl ⟨rfl,rfl⟩
  rcases rest with ⟨a,b⟩|⟨a,b⟩
  .rw[a,b];exact d
  .rw[a,b];simp only[hv];constructor
   .grind
   .grind
variable{as_:U Act}{m:ed}
theorem Oe{s:FS}(c:Rel ah m a as_ s w):(∀b i,(vx ah m s w).S b i->b<w.heap.size)/\qE (v0 ah.el (vx ah m s w).S w) ah.cD:=by
 refine⟨λb i d=>?_,c.kT⟩;rcases d with h|h
 .have:=(c.hN b i 0 h).1;have:=c.fw.size;omega
 .exact(c.own b i h).1
variable{bu:Nat}{st:bw}
theorem Rel.raise(al:st.nb<=nb)(e:st.bu<=bu)(c:Rel ah m a as_ (aB st) w):Rel ah m a as_ (aB { st with nb:=nb,bu:=bu }) w:=by have d:fI (vx ah m (aB st) w) (vx ah m (aB { st with nb:=nb,bu:=bu }) w):=⟨bM.refl _ _,λ_ _ h=>.inl h,rfl,λ_ _=>rfl,al,e,λt _ f=>⟨f,rfl,λ_ _ _=>rfl⟩⟩;refine⟨c.fw,c.env.later d,c.jI.later d c.c7 c.lt,fV c.c7 al,fV c.lt e,λb k g=>?_,λt h=>iv (c.mi t h) e,c.inj,c.jm,c.h0,c.own,c.hN,c.kT.later d⟩;obtain⟨i,j⟩:=c.gp b k g;exact⟨iv i al,j.later d rfl⟩
theorem X4:∀{l:U cA}{i:Nat},l.all w0=ab->dw i l=[]
 |[],_,_=>rfl
 |a::l,i,h=>by simp only[fk,bN]at h;have b:=X4 (l:=l) (i:=i+1) h.2;cases a<;>simp[w0]at h<;>simpa only[dw]using b
theorem Xd{x x':dn}:∀{l:U cA}{y:aw l}{vs:U aD}{i j:Nat},l.all w0=ab->bl x (eK i l y) vs->bl x' (eK j l y) vs
 |[],_,_,_,_,_,h=>by simpa[eK,bl]using h
 |[a],y,vs,i,j,cw,h=>by simp at cw;simp only[eK]at h ⊢;obtain⟨u,us,c,d,e⟩:=h;refine⟨u,us,c,?_,e⟩;cases a<;>simp[w0]at cw<;>simpa only[fy,aG]using d
 |a::b::l,(y,z),vs,i,j,cw,h=>by simp only[fk,bN]at cw;simp[eK]at h ⊢;obtain⟨u,us,c,d,e⟩:=h;refine⟨u,us,c,?_,Xd (l:=b::l) (by simp only[fk,bN];exact cw.2) e⟩;cases a<;>simp[w0]at cw<;>simpa only[fy,aG]using d
variable{cj:U cA}{b3:U cA}{F:aw cj->ae (aw b3)}{args:U D}
theorem avd(h:fH ah.P ah.el ah.cD g cj b3 F)(a5:l8 (dw 0 cj) []=ab){K:U D->bw->ae R}{r:R}(ao:zT cj b3 F args st K=J r):xR ah g args st K r:=by
 unfold zT at ao;refine⟨h.enters,λm a as_ w vs bG a2=>?_⟩;obtain⟨args,bB,ao,u,cq,y⟩:=ah6 bG a2 ao;cases bE:b3.all w0 with
 |true=>
  rw[bE]at ao;simp only at ao;split at ao
  .rename_i x ag;cases fC:F x with
   |none=>rw[fC]at ao;cases ao
   |some nt=>rw[fC,bA]at ao;have a5:=M2 a5;obtain⟨gL,a9⟩:=Oe u;have bZ:bl (v0 ah.el (vx ah m (aB { st with au:=bB }) w).S w) (eK 0 cj x) vs:=u7 (X:=vx ah m (aB { st with au:=bB }) w) (X':=v0 ah.el (vx ah m (aB { st with au:=bB }) w).S w) (λ_ _ h=>h) rfl rfl 0 ag (λt j=>j) y (λp aW=>by rw[a5]at aW;cases aW);refine(h.run x nt fC w _ vs gL a9 bZ).mono ?_;rintro dJ w' ⟨v,vO,rfl,a3,_,_,a4⟩;obtain⟨us,rfl,z⟩:=Q5 a4;rw[X4 bE,nX]at ao;exact⟨_,rfl,_,_,m,ao,⟨rfl,rfl,rfl,rfl,rfl⟩,(bG.quiet a3).raise (bU _) (Nat.le_add_right _ _),BE (Xd bE z)⟩
  .cases ao
 |false=>
 rw[bE]at ao;simp only at ao;obtain⟨c_,d⟩:∃s:bw,s={ st with au:=bB }:=⟨_,rfl⟩;replace ao:(match mc cj c_.bh args with|some x=>(F x).bind λr=>K (eK c_.bu b3 r) { c_ with bh:=dw c_.bu b3++c_.bh,bu:=c_.bu+I b3 }|none=>aj)=J r:=by rw[d];exact ao
 have ct:sM st c_:=by rw[d];exact⟨rfl,rfl,rfl,rfl,rfl⟩
 rw[<-d]at u y;clear cq bG a2 d;obtain⟨CD,cM,cV,cS,cZ⟩:=ct;split at ao
 .rename_i x ag;cases fC:F x with
  |none=>rw[fC]at ao;cases ao
  |some nt=>
   rw[fC,bA]at ao;obtain⟨gL,a9⟩:=Oe u;have bZ:bl (v0 ah.el (vx ah m (aB c_) w).S w) (eK 0 cj x) vs:=u7 (X:=vx ah m (aB c_) w) (X':=v0 ah.el (vx ah m (aB c_) w).S w) (λ_ _ h=>h) rfl rfl 0 ag (λt j=>j) y (λp aW=>by rw[(M2 a5)]at aW;cases aW);refine(h.run x nt fC w _ vs gL a9 bZ).mono ?_;rintro dJ w' ⟨v,vO,rfl,a3,c,b7,a4⟩;refine⟨v,rfl,eK c_.bu b3 nt,{ c_ with bh:=dw c_.bu b3++c_.bh,bu:=c_.bu+I b3 },?_⟩;have al:∀k,k<w.heap.size->w'.heap[k]? = w.heap[k]? :=λk bf=>a3.block k bf (λ_ h=>h);let aS:bw:={ c_ with bh:=dw c_.bu b3++c_.bh,bu:=c_.bu+I b3 };let a6:ed:=⟨m.au,λt=>if t<c_.bu then m.bh t else vO.bh (t-c_.bu)⟩;have e:∀t,(aB aS).bJ t->((aB c_).bJ t/\t<c_.bu/\a6.bh t=m.bh t)\/∃q,q∈dw 0 b3/\t=c_.bu+q/\a6.bh t=vO.bh q:=λt j=>by
    have j:t∈dw c_.bu b3++c_.bh:=j;simp at j;rcases j with j|j
    .have:=(abe b3 c_.bu 0 t).1 AE;obtain⟨q,d,f⟩:=this;refine .inr ⟨q,d,f,?_⟩;simp only[a6,f];rw[if_neg af,show c_.bu+q-c_.bu=q by omega]
    .have ac:t<c_.bu:=u.mi t j;exact .inl ⟨j,ac,by simp[a6,ac]⟩
   have dZ:∀b i,fF a6 (aB aS) b i->fF m (aB c_) b i\/∃q o,q∈dw 0 b3/\vO.bh q=J (b,o)/\o<=i:=by
    rintro b i (⟨q,bV,rfl⟩|⟨t,o,d,f,l⟩)
    .exact .inl (.inl ⟨q,bV,rfl⟩)
    .rcases e t d with ⟨bc,_,fr⟩|⟨q,bc,_,fr⟩
     .rw[fr]at f;exact .inl (.inr ⟨t,o,bc,f,l⟩)
     .rw[fr]at f;exact .inr ⟨q,o,bc,f,l⟩
   have eN:fI (vx ah m (aB c_) w) (vx ah a6 (aB aS) w'):=by
    refine⟨a3.mono (λ_ _ h=>h.elim),?_,rfl,λ_ _=>rfl,bU _,Nat.le_add_right _ _,λt j c5=>?_⟩
    .rintro b i (gL|cb)
     .exact .inl (.inl gL)
     .rcases dZ b i cb with h|⟨q,o,d,f,_⟩
      .exact .inl (.inr h)
      .exact .inr (c q b o d f).1
    .have j:t<c_.bu:=j;rcases e t c5 with ⟨bc,_,fr⟩|⟨q,_,ep,_⟩
     .exact⟨bc,fr,λg o cr=>al g (u.lS bc cr)⟩
     .omega
   refine⟨a6,ao,⟨CD,cM,cV,cS,cZ⟩,u.step (s':=aB aS) rfl rfl rfl rfl rfl (a3.mono (λ_ _ h=>h.elim)) eN ?_ ?_ u.inj ?_ ?_ ?_,?_⟩
   .intro b k bf;obtain⟨d,f⟩:=u.gp b k bf;exact⟨d,f.later eN (al _ (u.n9 (by rw[show(aB c_).au b=J k from bf];simp)))⟩
   .intro t j;rcases e t j with ⟨_,ep,_⟩|⟨q,bc,ep,_⟩
    .show t<c_.bu+I b3;omega
    .have:=(tp _ _ _ bc).2;show t<c_.bu+I b3;omega
   .intro t t' g o dq d f l cB;rcases e t d with ⟨bc,ep,fr⟩|⟨q,bc,ep,fr⟩<;>rcases e t' f with ⟨p1,p2,p3⟩|⟨p,p1,p2,p3⟩
    .rw[fr]at l;rw[p3]at cB;exact u.jm t t' g o dq bc p1 l cB
    .rw[fr]at l;rw[p3]at cB
     have:=u.lS bc l;have:=(c p g dq p1 cB).1;omega
    .rw[fr]at l;rw[p3]at cB
     have:=u.lS p1 cB;have:=(c q g o bc l).1;omega
    .rw[fr]at l;rw[p3]at cB
     rw[ep,p2,b7 q p g o dq bc p1 l cB]
   .intro b t g o d f l;rcases e t f with ⟨bc,_,fr⟩|⟨q,bc,_,fr⟩
    .rw[fr]at l;exact u.h0 b t g o d bc l
    .rw[fr]at l;have:=(c q g o bc l).1;have:=u.n9 d;show m.au b≠g;omega
   .intro b i cb;rcases dZ b i cb with h|⟨q,o,d,f,_⟩
    .exact⟨iv (u.own b i h).1 a3.size,.inl h⟩
    .exact⟨(c q b o d f).2,.inr (c q b o d f).1⟩
   .obtain⟨us,rfl,z⟩:=Q5 a4;refine BE ?_;have:=aag (x:=sF ah.el (vx ah m (aB c_) w).S vO b3 w') (x':=vx ah a6 (aB aS) w') (n:=c_.bu) (by
     rintro b i (h|h)
     .exact .inl (.inl h)
     .rcases dZ b i h with h|⟨q,o,d,f,l⟩
      .exact .inl (.inr h)
      .exact .inr ⟨q,o,d,f,l⟩) rfl rfl 0 z (λp aW=>by
     have:=(tp _ _ _ aW).2;refine⟨aW,?_,?_⟩
     .show c_.bu+p<c_.bu+I b3;omega
     .show a6.bh (c_.bu+p)=vO.bh p;simp only[a6];rw[if_neg af,show c_.bu+p-c_.bu=p by omega])
    rwa[Nat.add_zero]at this
 .cases ao
variable{c:Code}{fn:Func}
theorem awj{Gb:aR R}(aW:gx ah Gb)(bZ:lG ah Gb)(b7:mv ah Gb)(hm:ah.P.follows .mixedOrders=ab)(cb:ah.P.funcs[g]? = J fn)(al:fn.body=J c)(y:(fn.name == "runtime.NumGoroutine")=ai)(z:lg fn.ntmps c=ab)(bz:∀b,b∈jg c->hX ah Gb b)(a2:eF (I args) fn.ntmps=ab){K:U D->bw->ae R}{r:R}(ao:GS Gb fn args st K=J r):xR ah g args st K r:=by
 refine⟨av.enters_of cb (by rw[al];rfl) y,λm a as_ w vs l o=>?_⟩;unfold GS at ao;rw[al]at ao;simp only at ao;have ct:I vs<=fn.ntmps:=by rw[o.len];simpa using a2
 have a4:∀(az:U D) (us:U aD) (i k:Nat) (d:D),bl (vx ah m (aB st) w) az us->get (gf i az) k=J d->∃v,i<=k/\us[k-i]? = J v/\aG (vx ah m (aB st) w) d v:=by
  intro az;induction az with
  |nil=>intro us i k d _ h;simp[gf,get]at h
  |cons e az jz=>
   intro us i k d l h;simp[bl]at l;obtain⟨u,us,rfl,aY,aZ⟩:=l;simp[gf]at h;rw[k3]at h;by_cases q:k=i
   .subst q;simp at h;subst h;exact⟨u,bU _,by simp,aY⟩
   .rw[if_neg q]at h;obtain⟨v,bg,cB,dE⟩:=jz us (i+1) k d aZ h;refine⟨v,by omega,?_,dE⟩;rw[show k-i=(k-(i+1))+1 by omega];simpa using cB
 have a5:Rel ah m { tmps:=vs.toArray++Array.replicate (fn.ntmps-vs.toArray.size) undef,defers:=[] } (a::as_) (aB { st with n:=fn.ntmps,env:=gf 0 args,c7:=st.nb,lt:=st.bu,cx:=⟨st.n,st.env,st.c7,st.lt⟩::st.cx }) w:=by
  refine⟨l.fw,⟨rfl,?_,λk d q=>?_⟩,⟨a,as_,rfl,l.c7,l.lt,l.env,l.jI⟩,bU _,bU _,l.gp,l.mi,l.inj,l.jm,l.h0,l.own,l.hN,l.kT⟩
  .show _=fn.ntmps;simp;omega
  .obtain⟨v,_,aZ,bg⟩:=a4 _ _ 0 k d o q;rw[Nat.sub_zero]at aZ;refine⟨v,?_,bg⟩;have ac:k<I vs:=(lN.1 aZ).1;simp only[Array.getElem?_append,List.size_toArray,ac];simpa using aZ
 refine calls_of_wp cb al (qx aW bZ b7 hm c _ _ r z bz ao _ m _ (a::as_) w a5 ?_);intro e aS a6 ca w' q a3 j;cases e
 case exit=>cases q
 all_goals
  simp only at q;have bB:aS.cx=⟨st.n,st.env,st.c7,st.lt⟩::st.cx:=a3.2;split at q
  .rename_i rs f cx cq p;rw[bB]at p;simp at p;obtain⟨rfl,rfl⟩:=p;obtain⟨us,s,bE⟩:=Ev aW j cq;have x:=j.jI;have de:(aB aS).cx=⟨st.n,st.env,st.c7,st.lt⟩::st.cx:=bB;rw[de]at x;obtain⟨a0,nt,bG,aY,aZ,bg,cB⟩:=x;simp at bG;obtain⟨rfl,rfl⟩:=bG;have ag:fI { vx ah a6 (aB aS) w' with nb:=(aB aS).c7,bu:=(aB aS).lt } (vx ah a6 (aB aS) w'):=⟨bM.refl _ _,λ_ _ h=>.inl h,rfl,λ_ _=>rfl,j.c7,j.lt,λt _ c5=>⟨c5,rfl,λ_ _ _=>rfl⟩⟩;refine⟨j.env.defers,av.oN us,?_,av.oN us,rfl,rs,_,a6,q,⟨rfl,rfl,rfl,rfl,rfl⟩,⟨j.fw,bg.later ag,cB,fV aY j.c7,fV aZ j.lt,j.gp,j.mi,j.inj,j.jm,j.h0,j.own,j.hN,j.kT⟩,BE bE⟩;obtain⟨vU⟩:∃vU,fn.results=List.toArray vU:=⟨fn.results.toList,by simp⟩;rename_i a9;rw[av.Mh,a9];rw[a9]at s;simp only[List.mapM_toArray,e3,map_eq_pure_bind,s];congr 1;match us with|[]=>rfl|[v]=>rfl|_::_::_=>simp[av.oN]
  .cases q
theorem asj(t:∀b j,x'.S b j->x.S b j)(hw:x'.w=x.w):∀{l:U cA}{y:aw l}{vs:U aD}(i:Nat),bl x (eK i l y) vs->bl x' ((eK i l y).map pW) vs:=by
 have e:∀{d:D}{v:aD},gl x.S x.w d v->gl x'.S x'.w d v:=λh=>by rw[hw];exact h.later (bM.refl _ _) (λk j bf=>.inl (t k j bf))
 have one:∀{i:Nat}{s:cA}{y:den s}{v:aD},aG x (fy i s y) v->aG x' (pW (fy i s y)) v:=by intro i s y v h;cases s with|int k=>simpa[fy,pW,aG]using h|bool=>simpa[fy,pW,aG]using h|str=>simpa[fy,pW,aG]using h|sl c own=>cases own<;>simp[fy,aG]at h ⊢ <;> exact⟨e h.1,trivial⟩|bm c=>simp[fy,aG]at h ⊢;obtain⟨f,vs,g,m,n⟩:=h;exact⟨f,vs,g,m,λj d ar=>by obtain⟨u,o,p⟩:=n j d ar;exact⟨u,o,e p⟩⟩|rw c k=>simp[fy,aG]at h ⊢;obtain⟨f,vs,g,m,n⟩:=h;exact⟨f,vs,g,m,λq z j d r ar=>by obtain⟨u,o,p⟩:=n q z j d r ar;exact⟨u,o,e p⟩⟩|fx c=>simp[fy,aG]at h ⊢;obtain⟨f,vs,g,m,n⟩:=h;exact⟨f,vs,g,m,λq z j d r ar=>by obtain⟨u,o,p⟩:=n q z j d r ar;exact⟨u,o,e p⟩⟩
 intro l;induction l with
 |nil=>intro y vs i h;simpa[eK,bl]using h
 |cons a l jz=>intro y vs i h;cases l with|nil=>simp only[eK,bl]at h ⊢;obtain⟨u,us,f,g,m⟩:=h;exact⟨u,us,f,one g,m⟩|cons b l=>obtain⟨y,z⟩:=y;simp[eK,bl]at h ⊢;obtain⟨u,us,f,g,m⟩:=h;exact⟨u,us,f,one g,jz (i+1) m⟩
theorem atj(h:fH ah.P ah.el ah.cD g cj b3 F)(f:l8 (dw 0 cj) []=ab){K:U D->ae R}{r:R}(ao:Dc cj b3 F args K=J r):∃rs,K rs=J r/\av.Enters ah.P g/\∀(s:FS) (m:ed) (a:Act) (as_:U Act) (w:aT) (vs:U aD),Rel ah m a as_ s w->bl (vx ah m s w) args vs->Calls ah.P g vs.toArray w λdJ w'=>∃v,dJ = .returned v/\Rel ah m a as_ s w'/\aG (vx ah m s w') (iU (rs.map pW)) v:=by
 unfold Dc at ao;split at ao
 .rename_i x ag;cases j:F x with
  |none=>rw[j]at ao;cases ao
  |some u=>rw[j,bA]at ao;refine⟨_,ao,h.enters,λs m a as_ w vs o c=>?_⟩;obtain⟨y,k⟩:=Oe o;have l:bl (v0 ah.el (vx ah m s w).S w) (eK 0 cj x) vs:=u7 (X:=vx ah m s w) (X':=v0 ah.el (vx ah m s w).S w) (λ_ _ h=>h) rfl rfl 0 ag (λt z=>by cases z) c (λp q=>by rw[(M2 f)]at q;cases q);refine(h.run x u j w _ vs y k l).mono ?_;rintro dJ w' ⟨v,vO,rfl,n,_,_,e⟩;refine⟨v,rfl,o.quiet n,?_⟩;obtain⟨us,rfl,d⟩:=Q5 e;exact BE (asj (x:=sF ah.el (vx ah m s w).S vO b3 w') (x':=vx ah m s w') (λb i h=>.inl h) rfl 0 d)
 .cases ao
theorem aAe{S:hn}{c:cl}{y:dy c}{d:D}{u:aD}(a:Kv c=ab)(ar:(enc c y)[j]? = J d)(h:jj w d u):gl S w d u:=λw' _=>by
 have:(∃k n,d = .int k n)\/(∃b,d = .bool b)\/∃l,d = .str l:=by
  have hm:=lW ar;cases c<;>simp[Kv]at a<;>simp[enc,or_false]at hm<;>rcases hm with rfl|hm<;>first
   |exact .inl ⟨_,_,rfl⟩
   |exact .inr (.inl ⟨_,rfl⟩)
   |exact .inr (.inr ⟨_,rfl⟩)
   |skip
  all_goals rcases hm with rfl|hm<;>first
   |exact .inl ⟨_,_,rfl⟩
   |exact .inr (.inl ⟨_,rfl⟩)
   |exact .inr (.inr ⟨_,rfl⟩)
   |skip
  all_goals rcases hm with rfl|hm<;>first
   |exact .inl ⟨_,_,rfl⟩
   |exact .inr (.inl ⟨_,rfl⟩)
   |exact .inr (.inr ⟨_,rfl⟩)
   |skip
  all_goals rcases hm with rfl|rfl<;>first
   |exact .inl ⟨_,_,rfl⟩
   |exact .inr (.inl ⟨_,rfl⟩)
   |exact .inr (.inr ⟨_,rfl⟩)
 rcases this with ⟨k,n,rfl⟩|⟨b,rfl⟩|⟨l,rfl⟩
 .cases h with|int k n e=>exact .int k n e
 .cases h with|bool b=>exact .bool b
 .cases h with|str l f=>exact .str l f
theorem acj(st:bw)(k:dW):aB (jl st k)={ aB st with au:=λb=>if b=(aB st).nb then J k else(aB st).au b,nb:=(aB st).nb+1 }:=by refine FS.eq rfl rfl rfl rfl rfl ?_ rfl rfl rfl;funext b;exact gu st.au st.nb b k
end
def eT{α:Type _}:U (Nat×α)->Nat->ae α|[],_=>aj|(k,v)::e,n=>match cp k n with|true=>J v|false=>eT e n
theorem r7{α:Type _}:∀{l:U (Nat×α)}{n:Nat}{v : α},eT l n=J v->(n,v)∈l
 |[],n,v,h=>by simp[eT]at h
 |(k,u)::l,n,v,h=>by
  simp[eT]at h;split at h
  .simp_all
  .exact mg _ (r7 h)
def qo(l:U (Nat×ej))(t:Nat):ej:=match eT l t with|some ty=>ty|none=>.no
variable{el:cl->bD}
theorem J8{l:U (Nat×ej)}(h:(l.all λp=>fO P el (qo l) p.1)=ab)(t:Nat):fO P el (qo l) t=true:=by cases a:eT l t with|none=>unfold fO;simp[qo,a]|some ty=>exact dH.1 h _ (r7 a)
abbrev ox(R:Type):=U D->bw->(U D->bw->ae R)->ae R
abbrev qS(R:Type):=U D->(U D->ae R)->ae R
abbrev wz(R:Type):=U D->bw->(D->U Nat->bw->ae R)->ae R
def D1{R:Type}(l:U (Nat×ox R))(g:Nat):ox R:=match eT l g with|some f=>f|none=>λ_ _ _=>aj
def Dx{R:Type}(l:U (Nat×qS R))(g:Nat):qS R:=match eT l g with|some f=>f|none=>λ_ _=>aj
section
variable {R:Type}{ah:di}
def kb(ah:di)(g:Nat)(f:ox R):Prop:=∀args st K r,f args st K=J r->xR ah g args st K r
def s0(ah:di)(g:Nat)(f:qS R):Prop:=∀(args:U D) (K:U D->ae R) (r:R),f args K=J r->∃rs,K rs=J r/\av.Enters ah.P g/\∀(s:FS) (m:ed) (a:Act) (as_:U Act) (w:aT) (vs:U aD),Rel ah m a as_ s w->bl (vx ah m s w) args vs->Calls ah.P g vs.toArray w λdJ w'=>∃v,dJ = .returned v/\Rel ah m a as_ s w'/\aG (vx ah m s w') (iU (rs.map pW)) v
theorem aor{px:aR R}{l:U (Nat×ox R)}(b:px.call=D1 l)(h:∀g f,(g,f)∈l->kb ah g f):lG ah px:=by intro g args st K r a;rw[b]at a;unfold D1 at a;cases c:eT l g with|none=>rw[c]at a;cases a|some f=>rw[c]at a;exact h g f (r7 c) args st K r a
theorem axb{px:aR R}{l:U (Nat×qS R)}{e:U (Nat×wz R)}(b:px.LX=Dx l)(c:px.LY=eT e)(h:∀g f,(g,f)∈l->s0 ah g f)(j:∀g f,(g,f)∈e->pP ah g f):mv ah px:=by
 refine⟨λg args K r a=>?_,λg F i=>?_⟩
 .rw[b]at a;unfold Dx at a;cases d:eT l g with|none=>rw[d]at a;cases a|some f=>rw[d]at a;exact h g f (r7 d) args K r a
 .rw[c]at i;exact j g F (r7 i)
theorem bp:∀g f,(g,f)∈([]:U (Nat×wz R))->pP ah g f:=λ_ _ h=>by cases h
theorem VX{f:wz R}{l:U (Nat×wz R)}(h:pP ah g f)(a:∀g f,(g,f)∈l->pP ah g f):∀g' gI,(g',gI)∈(g,f)::l->pP ah g' gI:=im
variable{cj:U cA}{b3:U cA}{F:aw cj->ae (aw b3)}
theorem aB6(h:fH ah.P ah.el ah.cD g cj b3 F)(a:l8 (dw 0 cj) []=ab):kb (R:=R) ah g (zT cj b3 F):=λ_ _ _ _ ao=>avd h a ao
theorem aA9(h:fH ah.P ah.el ah.cD g cj b3 F)(a:l8 (dw 0 cj) []=ab):s0 (R:=R) ah g (Dc cj b3 F):=λ_ _ _ ao=>atj h a ao
theorem bq:∀g f,(g,f)∈([]:U (Nat×ox R))->kb ah g f:=λ_ _ h=>by cases h
theorem et{f:ox R}{l:U (Nat×ox R)}(h:kb ah g f)(a:∀g f,(g,f)∈l->kb ah g f):∀g' gI,(g',gI)∈(g,f)::l->kb ah g' gI:=im
theorem bo:∀g f,(g,f)∈([]:U (Nat×qS R))->s0 ah g f:=λ_ _ h=>by cases h
theorem avw{f:qS R}{l:U (Nat×qS R)}(h:s0 ah g f)(a:∀g f,(g,f)∈l->s0 ah g f):∀g' gI,(g',gI)∈(g,f)::l->s0 ah g' gI:=im
end
variable{cj:U cA}{f:FuncId}{cD:Nat->ae lI}
theorem fH.calls{F:aw cj->ae Bool}(h:fH P el cD f cj [.bool] F){x:aw cj}{r:Bool}(d:F x=J r)(b:qE (v0 el fE w) cD)(e:bl (v0 el fE w) (eK 0 cj x) vs):Calls P f vs.toArray w λdJ w'=>dJ = .returned (.bool r)/\Below w.heap.size w w':=by
 refine(h.run x r d w fE vs (λ_ _ h=>h.elim) b e).mono ?_;rintro dJ w' ⟨v,m,rfl,c,_,_,a⟩;have:v = .bool r:=by simpa[iU,eK,fy,aG]using a
 subst this;exact⟨rfl,c.below⟩
abbrev bt(cj b3:U cA):=aw cj->ae (aw b3)
abbrev Rl(R:Type):=bw->(aX->bw->ae R)->ae R
def ajE{R:Type}(l:U (Nat×Rl R))(b:Code):Rl R:=match eT l (Fs b)with|some f=>f|none=>λ_ _=>aj
def vN(b:Code)(i:Nat):Code:=(jg b).getD i .skip
def r'(fn:Func):Nat:=match fn.body with|some c=>I (jg c)|none=>0
def qY(fn:Func):Bool:=match fn.body with|some c=>lg fn.ntmps c|none=>ai
theorem aK{p:Nat->Prop}:∀i,i<0->p i:=λ_ h=>absurd h (dY _)
theorem b9{p:Nat->Prop}{n:Nat}(h:∀i,i<n->p i)(a:p n):∀i,i<n+1->p i:=λi b=>by grind
theorem afJ{l:U Code}{b:Code}(h:b∈l):∃i,i<I l/\l.getD i .skip=b:=by obtain⟨i,a,rfl⟩:=List.getElem_of_mem h;exact⟨i,a,by simp[ a]⟩
section
variable {R:Type}{px:aR R}{ah:di}
variable{c:Code}{fn:Func}
theorem QK{n:Nat}(al:fn.body=J c)(a:r' fn=n)(h:∀i,i<n->hX ah px (b0 fn i)):∀b,b∈jg c->hX ah px b:=by intro b hm;obtain⟨i,d,rfl⟩:=afJ hm;have:=h i (by rw[<-a];unfold r';rw[al];exact d);unfold b0 at this;rw[al]at this;exact this
theorem xA{b:Code}{n:Nat}(a:I (jg b)=n)(h:∀i,i<n->hX ah px (vN b i)):∀cu,cu∈jg b->hX ah px cu:=by intro cu hm;obtain⟨i,c,rfl⟩:=afJ hm;exact h i (by rw[<-a];exact c)
def ey(nb bu:Nat)(a:aR R)(fn:Func)(args:U D)(st:bw)(K:U D->bw->ae R):ae R:=match eF (I args) fn.ntmps&&eF st.nb nb&&eF st.bu bu with
 |true=>GS a fn args { st with nb:=nb,bu:=bu } K
 |false=>aj
variable{m:ed}{bu:Nat}{st:bw}
theorem atn(al:st.nb<=nb)(a:st.bu<=bu)(h:bl (vx ah m (aB st) w) az vs):bl (vx ah m (aB { st with nb:=nb,bu:=bu }) w) az vs:=by have b:fI (vx ah m (aB st) w) (vx ah m (aB { st with nb:=nb,bu:=bu }) w):=⟨bM.refl _ _,λ_ _ h=>.inl h,rfl,λ_ _=>rfl,al,a,λt _ c=>⟨c,rfl,λ_ _ _=>rfl⟩⟩;exact bl.later b _ _ h
theorem aA4{h:aR R}{n:Nat}(p:gx ah h)(j:lG ah h)(k:mv ah h)(hm:ah.P.follows .mixedOrders=ab)(q:ah.P.funcs[g]? = J fn)(al:fn.body=J c)(e:(fn.name == "runtime.NumGoroutine")=ai)(d:qY fn=ab)(s:r' fn=n)(t:∀i,i<n->hX ah h (b0 fn i)):kb ah g (ey nb bu h fn):=by
 intro args st K r ao;unfold ey at ao;split at ao
 .rename_i b;simp only[bN]at b;have l:st.nb<=nb:=Nat.le_of_ble_eq_true b.1.2;have o:st.bu<=bu:=Nat.le_of_ble_eq_true b.2;obtain⟨bc,u⟩:=awj p j k hm q al e (by unfold qY at d;rw[al]at d;exact d) (QK al s t) b.1.1 ao;refine⟨bc,λm a as_ w vs x f=>?_⟩;exact(u m a as_ w vs (x.raise l o) (atn l o f)).mono λdJ w' ⟨v,y,rs,aS,a6,z,gy,pg,jG⟩=>⟨v,y,rs,aS,a6,z,gy,pg,jG⟩
 .cases ao
end
variable{b3:U cA}{c:Code}{fn:Func}
theorem afR{px:aR (aw b3)}{F:bt cj b3}{n:Nat}(e:P.funcs[f]? = J fn)(al:fn.body=J c)(b:(fn.name == "runtime.NumGoroutine")=ai)(hm:P.follows .mixedOrders=ab)(a:(qY fn&&eF (I cj) fn.ntmps&&l8 (dw 0 cj) [])=ab)(g:r' fn=n)
  (d:∀ah:di,ah.P=P->ah.el=el->ah.cD=cD->ah.gE=fE->gx ah px/\lG ah px/\mv ah px/\∀i,i<n->hX ah px (b0 fn i)) (h:∀x,DT px fn cj b3 x J=F x):fH P el cD f cj b3 F:=by
 refine ayF e al b hm ?_ (λah j k l m=>?_) h
 .unfold qY at a;rw[al]at a;exact a
 .obtain⟨bc,o,p,q⟩:=d ah j k l m;exact⟨bc,o,p,QK al g q⟩
section
variable {P:cP}{el:cl->bD}{cD:Nat->ae lI}{f:FuncId}{cj b3:U cA}
theorem fH.none(a:av.Enters P f):fH P el cD f cj b3 (λ_=>.none):=⟨a,λ_ _ h=>by cases h⟩
theorem fH.lq{body:bt cj b3->bt cj b3}(a:av.Enters P f)(h:∀rf,fH P el cD f cj b3 rf->fH P el cD f cj b3 (body rf)):∀n,fH P el cD f cj b3 (aI body n)
 |0=>fH.none a
 |n+1=>h _ (fH.lq a h n)
end
def dc(n:Int):Prop:= -9223372036854775808<=n/\n<=9223372036854775807
def b1(n:Nat):Prop:=n<=9223372036854775807
def ye(k:df)(n:Int):Prop:=k.min<=n/\n<=k.max
def JS(v:dA):Prop:=dc v.kind/\dc v.n/\b1 (I v.s)
inductive fK:aq->Prop
 |mk (k:Int) (v:dA) (a7:ak) (l:List aq):dc k->JS v->b1 (I a7)->b1 (I l)->(∀e,e∈l->fK e)->fK (.mk k v a7 l)
def jR{α:Type}(p : α->Prop)(l:U α):Prop:=b1 (I l)/\∀x,x∈l->p x
def Kf(c:bk):Prop:=b1 (I c.name)/\dc c.kind/\b1 (I c.ref)
def ajy(s:ds):Prop:=b1 (I s.name)/\fK s.e
structure qq (s:aP):Prop where
 kind:dc s.kind
 name:b1 (I s.name)
 on:b1 (I s.on)
 ay:jR Kf s.ay
 names:jR (λx=>b1 (I x)) s.names
 l:jR fK s.l
 rows:jR (jR fK) s.rows
 bT:jR ajy s.bT
 cX:fK s.cX
 order:jR (λx=>b1 (I x)) s.order
 desc:b1 (I s.desc)
 bH:dc s.bH
def ajx(x:c'):Prop:=b1 (I x.name)/\jR (λs=>b1 (I s)) x.ay
structure aeY (t:b5):Prop where
 name:b1 (I t.name)
 ay:jR Kf t.ay
 key:jR (λs=>b1 (I s)) t.key
 ie:jR fK t.ie
 idx:jR ajx t.idx
def An:(c:cl)->dy c->Prop|.byte,_=>True|.int,n=>dc n|.u64,n=>ye .u64 n|.str,s=>b1 (I s)|.bool,_=>True|.val,v=>JS v|.tok,t=>dc t.kind/\dc t.pos/\b1 (I t.s)/\dc t.n|.b2,c=>Kf c|.expr,e=>fK e|.num,n=>jR dc n.d|.v8,l=>jR JS l|.exprs,l=>jR fK l|.strs,l=>jR (λs=>b1 (I s)) l|.bytes,l=>b1 (I l)|.set,s=>ajy s|.stmt,s=>qq s|.gz,g=>dc g.pos|.pair,p=>b1 (I p.sign)/\dc p.kind|.idx,x=>ajx x|.eT,t=>aeY t
def RN:D->Prop|.int k n=>ye k n|.str l=>b1 (I l)|.sl c xs _=>jR (An c) xs|_=>True
theorem j6{n:Int}(h:ye .i64 n):dc n:=by simpa[ye,dc,df.min,lu,kp]using h
theorem GJ{c:cl}{x:dy c}(h:∀(j:Nat) d,(enc c x)[j]? = J d->RN d):An c x:=by cases c with|byte=>trivial|int=>exact j6 (h 0 _ rfl)|u64=>exact h 0 _ rfl|str=>exact h 0 _ rfl|bool=>trivial|val=>exact⟨j6 (h 0 _ rfl),j6 (h 1 _ rfl),h 2 _ rfl⟩|tok=>exact⟨j6 (h 0 _ rfl),j6 (h 1 _ rfl),h 2 _ rfl,j6 (h 3 _ rfl)⟩|b2=>exact⟨h 0 _ rfl,j6 (h 1 _ rfl),h 4 _ rfl⟩|expr=>obtain⟨k,v,a7,l⟩:=x;have b:=h 5 _ rfl;exact .mk k v a7 l (j6 (h 0 _ rfl)) ⟨j6 (h 1 _ rfl),j6 (h 2 _ rfl),h 3 _ rfl⟩ (h 4 _ rfl) b.1 b.2|num=>exact h 1 _ rfl|v8=>exact h 0 _ rfl|exprs=>exact h 0 _ rfl|strs=>exact h 0 _ rfl|bytes=>exact(h 0 _ rfl).1|set=>obtain⟨lU,k,v,a7,l⟩:=x;have e:=h 6 _ rfl;exact⟨h 0 _ rfl,.mk k v a7 l (j6 (h 1 _ rfl)) ⟨j6 (h 2 _ rfl),j6 (h 3 _ rfl),h 4 _ rfl⟩ (h 5 _ rfl) e.1 e.2⟩|stmt=>obtain⟨_,_,_,_,_,_,_,_,_,⟨k,v,a7,l⟩,_,_,_⟩:=x;have a:=h 14 _ rfl;exact⟨j6 (h 0 _ rfl),h 1 _ rfl,h 2 _ rfl,h 3 _ rfl,h 4 _ rfl,h 5 _ rfl,h 6 _ rfl,h 7 _ rfl,.mk k v a7 l (j6 (h 9 _ rfl)) ⟨j6 (h 10 _ rfl),j6 (h 11 _ rfl),h 12 _ rfl⟩ (h 13 _ rfl) a.1 a.2,h 15 _ rfl,(h 16 _ rfl).1,j6 (h 17 _ rfl)⟩|gz=>exact j6 (h 0 _ rfl)|pair=>exact⟨h 0 _ rfl,j6 (h 1 _ rfl)⟩|idx=>exact⟨h 0 _ rfl,h 1 _ rfl⟩|eT=>exact⟨h 0 _ rfl,h 1 _ rfl,h 2 _ rfl,h 3 _ rfl,h 4 _ rfl⟩
theorem J6{d:D}{v:aD}(h:jj w d v):RN d:=by induction h with|int k n e=>exact oS e|bool b=>trivial|str l f=>simpa[RN,b1,dr]using f|nil c t a cap=>exact⟨by simp[b1],by simp⟩|sl c xs t b o cap u hle hm ao h g=>refine⟨by simp[b1,dr]at *;omega,λx ag=>GJ λj d ar=>?_⟩;obtain⟨i,m,rfl⟩:=List.getElem_of_mem ag;exact g i _ j d (ic m) ar
def JG:(s:cA)->den s->Prop|.int k,n=>ye k n|.bool,_=>True|.str,s=>b1 (I s)|.sl c _,xs=>jR (An c) xs|.bm c,x=>An c x|.rw c n,xs=>I xs=n/\∀x,x∈xs->An c x|.fx c,xs=>I xs<=dr/\∀x,x∈xs->An c x
def rK:(l:U cA)->aw l->Prop|[],_=>True|[a],x=>JG a x|a::b::l,(x,y)=>JG a x/\rK (b::l) y
theorem acK{s:cA}{y:den s}{v:aD}(h:aG x (fy i s y) v):JG s y:=by cases s with|int k=>exact oS h.u8|bool=>trivial|str=>simpa[JG,b1,dr]using h.Gh|sl c own=>cases own<;>(simp[fy]at h;exact J6 h.1.here)|bm c=>simp[fy]at h;obtain⟨_,vs,_,_,h⟩:=h;exact GJ λj d ar=>by obtain⟨u,_,a⟩:=h j d ar;exact J6 a.here|rw c n=>simp[fy]at h;obtain⟨b,vs,_,_,h⟩:=h;refine⟨b,λz e=>GJ λj d ar=>?_⟩;obtain⟨i,f,rfl⟩:=List.getElem_of_mem e;obtain⟨u,_,a⟩:=h i _ j d (ic f) ar;exact J6 a.here|fx c=>simp[fy]at h;obtain⟨b,vs,_,_,h⟩:=h;refine⟨b,λz e=>GJ λj d ar=>?_⟩;obtain⟨i,f,rfl⟩:=List.getElem_of_mem e;obtain⟨u,_,a⟩:=h i _ j d (ic f) ar;exact J6 a.here
theorem C5{x:dn}:∀{l:U cA}{i:Nat}{y:aw l}{vs:U aD},bl x (eK i l y) vs->rK l y
 |[],_,_,_,_=>trivial
 |[a],i,y,vs,h=>by simp only[eK]at h;obtain⟨u,us,_,c,_⟩:=h;exact acK c
 |a::b::l,i,(y,z),vs,h=>by simp[eK]at h;obtain⟨u,us,_,c,d⟩:=h;exact⟨acK c,C5 d⟩
section
variable {P:cP}{el:cl->bD}{cD:Nat->ae lI}{f:FuncId}{cj b3:U cA}
variable{ι:Type}
theorem fH.fin{F : ι->bt cj b3}{G:bt cj b3}(i0 : ι)(h:∀i,fH P el cD f cj b3 (F i))(b:∀x r,rK cj x->G x=J r->∃i,F i x=J r):fH P el cD f cj b3 G:=⟨(h i0).enters,λx r ag w M vs c d a=>by obtain⟨i,e⟩:=b x r (C5 a) ag;exact(h i).run x r e w M vs c d a⟩
theorem fH.er{F G:bt cj b3}(h:fH P el cD f cj b3 F)(a:∀x r,rK cj x->G x=J r->F x=J r):fH P el cD f cj b3 G:=.fin () (λ_=>h) λx r al ag=>⟨(),a x r al ag⟩
end
variable{R:Type}
theorem rz{b:Bool}{x:ae R}(h:b=ab):ax b x=x:=by subst h;rfl
theorem d_{n:Int}(h:dc n):wr .i64 n=n:=by simp[dc]at h;simp only[wr,df.wrap,lu,kp,jo];split<;>simp at * <;> omega
theorem ay2{n:Nat}:a_ (i:Int) n=aa (i<n):=by simp[a_]
theorem adY{n:Nat}:dP (i:Int) (j:Int) n=(aa (i<=j)&&aa (j<=n)):=by simp[dP]
abbrev Ren:=U (Nat×Nat)
def iH:Ren->Nat->ae Nat|[],_=>aj|(a,b)::l,n=>match cp a n with|true=>J b|false=>iH l n
def yZ(cN:Ren):Bool:=cN.all λp=>cN.all λq=>(cp p.1 q.1) == (cp p.2 q.2)
def aCQ:D->D->Ren|.ptr k _,.ptr b _=>[(b,k)]|_,_=>[]
def SZ:U D->U D->Ren|a::l,b::m=>aCQ a b++SZ l m|_,_=>[]
def aCL:D->D->Ren|.ptr k _,.ptr b _=>[(b,k)]|.fn _ cs,.fn _ cs'=>SZ cs cs'|.hB _ cs,.hB _ cs'=>SZ cs cs'|_,_=>[]
def jT(env:Env):U (Nat×D)->Ren|[]=>[]|(i,d)::l=>match get env i with|some a=>aCL d a++jT env l|none=>jT env l
def acV:D->Bool|.bool _|.int _ _|.str _|.sl _ _ _|.n8|.tS|.oI _=>ab|_=>ai
def Kl(cN:Ren):D->ae D
 |.ptr b o=>match iH cN b with|some k=>J (.ptr k o)|none=>aj
 |d=>match acV d with|true=>J d|false=>aj
def wL(cN:Ren):U D->ae (U D)|[]=>J []|d::l=>match Kl cN d,wL cN l with|some a,J aC=>J (a::aC)|_,_=>aj
def S0(cN:Ren):D->ae D
 |.fn f cs=>match wL cN cs with|some cs'=>J (.fn f cs')|none=>aj
 |.hB f cs=>match wL cN cs with|some cs'=>J (.hB f cs')|none=>aj
 |.agg az=>match wL cN az with
  |some a=>match a.all e_ with|true=>J (.agg a)|false=>aj
  |none=>aj
 |.bm c x=>J (.bm c x)
 |.lo c x o=>J (.lo c x o)
 |d=>Kl cN d
def Az(cN:Ren):U D->ae (U D)|[]=>J []|d::l=>match S0 cN d,Az cN l with|some a,J aC=>J (a::aC)|_,_=>aj
def Kz(cN:Ren):dW->ae dW
 |.cells az=>match Az cN az with
  |some a=>match a.all e_ with|true=>J (.cells a)|false=>aj
  |none=>aj
 |k=>J k
def Ax(cN:Ren)(nb:Nat):h9->Bool|.i' az=>az.all λd=>(lH d).all λb=>(match iH cN b with|some k=>cp k b|none=>ai)&&eU b nb|.hQ _ b _=>(match iH cN b with|some k=>cp k b|none=>ai)&&eU b nb|_=>ab
def wH(au:U (Nat×dW))(yH:Ren):Ren->ae (U (Nat×dW))
 |[]=>J []
 |(b,k)::cN=>match bF au b,wH au yH cN with
  |some K,J l=>match Kz yH K with|some gw=>J ((k,gw)::l)|none=>aj
  |_,_=>aj
def aj3:D->U Nat|.sl _ _ (.id t)=>[t]|_=>[]
def aCx:dW->U Nat|.cells az=>az.flatMap aj3|.fb _ d=>aj3 d|_=>[]
def RH(au:U (Nat×dW))(bh:U Nat):U Nat:=bh.filter λt=>(au.flatMap λp=>aCx p.2).contains t
def ka(aM:bn):Fr:=⟨aM.nb,aM.au.map λp=>(p.1,.ptr p.1 0),0,0⟩
def oW(cN:Ren)(a:U (Nat×dW)):U (Nat×dW)->U (Nat×dW)
 |[]=>[]
 |(b,K)::l=>match iH cN b with
  |none=>(b,K)::oW cN a l
  |some k=>match bF a k with|some gw=>(b,gw)::oW cN a l|none=>oW cN a l
section
variable {R:Type}
def sc(aM:bn)(cN:Ren)(args:U D)(st:bw):ae bw:=match Az cN args,wH st.au cN cN with|some aDp,J akS=>J ⟨I args,gf 0 aDp,aM.nb,0,[ka aM],akS,aM.nb,RH akS st.bh,st.bu⟩|_,_=>aj
def cT(aM bL:bn)(F:aw aM.cF->ae (aw bL.cF))(args:U D)(st:bw)(K:U D->bw->ae R):ae R:=match yZ (jT (gf 0 args) aM.fix)&&(jT (gf 0 args) aM.fix).all (λp=>eU p.2 aM.nb)&&bL.au.all (λp=>Ax (jT (gf 0 args) aM.fix) st.nb p.2),sc aM (jT (gf 0 args) aM.fix) args st with
 |true,J hS=>match nW aM hS with
  |some x=>(F x).bind λr=>K (match cp bL.n (I bL.vars) with
     |true=>(eK st.bu bL.cF r).take (I bL.vars)
     |false=>[.tP]) { st with au:=oW (jT (gf 0 args) aM.fix) (fG bL.au ((eK st.bu bL.cF r).drop (I bL.vars))) st.au,bh:=dw st.bu bL.cF++st.bh.filter (λt=> !(hS.bh).contains t),bu:=st.bu+I bL.cF }
  |none=>aj
 |_,_=>aj
end
def yi(aM bL:bn):Bool:=nE aM&&nE bL&&cp aM.lt 0&&cp aM.c7 aM.nb&&cp bL.lt 0&&bL.lR.isEmpty&&bL.fix.isEmpty&&cp bL.nb aM.nb&&l8 (bL.vars.map (·.1)) (hg (I bL.vars))&&bL.au.all (λp=>(aM.au.map (·.1)).contains p.1)&&((kS bL.au).flatMap lH).all (λb=>(aM.au.map (·.1)).contains b)
structure fX (P:cP) (el:cl->bD) (cD:Nat->Option lI) (f:FuncId) (aM bL:bn) (F:aw aM.cF->Option (aw bL.cF)):Prop where
 enters:av.Enters P f
 run:∀x r,F x=J r->rK aM.cF x->∀(ah:di) (m:ed) (vs:List aD) (ez:Act) (w:aT),ah.P=P->ah.el=el->ah.cD=cD->Rel ah m ⟨vs.toArray,[]⟩ [ez] (aB (iF aM [ka aM] x)) w ->
  Calls P f vs.toArray w λdJ w'=>∃us aS a6,dJ = .returned (av.oN us)/\(∀k,(aM.au.map (·.1)).contains k=ab->a6.au k=m.au k)/\nW bL aS = J r/\Rel ah a6 ⟨us.toArray,[]⟩ [ez] (aB aS) w'
theorem abU(a b:Nat)(l:Ren)(n:Nat):iH ((a,b)::l) n=if n=a then J b else iH l n:=by
 simp[iH];by_cases h:n=a
 .subst h;simp
 .simp[m5 (hE h),h]
theorem FJ:∀{cN:Ren}{n k:Nat},iH cN n=J k->(n,k)∈cN
 |[],_,_,h=>by simp[iH]at h
 |(a,b)::l,n,k,h=>by
  rw[abU]at h;by_cases c:n=a
  .grind
  .rw[if_neg c]at h;exact mg _ (FJ h)
theorem Qd:∀{cN:Ren}{n k:Nat},(n,k)∈cN->∃c,iH cN n=J c
 |(a,b)::l,n,k,h=>by
  rw[abU];by_cases d:n=a
  .simp_all
  .rw[if_neg d];rcases hv.1 h with h|h
   .grind
   .exact Qd h
variable{cN:Ren}
theorem O9(h:yZ cN=ab){p q:Nat×Nat}(b:p∈cN)(c:q∈cN):p.1=q.1↔p.2=q.2:=by
 have a:=dH.1 (dH.1 h p b) q c;simp at a;constructor
 .intro e;have:cp p.1 q.1=true:=by rw[e];exact Nat.beq_refl _
  rw[this]at a;exact dS a.symm
 .intro e;have:cp p.2 q.2=true:=by rw[e];exact Nat.beq_refl _
  rw[this]at a;exact dS a
theorem Qs(cN:Ren)(a:U (Nat×dW)):∀(au:U (Nat×dW)) (b:Nat),bF (oW cN a au) b=match iH cN b with|none=>bF au b|some k=>if(bF au b).isSome then bF a k else aj
 |[],b=>by simp only[oW,bF];cases iH cN b<;>simp
 |(q,K)::l,b=>by
  have c:=Qs cN a l b;simp only[oW];rw[gu];cases d:iH cN q with
  |none=>
   simp only;rw[gu,c];by_cases al:b=q
   .subst al;simp[d]
   .simp[al]
  |some k=>
   simp only;by_cases al:b=q
   .subst al;simp only[d,if_true,Option.isSome_some];cases e:bF a k with|none=>simp only;rw[c,d];simp[e]|some gw=>simp only;rw[gu,if_pos rfl]
   .cases e:bF a k with|none=>simp only;rw[c];simp[al]|some gw=>simp only;rw[gu,if_neg al,c];simp[al]
structure nT (cN:Ren) (x iL:dn):Prop where
 w:iL.w=x.w
 el:iL.el=x.el
 S:∀b i,iL.S b i->x.S b i
 au:∀b k,iH cN b=J k->k<iL.nb/\iL.m.au k=x.m.au b
 bu:x.bu<=iL.bu
 bh:∀t,iL.bJ t->x.bJ t/\iL.m.bh t=x.m.bh t
section
variable {cN:Ren}{x iL:dn}
theorem nT.rf(h:nT cN x iL){d:D}{v:aD}(a:gl x.S x.w d v):gl iL.S iL.w d v:=by rw[h.w];exact a.later (bM.refl _ _) λk i b=>.inl (h.S k i b)
theorem nT.sl(h:nT cN x iL){c:cl}{xs:U (dy c)}{t:l'}{v:aD}(a:aG x (.sl c xs t) v):aG iL (.sl c xs t) v:=by
 simp[aG]at a ⊢;refine⟨h.rf a.1,?_⟩;cases t with
 |no=>trivial
 |nil=>exact a.2
 |z=>exact a.2
 |id t=>
  obtain⟨d,e⟩:=a.2;refine⟨iv d h.bu,λf=>?_⟩;obtain⟨bI,b⟩:=h.bh t f;rcases e bI with ⟨p,q,r⟩|⟨g,cap,cur,p,q,r,s⟩
  .exact .inl ⟨p,b.trans q,r⟩
  .exact .inr ⟨g,cap,cur,p,b.trans q,by rw[h.w,h.el];exact r,s⟩
theorem nT.p(h:nT cN x iL){d f:D}{v:aD}(ar:Kl cN d=J f)(a:aG x d v):aG iL f v:=by
 unfold Kl at ar;split at ar
 .rename_i b o;split at ar
  .rename_i k g;simp at ar;subst ar;obtain⟨i,j⟩:=h.au b k g;simp[aG]at a ⊢;exact⟨i,by rw[j];exact a.2⟩
  .cases ar
 .split at ar
  .rename_i e;simp at ar;subst ar;cases d<;>simp[acV]at e
   case sl c xs t=>exact h.sl a
   all_goals simpa only[aG]using a
  .cases ar
theorem nT.dL(h:nT cN x iL):∀{az a:U D}{vs:U aD},wL cN az=J a->bl x az vs->bl iL a vs
 |[],a,vs,ar,aF=>by simp[wL]at ar;subst ar;simpa[bl]using aF
 |d::az,a,vs,ar,aF=>by
  simp[wL]at ar;split at ar
  .rename_i f aQ b c;simp at ar;subst ar;simp[bl]at aF ⊢;obtain⟨u,us,rfl,bc,e⟩:=aF;exact⟨u,us,rfl,h.p b bc,h.dL c e⟩
  .cases ar
theorem nT.d(h:nT cN x iL){d k:D}{v:aD}(ar:S0 cN d=J k)(a:aG x d v):aG iL k v:=by
 unfold S0 at ar;split at ar
 .split at ar
  .rename_i cs' g;exact adC
  .cases ar
 .split at ar
  .rename_i cs' g;exact adC
  .cases ar
 .split at ar
  .rename_i m i;split at ar
   .rename_i n;simp at ar;subst ar;simp only[aG]at a ⊢;obtain⟨_,vs,c,f⟩:=a;exact⟨n,vs,c,h.dL i f⟩
   .cases ar
  .cases ar
 .simp at ar;subst ar;simp[aG]at a ⊢;obtain⟨c,vs,f,q,r⟩:=a;exact⟨c,vs,f,q,λj e s=>by obtain⟨u,t,y⟩:=r j e s;exact⟨u,t,h.rf y⟩⟩
 .simp at ar;subst ar;simp[aG]at a ⊢;obtain⟨b,o,c,f⟩:=a;exact⟨b,o,c,λw' l=>f w' (by rw[h.w]at l;exact l.mono h.S)⟩
 .exact h.p ar a
theorem nT.l(h:nT cN x iL):∀{az a:U D}{vs:U aD},Az cN az=J a->bl x az vs->bl iL a vs
 |[],a,vs,ar,aF=>by simp[Az]at ar;subst ar;simpa[bl]using aF
 |d::az,a,vs,ar,aF=>by
  simp[Az]at ar;split at ar
  .rename_i f aQ b c;simp at ar;subst ar;simp[bl]at aF ⊢;obtain⟨u,us,rfl,bc,e⟩:=aF;exact⟨u,us,rfl,h.d b bc,h.l c e⟩
  .cases ar
theorem nT.b(h:nT cN x iL){K gw:dW}(e:Kz cN K=J gw)(m:kK x β K):kK iL β gw:=by
 unfold Kz at e;split at e
 .split at e
  .rename_i z r;split at e
   .rename_i bz;simp at e;subst e;obtain⟨_,vs,t,f,g⟩:=m;exact⟨bz,vs,t,by rw[h.w];exact f,h.l r g⟩
   .cases e
  .cases e
 .simp at e;subst e;cases K with|cells az=>rename_i s;exact absurd rfl (s az)|box c y=>obtain⟨o,vs,t,f,g,k⟩:=m;exact⟨o,vs,t,by rw[h.w];exact f,g,λj d ar=>by obtain⟨u,p,q⟩:=k j d ar;exact⟨u,p,h.rf q⟩⟩|row c n xs=>obtain⟨o,vs,t,f,g,k⟩:=m;exact⟨o,vs,t,by rw[h.w];exact f,g,λi y j d aE ar=>by obtain⟨u,p,q⟩:=k i y j d aE ar;exact⟨u,p,h.rf q⟩⟩|dyn c xs=>obtain⟨o,vs,t,f,g,k⟩:=m;exact⟨o,vs,t,by rw[h.w];exact f,g,λi y j d aE ar=>by obtain⟨u,p,q⟩:=k i y j d aE ar;exact⟨u,p,h.rf q⟩⟩|fb ty d=>obtain⟨⟨l,t,rfl⟩,a,v,f,g,k⟩:=m;exact⟨⟨l,t,rfl⟩,a,v,by rw[h.w];exact f,g,h.sl k⟩
end
theorem Lu{au:U (Nat×dW)}{yH:Ren}:∀{cN:Ren}{a:U (Nat×dW)},wH au yH cN=J a->∀k gw,bF a k=J gw->∃b K,(b,k)∈cN/\bF au b=J K/\Kz yH K=J gw
 |[],a,h,k,gw,bf=>by simp[wH]at h;subst h;simp[bF]at bf
 |(b,q)::cN,a,h,k,gw,bf=>by
  simp[wH]at h;split at h
  .rename_i K l al d;split at h
   .rename_i aDc e;simp at h;subst h;rw[gu]at bf;by_cases c:k=q
    .subst c;rw[if_pos rfl]at bf;simp at bf;subst bf;exact⟨b,K,jy,al,e⟩
    .rw[if_neg c]at bf;obtain⟨cu,aDd,f,g,i⟩:=Lu d k gw bf;exact⟨cu,aDd,mg _ f,g,i⟩
   .cases h
  .cases h
theorem abv{au:U (Nat×dW)}{yH:Ren}:∀{cN:Ren}{a:U (Nat×dW)},wH au yH cN=J a->∀b k,(b,k)∈cN->bF au b≠aj/\bF a k≠aj
 |[],a,h,b,k,hm=>by cases hm
 |(dp,q)::cN,a,h,b,k,hm=>by
  simp[wH]at h;split at h
  .rename_i K l al d;split at h
   .rename_i aDc g;simp at h;subst h;rw[gu];rcases hv.1 hm with hm|hm
    .simp at hm;obtain⟨rfl,rfl⟩:=hm;exact⟨by rw[al];simp,by simp⟩
    .obtain⟨e,f⟩:=abv d b k hm;refine⟨e,?_⟩;by_cases c:k=q
     .simp[c]
     .rw[if_neg c];exact f
   .cases h
  .cases h
theorem xo{au:U (Nat×dW)}{bh:U Nat}{t:Nat}(h:t∈RH au bh):t∈bh:=(List.mem_filter.1 h).1
theorem Bb{x:dn}:∀{az:U D}{us:U aD}(i k:Nat) (d:D),bl x az us->get (gf i az) k=J d->∃v,i<=k/\us[k-i]? = J v/\aG x d v
 |[],us,i,k,d,_,h=>by simp[gf,get]at h
 |e::az,us,i,k,d,aF,h=>by
  simp[bl]at aF;obtain⟨u,us,rfl,b,c⟩:=aF;simp[gf]at h;rw[k3]at h;by_cases a:k=i
  .subst a;simp at h;subst h;exact⟨u,bU _,by simp,b⟩
  .rw[if_neg a]at h;obtain⟨v,j,f,g⟩:=Bb (i+1) k d c h;refine⟨v,by omega,?_,g⟩;rw[show k-i=(k-(i+1))+1 by omega];simpa using f
theorem afw:∀{au:U (Nat×h9)}{k:Nat}{d:D},get (au.map λp=>(p.1,D.ptr p.1 0)) k=J d->d = .ptr k 0/\∃a,(k,a)∈au
 |[],k,d,h=>by simp[get]at h
 |(q,a)::au,k,d,h=>by
  simp at h;rw[k3]at h;by_cases c:k=q
  .subst c;simp at h;exact⟨h.symm,a,jy⟩
  .rw[if_neg c]at h;obtain⟨e,b,f⟩:=afw h;exact⟨e,b,mg _ f⟩
theorem Iu:∀{au:U (Nat×h9)}{k:Nat},(au.map (·.1)).contains k=ab->get (au.map λp=>(p.1,D.ptr p.1 0)) k=J (.ptr k 0)
 |[],k,h=>by simp at h
 |(q,pd)::au,k,h=>by
  simp;rw[k3];by_cases a:k=q
  .subst a;simp
  .rw[if_neg a];refine Iu (au:=au) ?_;simp only[hk,List.contains_cons,mK,beq_iff_eq]at h;exact h.resolve_left a
section
variable {R:Type}{ah:di}
def yY(nb:Nat)(a:ed):Act:=⟨((hg nb).map λk=>aD.pointer (J ⟨a.au k,0,aj⟩)).toArray,[]⟩
theorem XR{a:ed}(h:k<nb):(yY nb a).tmps[k]? = J (.pointer (J ⟨a.au k,0,aj⟩)):=by simp[yY,h]
variable{args:U D}{as_:U Act}{m:ed}{aM:bn}{st:bw}
theorem aoc(a9:nE aM=ab)(vK:yZ cN=ab)(Ct:∀p,p∈cN->p.2<aM.nb){hS:bw}(dm:sc aM cN args st=J hS)(aF:Rel ah m a as_ (aB st) w)(a2:bl (vx ah m (aB st) w) args vs) :
  ∃(s:ed) (f:di),f.P=ah.P/\f.el=ah.el/\f.cD=ah.cD/\f.ij=w/\(∀b k,iH cN b=J k->s.au k=m.au b)/\s.bh=m.bh/\(∀b i,f.gE b i->fF s (aB hS) b i)/\(∀b i,f.M b i↔((vx ah m (aB st) w).S b i/\∀j,¬fF s (aB hS) b j)) /\
   (∀b i,fF s (aB hS) b i->fF m (aB st) b i)/\Rel f s ⟨vs.toArray,[]⟩ [yY aM.nb s] (aB hS) w:=by
 unfold sc at dm;split at dm
 .rename_i cq bB c5 al;simp at dm;subst dm;let inv:Nat->Nat:=λk=>((cN.find? λp=>cp p.2 k).map (·.1)).getD 0;have a3:∀b k,(b,k)∈cN->inv k=b:=λb k hm=>by
   have cw:(cN.find? λp=>cp p.2 k).isSome=true:=by rw[List.find?_isSome];exact⟨(b,k),hm,Nat.beq_refl k⟩
   obtain⟨p,aW⟩:=Option.isSome_iff_exists.1 cw;have z:=List.mem_of_find?_eq_some aW;have u:=List.find?_some aW;have u:=dS u;simp[inv,aW];exact(O9 vK z hm).2 u
  let s:ed:=⟨λk=>m.au (inv k),m.bh⟩;let e0:FS:=aB ⟨I args,gf 0 cq,aM.nb,0,[ka aM],bB,aM.nb,RH bB st.bh,st.bu⟩;have a5:∀b k,iH cN b=J k->s.au k=m.au b:=λb k x=>by simp[s,a3 b k (FJ x)]
  have a4:∀k,e0.au k≠aj->∃b,(b,k)∈cN/\(aB st).au b≠aj/\s.au k=m.au b:=λk x=>by cases gK:bF bB k with|none=>exact absurd gK x|some gw=>obtain⟨b,K,z,u,_⟩:=Lu al k gw gK;exact⟨b,z,by show bF st.au b≠aj;rw[u];simp,by simp[s,a3 b k z]⟩
  have bE:∀b i,fF s e0 b i->fF m (aB st) b i:=by
   rintro b i (⟨k,x,rfl⟩|⟨t,o,z,u,bg⟩)
   .obtain⟨q,_,u,bg⟩:=a4 k x;exact .inl ⟨q,u,bg.symm⟩
   .exact .inr ⟨t,o,xo z,u,bg⟩
  let f:di:=⟨ah.P,w,fF s e0,λb i=>(vx ah m (aB st) w).S b i/\∀j,¬fF s e0 b j,ah.el,ah.cD⟩;have ja:∀b i,(vx f s e0 w).S b i->(vx ah m (aB st) w).S b i:=by
   rintro b i (h|h)
   .exact h.1
   .exact .inr (bE b i h)
  have gR:nT cN (vx ah m (aB st) w) (vx f s e0 w):=⟨rfl,rfl,ja,λb k x=>⟨Ct _ (FJ x),a5 b k x⟩,bU _,λt b'=>⟨xo b',rfl⟩⟩;have bG:=gR.l c5 a2;have bZ:I vs=I args:=a2.len;refine⟨s,f,rfl,rfl,rfl,rfl,a5,rfl,λ_ _ h=>h,λ_ _=>Iff.rfl,bE,?_⟩;show Rel f s ⟨vs.toArray,[]⟩ [yY aM.nb s] e0 w;simp only[nE,bN]at a9;obtain⟨⟨⟨_,b7⟩,_⟩,_⟩:=a9;refine⟨bM.refl _ _,⟨rfl,(by simpa using bZ:vs.toArray.size=I args),λk d x=>?_⟩,?_,bU _,cL _,λk gw x=>?_,λt b'=>?_,λb cu z u bg=>?_,λt t' g o dq z u=>aF.jm t t' g o dq (xo z) (xo u),λb t g o z u bg=>?_,λb i bO=>⟨(aF.own b i (bE b i bO)).1,.inl bO⟩,λb i j hm=>⟨?_,hm.2 j⟩,?_⟩
  .obtain⟨v,_,u,bg⟩:=Bb 0 k d bG x;exact⟨v,by simpa using u,bg⟩
  .refine⟨yY aM.nb s,[],rfl,cL _,cL _,⟨rfl,by simp[yY,ka],λk d x=>?_⟩,rfl⟩;obtain⟨rfl,pd,hm⟩:=afw x;have ac:k<aM.nb:=by have:=dH.1 b7 _ hm;simp at this;simpa using this.1
   exact⟨_,XR ac,by simp[aG];exact⟨ac,rfl⟩⟩
  .obtain⟨b,K,z,u,bg⟩:=Lu al k gw x;refine⟨Ct _ z,?_⟩;have e:s.au k=m.au b:=by simp[s,a3 b k z]
   rw[e];exact gR.b bg (aF.gp b K u).2
  .exact aF.mi t (xo b')
  .obtain⟨q,bc,ep,fr⟩:=a4 b z;obtain⟨alB,p1,p2,p3⟩:=a4 cu u;rw[fr,p3]at bg;exact(O9 vK bc p1).1 (aF.inj q alB ep p2 bg)
  .obtain⟨q,_,ep,fr⟩:=a4 b z;rw[fr];exact aF.h0 q t g o ep (xo u) bg
  .rcases hm.1 with h|h
   .have:=(aF.hN b i 0 h).1;exact iv this aF.fw.size
   .exact(aF.own b i h).1
  .exact⟨λg c xs ag i y aE w' hw=>aF.kT.1 g c xs ag i y aE w' (hw.mono ja),λg l bz=>by obtain⟨r,es,ct,bc,ep⟩:=aF.kT.2.1 g l bz;exact⟨r,es,ct,λw' hw=>bc w' (hw.mono ja),ep⟩,λg k x=>by obtain⟨n,bc⟩:=aF.kT.2.2 g k x;exact⟨n,λw' hw=>bc w' (hw.mono ja)⟩⟩
 .cases dm
theorem akt:∀{au:U (Nat×h9)}{E:U D}{k:Nat}{K:dW},bF (fG au E) k=J K->(au.map (·.1)).contains k=ab
 |[],E,k,K,h=>by simp[fG,bF]at h
 |(q,.cells l)::au,E,k,K,h=>by
  simp[fG]at h;rw[gu]at h;simp only[hk,List.contains_cons,mK,beq_iff_eq];by_cases a:k=q
  .exact .inl a
  .exact wa
 |(q,.one s)::au,[],k,K,h=>by
  simp[fG]at h;rw[gu]at h;simp only[hk,List.contains_cons,mK,beq_iff_eq];by_cases a:k=q
  .exact .inl a
  .exact wa
 |(q,.one s)::au,d::E,k,K,h=>by
  simp[fG]at h;rw[gu]at h;simp only[hk,List.contains_cons,mK,beq_iff_eq];by_cases a:k=q
  .exact .inl a
  .exact wa
 |(q,.fb _)::au,[],k,K,h=>by
  simp[fG]at h;rw[gu]at h;simp only[hk,List.contains_cons,mK,beq_iff_eq];by_cases a:k=q
  .exact .inl a
  .exact wa
 |(q,.fb _)::au,d::E,k,K,h=>by
  simp[fG]at h;rw[gu]at h;simp only[hk,List.contains_cons,mK,beq_iff_eq];by_cases a:k=q
  .exact .inl a
  .exact wa
 |(q,.i' _)::au,E,k,K,h=>by
  simp[fG]at h;rw[gu]at h;simp only[hk,List.contains_cons,mK,beq_iff_eq];by_cases a:k=q
  .exact .inl a
  .exact wa
 |(q,.hQ _ _ _)::au,E,k,K,h=>by
  simp[fG]at h;rw[gu]at h;simp only[hk,List.contains_cons,mK,beq_iff_eq];by_cases a:k=q
  .exact .inl a
  .exact wa
theorem apu(c:nE aM=ab){x:aw aM.cF}(ar:nW aM st=J x)(e:Rel ah m a as_ (aB st) w):rK aM.cF x:=by
 simp only[nE,bN]at c;obtain⟨⟨⟨_,d⟩,_⟩,_⟩:=c;unfold nW at ar;split at ar
 .rename_i A B O j l n _;obtain⟨oB,f,_⟩:=Lc (env:=st.env) e.env j;obtain⟨kc,g,_⟩:=uQ (x:=vx ah m (aB st) w) (m:=m.au) (tY:=st.au) (λb k o=>(e.gp b k o).2) l d;obtain⟨tF,i,_⟩:=KZ (env:=st.env) e.env n;have:=u7 (X:=vx ah m (aB st) w) (X':=⟨⟨m.au,λp=>(iX 0 aM.cF (A++(B++O)) p).bind m.bh⟩,λ_=>False,(vx ah m (aB st) w).S,w,0,I aM.cF,ah.el⟩) (λ_ _ h=>h) rfl rfl 0 ar (λt q=>(List.mem_filter.1 q).1) (f.append (g.append i)) (λp r=>by have:=(tp _ _ _ r).2;exact⟨by simpa using this,rfl⟩)
  exact C5 this
 .cases ar
theorem azi{vars:U (Nat×cA)}(h:l8 (vars.map (·.1)) (hg (I vars))=ab){s:cA}(b:vars[i]? = J (k,s)):k=i:=by have a:=congrArg (·[i]?) (M2 h);simp[ b]at a;rw[List.getElem?_range ((lN.1 b).1)]at a;simpa using a
theorem H1{tY:U (Nat×dW)}:∀{au:U (Nat×h9)}{B:U D},jt tY au=J B->∀p,p∈au->bF tY p.1≠aj
 |[],_,_,p,a=>by cases a
 |(dp,.cells l)::au,B,cr,p,a=>by
  simp[jt]at cr;split at cr
  .rename_i az es e b;rcases hv.1 a with rfl|a
   .rw[e];simp
   .exact H1 b p a
  .cases cr
 |(dp,.one s)::au,B,cr,p,a=>by
  simp[jt]at cr;split at cr
  .cases cr
  .rename_i k es _ f b;rcases hv.1 a with rfl|a
   .rw[f];simp
   .exact H1 b p a
  .cases cr
 |(dp,.fb t0)::au,B,cr,p,a=>by
  simp[jt]at cr;split at cr
  .rename_i t1 d es f b;rcases hv.1 a with rfl|a
   .rw[f];simp
   .exact H1 b p a
  .cases cr
 |(dp,.i' l)::au,B,cr,p,a=>by
  simp[jt]at cr;split at cr
  .rename_i az es e b;split at cr
   .rcases hv.1 a with rfl|a
    .rw[e];simp
    .simp at cr;subst cr;exact H1 b p a
   .cases cr
  .cases cr
 |(dp,.hQ l dC c)::au,B,cr,p,a=>by
  simp[jt]at cr;split at cr
  .rename_i az es e b;rcases hv.1 a with rfl|a
   .rw[e];simp
   .exact H1 b p a
  .cases cr
theorem zU{cN:Ren}{nb:Nat}:∀{au:U (Nat×h9)},(au.all λp=>Ax cN nb p.2)=ab->∀d,d∈kS au->∀b,b∈lH d->iH cN b=J b/\b<nb
 |[],_,d,ar=>by cases ar
 |(_,.cells _)::au,h,d,ar=>by simp only[fk,bN]at h;exact zU h.2 d ar
 |(_,.one _)::au,h,d,ar=>by simp only[fk,bN]at h;exact zU h.2 d ar
 |(_,.fb _)::au,h,d,ar=>by simp only[fk,bN]at h;exact zU h.2 d ar
 |(_,.i' l)::au,h,d,ar=>by
  simp only[fk,bN]at h;simp[kS,lx]at ar;rcases ar with ar|ar
  .intro b al;have a:=dH.1 (dH.1 h.1 d ar) b al;simp at a;refine⟨?_,by simpa[Nat.blt_eq]using a.2⟩;cases e:iH cN b with|none=>rw[e]at a;cases a.1|some k=>rw[e]at a;rw[dS a.1]
  .exact zU h.2 d ar
 |(_,.hQ l dC c)::au,h,d,ar=>by
  simp only[fk,bN]at h;simp[kS,hv]at ar;rcases ar with rfl|ar
  .intro b al;simp[lH]at al;subst al;have a:=h.1;simp[Ax,bN]at a;refine⟨?_,by simpa[Nat.blt_eq]using a.2⟩;cases e:iH cN b with|none=>rw[e]at a;cases a.1|some k=>rw[e]at a;rw[dS a.1]
  .exact zU h.2 d ar
theorem aqo{au:U (Nat×h9)}{d:D}{b:Nat}(ar:d∈kS au)(al:b∈lH d):b∈(kS au).flatMap lH:=List.mem_flatMap.2 ⟨d,ar,al⟩
theorem _R{env:Env}:∀{vars:U (Nat×cA)}{A:U D},qU env vars=J A->I A=I vars
 |[],A,h=>by simp[qU]at h;subst h;rfl
 |p::vars,A,h=>by
  simp[qU]at h;split at h
  .rename_i d az _ a;simp at h;subst h;simp[_R a]
  .cases h
variable{bL:bn}
theorem V4{F:aw aM.cF->ae (aw bL.cF)}(h:fX ah.P ah.el ah.cD g aM bL F)(eM:yi aM bL=ab){K:U D->bw->ae R}{r:R}(ao:cT aM bL F args st K=J r):xR ah g args st K r:=by
 simp only[yi,bN]at eM;obtain⟨⟨⟨⟨⟨⟨⟨⟨⟨⟨fJ,f_⟩,kh⟩,L9⟩,yf⟩,aFo⟩,yg⟩,aFp⟩,pY⟩,pZ⟩,p0⟩:=eM;have yf:=dS yf;refine⟨h.enters,λm a as_ w vs aF eX=>?_⟩;unfold cT at ao;generalize jT (gf 0 args) aM.fix=cN at ao;split at ao
 .rename_i hS vK dm;simp only[bN]at vK;obtain⟨⟨vK,Ct⟩,aD1⟩:=vK;have Ct:∀p,p∈cN->p.2<aM.nb:=λp aW=>by simpa[Nat.blt_eq]using dH.1 Ct p aW
  split at ao
  .rename_i x ag;cases fC:F x with
   |none=>rw[fC]at ao;cases ao
   |some nt=>
    rw[fC,bA]at ao;obtain⟨yj,bG,de,eH,gy,pg,cq,gF,vJ,gL,ct,cM⟩:=aoc fJ vK Ct dm aF eX;obtain⟨p4,a9⟩:=cM.Vi fJ ag;have cV:hS.cx=[ka aM]/\(∀t,t∈hS.bh->t∈st.bh)/\∀b k,(b,k)∈cN->bF hS.au k≠none:=by
     unfold sc at dm;split at dm
     .rename_i p5 hq c5 al;simp[dN]at dm;subst dm;exact⟨rfl,λt b'=>xo b',λb k hm=>(abv al b k hm).2⟩
     .cases dm
    rw[cV.1]at a9;refine(h.run x nt fC (apu fJ ag cM) bG p4 vs _ w de eH gy a9).mono ?_;rintro dJ w' ⟨us,c_,jc,rfl,iZ,bE,l⟩;have iK:∀k,(aM.au.map (·.1)).contains k=ab->jc.au k=yj.au k:=λk bf=>by
     rw[iZ k bf];have cb:=a9.jI;have e:(aB (iF aM [ka aM] x)).cx=[ka aM]:=by unfold iF;split;rfl
     rw[e]at cb;obtain⟨ca,alH,he,_,_,jF,_⟩:=cb;simp[mL]at he;obtain⟨rfl,_⟩:=he;obtain⟨v,en,dk⟩:=jF.get k _ (Iu bf);have db:k<aM.nb:=by simp only[List.contains_iff_mem,List.mem_map]at bf;obtain⟨p,aW,rfl⟩:=bf;simp only[nE,bN]at fJ;have:=dH.1 fJ.1.1.2 p aW;simp[bN]at this;simpa[Nat.blt_eq]using this.1
     rw[XR db]at en;simp[dN]at en;subst en;simp only[aG,aD.pointer.injEq,dN,Addr.mk.injEq]at dk;exact dk.2.1.symm
    simp only[nE,bN]at f_;obtain⟨⟨⟨_,ke⟩,_⟩,_⟩:=f_;unfold nW at bE;split at bE
    .rename_i A B O mQ n4 yb jY;obtain⟨oB,mO,nj⟩:=Lc (env:=c_.env) l.env mQ;obtain⟨kc,n1,ap⟩:=uQ (x:=vx bG jc (aB c_) w') (m:=jc.au) (tY:=c_.au) (λb k bf=>(l.gp b k bf).2) n4 ke;obtain⟨tF,be,_⟩:=KZ (env:=c_.env) l.env yb;obtain⟨pd,q7⟩:=Ih st.bu bE;have dv:∀t,t∈(c_.bh.filter λt=> !bL.bh.contains t)->t∈c_.bh:=λt b'=>(List.mem_filter.1 b').1;let E:=eK st.bu bL.cF nt;let yl:=fG bL.au (E.drop (I bL.vars));let aS:bw:={ st with au:=oW cN yl st.au,bh:=dw st.bu bL.cF++st.bh.filter (λt=> !(hS.bh).contains t),bu:=st.bu+I bL.cF };let a6:ed:=⟨m.au,λt=>if t<st.bu then m.bh t else(iX st.bu bL.cF (A++(B++O)) t).bind jc.bh⟩;have dI:bM bG.gE w w':=by have:=l.fw;rw[pg]at this;exact this
     have eY:bM (fF m (aB st)) w w':=dI.mono λb i bO=>ct b i (vJ b i bO);have a4:∀t,t∈dw st.bu bL.cF++st.bh.filter (λt=> !(hS.bh).contains t)->(t∈st.bh/\t∉hS.bh/\t<st.bu/\a6.bh t=m.bh t)\/(st.bu<=t/\t<st.bu+I bL.cF/\a6.bh t=(iX st.bu bL.cF (A++(B++O)) t).bind jc.bh):=λt b'=>by
      simp[lx,List.mem_filter]at b';rcases b' with b'|⟨b',ck⟩
      .obtain⟨c,f⟩:=tp _ _ _ b';exact .inr ⟨c,f,by simp[a6,Nat.not_lt.2 c]⟩
      .have db:t<st.bu:=aF.mi t b';refine .inl ⟨b',λhm=>?_,db,by simp[a6,db]⟩;simp[hm]at ck
     have z:∀t g o,st.bu<=t->a6.bh t=J (g,o)->∃t1,iX st.bu bL.cF (A++(B++O)) t=J t1/\t1∈c_.bh/\jc.bh t1=J (g,o):=λt g o bv cr=>by simp[a6,if_neg (Nat.not_lt.2 bv)]at cr;cases c5:iX st.bu bL.cF (A++(B++O)) t with|none=>rw[c5]at cr;cases cr|some t1=>rw[c5,bA]at cr;exact⟨t1,rfl,dv _ (pd t t1 c5).1,cr⟩
     have ek:∀b i,fF yj (aB hS) b i->(∃q k,(q,k)∈cN/\bF st.au q≠aj/\b=m.au q)\/∃t o,t∈hS.bh/\m.bh t=J (b,o):=by
      rintro b i (⟨k,bf,rfl⟩|⟨t,o,c,f,u⟩)
      .unfold sc at dm;split at dm
       .rename_i p5 hq c5 al;simp[dN]at dm;subst dm;cases gK:bF hq k with|none=>exact absurd gK bf|some gw=>obtain⟨q,K,bc,y,_⟩:=Lu al k gw gK;obtain⟨fg,ac⟩:=Qd bc;have sg:fg = k:=(O9 vK (FJ ac) bc).1 rfl;rw[sg]at ac;exact .inl ⟨q,k,bc,by rw[y];simp,cq q k ac⟩
       .cases dm
      .rw[gF]at f;exact .inr ⟨t,o,c,f⟩
     have a5:∀b,bF st.au b≠aj->iH cN b=aj->∀i,¬fF yj (aB hS) (m.au b) i:=λb al bz i bO=>by
      rcases ek _ _ bO with ⟨q,k,bc,y,fr⟩|⟨t,o,bc,y⟩
      .have:=aF.inj b q al y fr;subst this;obtain⟨fg,ac⟩:=Qd bc;rw[bz]at ac;cases ac
      .exact aF.h0 b t _ _ al (cV.2.1 t bc) y rfl
     have a2:∀t g o,t∈st.bh->t∉hS.bh->m.bh t=J (g,o)->∀i,¬fF yj (aB hS) g i:=λt g o b' ck cr i bO=>by
      rcases ek _ _ bO with ⟨q,k,bc,y,fr⟩|⟨t',dq,bc,y⟩
      .exact aF.h0 q t g o y b' cr fr.symm
      .exact ck (aF.jm t t' g o dq b' (cV.2.1 t' bc) cr y▸bc)
     have cS:∀b,b<w.heap.size->(∀i,¬fF yj (aB hS) b i)->w'.heap[b]? = w.heap[b]? :=λb al ck=>dI.block b al λi bO=>ck i (vJ b i bO);have cZ:∀b k K,iH cN b=J k->bF yl k=J K->(bL.au.map (·.1)).contains k=ab/\jc.au k=m.au b:=λb k K bz gK=>by
      have c:=akt gK;refine⟨c,?_⟩;have f:(aM.au.map (·.1)).contains k=true:=by simp only[List.contains_iff_mem,List.mem_map]at c;obtain⟨p,aW,rfl⟩:=c;exact dH.1 pZ p aW
      rw[iK k f,cq b k bz]
     have bZ:∀b K,bF (oW cN yl st.au) b=J K->(iH cN b=aj/\bF st.au b=J K)\/∃k,iH cN b=J k/\bF st.au b≠aj/\bF yl k=J K:=λb K gK=>by
      rw[Qs]at gK;cases bz:iH cN b with
      |none=>rw[bz]at gK;exact .inl ⟨rfl,gK⟩
      |some k=>
       rw[bz]at gK;simp only at gK;split at gK
       .rename_i cw;exact .inr ⟨k,rfl,by cases bV:bF st.au b with|none=>rw[bV]at cw;cases cw|some _=>simp,gK⟩
       .cases gK
     have a3:∀b,(aB aS).au b≠aj->bF st.au b≠none:=λb al=>by
      cases gK:bF (oW cN yl st.au) b with
      |none=>exact absurd gK al
      |some K=>
       rcases bZ b K gK with ⟨_,f⟩|⟨_,_,f,_⟩
       .rw[f];simp
       .exact f
     have am:kP ((bL.au.map (·.2.cF)).flatten++uF bL.lR) (E.drop (I bL.vars)):=by have nY:=I_ st.bu bL.cF nt;simp[bn.cF]at nY;have nZ:=nY.split.2;simp[List.length_map]at nZ;exact nZ
     have ev:∀b i,fF a6 (aB aS) b i->fF m (aB st) b i\/∃t1 o,t1∈c_.bh/\jc.bh t1=J (b,o)/\o<=i:=by
      rintro b i (⟨q,bV,rfl⟩|⟨t,o,c,f,u⟩)
      .exact .inl (.inl ⟨q,a3 q bV,rfl⟩)
      .rcases a4 t c with ⟨bc,_,_,kj⟩|⟨bc,_,_⟩
       .rw[kj]at f;exact .inl (.inr ⟨t,o,bc,f,u⟩)
       .obtain⟨t1,_,p2,p3⟩:=z t b o bc f;exact .inr ⟨t1,o,p2,p3,u⟩
     have b7:∀t1 b o,t1∈c_.bh->jc.bh t1=J (b,o)->b<w'.heap.size/\(fF m (aB st) b o\/w.heap.size<=b):=λt1 b o c f=>by obtain⟨bc,y⟩:=l.own b o (.inr ⟨t1,o,c,f,bU _⟩);rw[pg]at y;exact⟨bc,y.imp (λh=>ct b o (vJ b o h)) id⟩
     have bB:∀t1 b o,t1∈c_.bh->jc.bh t1=J (b,o)->bG.gE b o\/w.heap.size<=b:=λt1 b o c f=>by obtain⟨_,y⟩:=l.own b o (.inr ⟨t1,o,c,f,bU _⟩);rw[pg]at y;exact y
     have up:∀b o i,fF m (aB st) b o->o<=i->fF m (aB st) b i:=by
      rintro b o i (⟨q,bV,rfl⟩|⟨t,dq,c,f,u⟩) nk
      .exact .inl ⟨q,bV,rfl⟩
      .exact .inr ⟨t,dq,c,f,fV u nk⟩
     have eN:fI (vx ah m (aB st) w) (vx ah a6 (aB aS) w'):=by
      refine⟨eY.mono λb i bO=>.inr bO,?_,rfl,λ_ _=>rfl,bU _,Nat.le_add_right _ _,λt b' c5=>?_⟩
      .rintro b i (hm|cb)
       .exact .inl (.inl hm)
       .rcases ev b i cb with h|⟨t1,o,c,f,u⟩
        .exact .inl (.inr h)
        .rcases(b7 t1 b o c f).2 with h|h
         .exact .inl (.inr (up b o i h u))
         .exact .inr h
      .have b':t<st.bu:=b';rcases a4 t c5 with ⟨bc,y,_,kj⟩|⟨bc,_,_⟩
       .exact⟨bc,kj,λg o cr=>cS g (aF.lS bc cr) (a2 t g o bc y cr)⟩
       .omega
     have ja:∀b i,(vx ah a6 (aB aS) w').S b i->(vx bG jc (aB c_) w').S b i:=by
      rintro b i (hm|cb)
      .exact .inl ((gL b i).2 ⟨.inl hm,λj dh=>aF.Cr hm (ct b j dh)⟩)
      .rcases cb with ⟨q,bV,rfl⟩|⟨t,o,c,f,u⟩
       .cases bz:iH cN q with
        |none=>exact .inl ((gL _ i).2 ⟨.inr (.inl ⟨q,a3 q bV,rfl⟩),a5 q (a3 q bV) bz⟩)
        |some k=>
         cases gK:bF (oW cN yl st.au) q with
         |none=>exact absurd gK bV
         |some K=>
          rcases bZ q K gK with ⟨c,_⟩|⟨fg,c,_,u⟩
          .rw[bz]at c;cases c
          .rw[bz]at c;simp[dN]at c;subst c;obtain⟨bc,y⟩:=cZ q k K bz u;refine .inr (.inl ⟨k,?_,y⟩);simp only[List.contains_iff_mem,List.mem_map]at bc;obtain⟨p,aW,rfl⟩:=bc;exact H1 n4 p aW
       .rcases a4 t c with ⟨bc,y,_,kj⟩|⟨bc,_,_⟩
        .rw[kj]at f;exact .inl ((gL b i).2 ⟨.inr (.inr ⟨t,o,bc,f,u⟩),a2 t b o bc y f⟩)
        .obtain⟨t1,_,p2,p3⟩:=z t b o bc f;exact .inr (.inr ⟨t1,o,p2,p3,u⟩)
     have dp:bl (vx ah a6 (aB aS) w') E (oB++(kc++tF)):=u7 (X:=vx bG jc (aB c_) w') (X':=vx ah a6 (aB aS) w') ja rfl eH.symm st.bu bE (λt b'=>dv t b') (mO.append (n1.append be)) (λp aW=>by obtain⟨bc,y⟩:=tp _ _ _ aW;exact⟨y,by simp[vx,a6,Nat.not_lt.2 bc]⟩)
     have e8:∀d,d∈kS bL.au->∀b,b∈lH d->(vx ah a6 (aB aS) w').m.au b=(vx bG jc (aB c_) w').m.au b/\b<(vx ah a6 (aB aS) w').nb:=λd ar b al=>by obtain⟨bc,y⟩:=zU aD1 d ar b al;refine⟨?_,y⟩;show m.au b=jc.au b;rw[iK b (dH.1 p0 b (aqo ar al)),cq b b bc]
     have n0:I oB=I bL.vars:=by have c:=mO.len;have:=_R mQ;omega
     obtain⟨mn,gY⟩:=dp.take;rw[n0]at mn gY;have bi:I kc=I ((bL.au.map (·.2.cF)).flatten):=by have bc:=gY.len;have y:=am.len;have fr:=be.len;have kj:=TM yb;simp only[e7]at bc y;omega
     obtain⟨lT,Gc⟩:=gY.take;rw[bi]at lT Gc;have n2:I us=bL.n:=by have:=l.env.size;simp[List.size_toArray]at this;simp only[bN]at jY;have f:c_.n=bL.n:=dS jY.1.1.1.2;have u:(aB c_).n=c_.n:=rfl;omega
     have dC:bL.n=I bL.vars->oB=us:=by
      intro ck;apply List.ext_getElem?;intro i;by_cases bO:i<I bL.vars
      .obtain⟨⟨k,s⟩,ak9⟩:∃p,bL.vars[i]? = J p:=⟨_,ic bO⟩;obtain⟨v,u,cB⟩:=nj i k s ak9;rw[azi pY ak9]at cB;rw[u];simpa using cB.symm
      .rw[List.getElem?_eq_none af,List.getElem?_eq_none af]
     refine⟨_,rfl,_,_,a6,ao,⟨rfl,rfl,rfl,rfl,rfl⟩,aF.step (s':=aB aS) rfl rfl rfl rfl rfl eY eN ?_ ?_ ?_ ?_ ?_ ?_,?_⟩
     .intro b gw gK;rcases bZ b gw gK with ⟨c,f⟩|⟨k,c,f,u⟩
      .obtain⟨bc,y⟩:=aF.gp b gw f;have pc:bF st.au b≠none:=by rw[f];simp
       exact⟨bc,y.later eN (cS _ (aF.n9 (b:=b) pc) (a5 b pc c))⟩
      .obtain⟨bc,_,_⟩:=ap (vx ah a6 (aB aS) w') _ ⟨rfl,eH.symm⟩ e8 am.split.1 lT k gw (by rw[u2];exact u);rw[(cZ b k gw c u).2]at bc;cases bV:bF st.au b with|none=>exact absurd bV f|some aDb=>exact⟨(aF.gp b aDb bV).1,bc⟩
     .intro t b';rcases a4 t b' with ⟨_,_,q,_⟩|⟨_,q,_⟩
      .show t<st.bu+I bL.cF;omega
      .exact q
     .exactλb cu c f u=>aF.inj b cu (a3 b c) (a3 cu f) u
     .intro t t' g o dq c f u cB;rcases a4 t c with ⟨bc,y,fr,kj⟩|⟨bc,_,_⟩<;>rcases a4 t' f with ⟨p1,p2,p3,ki⟩|⟨p1,_,_⟩
      .rw[kj]at u;rw[ki]at cB;exact aF.jm t t' g o dq bc p1 u cB
      .rw[kj]at u;obtain⟨t1,_,s2,sx⟩:=z t' g dq p1 cB;rcases bB t1 g dq s2 sx with h|h
       .exact absurd (vJ g dq h) (a2 t g o bc y u dq)
       .have:=aF.lS bc u;omega
      .rw[ki]at cB;obtain⟨t1,_,s2,sx⟩:=z t g o bc u;rcases bB t1 g o s2 sx with h|h
       .exact absurd (vJ g o h) (a2 t' g dq p1 p2 cB o)
       .have:=aF.lS p1 cB;omega
      .obtain⟨t1,s1,s2,sx⟩:=z t g o bc u;obtain⟨t2,sD,ny,aEY⟩:=z t' g dq p1 cB;have:=l.jm t1 t2 g o dq s2 ny sx aEY;subst this;exact q7 t t' t1 s1 sD
     .intro b t g o c f u;have al:=a3 b c;show m.au b≠g;rcases a4 t f with ⟨bc,_,_,kj⟩|⟨bc,_,_⟩
      .rw[kj]at u;exact aF.h0 b t g o al bc u
      .obtain⟨t1,_,s2,sx⟩:=z t g o bc u;intro e;cases bz:iH cN b with
       |none=>
        rcases bB t1 g o s2 sx with h|h
        .rw[<-e]at h;exact a5 b al bz o (vJ _ o h)
        .have:=aF.n9 (b:=b) al;omega
       |some k=>
        cases gK:bF (oW cN yl st.au) b with
        |none=>exact absurd gK c
        |some K=>
         rcases bZ b K gK with ⟨dE,_⟩|⟨fg,dE,_,eI⟩
         .rw[bz]at dE;cases dE
         .rw[bz]at dE;simp[dN]at dE;subst dE;obtain⟨_,ny⟩:=cZ b k K bz eI;obtain⟨_,aEZ,_⟩:=ap (vx ah a6 (aB aS) w') _ ⟨rfl,eH.symm⟩ e8 am.split.1 lT k K (by rw[u2];exact eI);exact l.h0 k t1 g o aEZ s2 sx (ny.trans e)
     .intro b i cb;rcases ev b i cb with h|⟨t1,o,c,f,u⟩
      .exact⟨iv (aF.own b i h).1 eY.size,.inl h⟩
      .obtain⟨bc,y⟩:=b7 t1 b o c f;exact⟨bc,y.imp (λh=>up b o i h u) id⟩
     .cases al:cp bL.n (I bL.vars) with|true=>rw[<-dC (dS al)];exact BE mn|false=>exact(show aG _ .tP _ by simp[aG])
    .cases bE
  .cases ao
 .cases ao
def l5(aM bL:bn)(F:aw aM.cF->ae (aw bL.cF))(args:U D)(st:bw)(K:D->U Nat->bw->ae R):ae R:=cT aM bL F args st λrs aS=>K (iU rs) ((jT (gf 0 args) aM.fix).map (·.1)) aS
def wT(st:bw):bw:=⟨0,[],0,0,[],st.au,st.nb,st.bh,st.bu⟩
theorem Zn(aM bL:bn)(F:aw aM.cF->ae (aw bL.cF))(args:U D)(st:bw)(K:U D->bw->ae R):cT aM bL F args st K=(cT aM bL F args (wT st) λrs aS=>J (rs,aS)).bind λx=>K x.1 { st with au:=x.2.au,bh:=x.2.bh,bu:=x.2.bu }:=by
 unfold cT;have e:∀ cN,sc aM cN args (wT st)=sc aM cN args st:=λ_=>rfl;rw[e];show(match(yZ (jT (gf 0 args) aM.fix)&&(jT (gf 0 args) aM.fix).all (λp=>eU p.2 aM.nb)&&bL.au.all (λp=>Ax (jT (gf 0 args) aM.fix) st.nb p.2)),sc aM (jT (gf 0 args) aM.fix) args st with|true,J hS=>_|_,_=>_)=(match(yZ (jT (gf 0 args) aM.fix)&&(jT (gf 0 args) aM.fix).all (λp=>eU p.2 aM.nb)&&bL.au.all (λp=>Ax (jT (gf 0 args) aM.fix) st.nb p.2)),sc aM (jT (gf 0 args) aM.fix) args st with|true,J hS=>_|_,_=>_:ae (U D×bw)).bind _;cases (yZ (jT (gf 0 args) aM.fix)&&(jT (gf 0 args) aM.fix).all (λp=>eU p.2 aM.nb)&&bL.au.all (λp=>Ax (jT (gf 0 args) aM.fix) st.nb p.2))with
 |false=>rfl
 |true=>
  cases sc aM (jT (gf 0 args) aM.fix) args st with
  |none=>rfl
  |some hS=>
   simp only;cases nW aM hS with
   |none=>rfl
   |some x=>simp only;cases F x with|none=>rfl|some r=>rfl
theorem aCq{s:FS}(f:hx s (aB st))(c:Rel ah m a as_ s w):∃e1:bw,aB e1=s/\wT e1=wT st:=by
 have key:∀(n dU k:Nat),get ((j4 dU n).filterMap λk=>(s.env k).map λd=>(k,d)) k=if dU<=k/\k<dU+n then s.env k else none:=by
  intro n;induction n with
  |zero=>intro dU k;simp only[List.range'_zero,List.filterMap_nil,get];rw[if_neg af]
  |succ n e=>
   intro dU k;rw[List.range'_succ,List.filterMap_cons];cases ar:s.env dU with
   |none=>
    simp[Option.map_none];rw[e];by_cases b:k=dU
    .subst b;rw[if_neg af,if_pos af,ar]
    .by_cases h:dU<=k/\k<dU+(n+1)
     .rw[if_pos h,if_pos af]
     .rw[if_neg h,if_neg af]
   |some d=>
    simp[q5,k3];rw[e];by_cases b:k=dU
    .subst b;rw[if_pos rfl,if_pos af,ar]
    .rw[if_neg b];by_cases h:dU<=k/\k<dU+(n+1)
     .rw[if_pos h,if_pos af]
     .rw[if_neg h,if_neg af]
 refine⟨⟨s.n,(j4 0 s.n).filterMap λk=>(s.env k).map λd=>(k,d),s.c7,s.lt,s.cx,st.au,st.nb,st.bh,st.bu⟩,?_,rfl⟩;obtain⟨g,i,j,l⟩:=f;refine FS.eq rfl ?_ rfl rfl rfl g.symm i.symm j.symm l.symm;funext k;show get _ k=s.env k;rw[key];by_cases b : 0<=k/\k<0+s.n
 .rw[if_pos b]
 .rw[if_neg b];cases ar:s.env k with|none=>rfl|some d=>obtain⟨v,o,_⟩:=c.env.get k d ar;have p:=(hZ.1 o).1;rw[c.env.size]at p;omega
theorem aBN{F:aw aM.cF->ae (aw bL.cF)}(h:fX ah.P ah.el ah.cD g aM bL F)(i:yi aM bL=ab):pP (R:=R) ah g (l5 aM bL F):=by
 intro args st K r ao;have y:=ao;unfold l5 at ao;rw[Zn]at ao;cases ag:cT aM bL F args (wT st) λrs aS=>J (rs,aS)with
 |none=>rw[ag]at ao;cases ao
 |some x=>
  obtain⟨rs,d⟩:=x;rw[ag]at ao;simp at ao;have c:∀b,b∉(jT (gf 0 args) aM.fix).map (·.1)->bF d.au b=bF st.au b:=by
   unfold cT at ag;split at ag
   .split at ag
    .rename_i iL z;cases n:F iL with
     |none=>rw[n]at ag;cases ag
     |some nt=>rw[n,bA]at ag;simp at ag;obtain⟨_,rfl⟩:=ag;intro b al;show bF (oW _ _ st.au) b=_;rw[Qs];cases bz:iH (jT (gf 0 args) aM.fix) b with|none=>rfl|some k=>exact absurd (List.mem_map.2 ⟨(b,k),FJ bz,rfl⟩) al
    .cases ag
   .cases ag
  refine⟨_,_,_,ao,⟨rfl,rfl,rfl,rfl,rfl⟩,bU _,λb al=>⟨λk j=>(c b al).trans j,λk j _=>(c b al).symm.trans j⟩,h.enters,λs m a as_ w vs gS o e=>?_⟩;obtain⟨e1,f,p⟩:=aCq gS o;have aZ:cT aM bL F args e1 (λrs aS=>J (rs,aS))=J (rs,{ e1 with au:=d.au,bh:=d.bh,bu:=d.bu }):=by rw[Zn,p,ag];rfl
  have bg:=(V4 h i aZ).2 m a as_ w vs (by rw[f];exact o) (by rw[f];exact e);refine bg.mono ?_;rintro dJ w' ⟨v,fJ,a2,aS,a6,q,_,t,u⟩;simp at q;obtain⟨rfl,rfl⟩:=q;have gy:aB { e1 with au:=d.au,bh:=d.bh,bu:=d.bu }=ho (aB { st with au:=d.au,bh:=d.bh,bu:=d.bu }) s:=by
   have l:(wT e1).nb=(wT st).nb:=by rw[p]
   refine FS.eq ?_ ?_ ?_ ?_ ?_ rfl l rfl rfl
   .rw[<-f];rfl
   .rw[<-f];rfl
   .rw[<-f];rfl
   .rw[<-f];rfl
   .rw[<-f];rfl
  rw[gy]at t u;exact⟨v,fJ,a6,t,u⟩
end
abbrev pG(aM bL:bn):=aw aM.cF->ae (aw bL.cF)
section
variable {R:Type}
def ajU(a:U cA)(st:bw)(rs:U D)(K:U D->bw->ae R):ae R:=match a with|[]=>K rs st|_::_=>qk a st rs K
variable{as_:U Act}{ah:di}{m:ed}{st:bw}
theorem azy{r:R}{K:U D->bw->ae R}(c:Rel ah m a as_ (aB st) w)(ar:bl (vx ah m (aB st) w) az vs)(h:ajU b3 st az K=J r):∃b aS a6,K b aS = J r/\Rel ah a6 a as_ (aB aS) w/\fI (vx ah m (aB st) w) (vx ah a6 (aB aS) w)/\bl (vx ah a6 (aB aS) w) b vs:=by cases b3 with|nil=>exact⟨az,st,m,h,c,⟨bM.refl _ _,λ_ _ h=>.inl h,rfl,λ_ _=>rfl,bU _,bU _,λt _ d=>⟨d,rfl,λ_ _ _=>rfl⟩⟩,ar⟩|cons s l=>exact I0 c ar h
def D0(px:aR R)(fn:Func)(aM bL:bn)(x:aw aM.cF)(fin:aw bL.cF->ae R):ae R:=match fn.body with
 |some c=>ll px c { iF aM [ka aM] x with n:=fn.ntmps } λe st=>match e with
  |.exit _=>aj
  |_=>match results px st fn.results.toList with
   |some rs=>ajU (bL.vars.map (·.2)) st rs λa aS=>match nW bL { aS with n:=I a,env:=gf 0 a }with|some r=>fin r|none=>aj
   |none=>aj
 |none=>aj
theorem ay9(aM:bn)(cx:U Fr)(x:aw aM.cF):(iF aM cx x).n=aM.n:=by unfold iF;rfl
theorem ad8(aM:bn)(cx:U Fr)(x:aw aM.cF):(iF aM cx x).cx=cx:=by unfold iF;rfl
variable{aM:bn}
theorem apr{a6:ed}{s s':FS}{ez:Act}{c7 lt c d:Nat}(h:pz (vx ah m s w) c7 lt [ka aM] [ez])(j:pz (vx ah a6 s' w') c d [ka aM] [ez])(g:(aM.au.map (·.1)).contains k=ab):a6.au k=m.au k/\k<c:=by obtain⟨a,r,e,_,_,l,_⟩:=h;obtain⟨rfl,_⟩:=e;obtain⟨ca,u,n,_,_,o,_⟩:=j;obtain⟨rfl,_⟩:=n;obtain⟨v,p,q⟩:=l.get k _ (Iu g);obtain⟨x,b,f⟩:=o.get k _ (Iu g);rw[p]at b;simp at b;subst b;obtain⟨_,rfl⟩:=q;obtain⟨t,i⟩:=f;simp only[aD.pointer.injEq,dN,Addr.mk.injEq]at i;exact⟨i.1.symm,t⟩
variable{bL:bn}
theorem azX{px:aR (aw bL.cF)}{F:pG aM bL}(cb:P.funcs[f]? = J fn)(al:fn.body=J c)(q:(fn.name == "runtime.NumGoroutine")=ai)(hm:P.follows .mixedOrders=ab)(j:(lg fn.ntmps c&&eF aM.n fn.ntmps)=ab)
  (a2:∀ah:di,ah.P=P->ah.el=el->ah.cD=cD->gx ah px/\lG ah px/\mv ah px/\∀b,b∈jg c->hX ah px b) (fC:∀x,D0 px fn aM bL x J=F x):fX P el cD f aM bL F:=by
 refine⟨av.enters_of cb (by rw[al];rfl) q,λx r ag _ ah m vs ez w de eH gy i=>?_⟩;subst de eH gy;simp only[bN]at j;have hle:aM.n<=fn.ntmps:=Nat.le_of_ble_eq_true j.2;have bE:I vs=aM.n:=by have:=i.env.size;have e:(aB (iF aM [ka aM] x)).n=aM.n:=ay9 aM [ka aM] x;rw[e]at this;simpa using this
 have t:Rel ah m { tmps:=vs.toArray++Array.replicate (fn.ntmps-vs.toArray.size) undef,defers:=[] } [ez] (aB { iF aM [ka aM] x with n:=fn.ntmps }) w:=by
  refine⟨i.fw,⟨rfl,?_,λk d h=>?_⟩,i.jI,i.c7,i.lt,i.gp,i.mi,i.inj,i.jm,i.h0,i.own,i.hN,i.kT⟩
  .show _=fn.ntmps;simp;omega
  .obtain⟨v,z,bg⟩:=i.env.get k d h;refine⟨v,?_,bg⟩;have a3:k<I vs:=by simpa using (hZ.1 z).1
   simp only[Array.getElem?_append,List.size_toArray,a3];exact z
 rw[<-fC]at ag;unfold D0 at ag;rw[al]at ag;simp only at ag;obtain⟨aY,z,bg,cB⟩:=a2 ah rfl rfl rfl;refine calls_of_wp cb al (qx aY z bg hm c _ _ r j.1 cB ag _ m _ [ez] w t ?_);intro e aS a6 ca w' h s g;have a4:(aB aS).cx=[ka aM]:=s.2.trans (ad8 aM [ka aM] x);have u:(aB (iF aM [ka aM] x)).cx=[ka aM]:=ad8 aM [ka aM] x;cases e
 case exit=>cases h
 all_goals
  simp only at h;split at h
  .rename_i bG a5;obtain⟨us,p,o⟩:=Ev aY g a5;obtain⟨rs,e1,kW,h,a,eN,l⟩:=azy g o h;split at h
   .rename_i alH bB;simp at h;subst h;refine⟨g.env.defers,av.oN us,?_,us,_,kW,rfl,λk h=>?_,bB,?_⟩
    .obtain⟨vU⟩:∃vU,fn.results=List.toArray vU:=⟨fn.results.toList,by simp⟩;rename_i y;rw[av.Mh,y];rw[y]at p;simp only[List.mapM_toArray,e3,map_eq_pure_bind,p];congr 1;match us with|[]=>rfl|[v]=>rfl|_::_::_=>simp[av.oN]
    .have bc:=i.jI;have ep:=g.jI;rw[u]at bc;rw[a4]at ep;obtain⟨fr,kj⟩:=apr bc ep h;exact(eN.au k (iv kj g.c7)).trans fr
    .have ck:I us=I rs:=l.len;refine⟨a.fw,⟨rfl,(by simpa using ck:us.toArray.size=I rs),λk d h=>?_⟩,a.jI,a.c7,a.lt,a.gp,a.mi,a.inj,a.jm,a.h0,a.own,a.hN,a.kT⟩;obtain⟨v,_,p2,p3⟩:=Bb 0 k d l h;exact⟨v,by simpa using p2,p3⟩
   .cases h
  .cases h
theorem aop{px:aR (aw bL.cF)}{F:pG aM bL}{n:Nat}(e:P.funcs[f]? = J fn)(al:fn.body=J c)(b:(fn.name == "runtime.NumGoroutine")=ai)(hm:P.follows .mixedOrders=ab)(a:(qY fn&&eF aM.n fn.ntmps)=ab)(g:r' fn=n)
  (d:∀ah:di,ah.P=P->ah.el=el->ah.cD=cD->gx ah px/\lG ah px/\mv ah px/\∀i,i<n->hX ah px (b0 fn i)) (h:∀x,D0 px fn aM bL x J=F x):fX P el cD f aM bL F:=by
 refine azX e al b hm ?_ (λah j k l=>?_) h
 .unfold qY at a;rw[al]at a;exact a
 .obtain⟨bc,m,o,p⟩:=d ah j k l;exact⟨bc,m,o,QK al g p⟩
end
section
variable {P:cP}{el:cl->bD}{cD:Nat->ae lI}{f:FuncId}{aM bL:bn}
variable{ι:Type}
theorem fX.fin{F : ι->pG aM bL}{G:pG aM bL}(i0 : ι)(h:∀i,fX P el cD f aM bL (F i))(a:∀x r,rK aM.cF x->G x=J r->∃i,F i x=J r):fX P el cD f aM bL G:=⟨(h i0).enters,λx r ag al ah m vs ez w b c d e=>by obtain⟨i,g⟩:=a x r al ag;exact(h i).run x r g al ah m vs ez w b c d e⟩
theorem fX.er{F G:pG aM bL}(h:fX P el cD f aM bL F)(a:∀x r,rK aM.cF x->G x=J r->F x=J r):fX P el cD f aM bL G:=.fin () (λ_=>h) λx r al ag=>⟨(),a x r al ag⟩
theorem fX.none(a:av.Enters P f):fX P el cD f aM bL (λ_=>.none):=⟨a,λ_ _ h=>by cases h⟩
theorem fX.lq{body:pG aM bL->pG aM bL}(a:av.Enters P f)(h:∀rf,fX P el cD f aM bL rf->fX P el cD f aM bL (body rf)):∀n,fX P el cD f aM bL (aI body n)
 |0=>fX.none a
 |n+1=>h _ (fX.lq a h n)
end
def PS{R:Type}(nb bu:Nat)(a:aR R)(fn:Func)(G:ox R)(args:U D)(st:bw)(K:U D->bw->ae R):ae R:=match eF (I args) fn.ntmps&&eF st.nb nb&&eF st.bu bu with
 |true=>GS a fn args { st with nb:=nb,bu:=bu } K
 |false=>G args st K
variable{ah:di}{bu:Nat}
theorem aqy{a:aR R}{G:ox R}(b:kb ah g (ey nb bu a fn))(c:kb ah g G):kb ah g (PS nb bu a fn G):=by
 intro args st K r ao;unfold PS at ao;split at ao
 .rename_i d;exact b args st K r (by unfold ey;rw[d];exact ao)
 .exact c args st K r ao
def St{R:Type}(Ll:U Nat)(args:U D)(st:bw)(K:U D->bw->ae R):ae R:=match args with
 |[.ptr b 0]=>match bF st.au b with
  |some (.fb T _)=>match Ll.contains T with|true=>K [] st|false=>aj
  |_=>aj
 |_=>aj
theorem aCp{Ll:U Nat}(y:av.Enters ah.P g)(q:∀T,T∈Ll->∀(b:Nat) (w:aT) (a v:aD),w.heap[b]? = J (.cells #[a,v] T (0,0))->(a = .pointer aj\/a = .pointer (J ⟨b,0,aj⟩))->Calls ah.P g #[.pointer (J ⟨b,0,aj⟩)] w λe w'=>e = .returned (.tuple #[])/\(w' = w\/w' = w.setCell ⟨b,0,aj⟩ (.pointer (J ⟨b,0,aj⟩)))):kb (R:=R) ah g (St Ll):=by
 intro args st K r ao;refine⟨y,λm a as_ w vs s f=>?_⟩;unfold St at ao;split at ao
 .rename_i b;split at ao
  .rename_i T d al;split at ao
   .rename_i z;simp only[bl]at f;obtain⟨u,us,rfl,⟨_,rfl⟩,rfl⟩:=f;obtain⟨ar,a0,v0,p,c5,n⟩:=(s.gp b _ al).2;have p:w.heap[m.au b]? = J (.cells #[a0,v0] T (0,0)):=p;refine(q T (by simpa using z) (m.au b) w a0 v0 p c5).mono ?_;rintro dJ w' ⟨rfl,h|h⟩
    .subst h;exact⟨_,rfl,[],st,m,ao,⟨rfl,rfl,rfl,rfl,rfl⟩,s,by simp[iU,aG,bl]⟩
    .have aZ:w'.heap[m.au b]? = J (.cells #[.pointer (J ⟨m.au b,0,aj⟩),v0] T (0,0)):=by rw[h];simp only[aT.setCell,Array.getElem?_modify];rw[p];rfl
     have t:bM (λc _=>c=m.au b) w w':=by subst h;refine⟨rfl,rfl,rfl,by simp,λk _ x=>Below.heap_setCell _ _ _ _ (λe=>x 0 e),λcu i v en x=>?_,YG _ _ _⟩;rw[aT.cell?_of_block (a:=⟨cu,i,aj⟩) (Below.heap_setCell _ _ _ _ (λe=>x e))];exact en
     have j:=s.write (k:=.fb T d) (show(aB st).au b=J (.fb T d) from al) t (λx' eN hw=>⟨ar,_,v0,by rw[hw];exact aZ,.inr rfl,aG.later eN _ _ n⟩);have l:({ aB st with au:=λc=>if c=b then J (.fb T d)else(aB st).au c }:FS)=aB st:=by
      refine FS.eq rfl rfl rfl rfl rfl ?_ rfl rfl rfl;funext c;by_cases o:c=b
      .subst o;simp;exact al.symm
      .simp[if_neg o]
     rw[l]at j;exact⟨_,rfl,[],st,m,ao,⟨rfl,rfl,rfl,rfl,rfl⟩,j,by simp[iU,aG,bl]⟩
   .cases ao
  .cases ao
 .cases ao
variable{aM:bn}{bL:bn}
theorem aBK{F:pG aM bL}(h:fX ah.P ah.el ah.cD g aM bL F)(a:yi aM bL=ab):kb (R:=R) ah g (cT aM bL F):=λ_ _ _ _ ao=>V4 h a ao
end Go.ft
