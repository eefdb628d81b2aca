/- Texts of the proof,one behind the other: Te,Tf,Tg,Th. -/
import Derived.Test.YtcoaaebppfbbnaaGreatDoorV17
set_option linter.all false
open List renaming length->I,range->dy
open Option renaming some->J
open Bool renaming true->ae,false->ai
open Decidable renaming decide->aa
open UInt8 renaming ofNat->bj
open Nat renaming le_trans->e2
namespace Go
theorem adT{p:Prop}(h:p:=by cases aa (0<=nU w s.low)<;>cases (dw w s.low).isSome<;>cases s.op<;>rfl):p:=h
theorem ad6{p:Prop}(h:p:=by apply UInt8.toNat_inj.1;simp only[UInt8.toNat_ofNat'];omega):p:=h
end Go
namespace Go.Proofs.YtcoaaebppfbbnaaGreatDoor
open Go.dS
def na(s:iP)(q:ar):Bool:=aa (0<=nU q s.low)&&(s.op||decide (nU q s.high<0))
def v5(s:iP)(w:ar):Bool:=(aa (0<=nU w s.low)||(dw w s.low).isSome)&&(s.op||decide (nU (if I w % 2=1 then w++[0]else w) s.high<0))
variable{a:ar}
theorem CU{b:ar}:nU a b<0↔a<b:=by
 unfold nU;split
 .simp_all
 .split<;>simp_all
theorem Oq{b:ar} : 0<=nU a b↔¬a<b:=by rw[<-CU];omega
variable{s:iP}{w:ar}
theorem asv(a:I w<=1900)(h1:I s.low<=1900)(h2:I s.high<=1900):zy s w=J (na s w):=by simp only[zy,KJ,z' a h1,z' a h2,bZ,na];cases aa (0<=nU w s.low)<;>cases s.op<;>rfl
theorem anI(b:I w<=1800)(h1:I s.low<=1900)(h2:I s.high<=1900):ED s w=J (v5 s w):=by
 have iI:aa (I w+1<=bJ)=true:=aY gW;have a:bj (0:Int).toNat=0:=rfl;simp only[ED,PY,z' (show I w<=1900 by omega) h1,Kc,HQ (show I w<=2000000 by omega),z' (show I (w++[0])<=1900 by simp;omega) h2,z' (show I w<=1900 by omega) h2,bZ,v5,iI,ax,a8,a];have e:aa (Int.tmod (I w:Int) 2=1)=aa (I w % 2=1):=by
  rw[Int.tmod_eq_emod_of_nonneg ag];by_cases h:I w % 2=1
  .rw[aY h,aY ag]
  .rw[bl h,bl ag]
 rw[e];by_cases h:I w % 2=1
 .simp only[h,decide_true,a8,if_true];exact adT
 .simp only[h,decide_false,a_,if_false];exact adT
theorem ZQ:∀{w l:ar},w<l->(dw w l).isSome=ae\/∀r,w++r<l
 |[],l,_=>.inl (by simp[dw])
 |x::w,[],h=>absurd h (List.not_lt_nil _)
 |x::w,y::l,h=>by
  rcases List.cons_lt_cons_iff.1 h with h1|⟨e,h1⟩
  .exact .inr λr=>List.cons_lt_cons_iff.2 (.inl h1)
  .rcases ZQ h1 with h2|h2
   .exact .inl (by simpa[dw,e]using h2)
   .exact .inr λr=>List.cons_lt_cons_iff.2 (.inr ⟨e,h2 r⟩)
theorem adr:∀{w r h:ar},w++r<h->w<h
 |[],_,[],h=>absurd h (List.not_lt_nil _)
 |[],_,y::h,_=>List.nil_lt_cons y h
 |x::w,_,[],h=>absurd h (List.not_lt_nil _)
 |x::w,r,y::h,bB=>by
  rcases List.cons_lt_cons_iff.1 bB with h1|⟨rfl,h1⟩
  .exact List.cons_lt_cons_iff.2 (.inl h1)
  .exact List.cons_lt_cons_iff.2 (.inr ⟨rfl,adr h1⟩)
theorem pr{x y:UInt8}:x<y↔x.toNat<y.toNat:=UInt8.lt_iff_toNat_lt
theorem aaF:∀{w r h:ar}{x:UInt8},w++x::r<h->w++[0]<h
 |[],_,[],_,h=>absurd h (List.not_lt_nil _)
 |[],r,y::h,x,bB=>by
  rcases List.cons_lt_cons_iff.1 bB with h1|⟨rfl,h1⟩
  .refine List.cons_lt_cons_iff.2 (.inl ?_);rw[pr]at *;have:(0:UInt8).toNat=0:=rfl;omega
  .by_cases e:x=0
   .subst e;refine List.cons_lt_cons_iff.2 (.inr ⟨rfl,?_⟩);cases h with|nil=>exact absurd h1 (List.not_lt_nil _)|cons z h=>exact List.nil_lt_cons z h
   .refine List.cons_lt_cons_iff.2 (.inl ?_);rw[pr];have:(0:UInt8).toNat=0:=rfl;have:x.toNat≠0:=λh=>e (UInt8.toNat_inj.1 h);omega
 |x::w,_,[],_,h=>absurd h (List.not_lt_nil _)
 |x::w,r,y::h,z,bB=>by
  rcases List.cons_lt_cons_iff.1 bB with h1|⟨rfl,h1⟩
  .exact List.cons_lt_cons_iff.2 (.inl h1)
  .exact List.cons_lt_cons_iff.2 (.inr ⟨rfl,aaF h1⟩)
theorem ai4{r:ar}(a:I (w++r) % 2=0)(h:na s (w++r)=ae):v5 s w=true:=by
 simp only[na,bx,k_,dM,CU,Oq]at h;simp only[v5,bx,k_,dM,CU,Oq];refine⟨?_,?_⟩
 .by_cases e:w<s.low
  .rcases ZQ e with h1|h1
   .exact .inr h1
   .exact absurd (h1 r) h.1
  .exact .inl e
 .rcases h.2 with h2|h2
  .exact .inl h2
  .right;split
   .rename_i b;cases r with|nil=>simp at a;omega|cons x r=>exact aaF h2
   .exact adr h2
def kB:ar->ar|x::y::l=>bj (x.toNat*16+y.toNat)::kB l|_=>[]
theorem xx:∀b:ar,kB (c6 b)=b
 |[]=>rfl
 |x::b=>by have:=x.toNat_lt;rw[rU];simp only[nX,gY,ib,kB,xx b,UInt8.toNat_ofNat',gZ,and_true];rw[show x.toNat / 16 % 2 ^ 8*16+x.toNat % 16 % 2 ^ 8=x.toNat by omega];simp
theorem Iz:∀{q:ar},aE q->I q % 2=0->c6 (kB q)=q
 |[],_,_=>rfl
 |[_],_,h=>by simp at h
 |x::y::q,h,he=>by
  have h1:=hN.1 h;have h2:=hN.1 h1.2;have a:=h1.1;have b:=h2.1;simp only[kB,rU,Iz h2.2 (by simp at he;omega),nX,UInt8.toNat_ofNat',gY,ib,gZ,and_true];constructor
  .exact ad6
  .exact ad6
theorem Zg:∀q:ar,I (kB q)<=I q
 |[]=>by simp[kB]
 |[_]=>by simp[kB]
 |x::y::q=>by have:=Zg q;simp only[kB,dm];omega
variable{q:ar}
theorem YP(h:aE q)(a:I q % 2=0)(c:I q<=800):v3 q=J (kB q,0):=by have:=apt (b:=kB q) (by have:=Zg q;omega);rwa[Iz h a]at this
def iC(s:iP)(t:T)(w:ar):U b7:=((t.items w).filter λx=>na s x.1).map λx=>b7.mk (kB x.1) x.2
theorem aue(s:iP)(o:af ar)(k:Nat->T)(w:ar):iC s (.cY o k) w=(match o with|some v=>if na s w then [b7.mk (kB w) v]else []|none=>[])++(dy 16).flatMap λi=>iC s (k i) (w++[bj i]):=by unfold iC;simp only[T.items,List.filter_append,List.map_append,List.filter_flatMap,List.map_flatMap];congr 1;cases o with|none=>rfl|some v=>simp only[List.filter_cons,List.filter_nil];split<;>rfl
variable{t:T}
theorem anV{d:Nat}(h:t.cz d)(g:I w=d)(hm:v5 s (w++t.node.path)=ai):iC s t w=[]:=by
 unfold iC;rw[List.map_eq_nil_iff,List.filter_eq_nil_iff];rintro⟨q,v⟩ c a;obtain⟨r,rfl,f,b⟩:=(qo h).1 c;have i:=(zW h f b).2.1;have:∃z,r=t.node.path++z:=by
  cases t with
  |no=>exact⟨r,rfl⟩
  |cY o k=>exact⟨r,rfl⟩
  |cv p u=>
   simp only[T.look]at b;split at b
   .rename_i e;exact⟨[],by simp[T.node,ki,e]⟩
   .cases b
  |dr p k=>
   simp only[T.look]at b;split at b
   .rename_i z e;exact⟨z,iL.1 e⟩
   .cases b
 obtain⟨z,rfl⟩:=this;have a:na s (w++(t.node.path++z))=true:=a;rw[<-fI]at a;rw[ai4 (by simp only[dc]at *;omega) a]at hm;cases hm
theorem aov(s:iP)(t:T)(w:ar):I (iC s t w)<=I (t.items w):=by unfold iC;rw[List.length_map];exact List.length_filter_le ..
theorem Mv{R:Type}{rf:qF->af mh}{kx:bf->BQ->af R}{sp:iP}{n:bs}{q:ar}{m:Int}{j8:U b7}{ll:ar}{jJ:Int}{B:Nat}{F:Nat->U b7}(g:I q<=1000)(j:I n.kids<=50)
  (a:∀i (h:i<I n.kids) o,I o+I (F i)<=B->rf (sp,n.kids[i],(if n.kind=3 then q++[bj i]else q),ai,m,j8,ll,jJ,o,0)=J (ae,m,j8,ll,jJ,o++F i,0)) :
  ∀(k i:Nat) (b:Bool) (o:U b7),i<=I n.kids->I n.kids-i<k->I o+I (((dy (I n.kids)).drop i).flatMap F)<=B ->
  aT (λd=>qH rf d kx) k (ai,b,(I n.kids:Int),(i:Int),m,j8,ll,jJ,o,0,sp,n,q)=kx (.exit 0) (ai,b,(I n.kids:Int),(I n.kids:Int),m,j8,ll,jJ,o++((dy (I n.kids)).drop i).flatMap F,0,sp,n,q)
 |0,_,_,_,_,h,_=>by omega
 |k+1,i,b,o,hi,aV,ic=>by
  rw[cQ];by_cases h:i<I n.kids
  .have c1:aa ((i:Int)<(I n.kids:Int))=true:=aY ag;have c2:aa (I q+1<=bJ)=true:=aY gW;have w1:wr .u8 (i:Int)=(i:Int):=IntWalk.u8_in _ ag;have ao:(dy (I n.kids)).drop i=i::(dy (I n.kids)).drop (i+1):=by rw[List.drop_eq_getElem_cons n1];simp
   rw[ao,List.flatMap_cons]at ic ⊢;simp only[dc]at ic;have h1:=a i h o ag;have f:=Mv (kx:=kx) g j a k (i+1) b (o++F i) ag ag tA;have l:bj (wr .u8 (i:Int):Int).toNat=bj i:=by rw[w1,Int.toNat_natCast]
   simp only[qH,c1,a8,a_,l,HQ (show I q<=2000000 by omega),bZ,c2,ax,bY h,cb (c:=.node) h,cV h (show b5 (I n.kids) by simp[b5];omega)];by_cases e:n.kind=3
   .simp only[e,if_true,decide_true,a8]at h1 ⊢;simp only[h1,bZ,dj,a_,f,fI]
   .simp only[e,if_false,decide_false,a_]at h1 ⊢;simp only[h1,bZ,dj,a_,f,fI]
  .have e:i=I n.kids:=ag
   subst e;have c1:aa ((I n.kids:Int)<(I n.kids:Int))=false:=bl ag;simp only[qH,c1,a_];rw[show(dy (I n.kids)).drop (I n.kids)=[] from List.drop_of_length_le (by simp)];simp
theorem Od{sp:iP}(h1:I sp.low<=1900)(h2:I sp.high<=1900){m:Int}{j8:U b7}{ll:ar}{jJ:Int}{B:Nat}(hm:(B:Int)<m)(ic:B<=bJ):∀(f:Nat) (t:T) (d:Nat) (w:ar) (o:U b7),t.cz d->aE w->I w=d->401<=f+d->I o+I (iC sp t w)<=B ->
  aT (BA 100) f (sp,t.node,w,ai,m,j8,ll,jJ,o,0)=J (ae,m,j8,ll,jJ,o++iC sp t w,0)
 |0,t,d,w,o,h,_,_,bO,_=>by have:=cz.le h;omega
 |f+1,t,d,w,o,h,hw,ao,bO,a=>by
  rw[cQ];have bn:=EJ h;have hle:=cz.le h;have bW:=C3 h;generalize r:aT (BA 100) f=rf;unfold BA;dsimp -zeta only;extract_lets lM;have cA:∀qy:ar->af mh,(cond (List.isEmpty w) (cond (List.isEmpty t.node.path) (qy []) (ax (aa (0+I t.node.path<=bJ)) (qy ([]++t.node.path)))) (ax (aa (0+I w<=bJ)) (ax (aa (I ([]++w)+I t.node.path<=bJ)) (qy (([]++w)++t.node.path)))))=qy (w++t.node.path):=λqy=>by
   have c1:aa (0+I t.node.path<=bJ)=true:=aY gW;have c2:aa (0+I w<=bJ)=true:=aY gW;have iI:aa (I ([]++w)+I t.node.path<=bJ)=true:=aY PK;rw[c1,c2,iI];cases w with
   |nil=>cases b9:t.node.path with|nil=>rfl|cons x p=>rfl
   |cons x w=>rfl
  refine(cA lM).trans ?_;simp only[lM];have b:I (w++t.node.path)<=800:=tA
  have aJ:=anI (s:=sp) (w:=w++t.node.path) ag h1 h2;have aZ:=asv (s:=sp) (w:=w++t.node.path) ag h1 h2;simp only[aJ,aZ,bZ];cases bk:v5 sp (w++t.node.path)with
  |false=>rw[anV h ao bk,List.append_nil];cases aa (t.node.kind=0)<;>rfl
  |true=>
   have u:∀n:Nat,n<=B->¬((n:Int)=m):=λn cJ=>by omega
   cases t with
   |no=>simp[T.node,iq,iC,T.items]
   |cv p v=>
    have g:iC sp (.cv p v) w=if na sp (w++p)then [b7.mk (kB (w++p)) v]else []:=by simp only[iC,T.items,List.filter_cons,List.filter_nil];split<;>rfl
    have b:I (w++p)<=800:=b;rw[g]at a ⊢;have cJ:=YP (q:=w++p) (hx.2 ⟨hw,h.1⟩) (by simp only[dc];have:=h.2.2.1;omega) b;have bv:hO v=J v:=nq (by have:=h.2.2.2;omega);simp only[T.node,iq,ki,nf,mD,g9,show ¬((1:Int)=0) by omega,show ¬((1:Int)=4) by omega,decide_false,decide_true,a_,a8,dj,jd,cJ,bv,bZ];cases c:na sp (w++p)with
    |false=>simp only[jd,a8];rw[show(100:Nat)=99+1 from rfl,cQ];simp[qH]
    |true=>
     rw[c]at a;simp only[if_true,List.length_singleton]at a;have c1:I o+1<=bJ:=ag
     have c2:=u (I (o++[b7.mk (kB (w++p)) v])) oU;simp only[dj,a_,ax,a8,c1,c2,decide_true,decide_false,if_true];rw[show(100:Nat)=99+1 from rfl,cQ];simp[qH]
   |dr p k=>
    have h4:=cz.le h.2.2.2;have ch : 0<I p:=List.length_pos_iff.2 h.2.1;have b:I (w++p)<=800:=b;have g:iC sp (.dr p k) w=iC sp k (w++p):=rfl;rw[g]at a ⊢;simp only[T.node,iq,ki,nf,mD,g9,show ¬((2:Int)=0) by omega,show ¬((2:Int)=4) by omega,show ¬((2:Int)=1) by omega,decide_false,decide_true,a_,a8,dj,jd];have y:((dy 1).drop 0).flatMap (λ_:Nat=>iC sp k (w++p))=iC sp k (w++p):=by simp[List.range_succ]
    refine(Mv (n:=bs.mk 2 p ai [] [k.node] []) (B:=B) (F:=λ_=>iC sp k (w++p)) ag (by simp[g9]) (λi hi o' j=>?_) 100 0 ai o ag (by simp[g9]) (by rw[g9,show I [k.node]=1 from rfl,y];exact a)).trans ?_
    .have bz:i=0:=by simp[g9]at hi;exact hi
     subst bz;rw[iq,if_neg ag];rw[<-r];exact Od h1 h2 hm ic f k (d+I p) (w++p) o' h.2.2.2 (hx.2 ⟨hw,h.1⟩) tA ag j
    .simp only[g9,show I [k.node]=1 from rfl,y];rfl
   |cY qW k=>
    have l:∀(kx:bf->BQ->af mh) (cG:Bool) (v:ar) (o:U b7),I o+I ((dy 16).flatMap λi=>iC sp (k i) (w++[bj i]))<=B->aT (λac=>qH rf ac kx) 100 (ai,ai,(I (db k):Int),0,m,j8,ll,jJ,o,0,sp,bs.mk 3 [] cG v (db k) [],w)=kx (.exit 0) (ai,ai,(I (db k):Int),(I (db k):Int),m,j8,ll,jJ,o++(dy 16).flatMap (λi=>iC sp (k i) (w++[bj i])),0,sp,bs.mk 3 [] cG v (db k) [],w):=λkx cG v o a=>by
     refine(Mv (n:=bs.mk 3 [] cG v (db k) []) (B:=B) (F:=λi=>iC sp (k i) (w++[bj i])) ag (by rw[g9,hf];omega) (λi hi o' j=>?_) 100 0 ai o ag (by rw[g9,hf];omega) (by rw[g9,hf,gH];exact a)).trans ?_
     .have z:i<16:=by rw[g9,hf]at hi;exact hi
      rw[iq,if_pos rfl];simp only[g9,o4];rw[<-r];refine Od h1 h2 hm ic f (k i) (d+1) (w++[bj i]) o' (h.2.2.2 i z) (hx.2 ⟨hw,hN.2 ⟨?_,ny⟩⟩) oU ag j;rw[UInt8.toNat_ofNat'];omega
     .simp only[g9,hf,gH]
    have bL:(T.cY qW k).node.path=[]:=rfl;rw[aue]at a ⊢;have cJ:=λe=>YP (q:=w) hw e ag;simp only[bL,List.append_nil,n6,iq,ki,nf,mD,g9,show ¬((3:Int)=0) by omega,show ¬((3:Int)=4) by omega,show ¬((3:Int)=1) by omega,decide_false,decide_true,a_,a8,dj,jd]at b a ⊢;cases qW with
    |none=>simp only[Option.isSome_none,jd,a8,Option.getD_none,ib]at a ⊢;rw[l _ _ _ _ a];rfl
    |some v=>
     have he:=h.2.1 v rfl;have bv:hO v=J v:=nq ag;simp only[Option.isSome_some,dj,a_,Option.getD_some,cJ ag,bv,bZ]at a ⊢;cases c:na sp w with
     |false=>rw[c]at a;simp only[jd,a8,mW,if_false,ib]at a ⊢;rw[l _ _ _ _ a];rfl
     |true=>
      rw[c]at a;simp only[if_true,dc,List.length_singleton]at a;have c1:I o+1<=bJ:=ag
      have c2:=u (I (o++[b7.mk (kB w) v])) oU;simp only[dj,a_,ax,a8,c1,c2,decide_true,decide_false,if_true];rw[l _ _ _ _ oU];simp only[fI];rfl
variable{hi:ar}{lo:ar}{m:Int}
theorem aoX(h:t.cz 0)(h1:I lo<=900)(h2:I hi<=900)(hm:(I (t.items []):Int)<m)(b:I (t.items [])<=bJ):CQ t.node lo hi m=J (iC (iP.mk (c6 lo) (c6 hi) (aa ((I hi:Int)=0))) t [],[],0):=by
 have eO:=nv lo;have c:=nv hi;have a:=Od (sp:=iP.mk (c6 lo) (c6 hi) (aa ((I hi:Int)=0))) (j8:=[]) (ll:=[]) (jJ:=0) (by show I (c6 lo)<=1900;omega) (by show I (c6 hi)<=1900;omega) hm b 500 t 0 [] [] h ny rfl ag (by have:=aov (iP.mk (c6 lo) (c6 hi) (aa ((I hi:Int)=0))) t [];simp only[hn];omega);have a:Dj (iP.mk (c6 lo) (c6 hi) (aa ((I hi:Int)=0)),t.node,[],ai,m,[],[],0,[],0)=J (ae,m,[],[],0,[]++iC (iP.mk (c6 lo) (c6 hi) (aa ((I hi:Int)=0))) t [],0):=a;have c1:¬m<0:=ag
 have c2:¬m=0:=ag
 simp only[CQ,Qm,NV,Mr,Av (show I lo<=1900 by omega),Av (show I hi<=1900 by omega),bZ,O_,Ky,K' h,decide_true,dj,a_,c1,c2,decide_false,a,a8,ib]
theorem ac4{b:ar}(h:c6 a=c6 b):a=b:=by rw[<-xx a,<-xx b,h]
theorem Ox:∀{a b:ar},c6 a<c6 b↔a<b
 |[],[]=>by simp[ES]
 |[],y::b=>by rw[ES,rU];exact⟨λ_=>List.nil_lt_cons y b,λ_=>List.nil_lt_cons _ _⟩
 |x::a,[]=>by rw[ES];exact⟨λh=>absurd h (List.not_lt_nil _),λh=>absurd h (List.not_lt_nil _)⟩
 |x::a,y::b=>by
  have c:=x.toNat_lt;have d:=y.toNat_lt;simp only[rU,nX,gY,ib,List.cons_lt_cons_iff,Ox (a:=a) (b:=b),pr,<-UInt8.toNat_inj,UInt8.toNat_ofNat'];constructor
  .rintro(h|⟨h,h1|⟨h1,h2⟩⟩)
   .left;omega
   .left;omega
   .exact .inr ⟨by omega,h2⟩
  .rintro(h|⟨h,h2⟩)
   .by_cases e:x.toNat / 16=y.toNat / 16
    .exact .inr ⟨by omega,.inl ag⟩
    .left;omega
   .exact .inr ⟨by omega,.inr ⟨by omega,h2⟩⟩
def T.get(t:T)(k:ar):af ar:=t.look (c6 k)
theorem ala(t:T)(k v a:ar):(t.put (c6 k) v).get a = if a = k then J v else t.get a:=by
 unfold T.get;rw[M1];by_cases e:a = k
 .simp[e]
 .have:¬c6 a = c6 k:=λh=>e (ac4 h);simp[e,this]
theorem ava(k:ar):T.no.get k=none:=rfl
def range(t:T)(lo hi:ar):U b7:=iC (iP.mk (c6 lo) (c6 hi) (aa ((I hi:Int)=0))) t []
variable{k:ar}
theorem aa9:na (iP.mk (c6 lo) (c6 hi) (aa ((I hi:Int)=0))) (c6 k)=ae↔¬k<lo/\(hi=[]\/k<hi):=by simp only[na,bx,k_,dM,CU,Oq,Ox];rw[show((I hi:Int)=0)↔hi=[] from⟨λh=>List.length_eq_zero_iff.1 ag,λh=>by rw[h];rfl⟩]
theorem MT(h:t.cz 0){v:ar}(c:(q,v)∈t.items []):∃k,q=c6 k/\t.get k=J v:=by obtain⟨r,e,a,b⟩:=(qo h).1 c;have e:q=r:=e;subst e;have d:=(zW h a b).2.1;have:=Iz a ag;exact⟨kB q,this.symm,by unfold T.get;rw[this];exact b⟩
theorem mem_range(h:t.cz 0){v:ar}:b7.mk k v∈range t lo hi↔t.get k=J v/\¬k<lo/\(hi=[]\/k<hi):=by
 unfold range iC;simp only[List.mem_map,List.mem_filter];constructor
 .rintro⟨⟨q,u⟩,⟨c,a⟩,e⟩;obtain⟨d,rfl,b⟩:=MT h c;simp only[xx,b7.mk.injEq]at e;obtain⟨rfl,rfl⟩:=e;exact⟨b,aa9.1 a⟩
 .rintro⟨b,a⟩;exact⟨(c6 k,v),⟨(qo h).2 ⟨c6 k,rfl,pe k,b⟩,aa9.2 a⟩,by simp[xx]⟩
theorem TK(h:t.cz 0)(lo hi:ar):(range t lo hi).Pairwise λa b=>a.key<b.key:=by unfold range iC;rw[List.pairwise_map];refine((P2 h).filter _).imp_of_mem ?_;rintro⟨q,v⟩ ⟨e,f⟩ d aj c;obtain⟨k,rfl,_⟩:=MT h (List.mem_filter.1 d).1;obtain⟨g,rfl,_⟩:=MT h (List.mem_filter.1 aj).1;simp only[xx];exact Ox.1 c
theorem acH(f g:Nat->Nat)(i:Nat)(h:∀j,j≠i->g j=f j)(hi:g i<=f i+1):∀l:U Nat,l.Nodup->(l.map g).sum<=(l.map f).sum+1
 |[],_=>by simp
 |j::l,a=>by
  have a:=List.nodup_cons.1 a;simp only[e0,List.sum_cons];by_cases e:j=i
  .subst e;have:l.map g=l.map f:=List.map_congr_left λx b=>h x λe=>a.1 (e▸b);rw[this];omega
  .have:=acH f g i h hi l a.2;rw[h j e];omega
theorem SE:∀l:U Nat,(l.map λ_=>0).sum=0
 |[]=>rfl
 |_::l=>by rw[e0,List.sum_cons,SE l]
def T.size:T->Nat|.no=>0|.cv _ _=>1|.dr _ k=>k.size|.cY o k=>(if o.isSome then 1 else 0)+((dy 16).map λi=>(k i).size).sum
theorem Hm:∀(t:T) (w:ar),I (t.items w)=t.size
 |.no,w=>rfl
 |.cv _ _,w=>rfl
 |.dr p k,w=>Hm k (w++p)
 |.cY o k,w=>by
  have h1:∀l:U Nat,I (l.flatMap λi=>(k i).items (w++[bj i]))=(l.map λi=>(k i).size).sum:=λl=>by induction l with|nil=>rfl|cons i l a=>rw[List.flatMap_cons,dc,a,Hm (k i),e0,List.sum_cons]
  simp only[T.items,T.size,dc,h1];cases o with|none=>simp only[hn,Option.isSome_none,mW,if_false]|some v=>simp only[List.length_singleton,Option.isSome_some,if_true]
theorem Nh(k:Nat->T)(i:Nat)(t:T)(h:t.size<=(k i).size+1):((dy 16).map λj=>(jg k i t j).size).sum<=((dy 16).map λj=>(k j).size).sum+1:=acH (λj=>(k j).size) (λj=>(jg k i t j).size) i (λj a=>by rw[mR a]) (by rw[mj];exact h) _ List.nodup_range
theorem _0:((dy 16).map λj=>(m7 j).size).sum=0:=dU
theorem Lg(s:ar)(t:T):(mm s t).size=t.size:=by cases s<;>rfl
theorem LJ(o:af ar)(k:Nat->T)(b v:ar):(hold o k b v).size<=(T.cY o k).size+1:=by cases b with|nil=>simp only[hold,T.size,Option.isSome_some,if_true];split<;>omega|cons x b=>have:=Nh k x.toNat (.cv b v) (by simp[T.size]);simp only[hold,T.size];omega
theorem NB:∀(t:T) (p v:ar),(t.put p v).size<=t.size+1
 |.no,p,v=>by simp[T.put,T.size]
 |.cv q u,p,v=>by
  simp only[T.put];split
  .simp[T.size]
  .unfold p9;split<;>rw[Lg]
   .refine e2 (LJ ..) ?_;simp only[T.size,_0];simp
   .rename_i x a b _;refine e2 (LJ ..) ?_;have:=Nh m7 x.toNat (.cv a u) (by simp[T.size]);rw[_0]at this;simp only[T.size,Option.isSome_none];simp;omega
 |.dr q k,p,v=>by
  simp only[T.put];split
  .exact NB k _ v
  .unfold p5;split
   .simp[T.size]
   .rename_i x a b _;rw[Lg];refine e2 (LJ ..) ?_;have h1:∀f:Nat->Nat,(∀j,j≠x.toNat->f j=0)->∀l:U Nat,l.Nodup->(l.map f).sum<=f x.toNat:=λf d l=>by
     induction l with
     |nil=>intro _;simp
     |cons j l g=>
      intro c;have c:=List.nodup_cons.1 c;simp only[e0,List.sum_cons];by_cases e:j=x.toNat
      .subst e;have:(l.map f).sum=0:=by have:l.map f=l.map λ_=>0:=List.map_congr_left λy h=>d y λe=>c.1 (e▸h);rw[this];exact SE l
       omega
      .rw[d j e];have:=g c.2;omega
    have:=h1 (λj=>(jg m7 x.toNat (mm a k) j).size) (λj i=>by simp only[mR i];rfl) (dy 16) List.nodup_range;simp only[mj,Lg]at this;simp only[T.size,Option.isSome_none];simp;omega
 |.cY o k,[],v=>by simp only[T.put,T.size,Option.isSome_some,if_true];split<;>omega
 |.cY o k,x::p,v=>by have:=Nh k x.toNat ((k x.toNat).put p v) (NB (k x.toNat) p v);simp only[T.put,T.size];omega
theorem B6(n:bs):bs.mk n.kind n.path n.has n.val n.kids n.hash=n:=by cases n;rfl
section
variable {t:T}{g:U bs}{h:ar}
theorem Ex(a:t.cz 0)(b:I k<=200):HV (k,t.node.kind,t.node.path,t.node.has,t.node.val,t.node.kids,t.node.hash,g,h)=J ((t.get k).getD [],(t.get k).isSome,0,t.node.kind,t.node.path,t.node.has,t.node.val,t.node.kids,t.node.hash,g,h):=by simp only[HV,B6,aaJ a b,bZ,show ¬((0:Int)=80) by omega,decide_false,a_,T.get]
theorem ajJ{v:ar}(a:t.cz 0)(b:I k<=200)(aE:I v<=4000):Hw (k,v,t.node.kind,t.node.path,t.node.has,t.node.val,t.node.kids,t.node.hash,g,h)=J (0,(t.put (c6 k) v).node.kind,(t.put (c6 k) v).node.path,(t.put (c6 k) v).node.has,(t.put (c6 k) v).node.val,(t.put (c6 k) v).node.kids,(t.put (c6 k) v).node.hash,g,h):=by simp only[Hw,B6,aky a b aE,bZ,show ¬((0:Int)=80) by omega,decide_false,decide_true,a_,a8]
theorem RB(a:t.cz 0)(h1:I lo<=900)(h2:I hi<=900)(hm:(t.size:Int)<m)(b:t.size<=bJ):GS (lo,hi,m,t.node.kind,t.node.path,t.node.has,t.node.val,t.node.kids,t.node.hash,g,h)=J (range t lo hi,0,t.node.kind,t.node.path,t.node.has,t.node.val,t.node.kids,t.node.hash,g,h):=by have:=aoX a h1 h2 (m:=m) (by rw[Hm];exact hm) (by rw[Hm];exact b);simp only[GS,B6,this,bZ,show ¬((0:Int)=80) by omega,decide_false,a_,range]
end
end Go.Proofs.YtcoaaebppfbbnaaGreatDoor
