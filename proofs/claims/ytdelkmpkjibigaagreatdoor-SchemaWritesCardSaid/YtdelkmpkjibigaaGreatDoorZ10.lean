/- Texts of the proof,one behind the other: Vy,Kq,Ub,AxFs,FrG. -/
import Derived.Test.YtdelkmpkjibigaaGreatDoorZ9
import Derived.Test.YtdelkmpkjibigaaGreatDoorRows
import Derived.ProofKit
import Derived.ChangeMaps5
import Derived.ChangeAnyMap
import Derived.Test.YtdelkmpkjibigaaGreatDoorCards
import Derived.Test.YtdelkmpkjibigaaGreatDoorTie
import Derived.OpenShut
import Derived.Deep.DeepHandedRow
import Derived.Shelf.Vars
set_option linter.all false
open List renaming length->I,range->hg,eq_nil_of_length_eq_zero->k0,mem_append->lx,mem_of_getElem?->lW,append_nil->kq,getElem_mem->hf,mem_cons->hv
open Option renaming some->J,none->aj
open Bool renaming true->ab,false->ai
open Decidable renaming decide->aa
open Nat renaming ble->eF,blt->eU,le_trans->fV,zero_le->cL
open Go.Value renaming cells->lY
open Go renaming Value->aD,World->aT,TypeId->bD,maxLen->dr,Program->cP,DataW->dj
open Option.some renaming inj->ks
namespace Go.Proofs.YtdelkmpkjibigaaGreatDoor
open Go.ft
theorem aCX{R:Type}{kx:aX->H2->ae R}{s:aP}{w h:ak}{w1 j:U bk}{f l:U ak}{cv m:U aq}{g d:U c'}{a b:ae R}(n:b1 (I s.names))(o:∀i:Nat,kx .ret (150,(i:Int),w,w1,f,cv,g,s,[],[],[],[],[])=a)(p:kx (.exit 0) (0,(I s.names:Int),w,w1,f,cv,g,s,h,j,l,m,d)=b)(k:Nat)(r:I s.names<k) :
  aI (λrec=>zQ rec kx) k (0,0,w,w1,f,cv,g,s,h,j,l,m,d)=cond (s.names.all λx=> !decide (gD s.ay x<0)) b a:=by
 refine(hV (I s.names) (λi=>(0,(i:Int),w,w1,f,cv,g,s,h,j,l,m,d)) (λi=>cond ((s.names.drop i).all λx=> !decide (gD s.ay x<0)) b a) (λi e rec q=>?_) (λrec=>?_) k 0 (cL _) af).trans iP
 .simp only[zQ,ea e,cg e,cR (c:=.str) e,c9 e n,q,da e,fk,uG];cases aa (gD s.ay s.names[i]<0)with|true=>exact o i|false=>rfl
 .simp only[zQ,eu,p]
  grind
theorem aCU{R:Type}{kx:aX->HV->ae R}{s:aP}{w j:ak}{w1 m:U bk}{f n:U ak}{cv o:U aq}{h a:U c'}{g:Int->ae R}{b:ae R}(u:b1 (I s.l))(ao:s.ay.all jC=ab)(v:∀e,e∈s.l->cm e<=10000)(q:∀p (i:Nat),kx .ret (p,(i:Int),w,w1,f,cv,h,s,[],[],[],[],[])=g p)(x:kx (.exit 2) (0,(I s.l:Int),w,w1,f,cv,h,s,j,m,n,o,a)=b)(k:Nat)(r:I s.l<k) :
  aI (λrec=>Ah rec kx) k (0,0,w,w1,f,cv,h,s,j,m,n,o,a)=cond (aa (jw s.ay s.l=0)) b (g (jw s.ay s.l)):=by
 refine(hV (I s.l) (λi=>(0,(i:Int),w,w1,f,cv,h,s,j,m,n,o,a)) (λi=>cond (aa (jw s.ay (s.l.drop i)=0)) b (g (jw s.ay (s.l.drop i)))) (λi d rec y=>?_) (λrec=>?_) k 0 (cL _) af).trans iP
 .have r:ui s.l[i] s.ay=J (ia s.l[i] s.ay):=by rw[ui,aH (ad9 (v _ (hf d)))];rfl
  simp only[Ah,ea d,cg d,cR (c:=.expr) d,r,c9 d u,y,da d,jw,afX ao];by_cases t:(ia s.l[i] s.ay).2=0
  .simp[t,bd];cases aa (2<(ia s.l[i] s.ay).1)with|true=>exact q _ _|false=>rfl
  .simp[aL t,bj];exact q _ _
 .simp only[Ah,eu,x];exact nD
noncomputable def vT:aX->IA->ae (b5×Int):=λe p=>match p with|(g,h,_,_,i,j,k,l,m,a,b,c,d,f)=>match e with|.ret=>J ((b5.mk i j k l m),h)|.exit 0=>(sO (b5.mk a b c d f)).bind λ(n,o)=>cond (!decide (o=0)) (J ((b5.mk [] [] [] [] []),11)) (cond (!decide (n=g)) (J ((b5.mk [] [] [] [] []),11)) (J ((b5.mk a b c d f),0)))|_=>aj
theorem aCt:gP eJ:=⟨by decide,by decide,by decide,by decide,by decide,(show cm lZ<=10000 by decide),by decide,⟨by decide,λr h=>by cases h⟩,by decide,λr h=>by cases h⟩
theorem ahA{k:Nat}(o : 100<k){b:ak}{l:U ak}{s:aP}{n e:Int}(h:vo b=J (l,0))(r : 0<I l)(t:Lh l[0] s n e):uV k b=cond (aa (e=0)&&aa ((hz s).2=0)) (aI (λrec=>o_ rec vT) k (b,0,l,1,[],[],[],[],[],s.name,s.ay,s.names,s.l,[])) (J (fi,11)):=by
 obtain⟨_,u,v,w⟩:=t;have i0:a_ 0 (I l)=true:=by simp[a_,bN];omega
 have a0:at' .bytes l 0=l[0]:=cR (c:=.bytes) r;simp only[uV,h,bA,aL (show ¬(I l:Int)=0 by omega),i0,a0,u];by_cases f:e=0
 .subst f;obtain⟨ao,m,_⟩:=v rfl;have f2:=m.l;have f3:=qz s.l;simp only[zA m,ao,bj];by_cases d:s.kind=1
  .have i:s.ay.all jC=true:=by simp only[ei,if_pos d,bN]at ao;exact ao.2.1.1.1.1.1
   simp only[aH d,bj];have y:I s.names<=100:=by simp[ei,if_pos d]at ao;have:=ao.2.1.1.2;simp[g_]at this;omega
   have z:I s.l<k:=by simp[ei,if_pos d]at ao;have:=ao.2.2;simp[k9,bN]at this;omega
   refine(aCX (s:=s) (a:=J (fi,11)) (b:=cond (aa (jw s.ay s.l=0)) (aI (λrec=>o_ rec vT) k (b,0,l,1,[],[],[],[],[],s.name,s.ay,s.names,s.l,[])) (J (fi,11))) iC (λ_=>rfl) ?_ k af).trans ?_
   .refine(aCU (s:=s) (b:=aI (λrec=>o_ rec vT) k (b,0,l,1,[],[],[],[],[],s.name,s.ay,s.names,s.l,[])) (g:=λp=>cond (!decide (p=0)) (J (fi,11)) (aI (λrec=>o_ rec vT) k (b,0,l,1,[],[],[],[],[],[],[],[],[],[]))) iC i (λq bV=>by have:=nH bV;omega) (λ_ _=>rfl) rfl k z).trans ?_
    grind
   .have j:iT ⟨s.name,s.ay,s.names,[],[]⟩ s.names=(s.names.all λx=> !decide (gD s.ay x<0)):=rfl;simp[hz,d,ao,j,bd]
    grind
  .simp[aL d,bd];have:(hz s).2=2:=by simp[hz,aL d,bj]
   rw[this];rfl
 .have j:=w f;subst j;simp[zA aCt,aL f,bd];rfl
theorem ahl{b x:ak}{l:U ak}{a7:ak}{ay:U bk}{key:U ak}{a:U aq}(g:∀x,x∈l->I x<=5000)(m:I l<5000)(ar:uS x ⟨a7,ay,key,a,[]⟩)(f:I a7<=30):∀(k i:Nat) (jb:U c'),i<=I l->I l-i<k->I jb<=i->(∀y,y∈jb->gP (dG ⟨a7,ay,key,a,jb⟩ y))->∃r,aI (λrec=>o_ rec vT) k (b,0,l,(i:Int),[],[],[],[],[],a7,ay,key,a,jb)=J r/\(r=(fi,11)\/∃t,r=(t,0)/\nM t/\uS x t/\sO t=J (b,0))
 |0,_,_,_,h,_,_=>by omega
 |k+1,i,jb,bO,bf,ag,cb=>by
  rw[aI];by_cases h:i<I l
  .obtain⟨s,n,e,o⟩:=Mf l[i] (g _ (hf h));obtain⟨_,p,d,_⟩:=o;simp only[o_,ea h,bd,cg h,ax,cR (c:=.bytes) h,p,bA,c9 h (show b1 (I l) by simp[b1];omega)];by_cases j:e=0
   .subst j;obtain⟨ao,q,_⟩:=d rfl;simp only[decide_true,ef,bj];by_cases d:s.kind=3
    .rw[aH d,ef,bj,aH (show I jb+1<=bY by simp[bY];omega),bd];have u:=lC (rU ao).1.1;have f1:=q.names;exact ahl g m ar f k (i+1) (jb++[⟨s.name,s.names⟩]) af af Ta λy aE=>by
      rcases lx.1 aE with aE|aE
      .exact cb y aE
      .rw[List.mem_singleton.1 aE];exact⟨by simp[dG],f1,by simp[dG],by simp[dG],by simp[dG];omega,(show cm lZ<=10000 by decide),by simp[dG,fc],⟨by simp[dG],λr h=>by cases h⟩,by simp[dG],λr h=>by cases h⟩
    .rw[aL d];exact AC
   .simp only[aL j,kd,bd];exact AC
  .have:i=I l:=af
   subst this;simp only[o_,eu,bj,vT];have dJ:nM ⟨a7,ay,key,a,jb⟩:=aip (x:=x) ar (by simp only;omega) cb;have es:=Jv dJ;rw[es,bA];by_cases ao:(pA ⟨a7,ay,key,a,jb⟩).2=0
   .rw[aH ao,ef,bj];by_cases al:(pA ⟨a7,ay,key,a,jb⟩).1=b
    .rw[aH al];exact⟨_,rfl,.inr ⟨_,rfl,dJ,ar,by rw[es,<-al,<-ao]⟩⟩
    .rw[aL al];exact AC
   .rw[aL ao];exact AC
theorem abJ{b:ak}{t:b5}(al:I b<=5000)(h:lJ (jv t)=b)(a:I t.idx<=100):vo b=J (jv t,0):=by obtain⟨d,c,_⟩:=HD al h a;rw[<-h];exact asx af (by rw[h];omega) λx ag=>by have:=c x ag;omega
theorem ao1{b:ak}(al:I b<=5000):∃r,DP b=J r/\(r=(fi,11)\/∃t,r=(t,0)/\rN b t):=by
 obtain⟨l,e,h,o,a⟩:=asq al;show ∃r,uV 5000 b=J r/\_;by_cases f:e=0
 .subst f;by_cases g : 0<I l
  .obtain⟨s,n,e,d⟩:=Mf l[0] (fV (a _ (hf g)) al);rw[ahA af h g d];cases hm:aa (e=0)&&aa ((hz s).2=0)with
   |false=>exact⟨_,rfl,.inl rfl⟩
   |true=>simp[bN,fQ]at hm;obtain⟨rfl,hm⟩:=hm;have i:=PA hm;have c:=M6 (t:=(hz s).1) i;have ar:uS l[0] ⟨s.name,s.ay,s.names,s.l,[]⟩:=⟨s,n,d,by rw[i];simp[wK,c.1,c.2.1,c.2.2.1,c.2.2.2]⟩;obtain⟨r,p,q⟩:=ahl (b:=b) (λx ag=>fV (a x ag) al) o ar (lC (rU (d.2.2.1 rfl).1).1.1) 5000 1 [] af af (by simp) (λy aE=>by cases aE);refine⟨r,p,q.imp id ?_⟩;rintro⟨t,rfl,dJ,ar,j⟩;rw[Jv dJ]at j;obtain⟨k,m⟩:=acv (ks j);have t3:=abJ al m (zu k);rw[h]at t3;have a:l=jv t:=congrArg Prod.fst (ks t3);subst a;exact⟨t,rfl,k,m,ar⟩
  .have:l=[]:=k0 af;subst this;refine⟨(fi,11),?_,.inl rfl⟩;simp[uV,h,bA,decide_true,ef,bj,dB];rfl
 .refine⟨(fi,11),?_,.inl rfl⟩;simp[uV,h,bA,aL f,kd,bd];rfl
theorem ahj{b:ak}{t:b5}(h:rN b t){l:U ak}(f:∀x,x∈l->I x<=5000)(m:I l<5000):∀(q acc:U c') (k i:Nat),acc++q=t.idx->l.drop i=q.map (λx=>gU (dG t x))->i<=I l->I l-i<k->I acc<=i->aI (λrec=>o_ rec vT) k (b,0,l,(i:Int),[],[],[],[],[],t.name,t.ay,t.key,t.ie,acc)=J (t,0)
 |_,_,0,_,_,_,_,bf,_=>by omega
 |[],acc,k+1,i,ag,ar,bO,_,_=>by
  have d:=congrArg List.length ar;simp[ff,List.map_nil,dB]at d;have:i=I l:=af
  subst this;rw[kq]at ag;subst ag;simp[aI,o_,eu,bj,vT];have es:sO t=J (b,0):=by rw[Jv h.enc,pA,h.ok,bd,h.iA]
  rw[show sO ⟨t.name,t.ay,t.key,t.ie,t.idx⟩=J (b,0) from es,bA];simp
 |x::q,acc,k+1,i,ag,ar,bO,bf,c5=>by
  have d:=congrArg List.length ar;simp[ff,hk,eo]at d;have a:i<I l:=af
  rw[da a,hk,mL]at ar;have hm:x∈t.idx:=by rw[<-ag];simp
  have o:qn l[i]=J (dG t x,0,0):=by
   have g:=f _ (hf a);obtain⟨s,n,e,j,p,_⟩:=Mf l[i] g;have r:rr l[i]=J (dG t x,0,0):=by rw[ar.1]at g ⊢;exact age (z' h.ok hm) rfl (h.jb.sk x hm) af
   rw[r]at j;rw[p,<-j]
  have u:=ahj h f m q (acc++[x]) k (i+1) te ar.2 af af Ta;simp only[aI,o_,ea a,bd,cg a,ax,cR (c:=.bytes) a,o,bA,c9 a (show b1 (I l) by simp[b1];omega)];rw[aH (show I acc+1<=bY by simp[bY];omega)];exact u
theorem anj{b:ak}{t:b5}(al:I b<=5000)(h:rN b t):DP b=J (t,0):=by
 obtain⟨t1,t2,_⟩:=HD al h.iA h.jb.len;obtain⟨s,n,d,hm⟩:=h.ar;have c : 0<I (jv t):=AJ
 show uV 5000 b=_;rw[ahA af (abJ al h.iA h.jb.len) c d];have a:=M6 hm;rw[hm,a.1,a.2.1,a.2.2.1,a.2.2.2];exact ahj h t2 t1 t.idx [] 5000 1 rfl rfl AJ af (by simp)
theorem ayk{b:ak}(al:I b<=5000):∃r,uJ b=J r/\DP b=J r:=by
 obtain⟨r,a,d⟩:=aom al;obtain⟨q,e,f⟩:=ao1 al;rcases d with rfl|⟨t,rfl,c⟩
 .rcases f with rfl|⟨t,rfl,c⟩
  .exact⟨_,a,e⟩
  .have:=aqv al c;rw[a]at this;simp at this
 .exact⟨_,a,anj al c⟩
theorem Zb:I6=J true:=bW
end Go.Proofs.YtdelkmpkjibigaaGreatDoor
namespace Go.ft
open Go.RowKit Go.ChangeShapes Go.WideShapes
section
variable {H:Type}{sj:bD×aD->H}{P:cP}{w:aT}{base:Nat}{sp:Nat->Bool}{held:Bool}
theorem aru{t k e:bD}{fuel:Nat}{cs:U aD}{dL:U MemPlace}(b':P.underlying t=J (.map k e))(bf:P.underlying k=J (.int .i64))(he:P.underlying e=J .string){l:U (Int×ak)}(bz:∀p,p∈l->lM l p.1=p.2)(bG:∀n,(∀p,p∈l->p.1≠n)->lM l n=[])(h:dj.trod sj P w base sp held fuel t cs=J (.map (l.map λp=>(.int .i64 p.1,.lit (.string p.2))),dL)):∃b es a2,cs=[.map (J b)]/\w.heap[b]? = J (.map es a2)/\J0 l es.toList:=by
 rcases open_anymap b' h with ⟨_,ag⟩|⟨b,es,f,_,rfl,al,_,_,_⟩
 .cases ag
 cases fuel with
 |zero=>simp[dj.trod]at h
 |succ n=>
  simp only[dj.trod,b',al]at h
  .split at h
   .obtain⟨a,hm,r⟩:=Option.bind_eq_some_iff.1 h;split at r
    .simp[ ni]at r;obtain⟨r,_⟩:=r;have c:=sorted_perm (a.map (·.1));rw[r]at c;have ag:∀(x:MapEntry) (y:(Lit×dj H)×U MemPlace),((keyOf P k x.key).bind λkey=>if x.val.formed P e=ab then(dj.trod sj P w base sp held n e x.val.cells.toList).map λy=>((key,y.1),y.2)else aj)=J y->∃(m:Int) (s:ByteArray),x.key = .int .i64 m/\x.val = .string s/\s.size<=dr/\y.1=(.int .i64 m,.lit (.string s.data.toList)):=by
      intro x y aE;obtain⟨key,g,aE⟩:=Option.bind_eq_some_iff.1 aE;split at aE
      .rename_i u;obtain⟨z,dK,rfl⟩:=Option.map_eq_some_iff.1 aE;obtain⟨s,o,rfl,a9⟩:=dj.trod_string he dK;have en:x.val = .string s:=by
        cases a3:x.val<;>rw[a3]at o u<;>simp[lY]at o
        .rw[o]
        .simp[aD.formed,he]at u
       have bZ:∃m,x.key = .int .i64 m/\key = .int .i64 m:=by
        simp[keyOf]at g;cases a4:x.key<;>rw[a4]at g<;>simp[mapKey,bf]at g
        grind
       grind
      .cases aE
     have v:∀x,x∈es.toList->∃(m:Int) (s:ByteArray),x.key = .int .i64 m/\x.val = .string s/\s.size<=dr/\(m,s.data.toList)∈l:=λx d=>by
      obtain⟨i,bO,rfl⟩:=List.getElem_of_mem d;obtain⟨y,aE,cb⟩:=Lib.mapM_at hm i _ (ic bO);obtain⟨m,s,q,aZ,bg,cB⟩:=ag _ y cb;refine⟨m,s,q,aZ,bg,?_⟩;have:y.1∈a.map (·.1):=List.mem_map.2 ⟨y,lW aE,rfl⟩
      grind
     have bE:∀p,p∈l->∃x,x∈es.toList/\x.key = .int .i64 p.1:=λp aW=>by
      have q:(Lit.int .i64 p.1,dj.lit (H:=H) (.string p.2))∈a.map (·.1):=c.subset (List.mem_map.2 ⟨p,aW,rfl⟩);obtain⟨y,aE,e⟩:=List.mem_map.1 q;obtain⟨x,d,cb⟩:=mapM_mem hm y aE
      grind
     refine⟨b,es,f,rfl,al,λn=>?_⟩;have a5:MapKept.IsKey (.int .i64) (.int .i64 n):=by simp[MapKept.IsKey]
     rcases MapKept.findNow_spec a5 es.toList 0 (λx d=>by obtain⟨m,s,q,_⟩:=v x d;rw[q];simp[MapKept.IsKey])with ⟨q,aZ⟩|⟨j,x,q,aZ,bg⟩
     .grind
     .obtain⟨m,s,g1,g2,g3,g4⟩:=v x (lW aZ);have bB:m=n:=im
      subst bB;have cr:=bz _ g4
      simp_all
    .cases r
   .cases h
end
theorem _j{H:Type}{P:cP}:∀{bQ us:U bD}{az a:U (dj H)}{n:Nat},I az<=I bQ->n∈dj.weightsEach P bQ az->n∈dj.weightsEach P (bQ++us) (az++a)
 |[],us,az,a,n,_,h=>by cases az<;>simp[dj.weightsEach]at h
 |t::bQ,us,[],a,n,_,h=>by simp[dj.weightsEach]at h
 |t::bQ,us,d::az,a,n,bz,h=>by
  simp[dj.weightsEach,lx]at h ⊢;rcases h with h|h
  .exact .inl h
  .exact .inr (_j uM h)
variable{H:Type}{P:cP}
theorem amW{bQ us:U bD}{az a:U (dj H)}(h:(dj.weightsEach P (bQ++us) (az++a)).all (·<=reachBytes)=ab)(b:I az<=I bQ):∀(i:Nat) (t:bD) (d:dj H),bQ[i]? = J t->az[i]? = J d->∀n,n∈d.weights P t->n<=gX:=λi t d c ar n e=>by have:=dH.1 h n (_j b (dj.weights_mem_each c ar n e));show n<=reachBytes;exact of_decide_eq_true this
theorem arb{sj:bD×aD->H}{w:aT}{base:Nat}{sp:Nat->Bool}{held:Bool}:∀{bQ:U bD}{vs:U aD}{az:U (dj H)}{dL:U MemPlace},dj.TrodAll sj P w base sp held bQ vs az dL->I az=I bQ:=by intro bQ;induction bQ with|nil=>intro vs az dL h;cases vs<;>cases az<;>simp[dj.TrodAll]at h ⊢|cons t bQ b=>intro vs az dL h;obtain⟨v,c,d,e,p,q,rfl,rfl,rfl,ar,a⟩:=trodAll_cons h;simp[b a]
end Go.ft
namespace Go.Proofs.YtdelkmpkjibigaaGreatDoor
open Go.ft Go.ChangeShapes Go.WideShapes Go.ChangeAt Go.RowKit Go.ChangeMaps
theorem own:ownKnob Tryz.prog.godebug=none:=bW
def Vh:U Nat:=[3,4,9,5,33,35,83,86,38,56,24,22,23,36,28,31,30,129,152,63,25,27]
theorem aA8:Mg i_ (qo tZ) Vh=true:=bW
theorem aBF:Mo Tryz.prog i_ (qo tZ) Vh=true:=bW
theorem ayR:laidOutB Tryz.prog=true:=bW
def AK(x:dn)(g:Nat):lI->Prop|.arr c xs=>∀i y,xs[i]? = J y->∀w',bM x.S x.w w'->ob w' c y g (i*a8 c)|.map l=>∃r es a,(∀w',bM x.S x.w w'->w'.cell? ⟨g,0,aj⟩=J (.map (J r))/\w'.heap[r]? = J (.map es a))/\J0 l es.toList|.num k=>∃n,∀w',bM x.S x.w w'->w'.cell? ⟨g,0,aj⟩=J (.int k n)
theorem r7{α:Type}:∀{L:U (Nat×α)}{g:Nat}{v : α},eT L g=J v->(g,v)∈L
 |[],_,_,h=>by simp[eT]at h
 |(k,u)::L,g,v,h=>by
  simp[eT]at h;split at h
  .simp_all
  .exact mg _ (r7 h)
theorem aAb{x:dn}{L:U (Nat×lI)}(h:∀p,p∈L->AK x p.1 p.2):qE x (eT L):=⟨λ_ _ _ a=>h _ (r7 a),λ_ _ a=>h _ (r7 a),λ_ _ a=>h _ (r7 a)⟩
theorem Qm{P:cP}{w:aT}:∀{l:U (String×dj Unit)}{dL:U MemPlace},dj.LaidVars P w l dL->∀x,x∈l->∃g t cs fuel p,P.globalNamed x.1=J g/\(P.globals[g]?).map (·.type)=J t/\w.var? P x.1=J cs/\dj.trod (λ_=>()) P w 0 (λ_=>ab) ai fuel t cs.toList=J (x.2,p)
 |[],_,_,x,ag=>by cases ag
 |(n,d)::r,dL,h,x,ag=>by
  obtain⟨g,t,cs,fuel,p,q,b,c,e,f,a,_⟩:=h;rcases hv.1 ag with rfl|ag
  .grind
  .exact Qm a x ag
variable{H:Type}{base:Nat}
theorem amI{enc:bD×aD->H}{P:cP}{w:aT}{sp:Nat->Bool}{held:Bool}{fuel:Nat}{t e:bD}{n:Nat}{cs:U aD}{zs:U (U UInt8)}{p:U MemPlace}
  (d:P.underlying t=J (.array n e)) (f:P.underlying e=J .string) (a:P.cellsOf e=1)
  (h:dj.trod enc P w base sp held fuel t cs=J (.agg (zs.map λz=>.lit (.string z)),p)):∀(i:Nat) (z:ak),zs[i]? = J z->cs[i]? = J (.string ⟨z.toArray⟩):=by
 cases fuel with
 |zero=>simp[dj.trod]at h
 |succ fuel=>
  simp only[dj.trod,d,a]at h;split at h
  .rename_i o;obtain⟨xs,hm,ag⟩:=Option.map_eq_some_iff.1 h;have c:xs.map (·.1)=zs.map λz=>(dj.lit (.string z):dj H):=im
   have g:I xs=n:=by simpa using Lib.mapM_length hm
   have j:I zs=n:=by have:=congrArg List.length c;simp at this;omega
   intro i z q;have k:i<n:=im
   obtain⟨b,al,l⟩:=Lib.mapM_at hm i i (by simp[k]);obtain⟨m,ao,r,_⟩:=dj.trod_string f l;have s:cs[i]? = J (.string m):=by
    have:=congrArg (·[0]?) ao
    grind
   have u:(xs.map (·.1))[i]? = J b.1:=by simp[al]
   simp_all
  .cases h
variable{W:aT}
theorem XV{l:U (String×dj Unit)}(h:laidMet Tryz.prog l W){a7:String}{g t e:Nat}{n:Nat}{zs:U ak}(a:(a7,dj.agg (zs.map λz=>.lit (.string z)))∈l)(m:Tryz.prog.globalNamed a7=J g)(b:(Tryz.prog.globals[g]?).map (·.type)=J t)
  (o:Tryz.prog.underlying t=J (.array n e)) (q:Tryz.prog.underlying e=J .string) (c:Tryz.prog.cellsOf e=1) (r:(zs.all λz=>eF (I z) dr)=ab):AK (v0 i_ fE W) g (.arr .str zs):=by
 obtain⟨dL,s,_⟩:=h;obtain⟨g',t',cs,fuel,p,f,u,v,w⟩:=Qm s _ a;obtain rfl:=ks (m.symm.trans f);obtain rfl:=ks (b.symm.trans u);intro i y aE w' x j d ar;have dh:j=0/\d = .str y:=by cases j with|zero=>simpa[enc]using ar.symm|succ j=>simp[enc]at ar
 obtain⟨rfl,rfl⟩:=dh;have k:=aT.var?_cell f v i;rw[<-Array.getElem?_toList,(amI o q c w) i y aE]at k;have de:i*a8 .str+0=i:=by simp[a8]
 exact⟨_,by rw[de];exact x.cell _ _ _ k (λh=>h),.str y (Nat.le_of_ble_eq_true (dH.1 r y (lW aE)))⟩
theorem azU:∀p,p∈oP->lM oP p.1=p.2:=dM
theorem ayT(l:U (Int×ak)):∀n,(∀p,p∈l->p.1≠n)->lM l n=[]:=by
 induction l with
 |nil=>intro n _;rfl
 |cons p l b=>
  intro n h;obtain⟨k,s⟩:=p;have a:k≠n:=h (k,s) (by simp);simp[lM,aL a]
  grind
theorem awi{l:U (String×dj Unit)}(h:laidMet Tryz.prog l W)(d:("exchequer/ast.signs",Rows.laid_exchequer_ast_signs)∈l):AK (v0 i_ fE W) 0 (.map oP):=by
 obtain⟨dL,o,_⟩:=h;obtain⟨g',t',cs,fuel,p,a,f,c,ar⟩:=Qm o _ d;obtain rfl:=ks ((show Tryz.prog.globalNamed "exchequer/ast.signs" = J 0 by kernel_rfl).symm.trans a);obtain rfl:=ks ((show(Tryz.prog.globals[0]?).map (·.type)=J 189 by kernel_rfl).symm.trans f);obtain⟨b,es,g,r,m,q⟩:=aru (l:=oP) (t:=189) (k:=3) (e:=9) bW bW bW azU (ayT oP) ar;have ao:=aT.var?_cell a c 0;have i:cs = #[.map (J b)]:=im
 rw[i]at ao;have j:b<W.heap.size:=(hZ.1 m).1;exact⟨b,es,g,λw' n=>⟨n.cell _ 0 _ ao (λh=>h),by rw[n.block b j (λ_ h=>h)];exact m⟩,q⟩
theorem azK(h:W.ShapedOpen Tryz.prog):AK (v0 i_ fE W) 2 (.num .i64):=by obtain⟨m,hm⟩:=Go.Proofs.cell_of_shapedOpen_int (zero:= #[.int .i64 0]) (t:=3) (g:=2) h (of_decide_eq_true bW) bW rfl bW bW Tryz.underlying3;exact⟨m,λw' a=>a.cell _ 0 _ hm (λh=>h)⟩
def ajo(l:U (String×dj Unit)):Prop:=(l.all λx=>x.2.handleName?.isNone)=ab
 /\ ("exchequer/lex.words",Rows.laid_exchequer_lex_words)∈l
 /\ ("exchequer/ast.signs",Rows.laid_exchequer_ast_signs)∈l
 /\ ("exchequer/ast.kinds",Rows.laid_exchequer_ast_kinds)∈l
 /\ True
theorem az6{l:U (String×dj Unit)}(a:ajo l)(c:laidMetH Tryz.prog l W)(i:W.ShapedOpen Tryz.prog):qE (v0 i_ fE W) ph:=by
 have b:laidMet Tryz.prog l W:=by
  have k:(l.filter λx=>x.2.handleName?.isSome)=[]:=List.filter_eq_nil_iff.2 λx ag=>by have:=dH.1 a.1 x ag;rw[Option.isNone_iff_eq_none]at this;simp[this]
  unfold laidMetH at c;rw[k]at c;exact c
 replace a:=a.2;clear c;have _:=i;refine aAb λp d=>?_;have f:AK (v0 i_ fE W) 3 (.arr .str qh):=XV (n:=36) (t:=287) (e:=9) b a.1 bW bW bW bW bW bW;replace a:=a.2;have g:=awi b a.1;replace a:=a.2;have h:AK (v0 i_ fE W) 1 (.arr .str vM):=XV (n:=6) (t:=236) (e:=9) b a.1 bW bW bW bW bW bW;replace a:=a.2;have j:=azK i;simp only[hv,List.not_mem_nil,or_false]at d
 repeat' (first|(rcases d with rfl|d)|subst d)
 all_goals assumption
def aCu:dj Unit->aD|.lit (.int k n)=>.int k n|.lit (.string s)=>.string ⟨s.toArray⟩|_=>.int .u8 0
def s6:dj Unit->U aD|.agg l=>l.map aCu|_=>[]
def aAy:dj Unit->U aD|.agg l=>l.flatMap s6|_=>[]
def Dp(vs:U aD):Obj->Obj|.cells _ t a=>.cells vs.toArray t a|o=>o
noncomputable def aye(h:Array Obj):Array Obj:=
 let h:=h.modify 3 (Dp (s6 Rows.laid_exchequer_lex_words));let h:=h.modify 1 (Dp (s6 Rows.laid_exchequer_ast_kinds));let h:=(h.modify 4 (Dp (s6 Rows.laid_unicode_utf8_first))).modify 5 (Dp (aAy Rows.laid_unicode_utf8_acceptRanges));let h:=(h.modify 0 (Dp [.map (J h.size)])).push (.map ((oP.zip (hg 11)).map λp=>(⟨.int .i64 p.1.1,.string ⟨p.1.2.toArray⟩,p.2⟩:MapEntry)).toArray 11)
 h
noncomputable def Pp(os:Os):World:={ aT.holding Tryz.prog os ⟨#[], #[],[]⟩with heap:=aye (aT.holding Tryz.prog os ⟨#[], #[],[]⟩).heap }
set_option maxRecDepth 100000 in
theorem auk{R:Nat×Nat}{M:bD->dj H->Prop}(gL:Ex Tryz.prog R M){enc:bD×aD->H}{f:FuncId}{fn:Func}{cj:U cA}{F:bt cj [.bool]}{s:ChangeSpec}(l:fH Tryz.prog i_ ph f cj [.bool] F)(fC:∀x,rK cj x->To R cj x->F x=J ab)
  (aF:fn.resultTypes = #[4]) (en:s.vars=[]) (cb:∀az,I az=I fn.params.toList->(s.fn H az).results=[.lit (.bool ab)]/\(s.fn H az).args=az/\(s.fn H az).vars=[])
  (m:yI (qo tZ) Vh fn.params.toList cj=ab) (g:(fn.params.toList.all λt=>Tryz.prog.readableRec t&&eU t Tryz.prog.types.size)=ab)
  {args:Array aD}{az gs:U (dj H)}{b:U MemPlace}(k:∀(j:Nat) t v,fn.params[j]? = J t->args[j]? = J v->aD.okWide Tryz.prog W .any base t v)
  (n:dj.Whole enc Tryz.prog fn.params.toList s.vars ai W args.toList az gs b) (o:qE (v0 i_ fE W) ph) (r:I az=I fn.params.toList->∀(i:Nat) (t:bD) (d:dj H),fn.params.toList[i]? = J t->az[i]? = J d->M t d) :
  Calls Tryz.prog f args W λe xU=>∃v,e = .returned v/\s.post enc Tryz.prog fn ai ab ai ai W args v xU:=by
 have u:=n;have w:=n.lt;obtain⟨p,q,y,ak6,rfl,a2,a3⟩:=n;rw[en]at ak6;obtain⟨rfl,rfl⟩:=trodVars_none ak6;have c:=arb y;obtain⟨x,ag,z⟩:=afO gL (λt=>J8 Gz t) aA8 aBF 0 m (λj t v aY aZ=>k j t v (by simpa using aY) (by simpa using aZ)) y;have a:=l.calls (fC x (C5 ag) (z (r c))) o ag;have de:args.toList.toArray=args:=by simp
 rw[de]at a;refine a.mono λdJ xU=>?_;rintro⟨rfl,al⟩;refine⟨_,rfl,?_⟩;obtain⟨aY,aZ,bg⟩:=cb az c;have eH:az++([]:U (dj H))=az:=by simp
 refine⟨az,[],_,[],p,[],u,?_,?_,?_,al.frame _,λh=>by cases h⟩
 .rw[eH,aY,aF];exact trodAll_cons_mk (shut_bool Tryz.underlying4 _) trodAll_mk0
 .rw[eH,aZ];refine W2 ayR al (λt b'=>?_) (λx ag=>w x te) y;have:=dH.1 g t b';simp at this;exact⟨this.1,by simpa using this.2⟩
 .rw[eH,bg,en];exact rfl
end Go.Proofs.YtdelkmpkjibigaaGreatDoor
