/- Texts of the proof,one behind the other: AxK,AxL,SxK,AxM,AxN,AxO,AxP,AxPf,AxQ,AxR,AxS. -/
import Derived.Test.YtdelkmpkjibigaaGreatDoorZ1
import Derived.Laws.MakeOwn
import Derived.Lib.AppendStr
set_option linter.all false
open List renaming length->I,replicate->lX,range->hg,eq_nil_of_length_eq_zero->k0,range'->j4,append_nil->kq,getElem?_take->h5,getElem?_drop->kr,mem_cons->hv,length_take->jL
open Option renaming some->J,none->aj
open Bool renaming true->ab,false->ai
open Decidable renaming decide->aa
open Nat renaming mul_le_mul_right->ly,beq->cp,blt->eU,le_trans->fV,zero_le->cL,zero_add->h6
open Go.Instr renaming sliceBounds->ko
open Go.IntKind renaming signed->lu,bits->kp
open Go.Region renaming ready->iB,wanted->kt
open Go.Sem renaming run_bind->e3,run_pure->ga
open Go.Result renaming andThen_ok->gr
open Go.World renaming cell?->h7
open Go.Builtin renaming append_->oT,zeroCells->iM
open Ne renaming symm->hE
open Go.Value renaming cells->lY
open Go renaming Value->aD,IntKind->df,Operand->cO,Builtin->jq,Oper->bx,World->aT,TypeId->bD,maxLen->dr,Program->cP,execOp->cE,run_underlying->dO,grownCap->hU
open Option.some renaming inj->ks
namespace Go
theorem fL{p:Prop}(h:p:=by simp[bS,Op.operands]):p:=h
theorem KC{p:Prop}(h:p:=by simp[bS,Op.operands,Call.operands]):p:=h
theorem aj7{p:Prop}(h:p:=by apply Array.ext';rw[Array.toList_map];exact at7 (by rw[dm,bg.len]) aZ):p:=h
theorem akb{p:Prop}(h:p:=by rw[i];simp[Op.operands,Call.operands];right;simpa using bV):p:=h
theorem Ed{p:Prop}(h:p:=by apply Array.ext';simp):p:=h
theorem td{p:Prop}(h:p:=by rw[d];simp):p:=h
theorem S7{p:Prop}(h:p:=by rw[<-k5 c y];exact(lN.1 ar).1):p:=h
theorem akg{p:Prop}(h:p:=by rcases ao with ao|rfl<;>simp at * <;> omega):p:=h
theorem KG{p:Prop}(h:p:=by rw[av.Mw]):p:=h
theorem KH{p:Prop}(h:p:=by simp[eC,a,FS.put,ho]):p:=h
theorem Eh{p:Prop}(h:p:=by simpa using ao):p:=h
theorem KK{p:Prop}(h:p:=by simp[eC,a,FS.put]):p:=h
theorem KL{p:Prop}(h:p:=by rw[gS.1];exact al):p:=h
theorem Ej{p:Prop}(h:p:=by simpa using m):p:=h
theorem KM{p:Prop}(h:p:=by simp[Vs,bS,ag]):p:=h
theorem Td{p:Prop}(h:p:=by rw[<-aW.cD];exact ac):p:=h
theorem KQ{p:Prop}(h:p:=by simpa using bZ):p:=h
theorem Em{p:Prop}(h:p:=by simp[eE,i]):p:=h
end Go
namespace Go
theorem wb{p:Prop}(h:p:=by exact hL.2 af):p:=h
theorem wc{p:Prop}(h:p:=by simp[ ni]at h;obtain⟨_,rfl⟩:=h;refine⟨λ_ h=>h,λt b=>by simp[sX]at b⟩):p:=h
theorem G4{p:Prop}(h:p:=by simp[cE,bS,Instr.storeAt,aZ,dE,vx,Instr.sureAddr,storeVar,e3,ga,gr,av.run_sizeOf bE,ne_eq,not_true_eq_false,if_false];rw[mn];simp):p:=h
theorem N1{p:Prop}(h:p:=by simp[ ni]at h;obtain⟨rfl,_⟩:=h;simpa[fy,aG]using a):p:=h
theorem adi{p:Prop}(h:p:=by rw[if_pos bB,if_pos af,show q-o=(q-(o+1))+1 by omega];simp):p:=h
theorem adm{p:Prop}(h:p:=by have:=l N listed b s c j k;obtain⟨_,o,d,_⟩:=mem_ready.1 k;have t:=(hZ.1 d).1;omega):p:=h
theorem ads{p:Prop}(h:p:=by exact FS.eq rfl c rfl rfl rfl (by simp[eC,a]) (by simp[eC,a]) (by simp[eC,a]) (by simp[eC,a])):p:=h
theorem adv{p:Prop}(h:p:=by rw[if_pos af,show i.toNat*a8 dD+j-i.toNat*a8 dD=j by omega];exact hu):p:=h
theorem adx{p:Prop}(h:p:=by simp[ ni]at h;obtain⟨rfl,_⟩:=h;simp[ aG]at a ⊢;obtain⟨x,vs,o,bg,cB⟩:=a;exact⟨x,vs,o,bg,λq y j e aE he=>by obtain⟨u,hu,cb⟩:=cB q y j e aE he;exact⟨u,hu,l cb⟩⟩):p:=h
theorem ady{p:Prop}(h:p:=by rw[dx,<-ag _ x fL]at he;obtain⟨v,_,aZ,bg⟩:=aF.env.aJ he;exact⟨v,run s m a w aZ bg (.inl (by simp[aG]at bg;exact⟨_,bg.2.1⟩)),bg⟩):p:=h
theorem adD{p:Prop}(h:p:=by rw[dx,<-ag _ x cV]at ar;obtain⟨v1,aY,_,bg⟩:=aF.env.aJ ar;rw[bS];exact bE (aW.a1 t) (xj cw) bg aY (Bi aF.env ct λu y aE=>by rw[dx];exact ag u y (cS y aE)) (Bi aF.env cM λu y aE=>by rw[dx];exact ag u y (cZ y aE))):p:=h
theorem ai1{p:Prop}(h:p:=by subst bV;rw[if_neg af,if_pos af];simp[show q<I cs by omega]):p:=h
theorem ai6{p:Prop}(h:p:=by have:(q+1)*a8 dD<=i.toNat*a8 dD:=ly _ dv;rw[Nat.succ_mul]at this;omega):p:=h
theorem aja{p:Prop}(h:p:=by have gy:w.drew.heap.size=w.heap.size:=rfl;rw[gy]at eH;rw[eH];congr 2;apply Array.ext';simp):p:=h
theorem ajb{p:Prop}(h:p:=by simp at ar;subst ar;obtain rfl:=aG.int aF;exact⟨y,_,rfl,rfl,aE⟩):p:=h
end Go
namespace Go.ft
open Go.RowKit
section
variable {R:Type}{px:aR R}{ah:di}
theorem EU(e:gx ah px){s f o:Nat}{u:ej}(h:sL px s f=J (o,u)):∃c l z fds fd,px.a1 s = .st c l z/\ah.P.underlying s=J (.struct fds)/\fds[f]? = J fd/\px.a1 fd.type=u/\fd.offset=o/\av.x_ ah.P s f=J o:=by
 unfold sL at h;split at h
 .rename_i c l z a;split at h
  .rename_i dq n g;simp at h;obtain⟨rfl,rfl⟩:=h;obtain⟨fds,i,b,_⟩:=Ny (e.a1 s) a;obtain⟨fd,j,k,m,d⟩:=O_ b g;rw[h6]at d;exact⟨c,l,z,fds,fd,a,i,by simpa using j,by rw[k],m,d⟩
  .cases h
 .cases h
theorem aAC(l:ak)(i:Int):hY .u8 (b_ l i)=true:=ajG (by have:=(l.getD i.toNat 0).toNat_lt;simp only[b_];omega)
variable{i:Int}{j:Int}
theorem Bg{n:Nat}(h:dP i j n=ab) : 0<=i/\i<=j/\j<=(n:Int):=by simpa[dP,and_assoc]using h
theorem Bn{n:Nat}(h:a_ i n=ab) : 0<=i/\i<(n:Int):=by simpa[a_]using h
variable{a:Act}{st:bw}{x:dn}
theorem Bi{env:Nat->ae D}{n:Nat}(c:mx x n env a){o:ae cO}{d:ae D}(h:FZ px st o=J d)(ag:∀u y,o=J y->iy px env u y=aJ px st u y):(o=aj/\d=aj)\/∃y e v,o=J y/\d=J e/\av.Env.aJ (sS a) y=J v/\aG x e v:=by
 cases o with
 |none=>simp[FZ]at h;exact .inl ⟨rfl,h.symm⟩
 |some y=>
  simp[FZ]at h;split at h
  .rename_i e b;simp at h;rw[<-ag _ y rfl]at b;obtain⟨v,f,_,g⟩:=c.aJ b;exact .inr ⟨y,e,v,rfl,h.symm,f,g⟩
  .cases h
variable{K:D->ae R}{dU:ae D}{r:R}
theorem atL{l:ak}{p:ae D}(h:Sh l dU p K=J r):∃d,K d=J r/\∀{P:cP}{e:av.Env}{t:Nat}{x:cO}{c f:ae cO}{vx:dn},av.oR P t=ab->av.Env.aJ e x=J (av.S l)->I l<=dr->((c=aj/\dU=aj)\/∃y d v,c=J y/\dU=J d/\av.Env.aJ e y=J v/\aG vx d v)->((f=aj/\p=aj)\/∃y d v,f=J y/\p=J d/\av.Env.aJ e y=J v/\aG vx d v)->∃v,av.Pure P e (.slice t x c f aj) v/\aG vx d v:=by
 unfold Sh at h;split at h
 .rename_i k i;obtain⟨al,g⟩:=h_ h;refine⟨_,g,λ{P e t x c f vx} m ag n a b=>?_⟩;rcases a with ⟨_,a⟩|⟨y,d,v,rfl,a,aE,o⟩
  .cases a
  rcases b with ⟨rfl,_⟩|⟨u,w,z,_,b,_⟩
  .simp at a;subst a;obtain rfl:=aG.int o;have:=Bg al;exact⟨_,av.U3 m ag aE ⟨this.1,this.2.1⟩,vi d'⟩
  .cases b
 .rename_i k j;obtain⟨al,g⟩:=h_ h;refine⟨_,g,λ{P e t x c f vx} m ag n a b=>?_⟩;rcases b with ⟨_,b⟩|⟨y,d,v,rfl,b,aE,o⟩
  .cases b
  rcases a with ⟨rfl,_⟩|⟨u,w,z,_,a,_⟩
  .simp at b;subst b;obtain rfl:=aG.int o;have:=Bg al;exact⟨_,av.U2 m ag aE ⟨this.2.1,this.2.2⟩,vi d'⟩
  .cases a
 .rename_i k i fg j;obtain⟨al,g⟩:=h_ h;refine⟨_,g,λ{P e t x c f vx} m ag n a b=>?_⟩;rcases a with ⟨_,a⟩|⟨y,d,v,rfl,a,aE,o⟩
  .cases a
  rcases b with ⟨_,b⟩|⟨u,w,z,rfl,b,q,s⟩
  .cases b
  simp at a b;subst a;subst b;obtain rfl:=aG.int o;obtain rfl:=aG.int s;exact⟨_,av.U1 m ag aE q (Bg al),vi (by simp[cut];omega)⟩
 .cases h
variable{P:cP}{e:av.Env}{t:Nat}
theorem Zg{x:cO}{b c:ae cO}{v u:aD}{d f:ae aD}(ag:av.Env.aJ e x=J v)(h:(b=aj/\d=aj)\/∃y q,b=J y/\d=J q/\av.Env.aJ e y=J q)(i:(c=aj/\f=aj)\/∃y q,c=J y/\f=J q/\av.Env.aJ e y=J q)(j:∀w,(Instr.sliceAt t v d f aj).run P w = .ok u w):av.Pure P e (.slice t x b c aj) u:=λn a w o g k=>by
 have l:b.map a.eval=d:=by
  rcases h with ⟨rfl,rfl⟩|⟨y,q,rfl,rfl,aE⟩
  .rfl
  .simp[g.aJ aE]
 have m:c.map a.eval=f:=by
  rcases i with ⟨rfl,rfl⟩|⟨y,q,rfl,rfl,aE⟩
  .rfl
  .simp[g.aJ aE]
 simp[cE,k,g.aJ ag,l,m,j w]
variable{c:cl}{bO:ae D}
theorem ar8{l:U (dy c)}(h:RU c l dU bO K=J r):∃d,K d=J r/\∀{P:cP}{el:cl->bD}{a1:Nat->ej}{e:av.Env}{t:Nat}{x:cO}{b f:ae cO}{vx:dn}{v:aD}{bh:l'},fO P el a1 t=ab->a1 t = .sl c->aG vx (.sl c l bh) v->av.Env.aJ e x=J v->((b=aj/\dU=aj)\/∃y d v,b=J y/\dU=J d/\av.Env.aJ e y=J v/\aG vx d v)->((f=aj/\bO=aj)\/∃y d v,f=J y/\bO=J d/\av.Env.aJ e y=J v/\aG vx d v)->∃u,av.Pure P e (.slice t x b f aj) u/\aG vx d u:=by
 have key:∀(i j:Nat),i<=j->j<=I l->∀{P:cP}{el:cl->bD}{a1:Nat->ej}{e:av.Env}{t:Nat}{x:cO}{b f:ae cO}{vx:dn}{v:aD}{bh:l'}{s a2:ae aD},fO P el a1 t=ab->a1 t = .sl c->aG vx (.sl c l bh) v->av.Env.aJ e x=J v->((b=aj/\s=aj)\/∃y q,b=J y/\s=J q/\av.Env.aJ e y=J q)->((f=aj/\a2=aj)\/∃y q,f=J y/\a2=J q/\av.Env.aJ e y=J q)->(∀cap w,I l<=cap\/l=[]->(ko ab (I l) cap s a2 aj).run P w = .ok (i,j,cap) w)->∃u,av.Pure P e (.slice t x b f aj) u/\aG vx (.sl c ((l.drop i).take (j-i)) .no) u:=by
  intro i j bB bE P el a1 e t x b f vx v bh s a2 b' g p ag aY aZ al;simp[aG]at p;obtain⟨a,cap,rfl,cb⟩:=tg p.1;obtain⟨by_,eZ,_,_⟩:=m0 b' g;obtain⟨hu,i0,z,bG,dK,a9,_⟩:=eZ;have a4:av.gA P (el c)=J (a8 c):=by simp[av.gA,bG,a9]
  have a5:I l<=cap\/l=[]:=im
  refine⟨_,Zg ag aY aZ (λw=>_a (c:=c) hu a4 (al cap w a5) rfl),?_⟩;simp[aG];exact⟨arQ cb bB bE,trivial⟩
 have a3:∀{e:av.Env}{vx:dn}{o:ae cO}{d:ae D},((o=aj/\d=aj)\/∃y q v,o=J y/\d=J q/\av.Env.aJ e y=J v/\aG vx q v)->∀{k:df}{n:Int},d=J (.int k n)->∃y q,o=J y/\J (aD.int k n)=J q/\av.Env.aJ e y=J q:=by
  rintro e vx o d (⟨_,rfl⟩|⟨y,q,v,rfl,rfl,aE,aF⟩) k n ar
  .cases ar
  .exact ajb
 have m:∀{e:av.Env}{vx:dn}{o:ae cO}{d:ae D},((o=aj/\d=aj)\/∃y q v,o=J y/\d=J q/\av.Env.aJ e y=J v/\aG vx q v)->d=aj->o=none:=im
 unfold RU at h;split at h
 .refine⟨_,h,λ{P el a1 e t x b f vx v bh} b' g p ag aY aZ=>?_⟩;have:=key 0 (I l) (cL _) (bU _) b' g p ag (.inl ⟨m aY rfl,rfl⟩) (.inl ⟨m aZ rfl,rfl⟩) (λcap w _=>aeo);simpa using this
 .rename_i k i;obtain⟨al,bf⟩:=h_ h;have al:=Bg al;refine⟨_,bf,λ{P el a1 e t x b f vx v bh} b' g p ag aY aZ=>?_⟩;have:=key i.toNat (I l) af (bU _) b' g p ag (.inr (a3 aY rfl)) (.inl ⟨m aZ rfl,rfl⟩) (λcap w _=>ac5 ⟨al.1,al.2.1⟩);rwa[List.take_of_length_le (by simp)]at this
 .rename_i k j;obtain⟨al,bf⟩:=h_ h;have al:=Bg al;refine⟨_,bf,λ{P el a1 e t x b f vx v bh} b' g p ag aY aZ=>?_⟩;have:=key 0 j.toNat (cL _) af b' g p ag (.inl ⟨m aY rfl,rfl⟩) (.inr (a3 aZ rfl)) (λcap w ao=>acC akg);simpa using this
 .rename_i k i fg j;obtain⟨al,bf⟩:=h_ h;have al:=Bg al;refine⟨_,bf,λ{P el a1 e t x b f vx v bh} b' g p ag aY aZ=>?_⟩;exact key i.toNat j.toNat af af b' g p ag (.inr (a3 aY rfl)) (.inr (a3 aZ rfl)) (λcap w ao=>afK akg)
 .cases h
theorem QR{n:Int}(h:Gl i j n=ab) : 0<=i/\i<=j/\j<=n:=by simp[Gl]at h;exact⟨h.1.1,h.1.2,h.2⟩
theorem amX{n:Int}(h:q_ i n=ab) : 0<=i/\i<n:=by simpa[q_]using h
theorem arX{b:Nat}{s n:Int}(h:R8 b c s n dU bO K=J r):∃d,K d=J r/\∀{P:cP}{el:cl->bD}{a1:Nat->ej}{e:av.Env}{t:Nat}{x:cO}{f g:ae cO}{vx:dn}{v:aD},fO P el a1 t=ab->a1 t = .sl c->aG vx (.h3 b c s n) v->av.Env.aJ e x=J v->((f=aj/\dU=aj)\/∃y d v,f=J y/\dU=J d/\av.Env.aJ e y=J v/\aG vx d v)->((g=aj/\bO=aj)\/∃y d v,g=J y/\bO=J d/\av.Env.aJ e y=J v/\aG vx d v)->∃u,av.Pure P e (.slice t x f g aj) u/\aG vx d u:=by
 have key:∀(i j:Int),0<=i->i<=j->j<=n->∀{P:cP}{el:cl->bD}{a1:Nat->ej}{e:av.Env}{t:Nat}{x:cO}{f g:ae cO}{vx:dn}{v:aD}{a2 a3:ae aD},fO P el a1 t=ab->a1 t = .sl c->aG vx (.h3 b c s n) v->av.Env.aJ e x=J v->((f=aj/\a2=aj)\/∃y q,f=J y/\a2=J q/\av.Env.aJ e y=J q)->((g=aj/\a3=aj)\/∃y q,g=J y/\a3=J q/\av.Env.aJ e y=J q)->(∀cap w,n.toNat<=cap->(ko ab n.toNat cap a2 a3 aj).run P w = .ok (i.toNat,j.toNat,cap) w)->∃u,av.Pure P e (.slice t x f g aj) u/\aG vx (.h3 b c (s+i) (j-i)) u:=by
  intro i j bO bB a9 P el a1 e t x f g vx v a2 a3 b' l p ag aY aZ al;simp only[aG]at p;obtain⟨g1,g2,g3,g4,a,cap,rfl,g5,g6,g7,cur,UE,g8,g9⟩:=p;obtain⟨by_,eZ,_,_⟩:=m0 b' l;obtain⟨hu,i0,z,bE,dK,bG,_⟩:=eZ;have a5:av.gA P (el c)=J (a8 c):=by simp[av.gA,bE,bG]
  refine⟨_,Zg ag aY aZ (λw=>_a (c:=c) hu a5 (al cap w g6) rfl),?_⟩;simp only[aG];refine⟨g1,by omega,by omega,by omega,_,cap-i.toNat,by rw[show j.toNat-i.toNat=(j-i).toNat by omega],?_,by omega,by omega,cur,UE,g8,by rw[g9];congr 1;omega⟩;rcases Int.le_iff_lt_or_eq.1 bB with bZ|b7
  .right;rw[if_neg af,(g5.resolve_left af)];simp[ av.jE];rw[<-Nat.add_mul];congr 1;omega
  .left;omega
 have a4:∀{e:av.Env}{vx:dn}{o:ae cO}{d:ae D},((o=aj/\d=aj)\/∃y q v,o=J y/\d=J q/\av.Env.aJ e y=J v/\aG vx q v)->∀{k:df}{n:Int},d=J (.int k n)->∃y q,o=J y/\J (aD.int k n)=J q/\av.Env.aJ e y=J q:=by
  rintro e vx o d (⟨_,rfl⟩|⟨y,q,v,rfl,rfl,aE,aF⟩) k n ar
  .cases ar
  .exact ajb
 have m:∀{e:av.Env}{vx:dn}{o:ae cO}{d:ae D},((o=aj/\d=aj)\/∃y q v,o=J y/\d=J q/\av.Env.aJ e y=J v/\aG vx q v)->d=aj->o=none:=by
  rintro e vx o d (⟨rfl,rfl⟩|⟨y,q,v,rfl,rfl,aE,aF⟩) ar
  .rfl
  .cases ar
 have aEd:∀{vx:dn}{v:aD},aG vx (.h3 b c s n) v->0<=n:=λh=>by simp[aG]at h;exact h.2.2.1
 unfold R8 at h;split at h
 .refine⟨_,h,λ{P el a1 e t x f g vx v} b' l p ag aY aZ=>?_⟩;have:=key 0 n (Int.le_refl _) (aEd p) (Int.le_refl _) b' l p ag (.inl ⟨m aY rfl,rfl⟩) (.inl ⟨m aZ rfl,rfl⟩) (λcap w _=>aeo);simpa using this
 .rename_i k i;obtain⟨al,bf⟩:=h_ h;have al:=QR al;refine⟨_,bf,λ{P el a1 e t x f g vx v} b' l p ag aY aZ=>?_⟩;exact key i n al.1 al.2.1 (Int.le_refl _) b' l p ag (.inr (a4 aY rfl)) (.inl ⟨m aZ rfl,rfl⟩) (λcap w _=>ac5 af)
 .rename_i k j;obtain⟨al,bf⟩:=h_ h;have al:=QR al;refine⟨_,bf,λ{P el a1 e t x f g vx v} b' l p ag aY aZ=>?_⟩;have:=key 0 j (Int.le_refl _) al.2.1 al.2.2 b' l p ag (.inl ⟨m aY rfl,rfl⟩) (.inr (a4 aZ rfl)) (λcap w ao=>acC af);simpa using this
 .rename_i k i fg j;obtain⟨al,bf⟩:=h_ h;have al:=QR al;refine⟨_,bf,λ{P el a1 e t x f g vx v} b' l p ag aY aZ=>?_⟩;exact key i j al.1 al.2.1 al.2.2 b' l p ag (.inr (a4 aY rfl)) (.inr (a4 aZ rfl)) (λcap w ao=>afK af)
 .cases h
end
section
variable {R:Type}{px:aR R}{ah:di}
variable{P:cP}{az:U D}{e:av.Env}{vs:U aD}
theorem amh{el:cl->bD}{a1:Nat->ej}{vx:dn}{b:jq}{xs:U cO}{bQ:Array Nat}{d:D}(b':fO P el a1 (bQ.toList.headD 0)=ab)(h:IP (a1 (bQ.toList.headD 0)) b az=J d)(ag:av.Env.gH e xs=J vs)(aF:bl vx az vs)(j:b = .len->bQ = #[bQ.toList.headD 0]):∃v,av.Pure P e (.call ⟨.builtin b,xs.toArray,bQ⟩) v/\aG vx d v:=by
 have one:∀{m:D},az=[m]->∃x v,xs=[x]/\av.Env.aJ e x=J v/\aG vx m v:=by
  rintro m rfl;simp only[bl]at aF;obtain⟨u,us,rfl,o,rfl⟩:=aF;cases xs with
  |nil=>simp[av.Env.gH]at ag
  |cons x xs=>
   simp[av.Env.gH]at ag;cases g:av.Env.aJ e x with
   |none=>simp[g]at ag
   |some v=>
    rw[g]at ag;cases p:av.Env.gH e xs with
    |none=>simp[p]at ag
    |some us=>
     simp[p]at ag;obtain⟨rfl,rfl⟩:=ag;cases xs with
     |nil=>grind
     |cons y ys=>
      simp[av.Env.gH]at p;cases i:av.Env.aJ e y<;>simp[i]at p
      cases bg:av.Env.gH e ys<;>simp[bg]at p
 have two:∀{m d2:D},az=[m,d2]->∃x y v u,xs=[x,y]/\av.Env.aJ e x=J v/\av.Env.aJ e y=J u/\aG vx m v/\aG vx d2 u:=by
  rintro m d2 rfl;simp only[bl]at aF;obtain⟨sD,a2,rfl,o,ny,a3,rfl,i,rfl⟩:=aF;cases xs with
  |nil=>simp[av.Env.gH]at ag
  |cons x xs=>
   simp[av.Env.gH]at ag;cases g:av.Env.aJ e x with
   |none=>simp[g]at ag
   |some v=>
    rw[g]at ag;cases xs with
    |nil=>simp[av.Env.gH]at ag
    |cons y xs=>
     simp[av.Env.gH]at ag;cases q:av.Env.aJ e y with
     |none=>simp[q]at ag
     |some v2=>
      rw[q]at ag;cases xs with
      |nil=>grind
      |cons z zs=>
       simp[av.Env.gH]at ag;cases bg:av.Env.aJ e z<;>simp[bg]at ag
       cases cB:av.Env.gH e zs<;>simp[cB]at ag
 unfold IP at h;split at h
 .split at h
  .rename_i r;simp at h;subst h;obtain⟨x,v,rfl,g,f⟩:=one rfl;obtain rfl:=aG.str f;rw[j rfl];exact⟨_,av.U8 (tr b' (w_ r)) g,k4 (wh f.Gh)⟩
  .cases h
 .split at h
  .rename_i c l t r;simp at h;subst h;obtain⟨x,v,rfl,g,f⟩:=one rfl;simp[aG]at f;obtain⟨a,cap,rfl,_⟩:=tg f.1;obtain⟨by_,eZ,_⟩:=m0 b' (xj r);rw[j rfl];exact⟨_,av.Cy (by unfold av.Gk;rw[eZ.yA]) g,k4 (wh f.1.here.len)⟩
  .cases h
 .split at h
  .rename_i n _ r;simp at h;subst h;obtain⟨x,v,rfl,g,f⟩:=one rfl;simp[aG]at f;obtain⟨_,o,i,bg,a,cap,rfl,_⟩:=f;obtain⟨by_,eZ,_⟩:=m0 b' (xj r);rw[j rfl];have cB:=av.Cy (by unfold av.Gk;rw[eZ.yA]) g;have dE:=wh (show n.toNat<=dr by omega);rw[Int.toNat_of_nonneg i]at cB dE;exact⟨_,cB,k4 dE⟩
  .cases h
 .split at h
  .rename_i k x fg y s;simp at s;subst s;simp at h;subst h;obtain⟨ym,ew,v1,v2,rfl,o,i,w,gY⟩:=two rfl;obtain rfl:=aG.int w;obtain rfl:=aG.int gY;refine⟨_,aBW o i,k4 ?_⟩;unfold min2;split
   .exact gY.u8
   .exact w.u8
  .cases h
 .split at h
  .rename_i k x fg y s;simp at s;subst s;simp at h;subst h;obtain⟨ym,ew,v1,v2,rfl,o,i,w,gY⟩:=two rfl;obtain rfl:=aG.int w;obtain rfl:=aG.int gY;refine⟨_,aB3 o i,k4 ?_⟩;unfold max2;split
   .exact gY.u8
   .exact w.u8
  .cases h
 .cases h
variable{t:Nat}
theorem aAN{vx:dn}{op:UnOp}{x:cO}{a d:D}{v:aD}(h:un op a=J d)(ag:av.Env.aJ e x=J v)(b:aG vx a v):∃u,av.Pure P e (.unOp op t x) u/\aG vx d u:=by
 unfold un at h;split at h<;>simp only[dN,reduceCtorEq]at h
 .subst h;obtain rfl:=aG.bool b;exact⟨_,av.Me ag,k1 _⟩
 .subst h;obtain rfl:=aG.int b;exact⟨_,av.aEt ag,k4 (Di _ _)⟩
 .subst h;obtain rfl:=aG.int b;exact⟨_,aBi ag,k4 (Di _ _)⟩
theorem ae3{c:cl}:∀{n:Nat}{az:U D}{xs:U (dy c)},Ao c n az=J xs->I xs=n/\∀(i:Nat) y,xs[i]? = J y->dec c ((az.drop (i*a8 c)).take (a8 c))=J y
 |0,[],xs,h=>by simp[Ao]at h;subst h;exact⟨rfl,by simp⟩
 |0,_::_,xs,h=>by simp[Ao]at h
 |n+1,az,xs,h=>by
  simp[Ao]at h;split at h
  .rename_i x ag;split at h
   .rename_i xs' a;simp at h;subst h;obtain⟨b,d⟩:=ae3 a;refine⟨by simp[b],λi y aE=>?_⟩;cases i with|zero=>grind|succ i=>have:=d i y (by simpa using aE);rw[List.drop_drop]at this;rw[Nat.succ_mul,Nat.add_comm (i*a8 c)];exact this
   .cases h
  .cases h
variable{x:dn}
theorem aG.sB{v:aD}(h:aG x (.sB az) v):∃vs:U aD,v = .tuple vs.toArray/\bl x az vs:=by simp[aG]at h;exact h
theorem W9{α β:Type}(f : α->ae β)(g : α->β):∀(l:U α),(∀x,x∈l->f x=J (g x))->l.mapM f=J (l.map g)
 |[],_=>rfl
 |x::l,h=>by simp[ h x (by simp),W9 f g l (λy aE=>h y (by simp[aE]))]
theorem WZ{t:bD}{n:Nat}(h:av.gA P t=J n):∃i,P.info? t=J i/\i.size=n:=by unfold av.gA at h;cases a:P.info? t with|none=>rw[a]at h;cases h|some i=>rw[a]at h;simp at h;exact⟨i,rfl,h⟩
theorem TV{t:bD}{zs:U aD}(h:av.yz P t=J zs):∃i z,P.info? t=J i/\i.zero=J z/\z.cells=zs.toArray:=by
 unfold av.yz at h;cases b:P.info? t with
 |none=>rw[b]at h;cases h
 |some i=>rw[b]at h;cases a:i.zero with|none=>simp[a]at h|some z=>simp[a]at h;exact⟨i,z,rfl,a,by rw[<-h]⟩
theorem W0{P:cP}{t:Nat}{fds:Array Field}(g:P.underlying t=J (.struct fds)):∀(aQ:U Field) (d:U (Nat×Nat)) (i:Nat),rB P t i aQ d=ab->(∀(j:Nat) fd,aQ[j]? = J fd->fds[i+j]? = J fd)->∀fd,fd∈aQ->∃n,av.gA P fd.type=J n
 |[],_,_,_,_,fd,a=>by simp at a
 |f::aQ,[],_,al,_,_,_=>by simp[rB]at al
 |f::aQ,p::d,i,al,cr,fd,a=>by
  simp[rB]at al;simp at a;rcases a with rfl|a
  .have b:=al.1.1.2;have c:=cr 0 fd (by simp);rw[Nat.add_zero]at c;unfold av.x_ at b;rw[g]at b;simp[c]at b;split at b
   .exact⟨_,by assumption⟩
   .cases b
  .exact W0 g aQ d (i+1) al.2 (λj e h=>by have:=cr (j+1) e uO;rwa[show i+(j+1)=i+1+j by omega]at this) fd a
theorem aqA(p:gx ah px){c:ae cl}{l:U (Nat×Nat)}{z:U D}(b:px.a1 t = .st c l z){aC:U (Nat×D)}(q:y3 px t z aC = J az){vs:U (Nat×aD)}(aZ:I vs=I aC)(bg:∀(j:Nat) f d,aC[j]? = J (f,d)->∃v,vs[j]? = J (f,v)/\aG x d v):∃cs:Array aD,ah.P.built t vs=J cs/\aG x (.agg az) (.agg cs):=by
 obtain⟨fds,r,w,_⟩:=Ny (p.a1 t) b;obtain⟨zs,y,a2⟩:=Hi (p.a1 t) (by rw[b];simp) (z:=.agg z) (by rw[b];rfl);obtain⟨e,a3⟩:=CP (x:=x) a2;have e:kz x z zs:=AP e;have g:=W0 r fds.toList l 0 w (λj fd dh=>by simpa using dh);have a4:fds.toList.mapM (λf=>(ah.P.info? f.type).map λi=>(f.offset,i.size))=J (fds.toList.map λf=>(f.offset,(av.gA ah.P f.type).getD 0)):=W9 _ _ _ λfd a=>by obtain⟨n,ck⟩:=g fd a;obtain⟨i,bO,rfl⟩:=WZ ck;simp[bO,av.gA]
 obtain⟨cs,a5,bB,bE⟩:=W5 (px:=px) (x:=x) (s:=t) (places:=(fds.toList.map λf=>(f.offset,(av.gA ah.P f.type).getD 0)).toArray) (λf dq u cb bf=>by
  obtain⟨_,_,_,bZ,fd,_,h,a,k,m,_⟩:=EU p cb;rw[r]at h;simp at h;subst h;have bG:=(pE (p.a1 fd.type) (by rw[k];exact(pH bf).1)).2.2;have b7:fds.toList[f]? = J fd:=w5
  have o:fds[f]? = J fd:=a;simp[o,bG,k,m]) q e a3 aZ bg
 obtain⟨i,rm,bO,dK,a9⟩:=TV y;refine⟨cs,?_,?_⟩
 .unfold cP.built;simp only[bO,r,dK,a4,a9];exact a5
 .simp only[aG];exact⟨bE,cs.toList,by simp,bB.tU⟩
theorem abq{x:dn}{c:cl}:∀{l:U D}{vs:U aD},bl x l vs->(l.all λd=>oK d&&cp (I (cells d)) (a8 c))=ab->kz x ((l.map cells).flatten) (vs.flatMap λv=>v.cells.toList)/\((l.map cells).flatten).all e_=ab/\∀v,v∈vs->v.cells.size=a8 c
 |[],vs,aF,_=>by simp[bl]at aF;subst aF;exact⟨⟨rfl,by simp⟩,rfl,by simp⟩
 |d::l,vs,aF,bz=>by
  simp[bl]at aF;obtain⟨u,us,rfl,b,e⟩:=aF;simp only[fk,bN]at bz;obtain⟨i1,f,g⟩:=abq e (by simpa using bz.2);have ao:=E8 b bz.1.1;have h:=dS bz.1.2;refine⟨?_,?_,?_⟩
  .simp;exact AP (ao.tU.append i1.tU)
  .simp only[hk,oC,List.all_append,bN];exact⟨bz.1.1,f⟩
  .intro v a;simp at a;rcases a with rfl|a
   .have:=ao.1;simpa[h]using this
   .exact g v a
theorem bl.akV:∀{A B:U D}{vs:U aD},bl x (A++B) vs->∃us ws,vs=us++ws/\bl x A us/\bl x B ws
 |[],B,vs,h=>⟨[],vs,rfl,by simp[bl],h⟩
 |d::A,B,vs,h=>by simp at h;obtain⟨u,us,rfl,b,c⟩:=h;obtain⟨a,ws,rfl,e,f⟩:=bl.akV c;exact⟨u::a,ws,rfl,by simp only[bl];exact⟨u,a,rfl,b,e⟩,f⟩
variable{c:cl}{k:Nat}
theorem awm(w:gx ah px){n:Nat}(b:px.a1 t = .arr n c){l:U D}(ck:k+I l=n)(bz:(l.all λd=>oK d&&cp (I (cells d)) (a8 c))=ab)(y:bl x l vs):∃cs:Array aD,ah.P.built t ((j4 k (I vs)).zip vs)=J cs/\aG x (.agg ((lX k (enc c (mr c))).flatten++(l.map cells).flatten)) (.agg cs):=by
 obtain⟨hu,m,_,_⟩:=FN (w.a1 t) b;obtain⟨zs,o,p⟩:=Hi (w.a1 t) (by rw[b];simp) (z:=.agg ((lX n (enc c (mr c))).flatten)) (by rw[b];rfl);obtain⟨i,rm,bO,dK,q⟩:=TV o;obtain⟨aFn,r,g⟩:=WZ m;obtain⟨aY,aZ,bg⟩:=abq (c:=c) y bz;obtain⟨h,f⟩:=CP (x:=x) p;have e:(cells (.agg ((lX n (enc c (mr c))).flatten)))=(lX k (enc c (mr c))).flatten++(lX (I l) (enc c (mr c))).flatten:=by simp[cells];rw[<-List.flatten_append,List.replicate_append_replicate,ck]
 rw[e]at h f;obtain⟨pre,post,rfl,j,s⟩:=h.akV;have hO:I pre=k*a8 c:=by rw[j.len];simp[ k5]
 have u:I post=I vs*a8 c:=by rw[s.len,y.len];simp[ k5]
 have a:=av.L3 (a8 c) vs k pre post bg hO af;refine⟨(pre++vs.flatMap λv=>v.cells.toList).toArray,?_,?_⟩
 .unfold cP.built;simp[bO,hu,dK,r,q,g];have ar:post.drop (I vs*a8 c)=[]:=gn af;rw[ar,kq]at a;simpa using a
 .simp only[aG];simp only[List.all_append,bN]at f ⊢;exact⟨⟨f.1,aZ⟩,_,rfl,j.append aY.tU⟩
variable{a:Act}
theorem at7{dL:U (Nat×cO)}(b:dL.map (·.1)=j4 k (I vs))(c:(dL.map (·.2)).map a.eval=vs):(dL.map λp=>match p with|(i,x)=>(i,a.eval x))=(j4 k (I vs)).zip vs:=im
variable{K:D->ae R}{r:R}{st:bw}
set_option maxHeartbeats 1000000 in
theorem Pj(aW:gx ah px){o:bx}(mO:∀b xs bQ,o.op = .call ⟨.builtin b,xs,bQ⟩->b = .len->bQ = #[bQ.toList.headD 0])(h:rE px o st K=J r):∃d,K d=J r/\y0 ah px o (get st.env) (bF st.au) d:=by
 unfold rE at h;split at h
 ·
  rename_i x bS;split at h
  .rename_i d ar;refine⟨d,h,l0 λs m a as_ w ag _ aF=>?_⟩;rw[dx,<-ag _ x fL]at ar;obtain⟨v,aY,_,bg⟩:=aF.env.aJ ar;exact⟨v,by rw[bS];exact av.jA aY,bg⟩
  .cases h
 ·
  rename_i x bS;split at h
  .rename_i d ar;refine⟨d,h,l0 λs m a as_ w ag _ aF=>?_⟩;rw[dx,<-ag _ x fL]at ar;obtain⟨v,aY,_,bg⟩:=aF.env.aJ ar;exact⟨v,by rw[bS];exact av.kX aY,bg⟩
  .cases h
 ·
  rename_i c x y bS;split at h
  .rename_i q u v ao hu en;refine⟨cond q u v,by cases q<;>exact h,l0 λs m a as_ w ag _ aF=>?_⟩;rw[dx,<-ag _ c fL]at ao;rw[dx,<-ag _ x fL]at hu;rw[dx,<-ag _ y fL]at en;obtain⟨v1,aY,_,bg⟩:=aF.env.aJ ao;obtain⟨v2,cB,_,eI⟩:=aF.env.aJ hu;obtain⟨v3,jJ,_,vI⟩:=aF.env.aJ en;obtain rfl:=aG.bool bg;cases q with|true=>exact⟨v2,by rw[bS];exact av.Vc aY cB,eI⟩|false=>exact⟨v3,by rw[bS];exact av.Vb aY jJ,vI⟩
  .cases h
 ·
  rename_i t dL bS;have db:∀q,q∈dL.toList.map (·.2)->q∈o.op.operands:=λq bV=>by rw[bS];simpa[Op.operands]using bV
  split at h
  .rename_i c l z a3;split at h
   .rename_i aC bz;split at h
    .rename_i az b7;refine⟨_,h,λs m a as_ w ag _ aF=>?_⟩;obtain⟨vs,aY,aZ,bg⟩:=afL aF.env bz (λu q bV=>by rw[dx];exact ag u q (db q bV));obtain⟨cs,cB,dE⟩:=aqA aW a3 b7 aZ bg;refine⟨.agg cs,?_,dE⟩;have dk:(dL.map λp=>match p with|(i,x)=>(i,a.eval x))=vs.toArray:=by apply Array.ext';simpa using aY
     simp[cE,bS,e3,dk,run_build w t vs.toArray cs (by simpa using cB),gr,ga]
    .cases h
   .cases h
  .rename_i n c a3;split at h
   .rename_i l bz;split at h
    .rename_i ao;simp only[bN]at ao;refine⟨_,h,λs m a as_ w ag _ aF=>?_⟩;obtain⟨vs,dm,aY,aZ,bg⟩:=O7 aF.env bz (λu q bV=>by rw[dx];exact ag u q (db q bV));obtain⟨cs,cB,dE⟩:=awm aW a3 (dS ao.1) ao.2 bg;refine⟨.agg cs,?_,dE⟩;have dk:(dL.map λp=>match p with|(i,x)=>(i,a.eval x))=((j4 (DQ dL.toList) (I vs)).zip vs).toArray:=aj7
     simp[cE,bS,e3,dk,run_build w t ((j4 (DQ dL.toList) (I vs)).zip vs).toArray cs cB,gr,ga]
    .cases h
   .cases h
  .cases h
 ·
  rename_i t x bS;split at h
  .rename_i g a5;split at h
   .rename_i l a3 ac;refine⟨_,h,λs m a as_ w ag _ aF=>?_⟩;rw[dx,<-ag _ x fL]at a5;obtain⟨v,_,aZ,bg⟩:=aF.env.aJ a5;simp[aG]at bg;subst bg;obtain⟨r,es,eY,cB,dE⟩:=aF.kT.2.1 g l Td;refine⟨.map (J r),?_,by simp only[aG];exact⟨r,es,eY,rfl,λw' hw=>(cB w' hw).2,dE⟩⟩;simp[cE,bS,aZ,Instr.loadAt,Instr.sureAddr,e3,ga,gr,IV (aW.a1 t) (by rw[a3];simp) (by rw[a3];rfl) (cB w (bM.refl _ _)).1]
   .cases h
  .rename_i b c i a5;split at h
   .rename_i dT xs dp;split at h
    .rename_i ao;simp only[bN,beq_iff_eq,fQ]at ao;obtain⟨⟨⟨aY,aZ⟩,rfl⟩,cB⟩:=ao;obtain⟨nj,bf⟩:=h_ h;refine⟨_,bf,λs m a as_ w ag al aF=>?_⟩;rw[dx]at a5;have ap:=acT (b:=b) bS a5 rfl;rw[<-ag _ x fL]at a5;obtain⟨v,_,dE,eI⟩:=aF.env.aJ a5;simp[aG]at eI;obtain⟨be,rfl,_⟩:=eI;have nY:=al (by rw[bS];rfl) b _ ap dp be;obtain⟨_,_,vs,ty,ch,bZ,bB⟩:=aF.gp b _ nY;obtain⟨u,jJ,j0⟩:=aBj (x:=vx ah m s w) (w:=w) (aW.a1 t) (pH cB).1 (dS aY) aZ ch bZ bB (Bn nj);refine⟨u,?_,j0⟩;simp[cE,bS,dE,vx,Instr.loadAt,Instr.sureAddr,e3,ga,gr,jJ]
    .cases h
   .cases h
  .rename_i p q7 pd a5;split at h
   .rename_i d bf ar;refine⟨d,h,λs m a as_ w ag al aF=>?_⟩;rw[dx]at a5;have ap:∀b,y6 p=J b->Gd o (get st.env) b:=λb al=>acT bS a5 al;rw[<-ag _ x fL]at a5;obtain⟨v,aY,aZ,bg⟩:=aF.env.aJ a5;rw[af4]at ar;have ar:=avC (λb k nZ=>al (by rw[bS];rfl) b k (ap b nZ)) ar bg;obtain⟨u,cB,dE⟩:=Wl aW aF bf ar bg;refine⟨u,?_,dE⟩;simp[cE,bS,aZ,e3,cB,gr,ga]
   .cases h
  .cases h
 ·
  rename_i x bS;have run:∀{d:D}{v:aD}(s:FS) (m:ed) (a:Act) (w:aT),a.eval x=v->aG (vx ah m s w) d v->((∃p,v = .pointer (J p))\/∃f cs,v = .func (.func f) #[] cs)->(cE a.eval o).run ah.P w = .ok (.value v) w:=by
   intro d v s m a w en _ ch;rcases ch with ⟨p,rfl⟩|⟨f,cs,rfl⟩
   .simp[cE,bS,en,ga]
   .simp[cE,bS,en,ga]
  split at h
  .rename_i b dq he;refine⟨_,h,λs m a as_ w ag _ aF=>?_⟩;rw[dx,<-ag _ x fL]at he;obtain⟨v,_,aZ,bg⟩:=aF.env.aJ he;exact⟨v,run s m a w aZ bg (.inl (by simp[aG]at bg;exact⟨_,bg.2⟩)),bg⟩
  .rename_i c y dq he;refine⟨_,h,λs m a as_ w ag _ aF=>?_⟩;rw[dx,<-ag _ x fL]at he;obtain⟨v,_,aZ,bg⟩:=aF.env.aJ he;exact⟨v,run s m a w aZ bg (.inl (by simp[aG]at bg;obtain⟨b,ew,cB,_⟩:=bg;exact⟨_,cB⟩)),bg⟩
  .rename_i g he;refine⟨_,h,λs m a as_ w ag _ aF=>?_⟩;rw[dx,<-ag _ x fL]at he;obtain⟨v,_,aZ,bg⟩:=aF.env.aJ he;exact⟨v,run s m a w aZ bg (.inl (by simp[aG]at bg;exact⟨_,bg⟩)),bg⟩
  .rename_i b c n i he;refine⟨_,h,λs m a as_ w ag _ aF=>?_⟩;exact ady
  .rename_i b c i he;refine⟨_,h,λs m a as_ w ag _ aF=>?_⟩;exact ady
  .rename_i f cs he;refine⟨_,h,λs m a as_ w ag _ aF=>?_⟩;rw[dx,<-ag _ x fL]at he;obtain⟨v,_,aZ,bg⟩:=aF.env.aJ he;exact⟨v,run s m a w aZ bg (.inr (by simp[aG]at bg;obtain⟨vs,cB,_⟩:=bg;exact⟨_,_,cB⟩)),bg⟩
  .cases h
 ·
  rename_i op t x y t' bS;split at h
  .rename_i p q a2 dC;split at h
   .rename_i c d al;obtain⟨ao,bf⟩:=h_ h;refine⟨d,bf,l0 λs m a as_ w ag _ aF=>?_⟩;rw[dx,<-ag _ x fL]at a2;rw[dx,<-ag _ y fL]at dC;obtain⟨v1,aY,_,bg⟩:=aF.env.aJ a2;obtain⟨v2,cB,_,eI⟩:=aF.env.aJ dC;rw[bS];exact az7 (aW.a1 t) al ao aY cB bg eI
   .cases h
  .cases h
 ·
  rename_i op t x bS;split at h
  .rename_i p a2;split at h
   .rename_i d ar;refine⟨d,h,l0 λs m a as_ w ag _ aF=>?_⟩;rw[dx,<-ag _ x fL]at a2;obtain⟨v1,aY,_,bg⟩:=aF.env.aJ a2;rw[bS];exact aAN ar aY bg
   .cases h
  .cases h
 ·
  rename_i q t x bS;split at h
  .rename_i k n fg a2 a3;split at h
   .rename_i bf;refine⟨_,h,l0 λs m a as_ w ag _ aF=>?_⟩;rw[dx,<-ag _ x fL]at a2;obtain⟨v1,aY,_,bg⟩:=aF.env.aJ a2;obtain rfl:=aG.int bg;rw[bS];exact⟨_,av.aEo fg (pE (aW.a1 q) (pH bf).1).1 (Rj (aW.a1 t) a3) aY,k4 (Di _ _)⟩
   .cases h
  .rename_i l a2 a3;split at h
   .rename_i bf;refine⟨_,h,l0 λs m a as_ w ag _ aF=>?_⟩;rw[dx,<-ag _ x fL]at a2;obtain⟨v1,aY,_,bg⟩:=aF.env.aJ a2;obtain rfl:=aG.str bg;rw[bS];exact⟨_,avz (pE (aW.a1 q) (pH bf).1).1 (tr (aW.a1 t) a3) aY,vi bg.Gh⟩
   .cases h
  .rename_i xs bh a2 a3;split at h
   .rename_i bf;refine⟨_,h,λs m a as_ w ag _ aF=>?_⟩;rw[dx,<-ag _ x fL]at a2;obtain⟨v1,aY,_,bg⟩:=aF.env.aJ a2;exact⟨_,aro (vx:=vx ah m s w) (aW.a1 q) (aW.a1 t) (xj bf) a3 bg _ a o (MI aF.env.defers) aY bS,vi (by simp[aG]at bg;exact bg.1.here.len)⟩
   .cases h
  .cases h
 ·
  rename_i t x dU bO bS;split at h
  .rename_i d i j ar ct cM;have cV:x∈o.op.operands:=fL
   have cS:∀y,dU=J y->y∈o.op.operands:=λy aE=>by simp[bS,Op.operands,aE]
   have cZ:∀y,bO=J y->y∈o.op.operands:=λy aE=>by simp[bS,Op.operands,aE]
   unfold adg at h;split at h
   .rename_i l;split at h
    .rename_i cw;obtain⟨iw,bf,bE⟩:=atL h;refine⟨iw,bf,l0 λs m a as_ w ag _ aF=>?_⟩;rw[dx,<-ag _ x cV]at ar;obtain⟨v1,aY,_,bg⟩:=aF.env.aJ ar;obtain rfl:=aG.str bg;rw[bS];exact bE (tr (aW.a1 t) (w_ cw)) aY bg.Gh (Bi aF.env ct λu y aE=>by rw[dx];exact ag u y (cS y aE)) (Bi aF.env cM λu y aE=>by rw[dx];exact ag u y (cZ y aE))
    .cases h
   .rename_i c l bh;split at h
    .rename_i cw;obtain⟨iw,bf,bE⟩:=ar8 h;refine⟨iw,bf,l0 λs m a as_ w ag _ aF=>?_⟩;exact adD
    .cases h
   .rename_i b c e0 n;split at h
    .rename_i cw;obtain⟨iw,bf,bE⟩:=arX h;refine⟨iw,bf,l0 λs m a as_ w ag _ aF=>?_⟩;exact adD
    .cases h
   .rename_i g;split at h
    .rename_i c xs n dT ac a3;split at h
     .rename_i ao;simp only[bN,fQ]at ao;obtain⟨⟨bG,rfl⟩,eM⟩:=ao;have bG:=dS bG;have eM:n<=1048576:=Nat.le_of_ble_eq_true eM;refine⟨_,h,l0 λs m a as_ w ag _ aF=>?_⟩;rw[dx,<-ag _ x cV]at ar;obtain⟨v1,aY,_,bg⟩:=aF.env.aJ ar;simp[aG]at bg;subst bg;obtain⟨hu,a9,_,_⟩:=FN (aW.a1 t) a3;have n0:dU=none:=by
       rcases Bi aF.env ct (λu y aE=>by rw[dx];exact ag u y (cS y aE))with ⟨h,_⟩|⟨_,_,_,_,h,_⟩
       .exact h
       .cases h
      have bi:bO=none:=by
       rcases Bi aF.env cM (λu y aE=>by rw[dx];exact ag u y (cZ y aE))with ⟨h,_⟩|⟨_,_,_,_,h,_⟩
       .exact h
       .cases h
      subst n0;subst bi;rw[bS];refine⟨_,av.aEC aY (u:=.slice (J ⟨g,0,aj⟩) n n) (λw=>?_),?_⟩
      .simp[Instr.sliceAt,e3,dO hu,gr,Instr.sureAddr,ga,axK,av.run_sizeOf a9,Nat.zero_mul,Nat.sub_zero,av.jE,h6,ite_self]
      .simp[aG];refine⟨Br bG.symm (.inr ⟨g,0,rfl,⟨by omega,by simp[dr];omega⟩,λi y aE w' hw=>?_⟩),trivial⟩;rw[h6];exact aF.kT.1 g c xs Td i y aE w' hw
     .cases h
    .cases h
   .cases h
  .cases h
 ·
  rename_i q x f bS;split at h
  .rename_i b dq gJ u a2 cb;refine⟨_,h,l0 λs m a as_ w ag _ aF=>?_⟩;rw[dx,<-ag _ x fL]at a2;obtain⟨v1,aY,_,bg⟩:=aF.env.aJ a2;simp[aG]at bg;obtain⟨dv,rfl⟩:=bg;obtain⟨_,_,_,_,_,_,_,_,_,_,dI⟩:=EU aW cb;rw[bS];refine⟨_,av.rb (by simpa using dI) aY,?_⟩;simp only[aG];exact⟨dv,trivial⟩
  .rename_i c y dq gJ u a2 cb;refine⟨_,h,l0 λs m a as_ w ag _ aF=>?_⟩;rw[dx,<-ag _ x fL]at a2;obtain⟨v1,aY,_,bg⟩:=aF.env.aJ a2;simp[aG]at bg;obtain⟨b,ew,rfl,pc⟩:=bg;obtain⟨_,_,_,_,_,_,_,_,_,_,dI⟩:=EU aW cb;rw[bS];refine⟨_,av.rb (by simpa using dI) aY,?_⟩;simp only[aG];exact⟨b,ew,by rw[Nat.add_assoc],pc⟩
  .cases h
 ·
  rename_i q x f bS;split at h
  .rename_i d gJ u a2 cb;split at h
   .rename_i v ao ek;simp[bN]at ao;refine⟨v,h,λs m a as_ w ag _ aF=>?_⟩;rw[dx,<-ag _ x fL]at a2;obtain⟨v1,_,aZ,bg⟩:=aF.env.aJ a2;obtain⟨_,_,_,fds,fd,_,hu,pY,pZ,gF,_⟩:=EU aW cb;have ev:=E8 bg ao.1.2;have hq:∃vs:U aD,v1 = .agg vs.toArray:=by
     cases d<;>simp at ao<;>simp[aG]at bg
     .obtain⟨_,vs,rfl,_⟩:=bg;exact⟨vs,rfl⟩
     .obtain⟨_,vs,rfl,_⟩:=bg;exact⟨vs,rfl⟩
    obtain⟨vs,rfl⟩:=hq;subst pZ;have ev:kz (vx ah m s w) (cells d) vs:=by simpa[lY]using ev
    obtain⟨kk,cB,dE⟩:=am7 (w:=w) (aW.a1 fd.type) (pH ao.1.1).1 ek ev ao.1.2;refine⟨kk,?_,dE⟩;subst gF;simp[cE,bS,Instr.field,aZ,e3,dO hu,pY,asAgg,ga,gr,cB]
   .cases h
  .cases h
 ·
  rename_i t x y bS;split at h
  .rename_i c xs bh k i a2 a4;split at h
   .rename_i cw;obtain⟨ao,bf⟩:=h_ h;refine⟨_,bf,l0 λs m a as_ w ag _ aF=>?_⟩;rw[dx,<-ag _ x fL]at a2;rw[dx,<-ag _ y fL]at a4;obtain⟨v1,aY,_,bg⟩:=aF.env.aJ a2;obtain⟨v2,cB,_,eI⟩:=aF.env.aJ a4;obtain rfl:=aG.int eI;rw[bS];exact aBC (aW.a1 t) (xj cw) bg aY cB ao
   .cases h
  .rename_i g k i a2 a4;split at h
   .rename_i c xs n dT ac a3;split at h
    .rename_i ao;simp only[bN,fQ]at ao;obtain⟨bG,rfl⟩:=ao;have bG:=dS bG;obtain⟨al,bf⟩:=h_ h;have al:=Bn al;refine⟨_,bf,λs m a as_ w ag _ aF=>?_⟩;rw[dx,<-ag _ x fL]at a2;rw[dx,<-ag _ y fL]at a4;obtain⟨v1,_,aZ,bg⟩:=aF.env.aJ a2;obtain⟨v2,_,dE,eI⟩:=aF.env.aJ a4;obtain rfl:=aG.int eI;simp[aG]at bg;subst bg;obtain⟨hu,a9,_,_⟩:=FN (aW.a1 t) a3;refine⟨.pointer (J ⟨g,0+i.toNat*a8 c,aj⟩),?_,?_⟩
     .simp[cE,bS,aZ,dE,e3,_4 hu a9 al,gr,ga]
     .simp[aG];refine⟨g,i.toNat*a8 c,by simp,λw' hw=>?_⟩;exact aF.kT.1 g c xs Td _ _ (Df (by rw[bG];exact al)) w' hw
    .cases h
   .cases h
  .rename_i b k i a2 a4;split at h
   .rename_i c mS xs n dT dp a3;split at h
    .rename_i ao;simp only[bN,fQ]at ao;obtain⟨rfl,bG⟩:=ao;have bG:=dS bG;subst bG;obtain⟨al,bf⟩:=h_ h;have al:=Bn al;refine⟨_,bf,λs m a as_ w ag _ aF=>?_⟩;rw[dx,<-ag _ x fL]at a2;rw[dx,<-ag _ y fL]at a4;obtain⟨v1,_,aZ,bg⟩:=aF.env.aJ a2;obtain⟨v2,_,dE,eI⟩:=aF.env.aJ a4;obtain rfl:=aG.int eI;simp[aG]at bg;obtain⟨dv,rfl⟩:=bg;obtain⟨hu,a9,_,_⟩:=FN (aW.a1 t) a3;refine⟨.pointer (J ⟨m.au b,0+i.toNat*a8 c,aj⟩),?_,?_⟩
     .simp[cE,bS,aZ,dE,e3,vx,_4 hu a9 al,gr,ga]
     .simp[aG];exact⟨dv,by simp[vx],al⟩
    .cases h
   .cases h
  .rename_i b c e0 n k i a2 a4;split at h
   .rename_i cw;obtain⟨ao,bf⟩:=h_ h;have ao:=amX ao;refine⟨_,bf,l0 λs m a as_ w ag _ aF=>?_⟩;rw[dx,<-ag _ x fL]at a2;rw[dx,<-ag _ y fL]at a4;obtain⟨v1,aY,_,bg⟩:=aF.env.aJ a2;obtain⟨v2,cB,_,eI⟩:=aF.env.aJ a4;obtain rfl:=aG.int eI;simp[aG]at bg;obtain⟨g1,g2,g3,g4,ad,cap,rfl,g5,g6,g7⟩:=bg;obtain rfl:=g5.resolve_left af;obtain⟨by_,eZ,_,_⟩:=m0 (aW.a1 t) (xj cw);obtain⟨hu,i0,z,p0,dK,a9,_⟩:=eZ;have e8:(av.p9 ah.P t == J (a8 c))=true:=by simp[av.p9,hu,av.gA,p0,a9]
    rw[bS];refine⟨_,av.alz e8 aY cB af,?_⟩;simp[aG];exact⟨g1,by rw[<-Nat.add_mul,show e0.toNat+i.toNat=(e0+i).toNat by omega],by omega⟩
   .cases h
  .cases h
 ·
  rename_i t x y bS;split at h
  .rename_i l k i a2 a4;split at h
   .rename_i cw;obtain⟨ao,bf⟩:=h_ h;refine⟨_,bf,l0 λs m a as_ w ag _ aF=>?_⟩;rw[dx,<-ag _ x fL]at a2;rw[dx,<-ag _ y fL]at a4;obtain⟨v1,aY,_,bg⟩:=aF.env.aJ a2;obtain⟨v2,cB,_,eI⟩:=aF.env.aJ a4;obtain rfl:=aG.int eI;obtain rfl:=aG.str bg;rw[bS];exact⟨_,av.U7 (tr (aW.a1 t) (w_ cw)) aY cB (Bn ao),k4 (aAC _ _)⟩
   .cases h
  .rename_i az k i a2 a4;split at h
   .rename_i n c a3;split at h
    .rename_i xs p4;obtain⟨al,bf⟩:=h_ h;have al:=Bn al;refine⟨_,bf,λs m a as_ w ag _ aF=>?_⟩;rw[dx,<-ag _ x fL]at a2;rw[dx,<-ag _ y fL]at a4;obtain⟨v1,_,aZ,bg⟩:=aF.env.aJ a2;obtain⟨v2,_,dE,eI⟩:=aF.env.aJ a4;obtain rfl:=aG.int eI;simp[aG]at bg;obtain⟨_,vs,rfl,bB⟩:=bg;obtain⟨hu,a9,iZ,iK⟩:=FN (aW.a1 t) a3;obtain⟨bZ,jF⟩:=ae3 p4;have ke:=jF _ _ (Df (by rw[bZ];exact al));obtain⟨g1,g2⟩:=ahJ (Fg ke ((AP bB).sub (i.toNat*a8 c) (a8 c)).tU);cases c5:fv c with
     |true=>refine⟨_,?_,g1 c5⟩;have eX:(isAgg (ah.el c)).run ah.P w = .ok ab w:=av.CC (by simp[iZ,iK,c5]) w;simp only[cE,bS,aZ,dE,Instr.index,asIntOf,e3,ga,gr,dO hu,if_pos al,av.run_sizeOf a9,Go.part,eX,if_true];congr 3;apply Array.ext';simp[List.take_drop]
     |false=>
      obtain⟨v,en,cq⟩:=g2 c5;refine⟨v,?_,cq⟩;have eX:(isAgg (ah.el c)).run ah.P w = .ok ai w:=av.CC (by simp[iZ,iK,c5]) w;have aY:a8 c=1:=by cases c<;>simp[fv]at c5<;>rfl
      have p5:vs.toArray[i.toNat*a8 c]? = J v:=by have:=congrArg (·[0]?) en;rw[aY]at this ⊢;simpa[h5,kr]using this
      simp only[cE,bS,aZ,dE,Instr.index,asIntOf,e3,ga,gr,dO hu,if_pos al,av.run_sizeOf a9,Go.part,eX,pX,if_false,p5]
    .cases h
   .cases h
  .cases h
 ·
  rename_i t x y bS;split at h
  .rename_i l i a2 a4 a3;refine⟨_,h,λs m a as_ w ag _ aF=>?_⟩;rw[dx,<-ag _ x fL]at a2;rw[dx,<-ag _ y fL]at a4;obtain⟨v1,_,aZ,bg⟩:=aF.env.aJ a2;obtain⟨v2,_,dE,eI⟩:=aF.env.aJ a4;obtain rfl:=aG.int eI;simp only[aG]at bg;obtain⟨r,es,eY,rfl,jJ,j0⟩:=bg;obtain⟨aFq,e,inf,hu,am,bO,dK⟩:=apH (aW.a1 t) a3;have n1:(zeroValue e).run ah.P w = .ok (av.S []) w:=by simp[zeroValue,typeInfo,go_sem,bO,dK]
   have jY:MapKept.IsKey (.int .i64) (.int .i64 i):=by simp[MapKept.IsKey]
   obtain⟨bZ,cb⟩:=j0 i;refine⟨av.S (lM l i),?_,vi bZ⟩;have bE:(Instr.lookup t (.map (J r)) (.int .i64 i) ai).run ah.P w = .ok (av.S (lM l i)) w:=by
    rcases cb with ⟨cb,hm⟩|⟨j,cb⟩
    .rw[hm];simp[Instr.lookup,dO hu,MapKept.run_getObj_map (jJ w (bM.refl _ _)),MapKept.run_checkKey am jY,MapKept.run_findKey am cb,n1,Result.andThen]
    .simp[Instr.lookup,dO hu,MapKept.run_getObj_map (jJ w (bM.refl _ _)),MapKept.run_checkKey am jY,MapKept.run_findKey am cb,Result.andThen,av.S]
   simp[cE,bS,aZ,dE,e3,bE,gr,ga]
  .cases h
 ·
  rename_i x i bS;split at h
  .rename_i az a2;split at h
   .rename_i d ar;refine⟨d,h,l0 λs m a as_ w ag _ aF=>?_⟩;rw[dx,<-ag _ x fL]at a2;obtain⟨v1,aY,_,bg⟩:=aF.env.aJ a2;obtain⟨vs,rfl,bB⟩:=aG.sB bg;obtain⟨v,en,cq⟩:=bB.get ar;rw[bS];exact⟨v,av.U5 aY (by rw[av.UT];exact en),cq⟩
   .cases h
  .cases h
 ·
  rename_i f cs bS;split at h
  .rename_i az b7;refine⟨_,h,λs m a as_ w ag _ aF=>?_⟩;obtain⟨vs,_,aZ,bg⟩:=vd aF.env b7 (λu q bV=>by rw[dx];exact ag u q (by simp[bS,Op.operands,bV]));refine⟨.func (.func f) #[] vs.toArray,?_,by simp only[aG];exact⟨vs,rfl,bg⟩⟩;have eH:(Array.mk cs).map a.eval=vs.toArray:=by apply Array.ext';simpa using aZ
   have gy:(Array.mk ([]:U cO)).map a.eval = #[]:=Ed
   simp[cE,bS,Instr.makeFunc,e3,ga,gr,eH,gy]
  .cases h
 ·
  rename_i f c cs bS;split at h
  .rename_i az b7;refine⟨_,h,λs m a as_ w ag _ aF=>?_⟩;obtain⟨vs,_,aZ,bg⟩:=vd aF.env b7 (λu q bV=>by rw[dx];exact ag u q (by rw[bS];simpa[Op.operands]using bV));refine⟨.func (.func f) vs.toArray #[],?_,by simp only[aG];exact⟨vs,rfl,bg⟩⟩;have eH:(Array.mk (c::cs)).map a.eval=vs.toArray:=by apply Array.ext';simpa using aZ
   have gy:(Array.mk ([]:U cO)).map a.eval = #[]:=Ed
   simp[cE,bS,Instr.makeFunc,e3,ga,gr,eH,gy]
  .cases h
 ·
  rename_i b xs bQ bS;split at h
  .rename_i az b7;split at h
   .rename_i d ar;refine⟨d,h,l0 λs m a as_ w ag _ aF=>?_⟩;obtain⟨vs,aY,_,bg⟩:=vd aF.env b7 (λu q bV=>by rw[dx];exact ag u q (by rw[bS];simpa[Op.operands,Call.operands]using bV));rw[bS];have:=amh (P:=ah.P) (vx:=vx ah m s w) (aW.a1 _) ar aY bg (mO b xs bQ bS);simpa using this
   .cases h
  .cases h
 .cases h
end
end Go.ft
namespace Go.av
open Go.RowKit
def aDk(P:cP)(ops:Array bx)(gE:aT->Prop)(o:bx)(v:aD)(a:Act):Prop:=(kt o (yielded ops a.tmps)=ab/\∀w,gE w->(∃w',(cE a.eval o).run P w = .ok (.value v) w'/\gE w')\/(∃f args w',(cE a.eval o).run P w = .ok (.enter f args) w'/\Calls P f args w' λdJ b=>dJ = .returned v/\gE b))\/(kt o (yielded ops a.tmps)=ai/\v=undef)
section
variable {P:cP}{ops:Array bx}{gE:aT->Prop}
def aj2(P:cP)(ops:Array bx)(gE:aT->Prop)(K:Act->Prop):U bx->Act->Prop|[],a=>K a|o::r,a=>∃v,aDk P ops gE o v a/\aj2 P ops gE K r (a.put o.dst v)
theorem L4{listed:Array Bool}{i:Nat}(a:i<listed.size):listed.getD i ai=listed.getD i true:=by simp[a]
end
structure T (ah:di) (ops:Array bx) (l:List bx) (k:List mB) (e:Env) (L:Loc) (F:aT->Prop) (Q:Exit->Act->aT->Prop):Prop where
 run:∀a,jO ah.n e a->aj2 ah.P ops (du ah L F) (λca=>∀w,du ah L F w->m3 ah.P Q k .normal ca w) l a
section
variable {ah:di}{k:U mB}{e:Env}{L:Loc}{F:aT->Prop}{Q:Exit->Act->aT->Prop}{ops:Array bx}{rest:U bx}
end
end Go.av
namespace Go.ft
open Go.RowKit
def oV(P:cP)(a:Act)(w:aT)(o:bx)(K:Act->aT->Prop):Prop:=(∃v w',(cE a.eval o).run P w = .ok (.value v) w'/\K (a.put o.dst v) w')\/(∃w',(cE a.eval o).run P w = .ok .skip w'/\K (a.put o.dst undef) w') \/ ∃f args w1,(cE a.eval o).run P w = .ok (.enter f args) w1/\Calls P f args w1 λdJ w'=>∃v,dJ = .returned v/\K (a.put o.dst v) w'
variable{K:Act->aT->Prop}{P:cP}{Q:Exit->Act->aT->Prop}{a:Act}{o:bx}{w:aT}
theorem oV.wp(h:oV P a w o K):o.wp P a w K Q:=by
 unfold bx.wp;rcases h with ⟨v,w',h,b⟩|⟨w',h,b⟩|⟨f,args,w1,h,b⟩
 .rw[h];exact b
 .rw[h];exact b
 .rw[h];simp[bx.upon];refine b.mono ?_;rintro dJ w' ⟨v,rfl,b⟩;exact b
variable{gw:Act->aT->Prop}
theorem oV.mono(h:oV P a w o K)(c:∀a w,K a w->gw a w):oV P a w o gw:=by
 rcases h with ⟨v,w',h,b⟩|⟨w',h,b⟩|⟨f,args,w1,h,b⟩
 .exact .inl ⟨v,w',h,c _ _ b⟩
 .exact .inr (.inl ⟨w',h,c _ _ b⟩)
 .refine .inr (.inr ⟨f,args,w1,h,b.mono ?_⟩);rintro dJ w' ⟨v,e,d⟩;exact⟨v,e,c _ _ d⟩
def At(P:cP)(ops:Array bx)(o:bx)(a:Act)(w:aT)(K:Act->aT->Prop):Prop:=(kt o (yielded ops a.tmps)=ab/\oV P a w o K)\/(kt o (yielded ops a.tmps)=ai/\K (a.put o.dst undef) w)
theorem At.wpOp{P:cP}{ops:Array bx}{o:bx}{a:Act}{w:aT}{K:Act->aT->Prop}{Q:Exit->Act->aT->Prop}{i:Nat}(d:ops[i]? = J o)(h:At P ops o a w K):wpOp P ops Q i K a w:=by
 unfold Go.wpOp;simp[d];rcases h with ⟨b,c⟩|⟨b,c⟩
 .simp[b];exact .inl c.wp
 .grind
theorem At.mono{ops:Array bx}(h:At P ops o a w K)(b:∀a w,K a w->gw a w):At P ops o a w gw:=h.imp (λh=>⟨h.1,h.2.mono b⟩) (λh=>⟨h.1,b _ _ h.2⟩)
def eE(o:bx):Bool:=match o.op with|.store _ _ _|.alloc _|.box _ _|.makeSlice _ _ _=>ab|.call ⟨.builtin .append,_,_⟩=>ab|.call ⟨.builtin .copy,_,_⟩=>ab|.call ⟨.value (.func f),_,_⟩=> !Jk f|.call ⟨.value _,_,_⟩=>ab|_=>ai
def hx(s t:FS):Prop:=s.au=t.au/\s.nb=t.nb/\s.bJ=t.bJ/\s.bu=t.bu
def eC(o:bx)(t s:FS):FS:={ s with
 env:=match o.dst with|some k=>λj=>if j=k then t.env k else s.env j|none=>s.env
 au:=if eE o then t.au else s.au
 nb:=if eE o then t.nb else s.nb
 bJ:=if eE o then t.bJ else s.bJ
 bu:=if eE o then t.bu else s.bu }
theorem FS.eq{x y:FS}(a:x.n=y.n)(b:x.env=y.env)(c:x.c7=y.c7)(d:x.lt=y.lt)(e:x.cx=y.cx)(f:x.au=y.au)(g:x.nb=y.nb)(h:x.bJ=y.bJ)(i:x.bu=y.bu):x=y:=by cases x;cases y;simp only at a b c d e f g h i;subst_vars;rfl
def kE(a c:FS)(b:Nat):Prop:=(∀k,a.au b=J k->c.au b=J k)/\∀k,c.au b=J k->b<a.nb->a.au b=J k
theorem kE.F8{a c:FS}(h:c.au=a.au)(b:Nat):kE a c b:=⟨λk d=>by rw[h];exact d,λk d _=>by rw[<-h];exact d⟩
variable{s:FS}
theorem atJ{p:bx}{t u:FS}(ar:∀k,o.dst=J k->p.dst≠J k)(d:¬(eE o=ab/\eE p=ab)):eC o t (eC p u s)=eC p u (eC o t s):=by
 have c:(eC o t (eC p u s)).env=(eC p u (eC o t s)).env:=by
  funext j;simp[eC];cases b:o.dst with
  |none=>rfl
  |some k=>cases a:p.dst with|none=>rfl|some q=>grind
 cases b:eE o<;>cases a:eE p
 .exact ads
 .exact FS.eq rfl c rfl rfl rfl (by simp[eC,b]) (by simp[eC,b]) (by simp[eC,b]) (by simp[eC,b])
 .exact ads
 .grind
section
variable (ops:Array bx) (s:Nat->FS)
def Fd(S:Nat->Bool):Nat->FS|0=>s 0|t+1=>match ops[t]? with|some o=>if S t then eC o (s (t+1)) (Fd S t)else Fd S t|none=>Fd S t
def nV:Prop:=∀i o,ops[i]? = J o->s (i+1)=eC o (s (i+1)) (s i)
variable {ops s}
variable{i:Nat}
theorem VD(ao:nV ops s)(a:ops[i]? = J o){k:Nat}(b:o.dst≠J k):(s (i+1)).env k=(s i).env k:=by have:=congrArg (λt=>t.env k) (ao i o a);simp[eC]at this;cases ar:o.dst with|none=>simpa[ar]using this|some d=>grind
theorem M3(ao:nV ops s)(b:ops[i]? = J o)(a:eE o=ai):hx (s (i+1)) (s i):=by
 have h:=ao i o b;refine⟨?_,?_,?_,?_⟩
 .have:=congrArg FS.au h;simpa[eC,a]using this
 .have:=congrArg FS.nb h;simpa[eC,a]using this
 .have:=congrArg FS.bJ h;simpa[eC,a]using this
 .have:=congrArg FS.bu h;simpa[eC,a]using this
theorem acZ(ao:nV ops s){S:Nat->Bool}{k i:Nat}:∀t,t<=ops.size->(∀j o,ops[j]? = J o->j<t->o.dst=J k->(S j=ab↔j<i))->(Fd ops s S t).env k=(s (min t i)).env k
 |0,_,_=>by simp[Fd]
 |t+1,b',h=>by
  have f:=acZ ao t af (λj o b l ar=>h j o b af ar);obtain⟨o,b⟩:∃o,ops[t]? = J o:=⟨_,mM af⟩;simp[Fd,b];by_cases ar:o.dst=J k
  .by_cases c:S t=ab
   .have e:=(h t o b af ar).1 c;rw[if_pos c,show min (t+1) i=t+1 by omega];simp[eC,ar]
   .grind
  .have a:(s (min (t+1) i)).env k=(s (min t i)).env k:=by
    by_cases e:t<i
    .rw[show min (t+1) i=t+1 by omega,show min t i=t by omega];exact VD ao b ar
    .grind
   by_cases c:S t=ab
   .rw[if_pos c,a,<-f];simp[eC];cases g:o.dst with|none=>rfl|some d=>grind
   .rw[if_neg c,a,f]
theorem hx.trans{a b c:FS}(h:hx a b)(k:hx b c):hx a c:=⟨h.1.trans k.1,h.2.1.trans k.2.1,h.2.2.1.trans k.2.2.1,h.2.2.2.trans k.2.2.2⟩
theorem hx.symm{a b:FS}(h:hx a b):hx b a:=⟨h.1.symm,h.2.1.symm,h.2.2.1.symm,h.2.2.2.symm⟩
theorem aj1(ao:nV ops s){S:Nat->Bool}{i:Nat}:∀t,t<=ops.size->(∀j o,ops[j]? = J o->j<t->eE o=ab->(S j=ab↔j<i))->hx (Fd ops s S t) (s (min t i))
 |0,_,_=>by simp[Fd,hx]
 |t+1,b',h=>by
  have e:=aj1 ao t af (λj o c k ar=>h j o c af ar);obtain⟨o,c⟩:∃o,ops[t]? = J o:=⟨_,mM af⟩;simp[Fd,c];by_cases ar:eE o=ab
  .have f:=h t o c af ar;by_cases b:S t=ab
   .have d:=f.1 b;rw[if_pos b,show min (t+1) i=t+1 by omega];simp[eC,ar,hx]
   .have d:¬t<i:=λg=>b (f.2 g);rw[if_neg b,show min (t+1) i=min t i by omega];exact e
  .have ar:eE o=false:=Eg
   have a:hx (s (min t i)) (s (min (t+1) i)):=by
    by_cases d:t<i
    .rw[show min (t+1) i=t+1 by omega,show min t i=t by omega];exact(M3 ao c ar).symm
    .rw[show min (t+1) i=min t i by omega];exact⟨rfl,rfl,rfl,rfl⟩
   by_cases b:S t=ab
   .rw[if_pos b];refine hx.trans ?_ (e.trans a);simp[eC,ar,hx]
   .rw[if_neg b];exact e.trans a
theorem ajD(ao:nV ops s){S:Nat->Bool}(f:∀p q op d,ops[p]? = J op->ops[q]? = J d->p<q->eE op=ab->eE d=ab->S q=ab->S p=ab):∀t,t<=ops.size->∃p,p<=t/\hx (Fd ops s S t) (s p)/\∀q o,ops[q]? = J o->eE o=ab->(q<p->S q=ab)/\(p<=q->q<t->S q=ai)
 |0,_=>⟨0,bU _,⟨rfl,rfl,rfl,rfl⟩,λq o _ _=>⟨λh=>absurd h (dY _),λ_ h=>absurd h (dY _)⟩⟩
 |t+1,b'=>by
  obtain⟨p,r,k,g⟩:=ajD ao f t af;obtain⟨o,bS⟩:∃o,ops[t]? = J o:=⟨_,mM af⟩;simp[Fd,bS];cases i:eE o with
  |true=>
   cases l:S t with
   |true=>
    refine⟨t+1,bU _,by simp[eC,i,hx],λq d a b=>⟨λn=>?_,λj m=>by omega⟩⟩;by_cases c:q=t
    .subst c;exact l
    .exact f q t d o a bS af b i l
   |false=>
    refine⟨p,by omega,by simpa using k,λq d a b=>⟨(g q d a b).1,λj m=>?_⟩⟩;by_cases c:q=t
    .subst c;exact l
    .exact(g q d a b).2 j af
  |false=>
   have e:hx (if S t=ab then eC o (s (t+1)) (Fd ops s S t)else Fd ops s S t) (s p):=by
    split
    .exact hx.trans (by simp[eC,i,hx]) k
    .exact k
   refine⟨p,by omega,e,λq d a b=>⟨(g q d a b).1,λj m=>?_⟩⟩;by_cases c:q=t
   .subst c;rw[bS]at a;simp at a;subst a;rw[i]at b;cases b
   .exact(g q d a b).2 j af
theorem aiz(ao:nV ops s)(hm:∀i o,ops[i]? = J o->(s i).nb<=(s (i+1)).nb){p:Nat}:∀d,p+d<=ops.size->(s p).nb<=(s (p+d)).nb
 |0,_=>bU _
 |d+1,h=>by obtain⟨o,bS⟩:∃o,ops[p+d]? = J o:=⟨_,mM af⟩;exact fV (aiz ao hm d af) (hm _ o bS)
variable{j:Nat}
theorem azB(ao:nV ops s)(hm:∀i o,ops[i]? = J o->(s i).nb<=(s (i+1)).nb){S:Nat->Bool}(e:∀p q op l,ops[p]? = J op->ops[q]? = J l->p<q->eE op=ab->eE l=ab->S q=ab->S p=ab){N b:Nat}(t:N<=ops.size)(u:j<=N)
  (m:∀q o,ops[q]? = J o->eE o=ab->((q<j/\S q=ai)\/(j<=q/\q<N/\S q=ab))->kE (s q) (s (q+1)) b):∀k,(s j).au b=J k->b<(Fd ops s S N).nb->(Fd ops s S N).au b=J k:=by
 obtain⟨p,x,n,r⟩:=ajD ao e N t;rw[n.1,n.2.1];intro k c f;rcases Nat.le_total p j with v|w
 .have down:∀d,p+d<=j->(s (p+d)).au b=J k->(s p).au b=J k:=by
   intro d;induction d with
   |zero=>intro _ h;exact h
   |succ d g=>intro ar h;obtain⟨o,bS⟩:∃o,ops[p+d]? = J o:=⟨_,mM af⟩;refine g af ?_;cases a:eE o with|true=>exact(m (p+d) o bS a (.inl ⟨by omega,(r _ _ bS a).2 af af⟩)).2 k h (iv f (aiz ao hm d af))|false=>rw[<-(M3 ao bS a).1];exact h
  exact down (j-p) af (by rw[show p+(j-p)=j by omega];exact c)
 .have up:∀d,j+d<=p->(s (j+d)).au b=J k:=by
   intro d;induction d with
   |zero=>intro _;exact c
   |succ d g=>intro ar;obtain⟨o,bS⟩:∃o,ops[j+d]? = J o:=⟨_,mM af⟩;have h:=g af;cases a:eE o with|true=>exact(m (j+d) o bS a (.inr ⟨by omega,by omega,(r _ _ bS a).1 af⟩)).1 k h|false=>show(s (j+d+1)).au b=J k;rw[(M3 ao bS a).1];exact h
  have:=up (p-j) af;rwa[show j+(p-j)=p by omega]at this
theorem Z_(ao:nV ops s){k:Nat}{a dU:Nat}(h:ada ops k dU a=ab):∀d,dU+d<=a->a<=ops.size->(s (dU+d)).env k=(s dU).env k
 |0,_,_=>rfl
 |d+1,aY,aZ=>by obtain⟨o,bS⟩:∃o,ops[dU+d]? = J o:=⟨_,mM af⟩;refine(VD ao bS (λb=>?_)).trans (Z_ ao h d af aZ);have c:=dH.1 h (dU+d) (List.mem_range.2 af);simp[bS,b]at c;omega
theorem acG{S:Nat->Bool}{i:Nat}{f:bx}(g:ops[i]? = J f)(h:S i=ai)(b:∀j o,ops[j]? = J o->i<j->S j=ab->(∀k,o.dst=J k->f.dst≠J k)/\¬(eE o=ab/\eE f=ab)):∀t,t<=ops.size->Fd ops s (λj=>if j=i then ab else S j) t=if i<t then eC f (s (i+1)) (Fd ops s S t)else Fd ops s S t
 |0,_=>by simp[Fd]
 |t+1,b'=>by
  obtain⟨o,bS⟩:∃o,ops[t]? = J o:=⟨_,mM af⟩;simp only[Fd,bS,(acG g h b t af)];by_cases e:t=i
  .subst e;rw[g]at bS;simp only[dN]at bS;subst bS;simp[h]
  .simp only[if_neg e];by_cases c:i<t
   .have a:i<t+1:=af
    simp only[c,a];by_cases d:S t=ab
    .simp only[d];obtain⟨l,m⟩:=b t o bS c d;exact atJ l m
    .simp only[d,pX,if_false]
   .have a:¬i<t+1:=af
    simp only[c,a,if_false]
theorem _w(ops:Array bx):∀n,rY ops n<=n
 |0=>bU _
 |n+1=>by have:=_w ops n;simp[rY];split<;>omega
theorem KV{ops:Array bx}:∀(n j:Nat) (a:bx),rY ops n<=j->j<n->ops[j]? = J a->∀q,q<j->kD ops 12 a q=ab
 |0,_,_,_,h,_=>absurd h (dY _)
 |n+1,j,a,aY,aZ,bS=>by
  intro q b;simp[rY]at aY;split at aY
  .rename_i al;by_cases c:j=n
   .subst c;simp only[ajr,bS]at al;exact dH.1 al q (List.mem_range.2 b)
   .exact KV n j a aY af bS q b
  .omega
theorem uR{ops:Array bx}{listed:Array Bool}(a:∀j o,ops[j]? = J o->listed.getD j ab=ab->∀e∈o.after,Region.binds .any e=ab->listed.getD e.on ab=ab):∀(n:Nat) (o:bx) (i:Nat),(∀e∈o.after,Region.binds .any e=ab->listed.getD e.on ab=ab)->kD ops n o i=ab->listed.getD i ab=ab
 |0,_,_,_,h=>by simp[kD]at h
 |n+1,o,i,bS,h=>by
  simp only[kD]at h;obtain⟨e,f,c⟩:=Array.any_eq_true'.1 h;simp only[bN,mK]at c;have d:=bS e f c.1.1;rcases c.2 with b|b
  .rw[<-dS b];exact d
  .split at b
   .rename_i p g;exact uR a n p i (a _ _ g d) b
   .cases b
def JH(ops:Array bx):Bool:=(hg ops.size).all λj=>match ops[j]? with
 |none=>ab
 |some a=>a.after.all (λe=> !Region.binds .any e||eU e.on j)&&(!Nat.blt j (lb ops)||(hg j).all λi=>match ops[i]? with
  |none=>ab
  |some b=>kD ops 12 a i||(b.apart ops a && !(eE b&&eE a)))
theorem xi(h:JH ops=ab){a:bx}(k:ops[j]? = J a):(∀e∈a.after,Region.binds .any e=ab->e.on<j)/\(j<lb ops->∀i b,i<j->ops[i]? = J b->kD ops 12 a i=ab\/(b.apart ops a=ab/\¬(eE b=ab/\eE a=ab))):=by
 have d:j<ops.size:=(hZ.1 k).1;simp[JH,List.mem_range]at h;have c:=h j d;rw[k]at c;simp only[bN,mK,dH,List.mem_range]at c;refine⟨λe l al=>?_,λf i b g m=>?_⟩
 .have:=Array.all_eq_true_iff_forall_mem.1 c.1 e l;simpa[al]using this
 .have n:=c.2.resolve_left (λq=>by
   have:eU j (lb ops)=true:=by rw[Nat.blt_eq];exact f
   rw[this]at q;cases q)
  have:=n i g;rw[m]at this;simp[mK,bN]at this;refine this.imp_right λh=>⟨h.1,λe=>?_⟩;rcases h.2 with q|q
  .rw[e.1]at q;cases q
  .rw[e.2]at q;cases q
def Tk(o:bx)(e0 s:FS):Prop:=(eE o=ab->hx s e0)/\(DY o.op=ab->H6 o e0.env e0.au s)
def Rr(ah:di)(ops:Array bx)(o:bx)(e0 b:FS):Prop:=∀(s:FS) (m:ed) (a:Act) (as_:U Act) (w:aT),(∀k,k∈o.looksAt ops->s.env k=e0.env k)->Tk o e0 s->s.n=e0.n->Rel ah m a as_ s w->At ah.P ops o a w λca w'=>∃a6,Rel ah a6 ca as_ (eC o b s) w'
theorem SP(ao:nV ops s)(S:Nat->Bool):∀t,t<=ops.size->(Fd ops s S t).n=(s 0).n
 |0,_=>rfl
 |t+1,b'=>by
  obtain⟨o,bS⟩:∃o,ops[t]? = J o:=⟨_,mM af⟩;simp[Fd,bS];split
  .exact SP ao S t af
  .exact SP ao S t af
theorem ahB(ao:nV ops s):∀t,t<=ops.size->(s t).n=(s 0).n
 |0,_=>rfl
 |t+1,b'=>by obtain⟨o,bS⟩:∃o,ops[t]? = J o:=⟨_,mM af⟩;have:=congrArg FS.n (ao t o bS);rw[this];exact ahB ao t af
theorem acU(ao:nV ops s):∀t,t<=ops.size->Fd ops s (λ_=>ab) t=s t
 |0,_=>rfl
 |t+1,b'=>by obtain⟨o,bS⟩:∃o,ops[t]? = J o:=⟨_,mM af⟩;simp[Fd,bS,if_true,acU ao t af];exact(ao t o bS).symm
theorem Ik{S T:Nat->Bool}:∀t,t<=ops.size->(∀j,j<t->S j=T j)->Fd ops s S t=Fd ops s T t
 |0,_,_=>rfl
 |t+1,b',h=>by simp only[Fd,Ik t af (λj a=>h j af),h t af]
theorem atV(o:bx)(t:FS):eC o t t=t:=by
 refine FS.eq rfl ?_ rfl rfl rfl (by simp[eC]) (by simp[eC]) (by simp[eC]) (by simp[eC]);funext j;simp[eC];cases o.dst with
 |none=>rfl
 |some k=>
  simp only;split
  .rename_i h;rw[h]
  .rfl
theorem acR{n:Nat}{listed:Array Bool}(c:listed.size=n)(k:j<n)(d:listed.getD j ab=ai):I ((hg n).filter λi=> !(listed.setIfInBounds j ab).getD i ab)+1<=I ((hg n).filter λi=> !listed.getD i ab):=by
 have e:((hg n).filter λi=> !(listed.setIfInBounds j ab).getD i ab)=((hg n).filter λi=> !listed.getD i ab).filter λi=> !Nat.beq i j:=by
  rw[List.filter_filter];apply List.filter_congr;intro i g;simp at g;by_cases a:i=j
  .subst a;simp[c,g]
  .rw[getD_set_ne ab (hE a),m5 a];simp
 rw[e];have b:j∈(hg n).filter λi=> !listed.getD i true:=by simp only[List.mem_filter,List.mem_range,d];exact⟨k,rfl⟩
 have:∀(l:U Nat),j∈l->I (l.filter λi=> !Nat.beq i j)+1<=I l:=by
  intro l;induction l with
  |nil=>intro h;cases h
  |cons x l f=>
   intro h;by_cases ag:x=j
   .subst ag;simp[ Nat.beq_refl,ef,if_false];have:=List.length_filter_le (λi=> !Nat.beq i x) l;omega
   .simp[hv]at h;have:=f (h.resolve_left (hE ag));simp[ m5 ag,kd,if_true];omega
 exact this _ b
theorem arx(he:∀j r,ops[j]? = J r->∀e∈r.after,Region.binds .any e=ab->e.on<j) :
  ∀(fuel N:Nat) (listed:Array Bool) (a:Act) (w:aT),N<=ops.size->(∀j r,N<=j->ops[j]? = J r->∀q,q<j->kD ops 12 r q=ab)->listed.size=ops.size->(∀i,i<ops.size->listed.getD i ab=aa (i<N))->I ((hg ops.size).filter λj=> !listed.getD j ab)<=fuel->wpList P ops Q (ops.toList.drop N) a w->wpAny P .any ops Q fuel listed a w:=by
 intro fuel;have a3:∀(N:Nat) (listed:Array Bool),(∀i,i<ops.size->listed.getD i ab=aa (i<N))->∀j o,ops[j]? = J o->listed.getD j ab=ab->∀e∈o.after,Region.binds .any e=ab->listed.getD e.on ab=true:=λN listed c j o d a4 e f al=>by have k:=(hZ.1 d).1;have g:=he j o d e f al;rw[c j k,fQ]at a4;rw[c e.on af,fQ];omega
 have l:∀(N:Nat) (listed:Array Bool),listed.size=ops.size->(∀j r,N<=j->ops[j]? = J r->∀q,q<j->kD ops 12 r q=ab)->(∀i,i<ops.size->listed.getD i ab=aa (i<N))->∀j,j∈iB .any ops listed->j=N:=λN listed b s c j k=>by
  obtain⟨dm,o,d,m⟩:=mem_ready.1 k;have t:=(hZ.1 d).1;rw[c j t,decide_eq_false_iff_not]at dm;rcases Nat.lt_trichotomy N j with h|h|h
  .have aW:=uR (a3 N listed c) 12 o N (λe f al=>by have g:=he j o d e f al;rw[<-av.L4 af];exact m e f al) (s j o af d N h)
   rw[c N af,fQ]at aW;omega
  .exact h.symm
  .omega
 induction fuel with
 |zero=>
  intro N listed a w mR s b c u n;have m:∀i,i<ops.size->listed.getD i ab=true:=λi bO=>by
   cases a5:listed.getD i ab with
   |true=>rfl
   |false=>
    have v:i∈(hg ops.size).filter λj=> !listed.getD j true:=by simp only[List.mem_filter,List.mem_range,a5];exact⟨bO,rfl⟩
    have:=List.length_pos_of_mem v;omega
  have bE:N=ops.size:=by
   rcases Nat.lt_or_ge N ops.size with h|h
   .have x:=m N h;rw[c N h,fQ]at x;omega
   .omega
  refine⟨List.eq_nil_iff_forall_not_mem.2 λj k=>?_,?_⟩
  .exact adm
  .rw[gn d']at n;exact n
 |succ fuel jz=>
  intro N listed a w mR s b c u n;rcases Nat.lt_or_ge N ops.size with g|bG
  .obtain⟨o,d⟩:∃o,ops[N]? = J o:=⟨_,mM g⟩;have y:listed.getD N ab=false:=by rw[c N g];simp
   have z:N∈iB .any ops listed:=mem_ready.2 ⟨y,o,d,λe f al=>by have x:=he N o d e f al;rw[av.L4 af,c e.on af];simpa using x⟩
   refine⟨λh=>(by rw[h]at z;cases z),λj k=>?_⟩;obtain rfl:=l N listed b s c j k;have ar:ops.toList.drop j=o::ops.toList.drop (j+1):=by
    have x:j<I ops.toList:=w6
    rw[List.drop_eq_getElem_cons x];congr 1;have aZ:ops[j]? = J ops.toList[j]:=by simp
    rw[d]at aZ;exact(ks aZ).symm
   have p:∀a w,wpList P ops Q (ops.toList.drop (j+1)) a w->wpAny P .any ops Q fuel (listed.setIfInBounds j ab) a w:=λa w h=>by
    refine jz (j+1) _ a w af (λq aEk bV bB=>s q aEk af bB) (by simp[b]) (λi bO=>?_) ?_ h
    .by_cases a2:i=j
     .subst a2;simp[b,bO]
     .rw[getD_set_ne ab (hE a2),c i bO];exact wb
    .have:=acR b g y;omega
   rw[ar]at n;unfold Go.wpOp;simp[d];simp[wpList]at n;split
   .rename_i hw;rw[if_pos hw]at n;exact n.imp (λh=>bx.wp_mono p h) id
   .rename_i hw;rw[if_neg hw]at n;exact p _ _ n
  .refine⟨λ_=>?_,λj k=>?_⟩
   .rw[gn d']at n;exact n
   .exact adm
variable{as_:U Act}
theorem amc{ah:di}{N:Nat}(mR:N<=ops.size)(ct:N=lb ops)(ar:JH ops=ab)(b':∀j l,N<=j->ops[j]? = J l->∀q,q<N->kD ops 12 l q=ab)(ao:nV ops s)(cM:∀i o,i<N->ops[i]? = J o->Rr ah ops o (s i) (s (i+1)))(cr:∀i o,ops[i]? = J o->(s i).nb<=(s (i+1)).nb)(bB:∀i j Mb l,ops[i]? = J Mb->ops[j]? = J l->i<N->j<N->i≠j->eE Mb=ab->DY l.op=ab->DG ops i j=ai->∀b,Gd l (s j).env b->kE (s i) (s (i+1)) b)(gK:∀m a w,Rel ah m a as_ (s N) w->∀(fuel:Nat) (listed:Array Bool),listed.size=ops.size->(∀i,i<ops.size->listed.getD i ab=aa (i<N))->I ((hg ops.size).filter λj=> !listed.getD j ab)<=fuel->wpAny ah.P .any ops Q fuel listed a w) :
  ∀(fuel:Nat) (listed:Array Bool) (a:Act) (w:aT),listed.size=ops.size->(∀j o,ops[j]? = J o->listed.getD j ab=ab->∀e∈o.after,Region.binds .any e=ab->listed.getD e.on ab=ab)->I ((hg ops.size).filter λj=> !listed.getD j ab)<=fuel->(∀q,N<=q->q<ops.size->listed.getD q ab=ai)->(∃m,Rel ah m a as_ (Fd ops s (λj=>listed.getD j ab) N) w)->wpAny ah.P .any ops Q fuel listed a w:=by
 have ac:∀j l,ops[j]? = J l->∀e∈l.after,Region.binds .any e=ab->e.on<j:=λj l f=>(xi ar f).1;have bZ:∀(fuel:Nat) (listed:Array Bool) (a:Act) (w:aT),listed.size=ops.size->I ((hg ops.size).filter λj=> !listed.getD j ab)<=fuel->(∀q,N<=q->q<ops.size->listed.getD q ab=ai)->(∀i,i<N->listed.getD i ab=ab)->(∃m,Rel ah m a as_ (Fd ops s (λj=>listed.getD j ab) N) w)->wpAny ah.P .any ops Q fuel listed a w:=by
  intro fuel listed a w t v x a3 ⟨m,hm⟩;rw[Ik (T:=λ_=>ab) N mR (λj dh=>a3 j dh),acU ao _ mR]at hm;refine gK m a w hm fuel listed t (λi bO=>?_) v;by_cases h:i<N
  .rw[a3 i h,aH h]
  .rw[x i af bO,aL h]
 intro fuel;induction fuel with
 |zero=>
  intro listed a w t r v x a4;refine bZ 0 listed a w t v x (λi bO=>?_) a4;cases ek:listed.getD i ab with
  |true=>rfl
  |false=>
   have cV:i∈(hg ops.size).filter λj=> !listed.getD j true:=by simp only[List.mem_filter,List.mem_range,ek];exact⟨by omega,rfl⟩
   have:=List.length_pos_of_mem cV;omega
 |succ fuel jz=>
  intro listed a w t r v x a4;by_cases y:∀i,i<N->listed.getD i ab=ab
  .exact bZ (fuel+1) listed a w t v x y a4
  refine⟨λaF=>?_,λj dh=>?_⟩
  .exfalso;have ev:∀i,i<N->listed.getD i ab=true:=by
    intro i;induction i using Nat.strongRecOn with
    |_ i e8=>
     intro bO;cases d:listed.getD i ab with
     |true=>rfl
     |false=>
      exfalso;obtain⟨o,bS⟩:∃o,ops[i]? = J o:=⟨_,mM af⟩;have:i∈iB .any ops listed:=mem_ready.2 ⟨d,o,bS,λe he al=>by have n:=ac i o bS e he al;rw[av.L4 af];exact e8 e.on n af⟩
      rw[aF]at this;cases this
   exact y ev
  obtain⟨z,l,f,a3⟩:=mem_ready.1 dh;have cS:j<ops.size:=(hZ.1 f).1;obtain⟨m,hm⟩:=a4;have hO:∀e∈l.after,Region.binds .any e=ab->listed.getD e.on ab=true:=λe he al=>by have n:=(xi ar f).1 e he al;rw[<-av.L4 af];exact a3 e he al
  have a9:j<N:=by
   rcases Nat.lt_or_ge j N with h|h
   .exact h
   .exact absurd (λi bO=>uR r 12 l i hO (b' j l h f i bO)) y
  have cZ:∀q c,ops[q]? = J c->listed.getD q ab=ab->q<N:=λq c g d=>by
   rcases Nat.lt_or_ge q N with h|h
   .exact h
   .rw[x q h (hZ.1 g).1]at d;cases d
  have bE:∀q c,ops[q]? = J c->q<j->listed.getD q ab=ai->kD ops 12 l q=ai/\c.apart ops l=ab/\¬(eE c=ab/\eE l=ab):=λq c g a5 d=>by
   rcases(xi ar f).2 af q c a5 g with aW|h
   .rw[uR r 12 l q hO aW]at d;cases d
   .refine⟨?_,h⟩;cases aW:kD ops 12 l q with|false=>rfl|true=>rw[uR r 12 l q hO aW]at d;cases d
  have u:∀q c,ops[q]? = J c->j<q->listed.getD q ab=ab->kD ops 12 c j=ai/\l.apart ops c=ab/\¬(eE l=ab/\eE c=ab):=λq c g a5 d=>by
   rcases(xi ar g).2 (by rw[<-ct];exact cZ q c g d) j l a5 f with aW|h
   .have:=uR r 12 c j (r q c g d) aW;rw[z]at this;cases this
   .refine⟨?_,h⟩;cases aW:kD ops 12 c j with|false=>rfl|true=>have:=uR r 12 c j (r q c g d) aW;rw[z]at this;cases this
  have am:∀k,k∈l.looksAt ops->(Fd ops s (λi=>listed.getD i ab) N).env k=(s j).env k:=λk bf=>by
   have:=acZ (s:=s) ao (S:=λi=>listed.getD i ab) (k:=k) (i:=j) N mR (λq c g _ db=>by
    rcases Nat.lt_trichotomy q j with n|rfl|bG
    .refine⟨λ_=>n,λ_=>?_⟩;cases d:listed.getD q ab with|true=>rfl|false=>exact absurd bf ((bx.apart_spec (bE q c g n d).2.1).1 k db)
    .simp only[z];simp
    .refine⟨λd=>?_,λh=>by omega⟩;exact absurd bf ((bx.apart_spec (u q c g bG d).2.1).2.2 k db))
   rwa[show min N j=j by omega]at this
  have gS:eE l=ab->hx (Fd ops s (λi=>listed.getD i ab) N) (s j):=λb'=>by
   have:=aj1 (s:=s) ao (S:=λi=>listed.getD i ab) (i:=j) N mR (λq c g _ a2=>by
    rcases Nat.lt_trichotomy q j with n|rfl|bG
    .refine⟨λ_=>n,λ_=>?_⟩;cases d:listed.getD q ab with|true=>rfl|false=>exact absurd ⟨a2,b'⟩ (bE q c g n d).2.2
    .simp only[z];simp
    .refine⟨λd=>?_,λh=>by omega⟩;exact absurd ⟨b',a2⟩ (u q c g bG d).2.2)
   rwa[show min N j=j by omega]at this
  have mQ:DY l.op=ab->H6 l (s j).env (s j).au (Fd ops s (λi=>listed.getD i ab) N):=λhm b k dk=>by
   refine azB ao cr (λp q op c aW g eX eY a2 d=>?_) mR af (λq c g a2 ch=>?_) k
   .rcases(xi ar g).2 (by rw[<-ct];exact cZ q c g d) p op eX aW with h|h
    .exact uR r 12 c p (r q c g d) h
    .exact absurd ⟨eY,a2⟩ h.2
   .rcases ch with ⟨n,d⟩|⟨gF,dp,d⟩
    .refine bB q j c l g f af a9 af a2 hm ?_ b dk;have aY:eU q j=true:=by rw[Nat.blt_eq];exact n
     simp[DG,aY,f];exact(bE q c g n d).1
    .have ap:q≠j:=λe=>by rw[e,z]at d;cases d
     refine bB q j c l g f dp a9 ap a2 hm ?_ b dk;have aY:eU q j=false:=by cases al:eU q j with|false=>rfl|true=>rw[Nat.blt_eq]at al;omega
     simp[DG,aY,g,m5 ap,Bool.false_or];exact(u q c g af d).1
  refine((cM j l a9 f _ m a as_ w am ⟨gS,mQ⟩ ((SP ao _ _ mR).trans (ahB ao j af).symm) hm).mono λca w' ⟨a6,dv⟩=>?_).wpOp f;refine jz _ ca w' (by simp[t]) ?_ ?_ ?_ ⟨a6,?_⟩
  .intro q c g d e he al;by_cases a5:q=j
   .subst a5;rw[f]at g;simp at g;subst g;have n:=(xi ar f).1 e he al;rw[getD_set_ne ab af];exact hO e he al
   .rw[getD_set_ne ab (hE a5)]at d;have:=r q c g d e he al;by_cases dI:e.on=j
    .rw[dI];simp[t,cS]
    .rw[getD_set_ne ab (hE dI)];exact this
  .have:=acR t cS z;omega
  .intro q dC eM;rw[getD_set_ne ab af];exact x q dC eM
  .have b7:=acG (s:=s) f z (S:=λi=>listed.getD i ab) (λq c g bG d=>by have h:=u q c g bG d;refine⟨λk bf he=>(bx.apart_spec h.2.1).2.1 k he bf,λch=>h.2.2 ⟨ch.2,ch.1⟩⟩) N mR
   rw[if_pos a9]at b7;rw[<-b7]at dv;rw[Ik (T:=λi=>if i=j then ab else listed.getD i ab) N mR (λi bO=>by
    by_cases cq:i=j
    .subst cq;simp[t]
    .rw[getD_set_ne ab (hE cq)];simp[cq])]
   exact dv
end
section
variable {ah:di}{m a6:ed}{a:Act}{as_:U Act}{s s':FS}{w w':aT}
theorem Rel.step(h:Rel ah m a as_ s w)(v:s'.n=s.n)(c:s'.env=s.env)(d:s'.c7=s.c7)(e:s'.lt=s.lt)(l:s'.cx=s.cx)(p:bM (fF m s) w w')(f:fI (vx ah m s w) (vx ah a6 s' w'))
  (gp:∀b k,s'.au b=J k->b<s'.nb/\kK (vx ah a6 s' w') (a6.au b) k) (mi:∀t,s'.bJ t->t<s'.bu)
  (inj:∀b cu,s'.au b≠aj->s'.au cu≠aj->a6.au b=a6.au cu->b=cu) (jm:∀t t' g o dq,s'.bJ t->s'.bJ t'->a6.bh t=J (g,o)->a6.bh t' = J (g,dq)->t=t')
  (h0:∀b t g o,s'.au b≠aj->s'.bJ t->a6.bh t=J (g,o)->a6.au b≠g) (own:∀b i,fF a6 s' b i->b<w'.heap.size/\(fF m s b i\/w.heap.size<=b)):Rel ah a6 a as_ s' w':=by
 have q:s.nb<=s'.nb:=f.nb;have r:s.bu<=s'.bu:=f.bu;refine⟨h.fw.later (λk i u=>(h.own k i u).2) p,?_,?_,by rw[d];exact fV h.c7 q,by rw[e];exact fV h.lt r,gp,mi,inj,jm,h0,λb i u=>?_,h.hN,h.kT.later f⟩
 .rw[v,c];exact h.env.later f
 .rw[d,e,l];exact h.jI.later f h.c7 h.lt
 .obtain⟨x,j⟩:=own b i u;refine⟨x,?_⟩;rcases j with j|j
  .exact(h.own b i j).2
  .exact .inr (fV h.fw.size j)
theorem Rel.n9(h:Rel ah m a as_ s w){b:Nat}(al:s.au b≠aj):m.au b<w.heap.size:=(h.own (m.au b) 0 (.inl ⟨b,al,rfl⟩)).1
variable{g:Nat}{t:Nat}
theorem Rel.lS(h:Rel ah m a as_ s w){o:Nat}(b:s.bJ t)(c:m.bh t=J (g,o)):g<w.heap.size:=(h.own g o (.inr ⟨t,o,b,c,bU _⟩)).1
variable{k:dW}
theorem Rel.newAt(h:Rel ah m a as_ s w)(j:bM fE w w')(a3:w.heap.size<=g)(y:g<w'.heap.size)(u:∀x',fI (vx ah m s w) x'->x'.w=w'->kK x' g k) :
  ∃a6,Rel ah a6 a as_ { s with au:=λb=>if b=s.nb then J k else s.au b,nb:=s.nb+1 } w'/\aG (vx ah a6 { s with au:=λb=>if b=s.nb then J k else s.au b,nb:=s.nb+1 } w') (.ptr s.nb 0) (.pointer (J ⟨g,0,aj⟩)):=by
 have al:∀k,k<w.heap.size->w'.heap[k]? = w.heap[k]? :=λk bf=>j.block k bf (λ_ h=>h);let a6:ed:={ m with au:=λb=>if b=s.nb then g else m.au b };let s':FS:={ s with au:=λb=>if b=s.nb then J k else s.au b,nb:=s.nb+1 };have a4:∀b,s.au b≠aj->b<s.nb:=λb al=>by cases cw:s.au b with|none=>exact absurd cw al|some k=>exact(h.gp b k cw).1
 have dZ:∀b i,fF a6 s' b i->fF m s b i\/w.heap.size<=b:=by
  rintro b i (⟨q,r,rfl⟩|⟨t,o,n,l,v⟩)
  .by_cases f:q=s.nb
   .grind
   .left;have d:s.au q≠none:=by simpa[s',f]using r
    exact .inl ⟨q,d,by simp[a6,f]⟩
  .exact .inl (.inr ⟨t,o,n,l,v⟩)
 have z:fI (vx ah m s w) (vx ah a6 s' w'):=by
  refine⟨j.mono (λ_ _ h=>h.elim),?_,rfl,λb c=>?_,Nat.le_succ _,bU _,λt _ c5=>⟨c5,rfl,λg o cr=>al g (h.lS c5 cr)⟩⟩
  .rintro b i (gL|x)
   .exact .inl (.inl gL)
   .rcases dZ b i x with h|h
    .exact .inl (.inr h)
    .exact .inr h
  .have:b<s.nb:=c;simp[vx,a6,Nat.ne_of_lt this]
 refine⟨a6,h.step rfl rfl rfl rfl rfl (j.mono (λ_ _ h=>h.elim)) z ?_ h.mi ?_ h.jm ?_ ?_,?_⟩
 .intro b q r;by_cases c:b=s.nb
  .subst c;have d:k=q:=by simpa using r
   subst d;exact⟨Nat.lt_succ_self _,by simpa[a6]using u _ z rfl⟩
  .have d:s.au b=J q:=by simpa[ c]using r
   obtain⟨n,l⟩:=h.gp b q d;have de:a6.au b=m.au b:=by simp[a6,c]
   refine⟨Nat.lt_succ_of_lt n,?_⟩;rw[de];exact l.later z (al _ (h.n9 td))
 .intro b cu n l he;by_cases c:b=s.nb<;>by_cases e:cu = s.nb
  .rw[c,e]
  .exfalso;have a2:s.au cu≠none:=by simpa[ e]using l
   have:=h.n9 a2;simp[a6,c]at he;omega
  .exfalso;have p:s.au b≠none:=by simpa[ c]using n
   have:=h.n9 p;simp[a6,e]at he;omega
  .refine h.inj b cu (by simpa[ c]using n) (by simpa[ e]using l) ?_;simpa[a6,c,e]using he
 .intro b t g o n l v;by_cases c:b=s.nb
  .have:=h.lS l v;simp[a6,c];omega
  .have p:s.au b≠none:=by simpa[ c]using n
   have:=h.h0 b t g o p l v;simpa[a6,c]using this
 .intro b i x;refine⟨?_,dZ b i x⟩;rcases dZ b i x with ch|ch
  .exact iv (h.own b i ch).1 j.size
  .rcases x with ⟨q,r,rfl⟩|⟨t,o,n,l,v⟩
   .by_cases f:q=s.nb
    .simpa[a6,f]using y
    .have d:s.au q≠none:=by simpa[ f]using r
     have:=h.n9 d;simp[a6,if_neg f];omega
   .exact iv (h.lS n l) j.size
 .simp[aG];exact⟨Nat.lt_succ_self _,by simp[vx,a6]⟩
variable{vs:U aD}
theorem Rel.new(h:Rel ah m a as_ s w){t:bD}(d:bM fE w w')(e:w.heap.size<w'.heap.size)(c:∀x',fI (vx ah m s w) x'->x'.w=w'->kK x' w.heap.size k)(aFj:vs=vs)(aFh:t=t) :
  ∃a6,Rel ah a6 a as_ { s with au:=λb=>if b=s.nb then J k else s.au b,nb:=s.nb+1 } w'/\aG (vx ah a6 { s with au:=λb=>if b=s.nb then J k else s.au b,nb:=s.nb+1 } w') (.ptr s.nb 0) (.pointer (J ⟨w.heap.size,0,aj⟩)):=h.newAt d (bU _) e c
theorem Rel.write(h:Rel ah m a as_ s w){b:Nat}{mm:dW}(u:s.au b=J mm)(p:bM (λc _=>c=m.au b) w w')(v:∀x',fI (vx ah m s w) x'->x'.w=w'->kK x' (m.au b) k):Rel ah m a as_ { s with au:=λc=>if c=b then J k else s.au c } w':=by
 have l:s.au b≠none:=by rw[u];simp
 have d:∀c,(if c=b then J k else s.au c)≠aj↔s.au c≠none:=λc=>by
  by_cases ao:c=b
  .subst ao;simp[l]
  .simp[ao]
 let s':FS:={ s with au:=λc=>if c=b then J k else s.au c };have dZ:∀c i,fF m s' c i↔fF m s c i:=λc i=>by
  constructor
  .rintro(⟨q,r,rfl⟩|y)
   .exact .inl ⟨q,(d q).1 r,rfl⟩
   .exact .inr y
  .rintro(⟨q,r,rfl⟩|y)
   .exact .inl ⟨q,(d q).2 r,rfl⟩
   .exact .inr y
 have f:∀c,c<w.heap.size->c≠m.au b->w'.heap[c]? = w.heap[c]? :=λc ao z=>p.block c ao (λ_ h=>z h);have n:bM (fF m s) w w':=p.mono λc i ao=>.inl ⟨b,l,ao.symm⟩;have eN:fI (vx ah m s w) (vx ah m s' w'):=by
  refine⟨n.mono (λ_ _ h=>.inr h),?_,rfl,λ_ _=>rfl,bU _,bU _,λt _ c5=>⟨c5,rfl,λg o cr=>f g (h.lS c5 cr) (λe=>h.h0 b t g o l c5 cr e.symm)⟩⟩;rintro c i (gL|cb)
  .exact .inl (.inl gL)
  .exact .inl (.inr ((dZ c i).1 cb))
 refine h.step rfl rfl rfl rfl rfl n eN ?_ h.mi (λc dT x aZ=>h.inj c dT ((d c).1 x) ((d dT).1 aZ)) h.jm (λc t g o x=>h.h0 c t g o ((d c).1 x)) (λc i cb=>?_)
 .intro c q r;by_cases ao:c=b
  .subst ao;have j:k=q:=by simpa using r
   subst j;exact⟨(h.gp c mm u).1,v _ eN rfl⟩
  .have j:s.au c=J q:=by simpa[ ao]using r
   obtain⟨x,aZ⟩:=h.gp c q j;exact⟨x,aZ.later eN (f _ (h.n9 (by rw[j];simp)) (λe=>ao (h.inj c b (by rw[j];simp) l e)))⟩
 .have:=(dZ c i).1 cb;exact⟨iv (h.own c i this).1 p.size,.inl this⟩
variable{t0:ae Nat}
theorem Rel.right(h:Rel ah m a as_ s w){p:ae (Nat×Nat)}(v:bM (λb i=>∃t o,t0=J t/\s.bJ t/\m.bh t=J (b,o)/\o<=i) w w')
  (aW:∀g o,p=J (g,o)->g<w'.heap.size/\(w.heap.size<=g\/∃t dq,t0=J t/\s.bJ t/\m.bh t=J (g,dq)/\dq<=o)) :
  Rel ah { m with bh:=λt=>if t=s.bu then p else m.bh t } a as_ { s with bJ:=λt=>(s.bJ t/\t0≠J t)\/t=s.bu,bu:=s.bu+1 } w'/\fI (vx ah m s w) (vx ah { m with bh:=λt=>if t=s.bu then p else m.bh t } { s with bJ:=λt=>(s.bJ t/\t0≠J t)\/t=s.bu,bu:=s.bu+1 } w'):=by
 let a6:ed:={ m with bh:=λt=>if t=s.bu then p else m.bh t };let s':FS:={ s with bJ:=λt=>(s.bJ t/\t0≠J t)\/t=s.bu,bu:=s.bu+1 };have a2:bM (fF m s) w w':=v.mono λb i ⟨t,o,_,l,e,f⟩=>.inr ⟨t,o,l,e,f⟩;have u:∀c,c<w.heap.size->(∀t o,t0=J t->s.bJ t->m.bh t=J (c,o)->False)->w'.heap[c]? = w.heap[c]? :=λc ao ck=>v.block c ao (λi ⟨t,o,l,e,f,_⟩=>ck t o l e f);have lQ:∀t,s'.bJ t->t≠s.bu->s.bJ t/\t0≠J t/\a6.bh t=m.bh t:=λt d a3=>by
  rcases d with d|d
  .exact⟨d.1,d.2,by simp[a6,a3]⟩
  .exact absurd d a3
 have n:a6.bh s.bu=p:=by simp[a6]
 have dZ:∀b i,fF a6 s' b i->fF m s b i\/w.heap.size<=b:=by
  rintro b i (⟨q,bV,rfl⟩|⟨t,o,l,e,f⟩)
  .exact .inl (.inl ⟨q,bV,rfl⟩)
  .by_cases d:t=s.bu
   .subst d;rw[n]at e;rcases(aW b o e).2 with ch|⟨t,dq,_,j,g2,r⟩
    .exact .inr ch
    .exact .inl (.inr ⟨t,dq,j,g2,fV r f⟩)
   .obtain⟨j,_,r⟩:=lQ t l d;rw[r]at e;exact .inl (.inr ⟨t,o,j,e,f⟩)
 have eN:fI (vx ah m s w) (vx ah a6 s' w'):=by
  refine⟨a2.mono (λ_ _ h=>.inr h),?_,rfl,λ_ _=>rfl,bU _,Nat.le_succ _,λt d c5=>?_⟩
  .rintro b i (gL|cb)
   .exact .inl (.inl gL)
   .rcases dZ b i cb with h|h
    .exact .inl (.inr h)
    .exact .inr h
  .have d:t<s.bu:=d;obtain⟨j,g2,r⟩:=lQ t c5 (Nat.ne_of_lt d);exact⟨j,r,λg o cr=>u g (h.lS j cr) (λt' dq de x y=>g2 (by rw[de,h.jm t' t g dq o x j y cr]))⟩
 refine⟨h.step rfl rfl rfl rfl rfl a2 eN ?_ ?_ h.inj ?_ ?_ ?_,eN⟩
 .intro b k bf;obtain⟨l,e⟩:=h.gp b k bf;have a4:s.au b≠none:=by rw[show s.au b=J k from bf];simp
  exact⟨l,e.later eN (u _ (h.n9 a4) (λt o _ x y=>h.h0 b t _ o a4 x y rfl))⟩
 .rintro t (⟨l,_⟩|rfl)
  .exact Nat.lt_succ_of_lt (h.mi t l)
  .exact Nat.lt_succ_self _
 .intro t t' g o dq l e f cB;by_cases d:t=s.bu<;>by_cases z:t' = s.bu
  .rw[d,z]
  .exfalso;subst d;rw[n]at f;obtain⟨j,g2,r⟩:=lQ t' e z;rw[r]at cB;rcases(aW g o f).2 with ch|⟨t,ew,de,x,y,_⟩
   .have:=h.lS j cB;omega
   .exact g2 (by rw[de,h.jm t t' g ew dq x j y cB])
  .exfalso;subst z;rw[n]at cB;obtain⟨j,g2,r⟩:=lQ t l d;rw[r]at f;rcases(aW g dq cB).2 with ch|⟨t',ew,de,x,y,_⟩
   .have:=h.lS j f;omega
   .exact g2 (by rw[de,h.jm t' t g ew o x j y f])
  .obtain⟨j,_,r⟩:=lQ t l d;obtain⟨fJ,_,kh⟩:=lQ t' e z;rw[r]at f;rw[kh]at cB;exact h.jm t t' g o dq j fJ f cB
 .intro b t g o l e f;by_cases d:t=s.bu
  .subst d;rw[n]at f;rcases(aW g o f).2 with ch|⟨t,ew,_,x,y,_⟩
   .have:=h.n9 l;show m.au b≠g;omega
   .exact h.h0 b t g ew l x y
  .obtain⟨j,_,r⟩:=lQ t e d;rw[r]at f;exact h.h0 b t g o l j f
 .intro b i cb;refine⟨?_,dZ b i cb⟩;rcases cb with ⟨q,bV,rfl⟩|⟨t,o,l,e,f⟩
  .exact iv (h.n9 bV) v.size
  .by_cases d:t=s.bu
   .subst d;rw[n]at e;exact(aW b o e).1
   .obtain⟨j,_,r⟩:=lQ t l d;rw[r]at e;exact iv (h.lS j e) v.size
end
section
variable {R:Type}{px:aR R}{ah:di}
def ho(t s:FS):FS:={ s with au:=t.au,nb:=t.nb,bJ:=t.bJ,bu:=t.bu }
def vv(P:cP)(a:Act)(w:aT)(o:bx)(kG:aD->aT->Prop):Prop:=(∃v w',(cE a.eval o).run P w = .ok (.value v) w'/\kG v w')\/∃f args w1,(cE a.eval o).run P w = .ok (.enter f args) w1/\Calls P f args w1 λdJ w'=>∃v,dJ = .returned v/\kG v w'
theorem vv.runs{kG:aD->aT->Prop}(h:vv P a w o kG)(d:∀v w',kG v w'->K (a.put o.dst v) w'):oV P a w o K:=by
 rcases h with ⟨v,w',b,c⟩|⟨f,args,w1,b,c⟩
 .exact .inl ⟨v,w',b,d v w' c⟩
 .refine .inr (.inr ⟨f,args,w1,b,c.mono ?_⟩)
  grind
structure rP (ah:di) (px:aR R) (o:bx) (st aS:bw) (d:D):Prop where
 same:aS.n=st.n/\aS.env=st.env/\aS.c7=st.c7/\aS.lt=st.lt/\aS.cx=st.cx
 run:∀(s:FS) (m:ed) (a:Act) (as_:List Act) (w:aT),(∀t x,x∈o.op.operands->iy px s.env t x=iy px (get st.env) t x)->hx s (aB st)->Rel ah m a as_ s w->vv ah.P a w o λv w'=>∃a6,Rel ah a6 a as_ (ho (aB aS) s) w'/\aG (vx ah a6 (ho (aB aS) s) w') d v
theorem Hc{st:FS}(h:hx s st):ho st s=s:=by obtain⟨a,b,c,d⟩:=h;simp[ho,<-a,<-b,<-c,<-d]
variable{st:bw}
theorem avU{d:D}(h:y0 ah px o (get st.env) (bF st.au) d):rP ah px o st st d:=⟨⟨rfl,rfl,rfl,rfl,rfl⟩,λs m a as_ w ag c e=>by obtain⟨v,f,g⟩:=h s m a as_ w ag (λ_ b k _ al _=>(congrFun c.1 b).trans al) e;rw[Hc c];exact .inl ⟨v,w,f,m,e,g⟩⟩
theorem gu(l:U (Nat×dW))(k b:Nat)(v:dW):bF ((k,v)::l) b=if b=k then J v else bF l b:=by
 simp[bF];by_cases h:b=k
 .subst h;simp
 .simp[m5 (hE h),h]
theorem By{b:Nat}{k:dW}:∀(l:U (Nat×dW)) (c:Nat),bF (lh l b k) c=if c=b then(bF l b).map (λ_=>k)else bF l c
 |[],c=>by simp[lh,bF]
 |(q,v)::l,c=>by
  simp[lh];by_cases a:q=b
  .subst a;simp;rw[gu,gu,gu]
   grind
  .simp[m5 a];rw[gu,gu,By l c,gu]
   grind
variable{us:U aD}{vs:U aD}{w':aT}
theorem BB{b:Nat}(h:av.bM [b] w w'){t:bD}(l:w.heap[b]? = J (.cells vs.toArray t (0,0)))(m:w'.heap[b]? = J (.cells us.toArray t (0,0)))(n:I us=I vs):bM (λc _=>c=b) w w':=
 ⟨h.os,h.tape,h.output,h.size,λk j d=>h.block k j (by simpa using (d 0)),λc i v e d=>by
  rw[aT.cell?_of_block (a:=⟨c,i,aj⟩) (h.block c (zv e) uN)];exact e,λc cs t' f g=>by
  by_cases ao:c=b
  .grind
  .exact⟨cs,f,by rw[h.block c (hZ.1 g).1 Eh];exact g,rfl⟩⟩
variable{zs:U aD}
theorem aoD{t:bD}(h:av.yz P t=J zs)(w:aT):∃z,(zeroValue t).run P w = .ok z w/\z.cells=zs.toArray:=by obtain⟨i,z,a,b,ao⟩:=TV h;exact⟨z,by simp[zeroValue,typeInfo,a,b],ao⟩
theorem CW(st:bw)(k:dW)(s:FS)(h:hx s (aB st)):ho (aB (jl st k)) s={ s with au:=λb=>if b=s.nb then J k else s.au b,nb:=s.nb+1 }:=by
 obtain⟨c,a,d,e⟩:=h;refine FS.eq rfl rfl rfl rfl rfl ?_ ?_ ?_ ?_
 .funext b;simp[ho,aB,jl,gu,c,a]
 .simp[ho,aB,jl,a]
 .simp[ho,aB,jl,d]
 .simp[ho,aB,jl,e]
variable{c:cl}{x:dn}
theorem ayg:∀{n:Nat},ua ((lX n (enc c (mr c))).flatten) zs=ab->I zs=n*a8 c/\∀i y j d,(lX n (mr c))[i]? = J y->(enc c y)[j]? = J d->∃u,zs[i*a8 c+j]? = J u/\gl x.S x.w d u:=by
 intro n h;obtain⟨k,_⟩:=CP (x:=x) h;have a:I zs=n*a8 c:=by rw[k.len];simp[ k5]
 refine⟨a,λi y j d aE ar=>?_⟩;have f:i<n:=im
 have g:y=mr c:=im
 subst g;have b:∀(n i:Nat),i<n->((lX n (enc c (mr c))).flatten)[i*a8 c+j]? = J d:=by
  intro n;induction n with
  |zero=>intro i h;omega
  |succ n m=>
   intro i h;rw[List.replicate_succ,oC];cases i with
   |zero=>grind
   |succ i=>
    rw[List.getElem?_append_right (by rw[k5,Nat.succ_mul];omega),k5]
    grind
 obtain⟨u,l,e⟩:=k.get (b n i f);exact⟨u,l,acB e (.inl rfl) ⟨c,mr c,j,ar⟩⟩
theorem uW(w:aT)(o:Obj):bM fE w (w.alloc o)/\w.heap.size<(w.alloc o).heap.size:=⟨bM.alloc _ _ _,by simp⟩
theorem rS(w:aT)(o:Obj):(w.alloc o).heap[w.heap.size]? = J o:=by show(w.heap.push o)[w.heap.size]? = _;simp
variable{k:dW}{t:Nat}
theorem G7(y:gx ah px)(bS:o.op = .alloc t)(bf:(∃n c,px.a1 t = .arr n c/\k = .row c n (lX n (mr c)))\/∃z,px.a1 t ≠ .no/\(px.a1 t).zero=J z/\k=Sw t (cells z)):rP ah px o st (jl st k) (.ptr st.nb 0):=by
 refine⟨⟨rfl,rfl,rfl,rfl,rfl⟩,λs m a as_ w ag j aF=>?_⟩;have main:∀zs,av.yz ah.P t=J zs->(∀x',fI (vx ah m s w) x'->x'.w=w.alloc (.cells zs.toArray t)->kK x' w.heap.size k)->vv ah.P a w o λv w'=>∃a6,Rel ah a6 a as_ (ho (aB (jl st k)) s) w'/\aG (vx ah a6 (ho (aB (jl st k)) s) w') (.ptr st.nb 0) v:=by
  intro zs l g;obtain⟨z,p,q⟩:=aoD l w;obtain⟨a6,b,f⟩:=aF.new (vs:=zs) (t:=t) (uW w _).1 (uW w _).2 g rfl rfl;refine .inl ⟨.pointer (J ⟨w.heap.size,0,aj⟩),w.alloc (.cells zs.toArray t),?_,a6,?_,?_⟩
  .simp only[cE,bS,Instr.alloc,e3,p,newVar,newRow,newObj,ga,gr,Sem.run,aT.alloc,q]
  .rw[CW st k s j];exact b
  .rw[CW st k s j];have de:st.nb=s.nb:=j.2.1.symm;rw[de];exact f
 rcases bf with ⟨n,c,h,rfl⟩|⟨z,r,l,rfl⟩
 .obtain⟨zs,d,e⟩:=Hi (y.a1 t) (by rw[h];simp) (z:=.agg ((lX n (enc c (mr c))).flatten)) (by rw[h];rfl);refine main zs d λx' eN i=>?_;obtain⟨b,f⟩:=ayg (x:=x') (c:=c) (n:=n) e;exact⟨by simp,zs,t,by rw[i];exact rS _ _,by simpa using b,f⟩
 .obtain⟨zs,d,e⟩:=Hi (y.a1 t) r l;refine main zs d λx' eN i=>?_;obtain⟨b,f⟩:=CP (x:=x') e;generalize cells z=x3 at b f;unfold Sw;split
  .simp only[bl]at b;obtain⟨u,us,rfl,bc,ny,a2,rfl,ep,rfl⟩:=b;simp[aG]at bc;exact⟨⟨_,_,rfl⟩,u,ny,by rw[i];exact rS _ _,.inl bc,ep⟩
  .exact⟨f,zs,t,by rw[i];exact rS _ _,b⟩
theorem ahR{x:cO}(i:o.op = .box t x){d:D}(ar:aJ px st t x=J d)(l:oK d=ab):rP ah px o st (jl st (RD d)) (.ptr st.nb 0):=by
 refine⟨⟨rfl,rfl,rfl,rfl,rfl⟩,λs m a as_ w ag g n=>?_⟩;rw[dx,<-ag _ x (by simp[i,Op.operands])]at ar;obtain⟨v,_,z,b⟩:=n.env.aJ ar;have p:(w.alloc (.cells v.cells t)).heap[w.heap.size]? = J (.cells v.cells.toList.toArray t (0,0)):=by simpa using rS w (.cells v.cells t)
 obtain⟨a6,aY,aZ⟩:=n.new (k:=RD d) (vs:=v.cells.toList) (t:=t) (uW w (.cells v.cells t)).1 (uW w _).2 (λx' q r=>by
  cases d with
  |bm c y=>simp[aG]at b;obtain⟨c5,vs,rfl,f,h⟩:=b;exact⟨c5,vs,t,by rw[r];simpa[lY]using p,f,λj e he=>by obtain⟨u,hu,cb⟩:=h j e he;exact⟨u,hu,q.rf cb⟩⟩
  |_=>exact⟨l,v.cells.toList,t,by rw[r];exact p,bl.later q _ _ (E8 b l).tU⟩) rfl rfl
 refine .inl ⟨.pointer (J ⟨w.heap.size,0,aj⟩),w.alloc (.cells v.cells t),?_,a6,?_,?_⟩
 .simp only[cE,i,Instr.box,z,newVar,newRow,newObj,e3,ga,gr,Sem.run,aT.alloc]
 .rw[CW st _ s g];exact aY
 .rw[CW st _ s g];have de:st.nb=s.nb:=g.2.1.symm;rw[de];exact aZ
structure aDa (ah:di) (px:aR R) (o:bx) (st aS:bw):Prop where
 same:aS.n=st.n/\aS.env=st.env/\aS.c7=st.c7/\aS.lt=st.lt/\aS.cx=st.cx
 sn:st.nb<=aS.nb/\∀b,b∉Vs px o st->kE (aB st) (aB aS) b
 run:∀(s:FS) (m:ed) (a:Act) (as_:List Act) (w:aT),(∀t x,x∈o.op.operands->iy px s.env t x=iy px (get st.env) t x)->hx s (aB st)->Rel ah m a as_ s w->∃w' a6,(cE a.eval o).run ah.P w = .ok .skip w'/\Rel ah a6 a as_ (ho (aB aS) s) w'
variable{ws:U Nat}
theorem Ht{b:Nat}(h:ws=[b]):st.nb<=({ st with au:=lh st.au b k }:bw).nb/\∀c,c∉ws->kE (aB st) (aB { st with au:=lh st.au b k }) c:=by
 subst h;refine⟨bU _,λc ao=>?_⟩;have a:c≠b:=λe=>ao GE;have e:bF (lh st.au b k) c=bF st.au c:=by rw[By,if_neg a]
 exact⟨λk d=>e.trans d,λk d _=>e.symm.trans d⟩
theorem JC(st:bw)(b:Nat)(k a:dW)(s:FS)(h:hx s (aB st))(al:bF st.au b=J a):ho (aB { st with au:=lh st.au b k }) s={ s with au:=λc=>if c=b then J k else s.au c }:=by obtain⟨d,e,f,g⟩:=h;refine FS.eq rfl rfl rfl rfl rfl ?_ e.symm f.symm g.symm;funext c;simp[ho,aB,By,d,al]
theorem ayN{d:D}(h:SX d=ab):∃l bh,d = .sl .byte l bh:=by
 unfold SX at h;split at h
 .exact⟨_,_,rfl⟩
 .cases h
theorem YN(v:aD):∀(us cs:U aD) (o:Nat),av.je (v::cs) (o+1) us=v::av.je cs o us
 |[],_,_=>rfl
 |u::us,cs,o=>by simp[av.je];exact YN v us _ (o+1)
theorem _d:∀(us cs:U aD),I us=I cs->av.je cs 0 us=us
 |[],[],_=>rfl
 |[],_::_,h=>by simp at h
 |_::_,[],h=>by simp at h
 |u::us,c::cs,h=>by simp[av.je];rw[YN,_d us cs uO]
variable{r:R}
theorem VG(aW:gx ah px){K:bw->ae R}(h:uq px o st K=J r):∃aS,K aS = J r/\aDa ah px o st aS:=by
 unfold uq at h;split at h
 .rename_i t x y bS;have cV:∀n,(px.a1 t).n=n->px.a1 t ≠ .no->av.gA ah.P t=J n:=λn ck ev=>by rw[<-ck];exact(pE (aW.a1 t) ev).2.2
  split at h
  .rename_i b off d ag aE;split at h
   .rename_i T d0 al;split at h
    .rename_i ao;simp only[bN]at ao;obtain⟨⟨p,bZ⟩,a5⟩:=ao;obtain rfl:=dS p;obtain⟨l,bh,rfl⟩:=ayN bZ;have dI:=xj a5;refine⟨_,h,⟨rfl,rfl,rfl,rfl,rfl⟩,Ht KM,λs m a as_ w v gS aF=>?_⟩;rw[dx,<-v _ x fL]at ag;rw[dx,<-v _ y fL]at aE;obtain⟨v1,_,aZ,bg⟩:=aF.env.aJ ag;obtain⟨v2,_,dE,eI⟩:=aF.env.aJ aE;simp[aG]at bg;obtain⟨_,rfl⟩:=bg;have z:s.au b=J (.fb T d0):=KL
     obtain⟨_,a0,v0,ch,c5,_⟩:=(aF.gp b _ z).2;have ch:w.heap[m.au b]? = J (.cells [a0,v0].toArray T (0,0)):=ch;have am:av.one v2=true:=Jw eI rfl;have b7:v2.cells.toList=[v2]:=by rw[av.Mc am]
     obtain⟨mn,gY,lT⟩:=av.yv (P:=ah.P) v2.cells.toList w (m.au b) 1 0 [a0,v0] T ch (by rw[b7];simp) (by rw[b7];intro u hu;simp at hu;subst hu;exact am);have e8:(av.setCells w (m.au b) 1 v2.cells.toList).heap[m.au b]? = J (.cells #[a0,v2] T (0,0)):=by rw[gY,b7];rfl
     have a2:=aF.write (w':=av.setCells w (m.au b) 1 v2.cells.toList) (k:=.fb T (.sl .byte l bh)) z (BB lT ch gY KG) (λx' eN hw=>⟨⟨l,bh,rfl⟩,a0,v2,by rw[hw];exact e8,c5,aG.later eN _ _ eI⟩);refine⟨_,m,?_,by rw[JC st b _ _ s gS al];exact a2⟩;have eX:v2.cells.size=1:=by rw[<-Array.length_toList,b7];rfl
     have bE:av.gA ah.P t=J v2.cells.size:=cV _ (by rw[eX,dI];rfl) (by rw[dI];simp);exact G4
    .cases h
   split at h
   .rename_i az ac;obtain⟨mm,al,cq⟩:∃mm,bF st.au b=J mm/\∀x β,kK x β mm->az.all e_=ab/\∃(vs:U aD) (t:bD),x.w.heap[β]? = J (.cells vs.toArray t (0,0))/\bl x az vs:=by
     split at ac
     .rename_i gF al;simp[dN]at ac;subst ac;exact⟨_,al,λx β h=>h⟩
     .rename_i c y al;simp[dN]at ac;subst ac;refine⟨_,al,λx β h=>?_⟩;obtain⟨_,vs,t,ch,a3,f⟩:=h;exact⟨Sv c y,vs,t,ch,(AZ (x:=x) (c:=c) (y:=y) ⟨a3,f⟩).tU⟩
     .cases ac
    split at h
    .rename_i ao;simp only[bN]at ao;obtain⟨⟨⟨p,bZ⟩,a5⟩,ct⟩:=ao;have p:=dS p;have bZ:off+I (cells d)<=I az:=KQ
     refine⟨_,h,⟨rfl,rfl,rfl,rfl,rfl⟩,Ht KM,λs m a as_ w v gS aF=>?_⟩;rw[dx,<-v _ x fL]at ag;rw[dx,<-v _ y fL]at aE;obtain⟨v1,_,aZ,bg⟩:=aF.env.aJ ag;obtain⟨v2,_,dE,eI⟩:=aF.env.aJ aE;simp[aG]at bg;obtain⟨_,rfl⟩:=bg;have cS:=E8 eI a5;have z:s.au b=J mm:=KL
     obtain⟨bz,vs,ty,ch,g⟩:=cq _ _ (aF.gp b _ z).2;have ch:w.heap[m.au b]? = J (.cells vs.toArray ty (0,0)):=ch;have cZ:off+I v2.cells.toList<=I vs:=by rw[cS.1,g.len];exact bZ
     obtain⟨mn,gY,lT⟩:=av.yv (P:=ah.P) v2.cells.toList w (m.au b) off 0 vs ty ch af (auK cS a5);have a2:=aF.write (w':=av.setCells w (m.au b) off v2.cells.toList) (k:=Sm az off d) z (BB lT ch gY KG) (λx' eN hw=>by
      have base:kK x' (m.au b) (.cells (write az off (cells d))):=by refine⟨Qa _ _ _ bz a5,av.je vs off v2.cells.toList,ty,by rw[hw];exact gY,?_⟩;exact bl.later eN _ _ (Tr _ _ _ _ _ (AP g) cS bZ).tU
      have hq:I vs=I az:=g.len;clear aE dE h;cases d with
      |bm c y=>
       simp[Sm];split
       .rename_i db;simp only[bN]at db;obtain rfl:=dS db.1;have iZ:=dS db.2;simp[aG]at eI;obtain⟨c5,us,rfl,eY,f⟩:=eI;have b7:(aD.agg us.toArray).cells.toList=us:=by simp[lY]
        rw[b7,_d us vs af]at gY;exact⟨c5,us,ty,by rw[hw];exact gY,eY,λj e he=>by obtain⟨u,hu,cb⟩:=f j e he;exact⟨u,hu,eN.rf cb⟩⟩
       .exact base
      |_=>exact base)
     refine⟨_,m,?_,by rw[JC st b _ _ s gS al];exact a2⟩;have bE:av.gA ah.P t=J v2.cells.size:=cV _ (by rw[<-p,<-cS.1];simp) (pH ct).1;exact G4
    .cases h
   .cases h
  .rename_i b dD iz i d ag aE;split at h
   .rename_i c n xs al;split at h
    .rename_i My cq ao;simp only[bN,fQ]at ao;obtain⟨⟨⟨p,rfl⟩,a5⟩,ct⟩:=ao;have p:=dS p;have a5:=dS a5;subst a5;refine⟨_,h,⟨rfl,rfl,rfl,rfl,rfl⟩,Ht KM,λs m a as_ w v gS aF=>?_⟩;rw[dx,<-v _ x fL]at ag;rw[dx,<-v _ y fL]at aE;obtain⟨v1,_,aZ,bg⟩:=aF.env.aJ ag;obtain⟨v2,_,dE,eI⟩:=aF.env.aJ aE;simp[aG]at bg;obtain⟨_,rfl,dp,iK⟩:=bg;obtain⟨f,_,_⟩:=xW cq eI;have z:s.au b=J (.row dD iz xs):=KL
     obtain⟨_,dk,vs,ty,ch,a3,g⟩:=aF.gp b _ z;have ch:w.heap[m.au b]? = J (.cells vs.toArray ty (0,0)):=ch;have ap:i.toNat<I xs:=af
     have cZ:i.toNat*a8 dD+I v2.cells.toList<=I vs:=by rw[f.1,a3,<-Nat.succ_mul];exact ly _ af
     obtain⟨mn,gY,lT⟩:=av.yv (P:=ah.P) v2.cells.toList w (m.au b) (i.toNat*a8 dD) 0 vs ty ch af f.one;have bG:∀(us cs:U aD) (o q:Nat),o+I us<=I cs->(av.je cs o us)[q]? = if o<=q/\q<o+I us then us[q-o]? else cs[q]? :=by
      intro us;induction us with
      |nil=>intro cs o q _;simp only[av.je,dB,Nat.add_zero];rw[if_neg af]
      |cons u us jz=>
       intro cs o q bz;simp[eo]at bz;simp only[av.je];rw[jz (cs.set o u) (o+1) q d'];simp[eo];by_cases bV:q=o
       .exact ai1
       .by_cases bB:o+1<=q/\q<o+1+I us
        .exact adi
        .rw[if_neg bB,if_neg af,List.getElem?_set_ne (hE bV)]
     have a2:=aF.write (w':=av.setCells w (m.au b) (i.toNat*a8 dD) v2.cells.toList) (k:=.row dD iz (xs.set i.toNat My)) z (BB lT ch gY KG) (λx' eN hw=>by
      refine⟨by simpa using dk,av.je vs (i.toNat*a8 dD) v2.cells.toList,ty,by rw[hw];exact gY,by rw[av.Mw];simpa using a3,λq y j iw a4 a9=>?_⟩;have dC:j<a8 dD:=by rw[<-k5 dD y];exact(lN.1 a9).1
      rw[bG _ _ _ _ cZ,f.1];by_cases cM:q=i.toNat
      .subst cM;rw[List.getElem?_set_self ap]at a4;simp[dN]at a4;subst a4;obtain⟨u,hu,cb⟩:=f.2 j iw a9;refine⟨u,?_,eN.rf cb⟩;exact adv
      .rw[List.getElem?_set_ne (hE cM)]at a4;obtain⟨u,hu,cb⟩:=g q y j iw a4 a9;refine⟨u,?_,eN.rf cb⟩;rw[if_neg,hu];rintro⟨g1,g2⟩;rcases Nat.lt_or_ge q i.toNat with dv|eM
       .exact ai6
       .have:(i.toNat+1)*a8 dD<=q*a8 dD:=ly _ af;rw[Nat.succ_mul]at this;omega)
     refine⟨_,m,?_,by rw[JC st b _ _ s gS al];exact a2⟩;have bE:av.gA ah.P t=J v2.cells.size:=cV _ (by rw[p,<-f.1];simp) (pH ct).1;exact G4
    .cases h
   .cases h
  .rename_i b dD i d ag aE;split at h
   .rename_i c xs al;split at h
    .rename_i My cq ao;simp only[bN,fQ]at ao;obtain⟨⟨p,rfl⟩,ct⟩:=ao;obtain⟨ek,h⟩:=h_ h;have ek:=Bn ek;refine⟨_,h,⟨rfl,rfl,rfl,rfl,rfl⟩,Ht KM,λs m a as_ w v gS aF=>?_⟩;rw[dx,<-v _ x fL]at ag;rw[dx,<-v _ y fL]at aE;obtain⟨v1,_,aZ,bg⟩:=aF.env.aJ ag;obtain⟨v2,_,dE,eI⟩:=aF.env.aJ aE;simp[aG]at bg;obtain⟨_,rfl,dp⟩:=bg;obtain⟨f,_,_⟩:=xW cq eI;have z:s.au b=J (.dyn dD xs):=KL
     obtain⟨_,dk,vs,ty,ch,a3,g⟩:=aF.gp b _ z;have ch:w.heap[m.au b]? = J (.cells vs.toArray ty (0,0)):=ch;have ap:i.toNat<I xs:=af
     have cZ:i.toNat*a8 dD+I v2.cells.toList<=I vs:=by refine fV ?_ a3;rw[f.1,<-Nat.succ_mul];exact ly _ af
     obtain⟨mn,gY,lT⟩:=av.yv (P:=ah.P) v2.cells.toList w (m.au b) (i.toNat*a8 dD) 0 vs ty ch af f.one;have bG:∀(us cs:U aD) (o q:Nat),o+I us<=I cs->(av.je cs o us)[q]? = if o<=q/\q<o+I us then us[q-o]? else cs[q]? :=by
      intro us;induction us with
      |nil=>intro cs o q _;simp only[av.je,dB,Nat.add_zero];rw[if_neg af]
      |cons u us jz=>
       intro cs o q bz;simp[eo]at bz;simp only[av.je];rw[jz (cs.set o u) (o+1) q d'];simp[eo];by_cases bV:q=o
       .exact ai1
       .by_cases bB:o+1<=q/\q<o+1+I us
        .exact adi
        .rw[if_neg bB,if_neg af,List.getElem?_set_ne (hE bV)]
     have a2:=aF.write (w':=av.setCells w (m.au b) (i.toNat*a8 dD) v2.cells.toList) (k:=.dyn dD (xs.set i.toNat My)) z (BB lT ch gY KG) (λx' eN hw=>by
      refine⟨by simpa using dk,av.je vs (i.toNat*a8 dD) v2.cells.toList,ty,by rw[hw];exact gY,by rw[av.Mw];simpa using a3,λq y j iw a4 a9=>?_⟩;have dC:j<a8 dD:=by rw[<-k5 dD y];exact(lN.1 a9).1
      rw[bG _ _ _ _ cZ,f.1];by_cases cM:q=i.toNat
      .subst cM;rw[List.getElem?_set_self ap]at a4;simp[dN]at a4;subst a4;obtain⟨u,hu,cb⟩:=f.2 j iw a9;refine⟨u,?_,eN.rf cb⟩;exact adv
      .rw[List.getElem?_set_ne (hE cM)]at a4;obtain⟨u,hu,cb⟩:=g q y j iw a4 a9;refine⟨u,?_,eN.rf cb⟩;rw[if_neg,hu];rintro⟨g1,g2⟩;rcases Nat.lt_or_ge q i.toNat with dv|eM
       .exact ai6
       .have:(i.toNat+1)*a8 dD<=q*a8 dD:=ly _ af;rw[Nat.succ_mul]at this;omega)
     refine⟨_,m,?_,by rw[JC st b _ _ s gS al];exact a2⟩;have bE:av.gA ah.P t=J v2.cells.size:=cV _ (by rw[(dS p),<-f.1];simp) (pH ct).1;exact G4
    .cases h
   .cases h
  .cases h
 .cases h
end
section
variable {R:Type}{px:aR R}{ah:di}
def fh(x:dn)(c:cl)(xs:U (dy c))(vs:U aD):Prop:=I vs=I xs*a8 c/\∀i y j d,xs[i]? = J y->(enc c y)[j]? = J d->∃u,vs[i*a8 c+j]? = J u/\gl x.S x.w d u
theorem fh.nil(x:dn)(c:cl):fh x c [] []:=⟨by simp,λi y j d aE=>by simp at aE⟩
variable{c:cl}{vs:U aD}{x:dn}{xs:U (dy c)}
theorem fh.later{x':dn}(h:fI x x')(a:fh x c xs vs):fh x' c xs vs:=⟨a.1,λi y j d aE ar=>by obtain⟨u,b,e⟩:=a.2 i y j d aE ar;exact⟨u,b,h.rf e⟩⟩
variable{us:U aD}{ys:U (dy c)}
theorem fh.append(h:fh x c xs vs)(k:fh x c ys us):fh x c (xs++ys) (vs++us):=by
 refine⟨by simp[h.1,k.1,Nat.add_mul],λi y j d aE ar=>?_⟩;have f:j<a8 c:=S7
 rw[List.getElem?_append]at aE;split at aE
 .rename_i e;obtain⟨u,a,b⟩:=h.2 i y j d aE ar;refine⟨u,?_,b⟩;rw[List.getElem?_append_left,a];exact(lN.1 a).1
 .rename_i e;obtain⟨u,a,b⟩:=k.2 _ y j d aE ar;refine⟨u,?_,b⟩;have hle:I xs*a8 c<=i*a8 c:=ly _ af;rw[List.getElem?_append_right (by rw[h.1];omega),h.1];rwa[Nat.sub_mul,<-Nat.sub_add_comm hle]at a
theorem fh.cons{y:dy c}(h:pF x c y us)(k:fh x c xs vs):fh x c (y::xs) (us++vs):=by
 have:fh x c [y] us:=⟨by simpa using h.1,λi z j d a ar=>by
  cases i with
  |zero=>simp at a;subst a;simpa using h.2 j d ar
  |succ i=>simp at a⟩
 exact this.append k
theorem fh.one(h:fh x c xs vs):∀v,v∈vs->av.one v=true:=by
 intro v e;obtain⟨q,b,rfl⟩:=List.mem_iff_getElem.1 e;have d:=I9 c;have f:q / a8 c<I xs:=by rw[Nat.div_lt_iff_lt_mul d,<-h.1];exact b
 have g:q % a8 c<a8 c:=Nat.mod_lt _ d;obtain⟨u,a,i⟩:=h.2 (q / a8 c) _ (q % a8 c) _ (ic f) (ic (by rw[k5];exact g));rw[show q / a8 c*a8 c+q % a8 c=q by rw[Nat.mul_comm];exact Nat.div_add_mod q (a8 c),ic b]at a;simp at a;rw[a];exact SB i.here
variable{g:Nat}
theorem DB{cap:Nat}(h:fh x c xs vs)(hle:I xs<=cap/\cap<=dr)(hm:∀(j:Nat) u,vs[j]? = J u->x.w.cell? ⟨g,j,aj⟩=J u)(f:∀i,i<I xs*a8 c->¬x.S g i):gl x.S x.w (.sl c xs .no) (.slice (J ⟨g,0,aj⟩) (I xs) cap):=by
 refine Br rfl (.inr ⟨g,0,rfl,hle,λi y aE w' b j d ar=>?_⟩);obtain⟨u,e,k⟩:=h.2 i y j d aE ar;have a:i*a8 c+j<I xs*a8 c:=by rw[<-h.1];exact(lN.1 e).1
 refine⟨u,?_,k w' b⟩;rw[h6];exact b.cell g _ u (hm _ u e) (f _ a)
theorem EV{v:aD}(h:gl x.S x.w (.sl c xs .no) v):∃a cap vs,v = .slice a (I xs) cap/\fh x c xs vs/\∀b o,a=J ⟨b,o,aj⟩->xs≠[]->∀(j:Nat) u,vs[j]? = J u->x.w.cell? ⟨b,o+j,aj⟩=J u:=by
 obtain⟨a,cap,rfl,m⟩:=tg h;rcases m with rfl|⟨b,o,rfl,hle,f⟩
 .exact⟨a,cap,[],rfl,fh.nil _ _,λ_ _ _ h=>absurd rfl h⟩
 .have key:∀(n:Nat),n<=I xs->∃vs,fh x c (xs.take n) vs/\∀(j:Nat) u,vs[j]? = J u->x.w.cell? ⟨b,o+j,aj⟩=J u:=by
   intro n;induction n with
   |zero=>intro _;exact⟨[],by simpa using fh.nil x c,by simp⟩
   |succ n p=>
    intro t;obtain⟨vs,d,g⟩:=p af;have ag:xs[n]? = J (xs[n]' af):=ic af;obtain⟨us,q,r⟩:=ob.akX rfl (f n _ ag);have k:=d.append (show fh x c [xs[n]' af] us from by simpa using fh.cons q (fh.nil x c));rw[List.take_append_getElem]at k;refine⟨vs++us,k,λj u e=>?_⟩;rw[List.getElem?_append]at e;split at e
    .exact g j u e
    .rename_i i;have s:I vs=n*a8 c:=by rw[d.1,jL,Nat.min_eq_left af]
     have:=r _ u e;rw[s]at this i;rwa[show o+n*a8 c+(j-n*a8 c)=o+j by omega]at this
  obtain⟨vs,d,g⟩:=key (I xs) (bU _);rw[List.take_length]at d;refine⟨_,cap,vs,rfl,d,λcu dq l _=>?_⟩;simp at l;obtain⟨rfl,rfl⟩:=l;exact g
theorem afz{x:dn}{c:cl}:∀{l:U D}{ys:U (dy c)}{vs:U aD},wV c l=J ys->bl x l vs->fh x c ys (vs.flatMap λv=>v.cells.toList)/\(∀v,v∈vs->v.cells.size=a8 c)/\I ys=I l
 |[],ys,vs,h,aF=>by simp[wV]at h;simp[bl]at aF;subst h;subst aF;exact⟨fh.nil _ _,by simp,rfl⟩
 |d::l,ys,vs,h,aF=>by
  simp[wV]at h;split at h
  .rename_i y aE;split at h
   .rename_i f b;simp at h;subst h;simp[bl]at aF;obtain⟨u,us,rfl,g,i⟩:=aF;obtain⟨i1,j,k⟩:=afz b i;obtain⟨e,_,_⟩:=xW aE g;refine⟨by simpa using fh.cons e i1,λv a=>?_,by simp[k]⟩;simp at a;rcases a with rfl|a
    .have:=e.1;simpa using this
    .exact j v a
   .cases h
  .cases h
theorem aeL(st:bw)(bJ:U Nat)(t0:ae Nat)(s:FS)(h:hx s (aB st))(a:∀t,t∈bJ↔(t∈st.bh/\t0≠J t)):ho (aB (lf { st with bh:=bJ })) s={ s with bJ:=λt=>(s.bJ t/\t0≠J t)\/t=s.bu,bu:=s.bu+1 }:=by
 obtain⟨c,d,e,b⟩:=h;refine FS.eq rfl rfl rfl rfl rfl c.symm d.symm ?_ ?_
 .funext t;simp[ aB,lf,e,b,a];exact or_comm
 .simp[ho,aB,lf,b]
variable{as_:U Act}{m:ed}
theorem XA(h:Rel ah m a as_ s w){b:Nat}(al:w.heap.size<=b)(i:Nat):¬(vx ah m s w).S b i:=by
 rintro(c|d)
 .have:=(h.hN b i 0 c).1;have:=h.fw.size;omega
 .have:=(h.own b i d).1;omega
variable{t0:ae Nat}{w':aT}
theorem Nx(d:Rel ah m a as_ s w){cur:Array aD}{cap:Nat}(e:fh (vx ah m s w) c xs vs)(n:bM fE w w')(r:w.heap.size<w'.heap.size)(y:w'.heap[w.heap.size]? = J (.cells cur (ah.el c) (0,0)))(f:cur.size=cap*a8 c)(hle:I xs<=cap)(b:cap<=dr)(hO:∀(j:Nat) u,vs[j]? = J u->cur[j]? = J u) :
  Rel ah { m with bh:=λt=>if t=s.bu then J (w.heap.size,I xs*a8 c)else m.bh t } a as_ { s with bJ:=λt=>(s.bJ t/\t0≠J t)\/t=s.bu,bu:=s.bu+1 } w'/\aG (vx ah { m with bh:=λt=>if t=s.bu then J (w.heap.size,I xs*a8 c)else m.bh t } { s with bJ:=λt=>(s.bJ t/\t0≠J t)\/t=s.bu,bu:=s.bu+1 } w') (.sl c xs (.id s.bu)) (.slice (J ⟨w.heap.size,0,aj⟩) (I xs) cap):=by
 obtain⟨k,eN⟩:=d.right (t0:=t0) (p:=J (w.heap.size,I xs*a8 c)) (n.mono (λ_ _ h=>h.elim)) (λg o z=>by simp at z;obtain⟨rfl,rfl⟩:=z;exact⟨r,.inl (bU _)⟩)
 refine⟨k,?_⟩;simp;refine⟨DB (e.later eN) ⟨hle,b⟩ (λj u dh=>?_) (λi bO=>?_),Nat.lt_succ_self _,λ_=>.inr ⟨w.heap.size,cap,cur,rfl,by simp[vx],y,f,hle,b⟩⟩
 .show w'.cell? _=_;simp[h7,y];exact hO j u dh
 .rintro(gL|cb)
  .have:=(d.hN _ i 0 gL).1;have:=d.fw.size;omega
  .rcases cb with ⟨q,bV,he⟩|⟨t,o,l,v,bg⟩
   .have:=d.n9 bV;have he:m.au q=w.heap.size:=he;omega
   .by_cases x:t=s.bu
    .subst x;simp at v;omega
    .simp[if_neg x]at v;rcases l with l|l
     .have:=d.lS l.1 v;omega
     .exact absurd l x
variable{t:Nat}
theorem Y5(aW:gx ah px){len:Nat}{dL:Array (Nat×cO)}(bS:o.op = .buildSlice t len dL)(v:px.a1 t = .sl c){l:U D}(k:I l=len)(bB:len*a8 c<=16777216)(y:wV c l=J xs)(dm:dL.toList.map (·.1)=j4 0 (I l))(aZ:(dL.toList.map (·.2)).map a.eval=vs)(bg:bl (vx ah m s w) l vs):I xs=len/\len<=dr/\∃us,fh (vx ah m s w) c xs us/\(cE a.eval o).run ah.P w = .ok (.value (.slice (J ⟨w.heap.size,0,aj⟩) len len)) (w.alloc (.cells us.toArray (ah.el c))):=by
 obtain⟨n,a2,bG⟩:=afz y bg;obtain⟨by_,⟨hu,i0,z,p,dK,g,a9,bZ,bE⟩,_,_⟩:=m0 (aW.a1 t) v;have q:I vs=len:=by rw[bg.len,k]
 have r:(dL.map λx=>match x with|(i,x)=>(i,a.eval x))=((j4 0 (I vs)).zip vs).toArray:=aj7
 have d:I ((Array.range (len*a8 c)).map λi=>z.cells[i % z.cells.size]!).toList=len*a8 c:=by simp
 have b:=av.L3 (a8 c) vs 0 [] ((Array.range (len*a8 c)).map λi=>z.cells[i % z.cells.size]!).toList a2 (by simp) (by rw[d,q];exact bU _);have j:((Array.range (len*a8 c)).map λi=>z.cells[i % z.cells.size]!).toList.drop (I vs*a8 c)=[]:=gn (by rw[d,q];exact bU _);rw[j]at b;simp only[nX,kq]at b;have a3:(zeroValue (ah.el c)).run ah.P w = .ok z w:=by simp[zeroValue,typeInfo,p,dK]
 have f:(sizeOf (ah.el c)).run ah.P w = .ok (a8 c) w:=by simp[sizeOf,typeInfo,p,g]
 have u:¬(len*a8 c > 2 ^ 24):=by have:(2:Nat) ^ 24=16777216:=rfl;omega
 refine⟨by omega,by have:=I9 c;have:len<=len*a8 c:=Nat.le_mul_of_pos_right _ this;simp[dr];omega,_,n,?_⟩;by_cases e:len*a8 c=0
 .have a4:vs=[]:=by
   have:len=0:=by
    rcases Nat.mul_eq_zero.1 e with h|h
    .exact h
    .omega
   exact k0 af
  subst a4;have a5:Instr.fill (λi=>J (i*a8 c,a8 c)) ((Array.range (len*a8 c)).map (λx=>(#[]:Array aD)[x % (#[]:Array aD).size]!)) []=J #[]:=by rw[e];simp[Instr.fill]
  simp only[cE,bS,r,Instr.buildSlice,e3,dO hu,gr,f,if_neg u,if_pos e];simp only[dB,List.range'_zero,List.zip_nil_left,a5,newRow,newObj,e3,Sem.run,ga,gr,aT.alloc,List.flatMap_nil]
 .simp only[cE,bS,r,Instr.buildSlice,e3,dO hu,gr,f,if_neg u,if_neg e,a3,b,newRow,newObj,Sem.run,ga,aT.alloc]
theorem aA5(c:cl):a8 c<=18:=by cases c<;>decide
variable{st:bw}
theorem Z2(v:gx ah px){len:Nat}{dL:Array (Nat×cO)}(j:o.op = .buildSlice t len dL)(f:px.a1 t = .sl c)(b:s6 px st c len dL.toList=J xs)(k:∀t x,x∈o.op.operands->iy px s.env t x=iy px (get st.env) t x)(y:Rel ah m a as_ s w):I xs=len/\len<=dr/\∃us,fh (vx ah m s w) c xs us/\(cE a.eval o).run ah.P w = .ok (.value (.slice (J ⟨w.heap.size,0,aj⟩) len len)) (w.alloc (.cells us.toArray (ah.el c))):=by
 unfold s6 at b;split at b
 .rename_i cs d;split at b
  .rename_i az n;split at b
   .rename_i x ao ag;simp only[bN]at ao;obtain⟨z,aY⟩:=ao;obtain rfl:=dS aY;simp at b;subst b;unfold ajj at d;split at d
    .rename_i g h;simp at d;subst d;obtain⟨i,p⟩:=Qj (x:=vx ah m s w) n;have a2:=aA5 c;refine Y5 v j f (l:=[.agg az]) rfl af (xs:=[x]) (by simp[wV,sA,z,ag]) (vs:=[.agg g]) (by rw[h];rfl) (by rw[h];rfl) ?_;simp only[bl];exact⟨_,[],rfl,⟨p,g.toList,by simp,i⟩,rfl⟩
    .cases d
   .cases b
  .cases b
 .split at b
  .rename_i l bz;split at b
   .rename_i ys e r;simp only[bN]at e;simp at b;subst b;obtain⟨vs,dm,_,aZ,bg⟩:=O7 y.env bz (λu q bV=>by rw[dx];exact k u q (by rw[j];simpa[Op.operands]using bV));exact Y5 v j f (dS e.1) (by simpa using e.2) r dm aZ bg
   .cases b
  .cases b
theorem at6(v:gx ah px){len:Nat}{dL:Array (Nat×cO)}(x:o.op = .buildSlice t len dL)(h:px.a1 t = .sl c)(i:s6 px st c len dL.toList=J xs):rP ah px o st (lf st) (.sl c xs (.id st.bu)):=by refine⟨⟨rfl,rfl,rfl,rfl,rfl⟩,λs m a as_ w k q r=>?_⟩;obtain⟨e,l,us,d,f⟩:=Z2 v x h i k r;have b:=Nx (t0:=aj) r (xs:=xs) (cur:=us.toArray) (cap:=len) d (uW w _).1 (uW w _).2 (rS w _) (by simp;rw[d.1,e]) af l (λj u y=>by simpa using y);have g:=aeL st st.bh aj s q (λt=>by simp);have n:({ st with bh:=st.bh }:bw)=st:=rfl;rw[n]at g;have p:st.bu=s.bu:=q.2.2.2.symm;rw[e]at b;rw[<-g]at b;exact .inl ⟨_,_,f,_,b.1,by rw[p];exact b.2⟩
theorem aek(f:Rel ah m a as_ s w)(d:bM fE w w')(e:fh (vx ah m s w) c xs us){cap:Nat}(hle:I xs<=cap/\cap<=dr)(hm:∀(j:Nat) u,us[j]? = J u->w'.cell? ⟨w.heap.size,j,aj⟩=J u):aG (vx ah m s w') (.sl c xs .no) (.slice (J ⟨w.heap.size,0,aj⟩) (I xs) cap):=by have l:fI (vx ah m s w) (vx ah m s w'):=⟨d.mono (λ_ _ h=>h.elim),λb i n=>.inl n,rfl,λ_ _=>rfl,bU _,bU _,λt _ k=>⟨k,rfl,λg o p=>d.block g (f.lS k p) (λ_ h=>h)⟩⟩;simp[aG];exact⟨DB (e.later l) hle hm (λi _=>XA f (bU _) i),trivial⟩
theorem FF(w:aT)(n o:Nat)(e:bD):n<=hU w n o e:=by unfold hU Question.cut;exact Nat.le_add_right _ _
theorem PR(w:aT)(n o:Nat)(e:bD)(h:n<=9223372036854775807):hU w n o e<=maxLen:=by show n+w.tape w.drawn (.appendCap n o e) % (2 ^ 63-n)<=9223372036854775807;have:w.tape w.drawn (.appendCap n o e) % (2 ^ 63-n)<2 ^ 63-n:=Nat.mod_lt _ (by have:(2:Nat) ^ 63=9223372036854775808:=rfl;omega);have a:(2:Nat) ^ 63=9223372036854775808:=rfl;omega
variable{q:Nat}
theorem Ys(p:gx ah px){x:cO}(r:o.op = .convert q t x){l:ak}(ag:aJ px st q x=J (.str l))(f:px.a1 t = .sl .byte)(z:px.a1 q = .str)(g:∀t x,x∈o.op.operands->iy px s.env t x=iy px (get st.env) t x)(h:Rel ah m a as_ s w):∃v w',(cE a.eval o).run ah.P w = .ok (.value v) w'/\Rel ah m a as_ s w'/\aG (vx ah m s w') (.sl .byte l .no) v:=by
 rw[dx,<-g _ x (by simp[r,Op.operands])]at ag;obtain⟨v,_,en,c⟩:=h.env.aJ ag;obtain rfl:=aG.str c;obtain⟨by_,eZ,_,j0⟩:=m0 (p.a1 t) f;have k:=av.sC (tr (p.a1 q) z);obtain⟨cap,w',aD0,ak8,aFm,hle,aDX⟩:∃cap w',(convert q t (av.S l)).run ah.P w = .ok (.slice (J ⟨w.heap.size,0,aj⟩) (I l) cap) w'/\bM fE w w'/\w.heap.size<w'.heap.size/\(I l<=cap/\cap<=dr)/\∀(j:Nat) b,l[j]? = J b->w'.cell? ⟨w.heap.size,j,aj⟩=J (.int .u8 (b.toNat:Int)):=by refine⟨_,_,run_bytes_of_string w q t (ah.el .byte) _ k eZ.yA (av.Gj (j0 rfl)),(bM.drew _ _).trans (bM.alloc _ _ _),by simp,⟨FF _ _ _ _,PR _ _ _ _ (by have:=c.Gh;simp[dr]at this;simpa[ByteArray.size]using this)⟩,λj b al=>?_⟩;have ch:∀o,(w.drew.alloc o).heap[w.heap.size]? = J o:=λo=>rS w.drew o;simp only[h7,ch];have n:j<I l:=(lN.1 al).1;simp[bytesRow];rw[Array.getElem?_append_left AF];simp[al]
 refine⟨.slice (J ⟨w.heap.size,0,aj⟩) (I l) cap,w',by simp[cE,r,en,aD0],h.quiet ak8,?_⟩;refine aek h ak8 (us:=l.map λb=>.int .u8 (b.toNat:Int)) ⟨by simp[a8],λi y j d aE ar=>?_⟩ hle (λj u e=>?_)
 .simp[enc]at ar;cases j with|succ j=>simp at ar|zero=>simp at ar;subst ar;refine⟨_,by simpa[a8]using ⟨y,aE,rfl⟩,λa2 _=>.int _ _ (ajG ?_)⟩;have:=y.toNat_lt;omega
 .rw[List.getElem?_map]at e;cases al:l[j]? with|none=>simp[al]at e|some b=>simp[al]at e;subst e;exact aDX j b al
theorem ama(d:gx ah px){x:cO}(e:o.op = .convert q t x){l:ak}(ag:aJ px st q x=J (.str l))(b:px.a1 t = .sl .byte)(f:px.a1 q = .str):rP ah px o st st (.sl .byte l .no):=by refine⟨⟨rfl,rfl,rfl,rfl,rfl⟩,λs m a as_ w c g h=>?_⟩;obtain⟨v,w',i,j,k⟩:=Ys d e ag b f c h;rw[Hc g];exact .inl ⟨v,w',i,m,j,k⟩
theorem Ra{d:D}(h:CG c d=J ys):∃t,d = .sl c ys t:=by
 unfold CG at h;split at h
 .split at h
  .rename_i a xs t ao;subst ao;simp at h;subst h;exact⟨t,rfl⟩
  .cases h
 .cases h
theorem amC{t ty u:bD}{bX by_:Nat}(f:av.nK P t u bX by_){v:aD}{ad:ae Addr}{c:Nat}(h:v = .slice aj 0 0\/∃g n cap,v = .slice (J ⟨g,0,aj⟩) n cap/\n<=cap):(oT #[t,t] ty #[v,.slice ad 0 c]).run P w = .ok v w:=by
 obtain⟨d,i0,z,a,l,i,j,k,e⟩:=f;rcases h with rfl|⟨g,n,cap,rfl,b⟩
 .cases ad<;>simp[ dO d,go_sem,sizeOf,typeInfo,a,loadCells]
 .cases ad<;>simp[ dO d,go_sem,sizeOf,typeInfo,a,loadCells,loadCellsFrom,b,storeCells]
variable{bJ:U Nat}{bh:l'}
theorem TC{i0:TypeInfo}{z:aD}(a3:i0.size=a8 c)(dI:z.cells.size=a8 c)(x:o4 st.bh bh=J bJ)(ek:I xs+I ys<=9223372036854775807)(gS:hx s (aB st))(aF:Rel ah m a as_ s w){v:aD}(am:gl (vx ah m s w).S (vx ah m s w).w (.sl c xs .no) v)(ev:vm (vx ah m s w) c xs v bh)(bZ:fh (vx ah m s w) c ys us){um:aD->aT->Prop}
  (eM:ys=[]->(v = .slice aj 0 0\/∃g n cap,v = .slice (J ⟨g,0,aj⟩) n cap/\n<=cap)->um v w)
  (db:v = .slice aj 0 0->xs=[]->ys≠[]->um (.slice (J ⟨w.heap.size,0,aj⟩) (I ys) (hU w (I ys) 0 (ah.el c))) (w.drew.alloc (.cells (us.toArray++iM z.cells (hU w (I ys) 0 (ah.el c)-I ys)) (ah.el c))))
  (cM:∀g cap cur,v = .slice (J ⟨g,0,aj⟩) (I xs) cap->w.heap[g]? = J (.cells cur (ah.el c) (0,0))->ys≠[]->I xs+I ys<=cap->I xs*a8 c+I us<=cur.size->um (.slice (J ⟨g,0,aj⟩) (I xs+I ys) cap) (w.setRow g (cur.toList.take (I xs*a8 c)++us++cur.toList.drop (I xs*a8 c+I us)).toArray))
  (cV:∀(g cap:Nat) (vs:U aD),v = .slice (J ⟨g,0,aj⟩) (I xs) cap->I vs=I xs*a8 c->(∀(j:Nat) u,vs[j]? = J u->w.cell? ⟨g,j,aj⟩=J u)->ys≠[]->¬I xs+I ys<=cap->um (.slice (J ⟨w.heap.size,0,aj⟩) (I xs+I ys) (hU w (I xs+I ys) cap (ah.el c))) (w.drew.alloc (.cells (vs.toArray++us.toArray++iM z.cells (hU w (I xs+I ys) cap (ah.el c)-(I xs+I ys))) (ah.el c)))) :
  ∃v w',um v w'/\∃a6,Rel ah a6 a as_ (ho (aB (lf { st with bh:=bJ })) s) w'/\aG (vx ah a6 (ho (aB (lf { st with bh:=bJ })) s) w') (.sl c (xs++ys) (.id st.bu)) v:=by
 obtain⟨t0,aDU,UJ⟩:∃t0:ae Nat,(∀q,q∈bJ↔(q∈st.bh/\t0≠J q))/\((v = .slice aj 0 0/\xs=[])\/∃a1 g cap cur,t0=J a1/\s.bJ a1/\m.bh a1=J (g,I xs*a8 c)/\v = .slice (J ⟨g,0,aj⟩) (I xs) cap/\w.heap[g]? = J (.cells cur (ah.el c) (0,0))/\cur.size=cap*a8 c/\I xs<=cap/\cap<=dr):=by
  unfold o4 at x;split at x
  .cases x
  .simp at x;subst x;exact⟨aj,λq=>by simp,.inl ev⟩
  .rename_i a1;split at x
   .rename_i ao;simp at x;subst x;have gF:a1∈st.bh:=Eh
    refine⟨J a1,λq=>?_,?_⟩
    .simp only[List.mem_filter,Bool.not_eq_true',ne_eq,dN];constructor
     .rintro⟨y,aZ⟩;refine⟨y,λe=>?_⟩;subst e;simp at aZ
     .rintro⟨y,aZ⟩;exact⟨y,m5 (hE aZ)⟩
    .have bE:s.bJ a1:=by rw[gS.2.2.1];exact gF
     rcases ev.2 bE with ⟨y,_,bg⟩|⟨g,cap,cur,y,aZ,bg⟩
     .exact .inl ⟨y,bg⟩
     .exact .inr ⟨a1,g,cap,cur,rfl,bE,aZ,y,bg⟩
   .cases x
  .cases x
 have cq:=aeL st bJ t0 s gS aDU;have e8:st.bu=s.bu:=gS.2.2.2.symm;have hid:(D.sl c (xs++ys) (.id st.bu)) = .sl c (xs++ys) (.id s.bu):=by rw[e8]
 by_cases ct:ys=[]
 .subst ct;rw[kq];have a4:=eM rfl (by
   rcases UJ with ⟨y,_⟩|⟨_,g,cap,_,_,_,_,y,_,_,aZ,_⟩
   .exact .inl y
   .exact .inr ⟨g,_,cap,y,aZ⟩)
  refine⟨v,w,a4,?_⟩;have hid:(D.sl c xs (.id st.bu)) = .sl c xs (.id s.bu):=by rw[e8]
  rw[cq,hid];rcases UJ with ⟨y,aZ⟩|⟨a1,g,cap,cur,de,eH,gy,pg,jG,x5,vE,vF⟩
  .obtain⟨a2,eN⟩:=aF.right (t0:=t0) (p:=aj) (bM.refl _ _) (λg o h=>by cases h);refine⟨_,a2,?_⟩;simp[aG];exact⟨eN.rf am,Nat.lt_succ_self _,λ_=>.inl ⟨y,by simp[vx],aZ⟩⟩
  .obtain⟨a2,eN⟩:=aF.right (t0:=t0) (p:=J (g,I xs*a8 c)) (bM.refl _ _) (λg' dq h=>by simp[dN,ni]at h;obtain⟨rfl,rfl⟩:=h;exact⟨aF.lS eH gy,.inr ⟨a1,_,de,eH,gy,bU _⟩⟩)
   refine⟨_,a2,?_⟩;simp[aG];exact⟨eN.rf am,Nat.lt_succ_self _,λ_=>.inr ⟨g,cap,cur,pg,by simp[vx],jG,x5,vE,vF⟩⟩
 .have ke : 0<I ys:=List.length_pos_iff.2 ct;have hq:I us=I ys*i0.size:=by rw[bZ.1,a3]
  rcases UJ with ⟨rfl,rfl⟩|⟨a1,g,cap,cur,de,eH,gy,rfl,jG,x5,vE,vF⟩
  .have a4:=db rfl rfl ct;have dk:fh (vx ah m s w) c ([]++ys) us:=KQ
   have bB:=Nx (t0:=t0) aF (cur:=us.toArray++iM z.cells (hU w (I ys) 0 (ah.el c)-I ys)) (cap:=hU w (I ys) 0 (ah.el c)) dk ((bM.drew _ _).trans (bM.alloc fE w.drew (.cells (us.toArray++iM z.cells (hU w (I ys) 0 (ah.el c)-I ys)) (ah.el c)))) (by simp) (rS w.drew _) (by
    have iZ:=FF w (I ys) 0 (ah.el c);simp[Array.size_append,List.size_toArray,bZ.1,iM,Array.size_map,Array.size_range,dI];rw[<-Nat.add_mul];congr 1;omega) (by simpa using FF w (I ys) 0 (ah.el c)) (PR _ _ _ _ (by simp at ek;omega)) (λj u d=>by
    have b7:j<I us:=(lN.1 d).1;rw[Array.getElem?_append_left (by simpa using b7)];simpa using d)
   rw[<-cq]at bB;refine⟨_,_,a4,_,bB.1,?_⟩;rw[hid];simpa using bB.2
  .obtain⟨bI,jF,vs,eX,a5,l⟩:=EV am;have l:∀(j:Nat) u,vs[j]? = J u->w.cell? ⟨g,j,aj⟩=J u:=by
    by_cases eY:xs=[]
    .subst eY;intro j u d;have:vs=[]:=k0 (by rw[a5.1];simp);subst this;simp at d
    .simp at eX;intro j u d;have:=l g 0 eX.1.symm eY j u d;rwa[h6]at this
   have jY:I vs=I xs*i0.size:=by rw[a5.1,a3]
   by_cases r:I xs+I ys<=cap
   .have cZ:I xs*i0.size+I us<=cur.size:=by rw[hq,x5,<-Nat.add_mul,a3];exact ly _ r
    rw[a3]at cZ;have a4:=cM g cap cur rfl jG ct r cZ;have dp:∀(j:Nat) u,(vs++us)[j]? = J u->(cur.toList.take (I xs*a8 c)++us++cur.toList.drop (I xs*a8 c+I us)).toArray[j]? = J u:=by
     intro j u d;have ap:∀(j:Nat) u,vs[j]? = J u->cur[j]? = J u:=λj u d=>by have:=l j u d;simp[h7,jG]at this;exact this
     have b7:j<I (vs++us):=(lN.1 d).1;have ac:I (cur.toList.take (I xs*a8 c))=I xs*a8 c:=d'
     simp only[List.getElem?_toArray];rw[List.getElem?_append_left (by simp[e7,ac];simp[e7,a5.1]at b7;exact b7)];rw[List.getElem?_append]at d ⊢;rw[ac];rw[a5.1]at d;split
     .rename_i bG;rw[if_pos bG]at d;rw[h5,if_pos bG];simpa using ap j u d
     .rename_i bG;rw[if_neg bG]at d;exact d
    have dv:∀j,j<I xs*a8 c->(cur.toList.take (I xs*a8 c)++us++cur.toList.drop (I xs*a8 c+I us)).toArray[j]? = cur[j]? :=by
     intro j d;have ac:I (cur.toList.take (I xs*a8 c))=I xs*a8 c:=d'
     simp only[List.getElem?_toArray];rw[hp,List.getElem?_append_left (by rw[ac];exact d),h5,if_pos d];simp
    have cS:(w.setRow g (cur.toList.take (I xs*a8 c)++us++cur.toList.drop (I xs*a8 c+I us)).toArray).heap[g]? = J (.cells (cur.toList.take (I xs*a8 c)++us++cur.toList.drop (I xs*a8 c+I us)).toArray (ah.el c) (0,0)):=setRow_heap w g cur _ _ _ jG;have iK:bM (λb i=>∃t o,t0=J t/\s.bJ t/\m.bh t=J (b,o)/\o<=i) w (w.setRow g (cur.toList.take (I xs*a8 c)++us++cur.toList.drop (I xs*a8 c+I us)).toArray):=by
     refine⟨rfl,rfl,rfl,by simp,λk _ ck=>setRow_other w g k _ (λe=>ck (I xs*a8 c) ⟨a1,_,de,eH,by rw[e];exact gy,bU _⟩),λb i v dC ck=>?_,λb cs t f bV=>?_⟩
     rotate_left
     .by_cases al:b=g
      .subst al;rw[jG]at bV;simp[dN,Obj.cells.injEq]at bV;obtain⟨rfl,rfl,rfl⟩:=bV;exact⟨_,_,cS,by simp;omega⟩
      .exact⟨cs,f,by rw[setRow_other w g b _ al];exact bV,rfl⟩
     by_cases al:b=g
     .subst al;have bO:i<I xs*a8 c:=by
       rcases Nat.lt_or_ge i (I xs*a8 c)with h|h
       .exact h
       .exact absurd ⟨a1,_,de,eH,gy,h⟩ ck
      simp only[h7,cS,dv i bO];simpa only[h7,jG]using dC
     .rw[aT.cell?_of_block (a:=⟨b,i,aj⟩) (setRow_other w g b _ al)];exact dC
    obtain⟨a2,eN⟩:=aF.right (t0:=t0) (p:=J (g,I (xs++ys)*a8 c)) iK (λg' dq h=>by simp only[dN,ni]at h;obtain⟨rfl,rfl⟩:=h;refine⟨by simpa using aF.lS eH gy,.inr ⟨a1,_,de,eH,gy,?_⟩⟩;simp;exact ly _ af)
    rw[<-cq]at a2;refine⟨_,_,a4,_,a2,?_⟩;rw[hid];simp only[aG];rw[cq];have a9:I (xs++ys)=I xs+I ys:=by simp
    rw[<-a9];refine⟨DB ((a5.append bZ).later eN) ⟨by rw[a9];exact r,vF⟩ (λj u d=>?_) (λi bO=>?_),Nat.lt_succ_self _,λ_=>.inr ⟨g,cap,_,rfl,by simp[vx],cS,?_,by rw[a9];exact r,vF⟩⟩
    .show h7 _ _=_;simp only[vx,h7,cS];exact dp j u d
    .rintro(gL|cb)
     .exact aF.Cr gL (.inr ⟨a1,_,eH,gy,bU _⟩:fF m s g (I xs*a8 c))
     .rcases cb with ⟨q,bV,he⟩|⟨t',dq,y,aZ,bg⟩
      .exact aF.h0 q a1 g _ bV eH gy he
      .by_cases b':t' = s.bu
       .subst b';simp at aZ;rw[a9]at bO;omega
       .simp[if_neg b']at aZ;rcases y with y|y
        .exact y.2 (by rw[de,aF.jm a1 t' g _ _ eH y.1 gy aZ])
        .exact absurd y b'
    .have ac:I (cur.toList.take (I xs*a8 c))=I xs*a8 c:=d'
     simp[List.size_toArray,ac,ff];omega
   .have bB:=Nx (t0:=t0) aF (cur:=vs.toArray++us.toArray++iM z.cells (hU w (I xs+I ys) cap (ah.el c)-(I xs+I ys))) (cap:=hU w (I xs+I ys) cap (ah.el c)) (a5.append bZ) ((bM.drew _ _).trans (bM.alloc fE w.drew (.cells (vs.toArray++us.toArray++iM z.cells (hU w (I xs+I ys) cap (ah.el c)-(I xs+I ys))) (ah.el c)))) (by simp) (rS w.drew _) (by
     have iZ:=FF w (I xs+I ys) cap (ah.el c);simp[Array.size_append,List.size_toArray,bZ.1,a5.1,iM,Array.size_map,Array.size_range,dI];rw[<-Nat.add_mul,<-Nat.add_mul];congr 1;omega) (by simpa using FF w (I xs+I ys) cap (ah.el c)) (PR _ _ _ _ ek) (λj u d=>by
     have b7:j<I (vs++us):=(lN.1 d).1;rw[Array.getElem?_append_left (by simpa using b7)];simpa using d)
    rw[<-cq]at bB;refine⟨_,_,(cV g cap vs rfl a5.1 l ct r),_,bB.1,?_⟩;rw[hid];simpa using bB.2
variable{y:cO}
theorem aac(aW:gx ah px){x:cO}(bS:o.op = .call ⟨.builtin .append, #[x,y], #[t,t]⟩)(ap:px.a1 t = .sl c){dv:l'}(ag:aJ px st t x=J (.sl c xs bh))(aE:aJ px st t y=J (.sl c ys dv))(dI:o4 st.bh bh=J bJ)(p:I xs+I ys<=bY):rP ah px o st (lf { st with bh:=bJ }) (.sl c (xs++ys) (.id st.bu)):=by
 refine⟨⟨rfl,rfl,rfl,rfl,rfl⟩,λs m a as_ w cM gS aF=>?_⟩;rw[dx,<-cM _ x KC]at ag;rw[dx,<-cM _ y KC]at aE;obtain⟨v,_,en,cV⟩:=aF.env.aJ ag;obtain⟨v2,_,ek,a9⟩:=aF.env.aJ aE;simp[aG]at cV a9;obtain⟨ev,e8⟩:=cV;obtain⟨ad,i,us,rfl,bZ,a5⟩:=EV a9.1;obtain⟨by_,eZ,bB,_⟩:=m0 (aW.a1 t) ap;have eX:=eZ;obtain⟨hu,i0,z,b7,dK,f,cS,eY,hq⟩:=eZ;have n:(I xs+I ys)*by_<=140737488355328:=by
  have ac:I xs+I ys<=274877906944:=by unfold bY at p;exact p
  have aY:(I xs+I ys)*by_<=274877906944*512:=Nat.mul_le_mul ac bB;omega
 have cZ:I xs+I ys<=9223372036854775807:=by unfold bY at p;omega
 have cq:∀(r:aD) (w':aT),(oT #[t,t] o.type #[v,.slice ad (I ys) i]).run ah.P w = .ok r w'->(cE a.eval o).run ah.P w = .ok (.value r) w':=by intro r w' aF;simp[cE,bS,resolve,invoke,builtin,e3,ga,hk,List.map_nil,en,ek,aF]
 have ct:I us=I ys*i0.size:=by rw[bZ.1,f]
 have am:∀u,u∈us->u.oneCell' = true:=λu hu=>av.yn (bZ.one u hu);have q:ys≠[]->∃k ew,ad=J ⟨k,ew,aj⟩:=λd=>by
  obtain⟨ca,hC,de,h⟩:=tg a9.1;simp at de;rcases h with h|⟨b,dq,h,_⟩
  .exact absurd h d
  .exact⟨b,dq,by rw[de.1,h]⟩
 have l:∀k ew,ad=J ⟨k,ew,aj⟩->ys≠[]->∀(j:Nat) u,us[j]? = J u->w.cell? ((⟨k,ew,aj⟩:Addr).add j)=J u:=λk ew e d j u dh=>by rw[av.jE];exact a5 k ew e d j u dh
 refine(λh=>by obtain⟨v,w',aY,aZ⟩:=h;exact .inl ⟨v,w',cq _ _ aY,aZ⟩) (TC (um:=λr w'=>(oT #[t,t] o.type #[v,.slice ad (I ys) i]).run ah.P w = .ok r w') f eY dI cZ gS aF ev e8 bZ ?_ ?_ ?_ ?_)
 .intro d a2;subst d;exact amC (P:=ah.P) (t:=t) (ty:=o.type) (w:=w) eX (v:=v) (ad:=ad) (c:=i) a2
 .intro dp dC d;obtain⟨k,ew,a3⟩:=q d;subst dp dC a3;have db : 0<I ys:=List.length_pos_iff.2 d;exact run_append_nil (P:=ah.P) w t o.type (ah.el c) i0 z hu b7 dK ⟨k,ew,aj⟩ (I ys) i us ct (l k ew rfl d) db (by simp at cZ;omega) (by rw[cS];simp at n;omega)
 .intro g cap cur a2 jG d a4 dk;obtain⟨k,ew,a3⟩:=q d;subst a2 a3;have bG:=run_append_room (P:=ah.P) w t o.type (ah.el c) i0 hu b7 g (I xs) cap cur jG ⟨k,ew,aj⟩ (I ys) i us ct (l k ew rfl d) am a4 (by rw[f];exact dk);rw[f]at bG;exact bG
 .intro g cap vs a2 gF bE d a4;obtain⟨k,ew,a3⟩:=q d;subst a2 a3;have db : 0<I ys:=List.length_pos_iff.2 d;exact run_append_grow (P:=ah.P) w t o.type (ah.el c) i0 z hu b7 dK ⟨g,0,aj⟩ (I xs) cap vs (by rw[f];exact gF) (λj u dh=>by rw[av.jE,h6];exact bE j u dh) ⟨k,ew,aj⟩ (I ys) i us ct (l k ew rfl d) af af (growslice_fits af (by rw[cS];exact n))
theorem akG(aW:gx ah px){t':Nat}{x:cO}(bS:o.op = .call ⟨.builtin .append, #[x,y], #[t,t']⟩)(dk:px.a1 t = .sl .byte)(cq:px.a1 t' = .str){xs:U UInt8}{l:ak}(ag:aJ px st t x=J (.sl .byte xs bh))(aE:aJ px st t y=J (.str l))(ap:o4 st.bh bh=J bJ)(a3:I xs+I l<=bY):rP ah px o st (lf { st with bh:=bJ }) (.sl .byte (xs++l:U UInt8) (.id st.bu)):=by
 refine⟨⟨rfl,rfl,rfl,rfl,rfl⟩,λs m a as_ w ct gS aF=>?_⟩;rw[dx,<-ct _ x KC]at ag;rw[dx,<-ct _ y KC]at aE;obtain⟨v,_,en,cM⟩:=aF.env.aJ ag;obtain⟨v2,_,dv,cV⟩:=aF.env.aJ aE;simp[aG]at cM cV;obtain⟨dI,ek⟩:=cM;obtain⟨rfl,gF⟩:=cV;obtain⟨by_,eZ,bG,j0⟩:=m0 (aW.a1 t) dk;have hq:=eZ;obtain⟨hu,i0,z,a4,dK,a5,cS,ev,eM⟩:=eZ;have k:=av.sC (tr (aW.a1 t') cq);have q:(I xs+I l)*by_<=140737488355328:=by
  have bZ:I xs+I l<=274877906944:=by unfold bY at a3;exact a3
  have aY:(I xs+I l)*by_<=274877906944*512:=Nat.mul_le_mul bZ bG;omega
 have cZ:I xs+I l<=9223372036854775807:=by unfold bY at a3;omega
 have b7:∀(r:aD) (w':aT),(oT #[t,t'] o.type #[v,.string ⟨l.toArray⟩]).run ah.P w = .ok r w'->(cE a.eval o).run ah.P w = .ok (.value r) w':=by intro r w' aF;simp[cE,bS,resolve,invoke,builtin,e3,ga,gr,List.map_toArray,hk,List.map_nil,en,dv,aF]
 have am:i0.size=1:=a5;have f:(⟨l.toArray⟩:ByteArray).size=I l:=by simp[ByteArray.size]
 have a2:Lib.strCells (⟨l.toArray⟩:ByteArray)=l.map λb=>aD.int .u8 (b.toNat:Int):=by simp[Lib.strCells]
 have e8:fh (vx ah m s w) .byte (l:U UInt8) (l.map λb=>aD.int .u8 (b.toNat:Int)):=by
  refine⟨by simp[a8],λi y j d aE ar=>?_⟩;obtain⟨rfl,rfl⟩:j=0/\d = .int .u8 (y.toNat:Int):=by cases j with|zero=>exact⟨rfl,by simpa[enc]using ar.symm⟩|succ j=>simp[enc]at ar
  refine⟨.int .u8 (y.toNat:Int),?_,λw' _=>.int _ _ ?_⟩
  .have aE:l[i]? = J y:=aE;simp[a8,aE]
  .have:=y.toNat_lt;exact ai7
 refine(λh=>by obtain⟨v,w',aY,aZ⟩:=h;exact .inl ⟨v,w',b7 _ _ aY,aZ⟩) (TC (c:=.byte) (ys:=(l:U UInt8)) (um:=λr w'=>(oT #[t,t'] o.type #[v,.string ⟨l.toArray⟩]).run ah.P w = .ok r w') a5 ev ap cZ gS aF dI ek e8 ?_ ?_ ?_ ?_)
 .intro p bB;have p:l=[]:=p;subst p;rcases bB with rfl|⟨g,n,cap,rfl,eX⟩
  .simp[oT,dO hu,dO k,sizeOf,typeInfo,a4,jq.lenOf,go_sem,ByteArray.size]
  .simp[oT,dO hu,dO k,sizeOf,typeInfo,a4,jq.lenOf,go_sem,ByteArray.size,eX,storeCells]
 .intro eY ac p;have ac:xs=[]:=ac;subst eY ac;have dp : 0<I l:=List.length_pos_iff.2 p;have e:=run_append_nil_string (P:=ah.P) (w:=w) t t' o.type (ah.el .byte) i0 z hu k a4 dK ⟨l.toArray⟩ (by rw[f];exact dp) (by rw[f];simp at cZ;omega) (by rw[f,cS];simp at q;omega);rw[f]at e;have de:((⟨l.toArray⟩:ByteArray).data.map λb=>aD.int .u8 b.toNat)=(l.map λb=>aD.int .u8 (b.toNat:Int)).toArray:=Ed
  rw[de]at e;exact e
 .intro g cap cur bB jG p bE db;subst bB;have e:=Lib.run_append_room_string (P:=ah.P) (w:=w) t t' o.type (ah.el .byte) i0 hu k a4 am g (I xs) cap cur jG ⟨l.toArray⟩ (by rw[f];exact bE) (by rw[f];simpa[a8]using db);rw[a2,f]at e;simpa[a8]using e
 .intro g cap vs bB dC a9 p bE;subst bB;have e:=Lib.run_append_grow_string (P:=ah.P) (w:=w) t t' o.type (ah.el .byte) i0 z hu k a4 dK ⟨g,0,aj⟩ (I xs) cap vs (by rw[am];simpa[a8]using dC) (λj u dh=>by rw[av.jE,h6];exact a9 j u dh) ⟨l.toArray⟩ (by rw[f];omega) (by rw[f];omega) (by rw[f];exact growslice_fits (by have : 0<I l:=List.length_pos_iff.2 p;omega) (by rw[cS];exact q));rw[a2,f]at e;exact e
end
theorem EM{A B:Array Obj}(h:∀k:Nat,A[k]? = B[k]?):({ w with heap:=A }:aT)={ w with heap:=B }:=by rw[Array.ext_getElem? h]
theorem arz{b:Nat}{cs:Array aD}{t:bD}{a:Nat×Nat}(h:w.heap[b]? = J (.cells cs t a)):w.setRow b cs=w:=by
 refine EM (w:=w) (B:=w.heap) λk=>?_
 grind
theorem amN(w:aT)(b:Nat)(A B:Array aD):(w.setRow b A).setRow b B=w.setRow b B:=by
 refine EM (w:=w) λk=>?_;simp[aT.setRow,Array.getElem?_modify]
 grind
theorem arv(w:aT){b c:Nat}(h:b≠c)(A B:Array aD):(w.setRow b A).setRow c B=(w.setRow c B).setRow b A:=by
 refine EM (w:=w) λk=>?_;simp[aT.setRow,Array.getElem?_modify]
 grind
theorem YS(w:aT)(A B:Array aD)(t:bD):(w.alloc (.cells A t)).setRow w.heap.size B=w.alloc (.cells B t):=by
 refine EM (w:=w) λk=>?_;simp only[aT.alloc,Array.getElem?_modify,Array.getElem?_push]
 grind
theorem amG{b off:Nat}{v:aD}{A:Array aD}:(w.setCell ⟨b,off,aj⟩ v).setRow b A=w.setRow b A:=by
 refine EM (w:=w) λk=>?_;simp[aT.setCell,Array.getElem?_modify]
 grind
theorem tf{t:bD}{a:Nat×Nat}:∀(vs cs:U aD) (w:aT) (b off:Nat),w.heap[b]? = J (.cells cs.toArray t a)->av.setCells w b off vs=w.setRow b (av.je cs off vs).toArray
 |[],cs,w,b,off,h=>(arz h).symm
 |v::vs,cs,w,b,off,h=>by simp[av.setCells];rw[tf vs (cs.set off v) (w.setCell ⟨b,off,aj⟩ v) b (off+1) (av.alO h)];exact amG
theorem Le:∀(us a pre post:U aD),I us=I a->av.je (pre++a++post) (I pre) us=pre++us++post
 |[],a,pre,post,h=>by have:a=[]:=List.length_eq_zero_iff.1 h.symm;subst this;rfl
 |u::us,[],pre,post,h=>by simp at h
 |u::us,alU::a,pre,post,h=>by
  simp[eo]at h;have b:=Le us a (pre++[u]) post h;simp only[av.je]
  grind
theorem Wx(w:aT)(A:Array aD)(t:bD):(w.drew.alloc (.cells A t)).heap[w.heap.size]? = J (.cells A t (0,0)):=rS w.drew _
section
variable {R:Type}{px:aR R}{ah:di}
variable{bJ:U Nat}{as_:U Act}{c:cl}{m:ed}{st:bw}{bh:l'}{us:U aD}{xs:U (dy c)}
theorem av2(aW:gx ah px){t:bD}(dI:px.a1 t = .sl c){z0 e:dy c}{ek:l'}(n:o4 st.bh bh=J bJ)(a3:I xs+1<=bY)(gS:hx s (aB st))(aF:Rel ah m a as_ s w){v eA:aD}
  (ag:aG (vx ah m s w) (.sl c xs bh) v) (dK:aG (vx ah m s w) (.sl c [z0] ek) eA) (ct:pF (vx ah m s w) c e us) (ty:bD) :
  ∃(bb:aD) (gh:aT) (g cap:Nat) (cs:U aD) (t0:bD),(oT #[t,t] ty #[v,eA]).run ah.P w = .ok bb gh/\bb = .slice (J ⟨g,0,aj⟩) (I xs+1) cap/\gh.heap[g]? = J (.cells cs.toArray t0 (0,0))/\I xs*a8 c+a8 c<=I cs/\(∀b,s.au b≠aj->m.au b≠g)/\(∀k,k<w.heap.size->k≠g->gh.heap[k]? = w.heap[k]?) /\
   ∃a6,Rel ah a6 a as_ (ho (aB (lf { st with bh:=bJ })) s) (av.setCells gh g (I xs*a8 c) us)/\aG (vx ah a6 (ho (aB (lf { st with bh:=bJ })) s) (av.setCells gh g (I xs*a8 c) us)) (.sl c (xs++[e]) (.id st.bu)) bb:=by
 simp[aG]at ag dK;obtain⟨ev,bE⟩:=ag;obtain⟨ad,q,d,rfl,a4,bG⟩:=EV dK.1;obtain⟨by_,eZ,a9,_⟩:=m0 (aW.a1 t) dI;obtain⟨hu,i0,z,b7,cM,f,cV,e8,gF⟩:=eZ;have r:(I xs+1)*by_<=140737488355328:=by
  have ac:I xs+1<=274877906944:=by unfold bY at a3;exact a3
  have aY:(I xs+1)*by_<=274877906944*512:=Nat.mul_le_mul ac a9;omega
 have cS:I xs+I [e]<=9223372036854775807:=by unfold bY at a3;simp[ dB];omega
 have cZ:fh (vx ah m s w) c [e] us:=by simpa using fh.cons ct (fh.nil (vx ah m s w) c)
 have eX:I us=a8 c:=ct.1;have am:I d=a8 c:=by have:=a4.1;simpa using this
 have a5:I us=I d:=by rw[eX,am]
 have bB:I d=I [z0]*i0.size:=by rw[a4.1,f]
 have db:∀u,u∈d->u.oneCell' = true:=λu hu=>av.yn (a4.one u hu);obtain⟨eM,ew,aDT⟩:∃eM ew,ad=J ⟨eM,ew,aj⟩:=by
  obtain⟨ca,hC,de,h⟩:=tg dK.1;simp at de;rcases h with h|⟨b,dq,h,_⟩
  .cases h
  .grind
 subst aDT;have p:∀(j:Nat) u,d[j]? = J u->w.cell? ((⟨eM,ew,aj⟩:Addr).add j)=J u:=λj u dh=>by rw[av.jE];exact bG eM ew rfl (by simp) j u dh
 have x:∀b,s.au b≠aj->m.au b≠w.heap.size:=λb al h=>by have:=aF.n9 al;omega
 have y:∀(o:Obj) (k:Nat),k<w.heap.size->k≠w.heap.size->(w.drew.alloc o).heap[k]? = w.heap[k]? :=λo k bf _=>by have aY:k<w.drew.heap.size:=bf;exact Below.heap_alloc _ _ _ aY
 refine(λh=>by obtain⟨bb,b4,⟨gh,g,cap,cs,t0,aY,aZ,bg,cB,dE,eI,rfl⟩,a6,jJ,j0⟩:=h;exact⟨bb,gh,g,cap,cs,t0,aY,aZ,bg,cB,dE,eI,a6,jJ,j0⟩) (TC (um:=λbb b4=>∃(gh:aT) (g cap:Nat) (cs:U aD) (t0:bD),(oT #[t,t] ty #[v,.slice (J ⟨eM,ew,aj⟩) (I [z0]) q]).run ah.P w = .ok bb gh/\bb = .slice (J ⟨g,0,aj⟩) (I xs+1) cap/\gh.heap[g]? = J (.cells cs.toArray t0 (0,0))/\I xs*a8 c+a8 c<=I cs/\(∀b,s.au b≠aj->m.au b≠g)/\(∀k,k<w.heap.size->k≠g->gh.heap[k]? = w.heap[k]?)/\b4=av.setCells gh g (I xs*a8 c) us)
  f e8 n cS gS aF ev bE cZ ?_ ?_ ?_ ?_)
 .grind
 .intro eY dp _;subst eY dp;have i:=run_append_nil (P:=ah.P) w t ty (ah.el c) i0 z hu b7 cM ⟨eM,ew,aj⟩ (I [z0]) q d bB p (by simp) (by simp) (by rw[cV];simp at r ⊢;omega);have ch:=Wx w (d.toArray++iM z.cells (hU w (I [z0]) 0 (ah.el c) - I [z0])) (ah.el c);have jZ:d.toArray++iM z.cells (hU w (I [z0]) 0 (ah.el c) - I [z0])=(d++(iM z.cells (hU w (I [z0]) 0 (ah.el c) - I [z0])).toList).toArray:=Ed
  rw[jZ]at ch;refine⟨_,w.heap.size,_,_,_,i,rfl,by rw[jZ];exact ch,by simp[ dB];omega,x,y _,?_⟩;rw[jZ,tf us _ _ _ _ ch];have de:=Le us d [] (iM z.cells (hU w (I [z0]) 0 (ah.el c) - I [z0])).toList a5;simp only[nX,dB,Nat.zero_mul]at de ⊢;rw[de];have eH:=YS w.drew (d++(iM z.cells (hU w (I [z0]) 0 (ah.el c) - I [z0])).toList).toArray (us++(iM z.cells (hU w (I [z0]) 0 (ah.el c) - I [z0])).toList).toArray (ah.el c);exact aja
 .intro g cap cur cq jG _ l dk;subst cq;have i:=run_append_room (P:=ah.P) w t ty (ah.el c) i0 hu b7 g (I xs) cap cur jG ⟨eM,ew,aj⟩ (I [z0]) q d bB p db (by simpa using l) (by rw[f,<-a5];exact dk);rw[f]at i;have ap:I (cur.toList.take (I xs*a8 c))=I xs*a8 c:=d'
  have ch:=setRow_heap w g cur (cur.toList.take (I xs*a8 c)++d++cur.toList.drop (I xs*a8 c+I d)).toArray (ah.el c) (0,0) jG;refine⟨_,g,cap,_,_,i,rfl,ch,?_,λb al=>?_,λk _ bf=>setRow_other w g k _ bf,?_⟩
  .simp[ ap];omega
  .unfold o4 at n;split at n
   .cases n
   .simp only[vm]at bE;exact absurd bE.1 (by simp)
   .rename_i a1;split at n
    .rename_i ao;have dC:a1∈st.bh:=Eh
     have a2:s.bJ a1:=by rw[gS.2.2.1];exact dC
     rcases bE.2 a2 with ⟨aY,_,_⟩|⟨g',hC,hq,aY,aZ,_⟩
     .cases aY
     .simp[ Addr.mk.injEq]at aY;obtain⟨⟨rfl,_⟩,_⟩:=aY;exact aF.h0 b a1 _ _ al a2 aZ
    .cases n
   .cases n
  .rw[tf us _ _ _ _ ch,amN];have de:=Le us d (cur.toList.take (I xs*a8 c)) (cur.toList.drop (I xs*a8 c+I d)) a5;rw[ap]at de;rw[de,a5]
 .intro g cap vs cq dv bZ _ l;subst cq;have i:=run_append_grow (P:=ah.P) w t ty (ah.el c) i0 z hu b7 cM ⟨g,0,aj⟩ (I xs) cap vs (by rw[f];exact dv) (λj u dh=>by rw[av.jE,h6];exact bZ j u dh) ⟨eM,ew,aj⟩ (I [z0]) q d bB p (by simp at l ⊢;omega) (by simp at cS ⊢;omega) (growslice_fits (by simp at l ⊢;omega) (by rw[cV];simpa using r));have ch:=Wx w (vs.toArray++d.toArray++iM z.cells (hU w (I xs+I [z0]) cap (ah.el c)-(I xs+I [z0]))) (ah.el c);have jZ:vs.toArray++d.toArray++iM z.cells (hU w (I xs+I [z0]) cap (ah.el c)-(I xs+I [z0]))=(vs++d++(iM z.cells (hU w (I xs+I [z0]) cap (ah.el c)-(I xs+I [z0]))).toList).toArray:=Ed
  rw[jZ]at ch;refine⟨_,w.heap.size,_,_,_,i,rfl,by rw[jZ];exact ch,by simp;omega,x,y _,?_⟩;rw[jZ,tf us _ _ _ _ ch,<-dv];rw[(Le us d vs (iM z.cells (hU w (I xs+I [z0]) cap (ah.el c)-(I xs+I [z0]))).toList a5)];have eH:=YS w.drew (vs++d++(iM z.cells (hU w (I xs+I [z0]) cap (ah.el c)-(I xs+I [z0]))).toList).toArray (vs++us++(iM z.cells (hU w (I xs+I [z0]) cap (ah.el c)-(I xs+I [z0]))).toList).toArray (ah.el c);exact aja
end
section
variable {R:Type}{px:aR R}{ah:di}
def sM(st aS:bw):Prop:=aS.n=st.n/\aS.env=st.env/\aS.c7=st.c7/\aS.lt=st.lt/\aS.cx=st.cx
variable{st:bw}{aS:bw}
theorem E'(h:sM st aS):ho (aB aS) (aB st)=aB aS:=by
 obtain⟨a,b,c,d,e⟩:=h;refine FS.eq ?_ ?_ ?_ ?_ ?_ rfl rfl rfl rfl
 .exact a.symm
 .simp[ho,aB,b]
 .exact c.symm
 .exact d.symm
 .exact e.symm
structure Tn (ah:di) (o:bx) (st aS:bw) (d:D):Prop where
 same:sM st aS
 run:∀(m:ed) (a:Act) (as_:List Act) (w:aT),Rel ah m a as_ (aB st) w->vv ah.P a w o λv w'=>∃a6,Rel ah a6 a as_ (aB aS) w'/\aG (vx ah a6 (aB aS) w') d v
theorem rP.seq{d:D}(h:rP ah px o st aS d):Tn ah o st aS d:=⟨h.same,λm a as_ w b=>by have:=h.run (aB st) m a as_ w (λ_ _ _=>rfl) ⟨rfl,rfl,rfl,rfl⟩ b;rwa[E' h.same]at this⟩
def xR(ah:di)(g:Nat)(args:U D)(st:bw)(K:U D->bw->ae R)(r:R):Prop:=av.Enters ah.P g/\∀(m:ed) (a:Act) (as_:U Act) (w:aT) (vs:U aD),Rel ah m a as_ (aB st) w->bl (vx ah m (aB st) w) args vs->Calls ah.P g vs.toArray w λdJ w'=>∃v,dJ = .returned v/\∃rs aS a6,K rs aS = J r/\sM st aS/\Rel ah a6 a as_ (aB aS) w'/\aG (vx ah a6 (aB aS) w') (iU rs) v
def lG(ah:di)(px:aR R):Prop:=∀(g:Nat) (args:U D) (st:bw) (K:U D->bw->ae R) (r:R),px.call g args st K=J r->xR ah g args st K r
def pP(ah:di)(g:Nat)(F:U D->bw->(D->U Nat->bw->ae R)->ae R):Prop:=∀(args:U D) (st:bw) (K:D->U Nat->bw->ae R) (r:R),F args st K=J r->∃d ws aS,K d ws aS = J r/\sM st aS/\st.nb<=aS.nb/\(∀b,b∉ws->kE (aB st) (aB aS) b)/\av.Enters ah.P g /\ ∀(s:FS) (m:ed) (a:Act) (as_:U Act) (w:aT) (vs:U aD),hx s (aB st)->Rel ah m a as_ s w->bl (vx ah m s w) args vs->Calls ah.P g vs.toArray w λdJ w'=>∃v,dJ = .returned v/\∃a6,Rel ah a6 a as_ (ho (aB aS) s) w'/\aG (vx ah a6 (ho (aB aS) s) w') d v
structure mv (ah:di) (px:aR R):Prop where
 q:∀(g:Nat) (args:List D) (K:List D->Option R) (r:R),px.LX g args K=J r->∃rs,K rs=J r/\av.Enters ah.P g/\∀(s:FS) (m:ed) (a:Act) (as_:List Act) (w:aT) (vs:List aD),Rel ah m a as_ s w->bl (vx ah m s w) args vs->Calls ah.P g vs.toArray w λdJ w'=>∃v,dJ = .returned v/\Rel ah m a as_ s w'/\aG (vx ah m s w') (iU (rs.map pW)) v
 w:∀g F,px.LY g=J F->pP ah g F
def oM(o:bx):Bool:=match o.op with|.call ⟨.builtin .len,_,⟨[_]⟩⟩=>ab|.call ⟨.builtin .len,_,_⟩=>ai|.select _ _=>ai|_=>ab
theorem MR(h:oM o=ab):∀b xs bQ,o.op = .call ⟨.builtin b,xs,bQ⟩->b = .len->bQ = #[bQ.toList.headD 0]:=by intro b xs bQ a al;subst al;unfold oM at h;rw[a]at h;obtain⟨l⟩:=bQ;match l with|[]=>simp at h|[t]=>rfl|_::_::_=>simp at h
variable{f:cO}{g:Nat}{bQ:Array bD}{vs:U aD}
theorem XI{xs:Array cO}{b:U aD}(c:o.op = .call ⟨.value f,xs,bQ⟩)(d:a.eval f = .func (.func g) #[] b.toArray)(ag:xs.toList.map a.eval=vs)(e:av.Enters P g):(cE a.eval o).run P w = .ok (.enter g (vs++b).toArray) w:=by
 have h:xs.map a.eval=vs.toArray:=by apply Array.ext';simpa using ag
 simp[cE,c,resolve,d,Deferred.ofValue,h,invoke];simpa using (e (vs++b).toArray w)
theorem af0{xs:Array cO}{b:U aD}(c:o.op = .call ⟨.value f,xs,bQ⟩)(d:a.eval f = .func (.func g) b.toArray #[])(ag:xs.toList.map a.eval=vs)(e:av.Enters P g):(cE a.eval o).run P w = .ok (.enter g (b++vs).toArray) w:=by
 have h:xs.map a.eval=vs.toArray:=by apply Array.ext';simpa using ag
 simp[cE,c,resolve,d,Deferred.ofValue,h,invoke];simpa using (e (b++vs).toArray w)
variable{r:R}
theorem anw(aW:gx ah px)(ao:lG ah px)(al:oM o=ab){K:D->bw->ae R}(h:step px o st K=J r):∀(m:ed) (a:Act) (as_:U Act) (w:aT),Rel ah m a as_ (aB st) w->vv ah.P a w o λv w'=>∃d aS a6,K d aS = J r/\sM st aS/\Rel ah a6 a as_ (aB aS) w'/\aG (vx ah a6 (aB aS) w') d v:=by
 have fin:(∃d aS,K d aS = J r/\Tn ah o st aS d)->∀(m:ed) (a:Act) (as_:U Act) (w:aT),Rel ah m a as_ (aB st) w->vv ah.P a w o λv w'=>∃d aS a6,K d aS = J r/\sM st aS/\Rel ah a6 a as_ (aB aS) w'/\aG (vx ah a6 (aB aS) w') d v:=by
  rintro⟨d,aS,aY,aZ⟩ m a as_ w aF;rcases aZ.run m a as_ w aF with ⟨v,w',bg,a6,cB,dE⟩|⟨f,args,w1,bg,cB⟩
  .exact .inl ⟨v,w',bg,d,aS,a6,aY,aZ.same,cB,dE⟩
  .refine .inr ⟨f,args,w1,bg,cB.mono ?_⟩;rintro dJ w' ⟨v,e,a6,dE,eI⟩;exact⟨v,e,d,aS,a6,aY,aZ.same,dE,eI⟩
 have quiet:∀{K:D->bw->ae R},(rE px o st λd=>K d st)=J r->∃d aS,K d aS = J r/\Tn ah o st aS d:=λh=>by obtain⟨d,bf,bV⟩:=Pj aW (MR al) h;exact⟨d,st,bf,(avU bV).seq⟩
 unfold step at h;split at h
 .rename_i t j;split at h
  .rename_i n c b;exact fin ⟨_,_,h,(G7 aW j (.inl ⟨n,c,b,rfl⟩)).seq⟩
  .rename_i ac;split at h
   .rename_i z dK;refine fin ⟨_,_,h,(G7 aW j (.inr ⟨z,λe=>?_,dK,rfl⟩)).seq⟩;rw[e]at dK;cases dK
   .cases h
 .rename_i t x j;split at h
  .rename_i d ar;split at h
   .rename_i bz;exact fin ⟨_,_,h,(ahR j ar bz).seq⟩
   .cases h
  .cases h
 .rename_i t len dL j;split at h
  .rename_i c b;split at h
   .rename_i xs bZ;exact fin ⟨_,_,h,(at6 aW j b bZ).seq⟩
   .cases h
  .cases h
 .rename_i q t x j;split at h
  .rename_i l ag b;split at h
   .rename_i cw;obtain⟨_,bf⟩:=h_ h;exact fin ⟨_,_,bf,(ama aW j ag b (w_ cw)).seq⟩
   .cases h
  .exact fin (quiet h)
 .rename_i x y t t' j;split at h
  .rename_i c s d b ag aE a3;have a3:=dS a3;subst a3;unfold zk at h;split at h
   .split at h
    .rename_i dT xs bh a5;subst a5;split at h
     .cases h
     .rename_i bJ bB;split at h
      .cases h
      .rename_i ys a4;obtain⟨bz,bf⟩:=h_ h;obtain⟨cq,rfl⟩:=Ra a4;exact fin ⟨_,_,bf,(aac aW j b ag aE bB uM).seq⟩
    .cases h
   .cases h
  .rename_i s l b ag aE a3;split at h
   .rename_i bG;unfold zk at h;split at h
    .split at h
     .rename_i dT xs bh a5;subst a5;split at h
      .cases h
      .rename_i bJ bB;split at h
       .cases h
       .rename_i ys a4;obtain⟨bz,bf⟩:=h_ h;simp[CG]at a4;subst a4;exact fin ⟨_,_,bf,(akG aW j b (w_ bG) ag aE bB uM).seq⟩
     .cases h
    .cases h
   .cases h
  .cases h
 .rename_i f xs bQ j;split at h
  .rename_i g nn cb;split at h
   .rename_i az bE;obtain⟨k,p⟩:=ao g (az++nn) st _ r h;intro m a as_ w aF;have a2:=cb;rw[dx]at a2;obtain⟨UD,_,aZ,bg⟩:=aF.env.aJ (env:=get st.env) a2;simp[aG]at bg;obtain⟨b7,rfl,i⟩:=bg;obtain⟨vs,_,dE,eI⟩:=vd aF.env (env:=get st.env) bE (λu q _=>by rw[dx]);refine .inr ⟨g,_,w,XI j aZ dE k,(p m a as_ w _ aF (eI.append i)).mono ?_⟩;rintro dJ w' ⟨v,e,rs,aS,a6,fJ,f_,kh,L9⟩;exact⟨v,e,_,aS,a6,fJ,f_,kh,L9⟩
   .cases h
  .rename_i g a9 cb;split at h
   .rename_i az bE;obtain⟨k,p⟩:=ao g (a9++az) st _ r h;intro m a as_ w aF;have a2:=cb;rw[dx]at a2;obtain⟨UD,_,aZ,bg⟩:=aF.env.aJ (env:=get st.env) a2;simp[aG]at bg;obtain⟨b7,rfl,i⟩:=bg;obtain⟨vs,_,dE,eI⟩:=vd aF.env (env:=get st.env) bE (λu q _=>by rw[dx]);refine .inr ⟨g,_,w,af0 j aZ dE k,(p m a as_ w _ aF (i.append eI)).mono ?_⟩;rintro dJ w' ⟨v,e,rs,aS,a6,fJ,f_,kh,L9⟩;exact⟨v,e,_,aS,a6,fJ,f_,kh,L9⟩
   .cases h
  .cases h
 .exact fin (quiet h)
variable{x:dn}
theorem KW{all:Array bx}{n:Nat}{env:Nat->ae D}(f:mx x n env a):(o.guard=aj->kt o (yielded all a.tmps)=ab)/\∀j b g,o.guard=J (j,b)->(all[j]?).bind (·.dst)=J g->(∀q,env g=J (.bool q)->kt o (yielded all a.tmps)=(q == b))/\(env g=J .undef->kt o (yielded all a.tmps)=ai):=by
 refine⟨λh=>by simp[kt,h],λj b g i k=>⟨λq d=>?_,λd=>?_⟩⟩
 .obtain⟨v,e,c⟩:=f.get g _ d;obtain rfl:=aG.bool c;simp only[kt,i,yielded,k,bA,e];cases q<;>cases b<;>rfl
 .obtain⟨v,e,c⟩:=f.get g _ d;simp[aG]at c;subst c;simp only[kt,i,yielded,k,bA,e];cases b<;>rfl
theorem u6{d:D}(h:get st.env g=J d):aB (st.put g d)=aB st:=by
 rw[r8];refine FS.eq rfl ?_ rfl rfl rfl rfl rfl rfl rfl;funext j;simp[FS.put,aB];by_cases a:j=g
 .subst a;simp[h]
 .simp[a]
theorem aqZ(k:gx ah px)(ao:lG ah px)(al:oM o=ab){K:bw->ae R}(h:one px o st K=J r):∀(m:ed) (a:Act) (as_:U Act) (w:aT),Rel ah m a as_ (aB st) w->oV ah.P a w o λca w'=>∃a6 aS,K aS = J r/\(aS.n=st.n/\aS.cx=st.cx)/\Rel ah a6 ca as_ (aB aS) w':=by
 unfold one at h;split at h
 .rename_i d ar;split at h
  .rename_i c;have c:d<st.n:=by simpa using c
   intro m a as_ w g;refine(anw k ao al h m a as_ w g).runs λu w' ⟨v,aS,a6,i,b,j,e⟩=>⟨a6,_,i,⟨b.1,b.2.2.2.2⟩,?_⟩;rw[r8,ar];refine j.put ?_ e;show d<aS.n;rw[b.1];exact c
  .cases h
 .rename_i ar;obtain⟨aS,i,f⟩:=VG (ah:=ah) k h;intro m a as_ w g;obtain⟨w',a6,j,e⟩:=f.run (aB st) m a as_ w (λ_ _ _=>rfl) ⟨rfl,rfl,rfl,rfl⟩ g;rw[E' f.same]at e;refine .inr (.inl ⟨w',j,a6,aS,i,⟨f.same.1,f.same.2.2.2.2⟩,?_⟩);rw[ar];exact e
variable{as_:U Act}{m:ed}
theorem aAg(ar:∀d,o.dst=J d->d<st.n)(c:Rel ah m a as_ (aB st) w):Rel ah m (a.put o.dst undef) as_ (aB (off o st)) w:=by unfold off;cases b:o.dst with|none=>exact c|some d=>rw[r8];exact c.put (ar d b) (by simp[aG];rfl)
def rG(n:Nat)(o:bx):Bool:=match o.dst with|some d=>eU d n|none=>ab
theorem awf{x:cO}{d:Nat}(h:lk x d=ab):x ≠ .tmp d:=by rintro rfl;simp[lk]at h
theorem k6{x:cO}{d:Nat}{v:aD}(h:lk x d=ab):(a.put (J d) v).eval x=a.eval x:=Act.eval_put λb ar=>by simp at ar;subst ar;exact awf h
theorem uY{d:Nat}{v:aD}(h:d<a.tmps.size):(a.put (J d) v).eval (.tmp d)=v:=by simp[Act.put,Act.eval,h]
structure El (ah:di) (o ew mT:bx) (st e1:bw) (m:ed) (a:Act) (as_:List Act) (w:aT) where
 d:Nat
 d2:Nat
 t2:bD
 i:cO
 u:bD
 y:cO
 bb:aD
 lr:aD
 gh:aT
 g:Nat
 off:Nat
 cs:List aD
 t0:bD
 us:List aD
 dst:o.dst=J d
 L1:ew.dst=J d2
 FU:mT.dst=aj
 ak3:o.guard=aj
 ak4:ew.guard=aj
 UG:mT.guard=aj
 alv:ew.op = .indexAddr t2 (.tmp d) i
 alw:mT.op = .store u (.tmp d2) y
 ne:d≠d2
 lt:d<st.n
 UO:d2<st.n
 alo:lk i d=ab
 UR:lk y d=ab
 US:lk y d2=ab
 run:(cE a.eval o).run ah.P w = .ok (.value bb) gh
 alN:∀(ca:Act) (w':aT),ca.eval (.tmp d)=bb->ca.eval i=a.eval i->(cE ca.eval ew).run ah.P w' = .ok (.value lr) w'
 Vj:∀(ca:Act) (w':aT) (cs':List aD),ca.eval (.tmp d2)=lr->ca.eval y=a.eval y->w'.heap[g]? = J (.cells cs'.toArray t0 (0,0))->I cs'=I cs->(cE ca.eval mT).run ah.P w' = .ok .skip (av.setCells w' g off us)
 row:gh.heap[g]? = J (.cells cs.toArray t0 (0,0))
 aDC:∀b,bF st.au b≠aj->m.au b≠g
 rest:∀k,k<w.heap.size->k≠g->gh.heap[k]? = w.heap[k]?
 one:av.one bb=ab
 n:e1.n=st.n/\e1.cx=st.cx
 akY:∃c xs t,get e1.env d=J (.sl c xs t)
 akZ:∀k,k≠d->k≠d2->get e1.env k=get st.env k
 au:e1.au=st.au
 a6:ed
 rel:Rel ah a6 ((a.put (J d) bb).put (J d2) lr) as_ (aB e1) (av.setCells gh g off us)
variable{ew:bx}{mT:bx}{e1:bw}
theorem ae9(aW:gx ah px)(h:wJ px o ew mT st=J (ab,e1))(aF:Rel ah m a as_ (aB st) w):Nonempty (El ah o ew mT st e1 m a as_ w):=by
 unfold wJ at h;split at h
 .rename_i x z t t' bS;split at h
  .rename_i t2 bZ i a2;split at h
   .rename_i u b y a3;split at h
    .rename_i d d2 ar bG a9;split at h
     .rename_i ao;simp only[bN,Option.isNone_iff_eq_none,Bool.not_eq_true',Nat.blt_eq]at ao;obtain⟨⟨⟨⟨⟨⟨⟨⟨⟨⟨⟨⟨g1,g2⟩,g3⟩,c1⟩,c2⟩,fZ⟩,gQ⟩,nk⟩,n2⟩,nm⟩,p6⟩,p7⟩,b7⟩:=ao;obtain rfl:=dS c1;obtain rfl:=dS c2;obtain rfl:=dS fZ;obtain rfl:=dS gQ;have a4:bZ≠b:=Nat.ne_of_beq_eq_false nk;split at h
      .rename_i c j xs bh zs k n Cs a5 ag dK bO aE;split at h
       .rename_i z0 e bJ ac he cq l;split at h
        .rename_i ct;subst ct;simp at h;obtain⟨⟨bB,ck⟩,rfl⟩:=h;obtain⟨e8,rfl⟩:=Ra ac;rw[dx]at ag dK bO aE;obtain⟨v,_,en,cM⟩:=aF.env.aJ (env:=get st.env) ag;obtain⟨eA,_,cV,cS⟩:=aF.env.aJ (env:=get st.env) dK;obtain⟨aFu,_,cZ,am⟩:=aF.env.aJ (env:=get st.env) bO;obtain⟨Gm,_,db,dk⟩:=aF.env.aJ (env:=get st.env) aE;obtain rfl:=aG.int am;obtain⟨f,_,_⟩:=xW he dk;obtain⟨bb,gh,g,cap,cs,t0,mn,gY,lT,Gc,aEM,aEN,a6,alI,alJ⟩:=av2 (st:=st) aW a5 cq bB (s:=aB st) ⟨rfl,rfl,rfl,rfl⟩ aF cM cS f o.type;have p:(cE a.eval o).run ah.P w = .ok (.value bb) gh:=by simp[cE,bS,resolve,invoke,builtin,en,cV,mn]
         obtain⟨by_,eZ,_,_⟩:=m0 (aW.a1 t2) a5;have eX:=eZ;obtain⟨hu,i0,aFw,ap,eY,q,_,_,ev⟩:=eZ;simp only[bN]at l;have dv:av.gA ah.P u=J Gm.cells.size:=by rw[((pE (aW.a1 u) (pH l.2).1).2.2),(dS l.1),<-f.1];simp
         have dI:av.gA ah.P (ah.el j)=J (a8 j):=by unfold av.gA;simp[ap,q]
         refine⟨⟨bZ,b,t2,i,u,y,bb,.pointer (J ⟨g,I xs*a8 j,aj⟩),gh,g,I xs*a8 j,cs,t0,Gm.cells.toList,ar,bG,a9,g1,g2,g3,a2,a3,a4,n2,nm,p6,p7,b7,p,λca w' r eH=>?_,λca w' cs' r eH gy pg=>?_,lT,aEM,aEN,by rw[gY];rfl,⟨rfl,rfl⟩,⟨j,xs++[e],.id st.bu,?_⟩,λk r eH=>?_,rfl,a6,?_⟩⟩
         .have jG:ca.eval i = .int k n:=eH.trans cZ;subst ck;rw[gY]at r;have ek:(0:Int)<=(I xs:Int)/\(I xs:Int)<((I xs+1:Nat):Int):=af
          simp[cE,a2,Instr.indexAt,r,jG,asIntOf,dO hu,if_pos ek,av.run_sizeOf dI,av.jE]
         .have jG:ca.eval y=Gm:=eH.trans db;have bE:I xs*a8 j+0+I Gm.cells.toList<=I cs':=by rw[f.1];omega
          obtain⟨bc,_,_⟩:=av.yv (P:=ah.P) Gm.cells.toList w' g (I xs*a8 j) 0 cs' t0 gy bE f.one;simp[cE,a3,Instr.storeAt,r,jG,Instr.sureAddr,storeVar,av.run_sizeOf dv,ne_eq,if_false];rw[bc];simp
         .simp[bw.put,k3,if_neg a4,if_true]
         .simp[bw.put,k3,if_neg r,if_neg eH];rfl
         .have tM:ho (aB (lf { st with bh:=bJ })) (aB st)=aB (lf { st with bh:=bJ }):=E' ⟨rfl,rfl,rfl,rfl,rfl⟩;rw[tM]at alI alJ;rw[r8,r8];refine(alI.put (k:=bZ) n2 alJ).put nm ?_;simp[aG]
        .cases h
       .cases h
      .cases h
     .cases h
    .cases h
   .cases h
  .cases h
 .cases h
theorem MG(aW:gx ah px)(ao:lG ah px){all:Array bx}{l:U bx}{gw:bw->ae R}(al:oM o=ab)(i:rG st.n o=ab)(h:vR px all o st gw = J r)(u:Rel ah m a as_ (aB st) w)
  (k:∀aS a6 ca w',gw aS = J r->(aS.n=st.n/\aS.cx=st.cx)->Rel ah a6 ca as_ (aB aS) w'->wpList ah.P all Q l ca w'):wpList ah.P all Q (o::l) a w:=by
 have p:∀d,o.dst=J d->d<st.n:=λd ar=>by simpa[rG,ar]using i
 have run:∀{c_:bw},aB c_=aB st->(c_.n=st.n/\c_.cx=st.cx)->kt o (yielded all a.tmps)=ab->one px o c_ gw = J r->wpList ah.P all Q (o::l) a w:=by intro c_ v f c x;have y:=aqZ aW ao al x m a as_ w (by rw[v];exact u);simp[wpList,c];left;refine oV.wp (y.mono λca w' ⟨a6,aS,bf,s,bg⟩=>?_);exact k aS a6 ca w' bf ⟨s.1.trans f.1,s.2.trans f.2⟩ bg
 have skip:∀{c_:bw},aB c_=aB st->(c_.n=st.n/\c_.cx=st.cx)->kt o (yielded all a.tmps)=ai->gw (off o c_)=J r->wpList ah.P all Q (o::l) a w:=by
  intro c_ v f c x;have z:(off o c_).n=st.n:=by rw[<-f.1];unfold off;split<;>rfl
  have a2:(off o c_).cx=st.cx:=by rw[<-f.2];unfold off;split<;>rfl
  have t:=aAg (o:=o) (st:=c_) (λd ar=>by rw[f.1];exact p d ar) (by rw[v];exact u);simp[wpList,c];exact k _ m _ w x ⟨z,a2⟩ t
 obtain⟨g1,g2⟩:=KW (all:=all) (o:=o) u.env;simp[vR]at h;split at h
 .rename_i cr;exact run rfl ⟨rfl,rfl⟩ (g1 cr) h
 .rename_i j b cr;split at h
  .cases h
  .rename_i g dh;obtain⟨g3,g4⟩:=g2 j b g cr dh;split at h
   .rename_i q e;have c:=g3 q e;cases q with
    |true=>simp at h;cases b with|true=>exact run (u6 e) ⟨rfl,rfl⟩ c h|false=>exact skip (u6 e) ⟨rfl,rfl⟩ c h
    |false=>simp at h;cases b with|true=>exact skip (u6 e) ⟨rfl,rfl⟩ c h|false=>exact run (u6 e) ⟨rfl,rfl⟩ c h
   .rename_i e;exact skip rfl ⟨rfl,rfl⟩ (g4 e) h
   .cases h
theorem rQ{all:Array bx}(h:o.guard=aj)(a:Act):kt o (yielded all a.tmps)=true:=by simp[kt,h]
theorem anR{all:Array bx}{l:U bx}(h:Rel ah m a as_ (aB st) w)(f:El ah o ew mT st e1 m a as_ w)(c:wpList ah.P all Q l ((a.put (J f.d) f.bb).put (J f.d2) f.lr) (av.setCells f.gh f.g f.off f.us)):wpList ah.P all Q (o::ew::mT::l) a w:=by
 have b:a.tmps.size=st.n:=h.env.size;have ar:f.d<a.tmps.size:=by rw[b];exact f.lt
 have e:f.d2<(a.put (J f.d) f.bb).tmps.size:=by simp[Act.put,b];exact f.UO
 have j:(a.put (J f.d) f.bb).eval (.tmp f.d)=f.bb:=uY ar;have k:(a.put (J f.d) f.bb).eval f.i=a.eval f.i:=k6 f.alo;have p:((a.put (J f.d) f.bb).put (J f.d2) f.lr).eval (.tmp f.d2)=f.lr:=uY e;have q:((a.put (J f.d) f.bb).put (J f.d2) f.lr).eval f.y=a.eval f.y:=(k6 f.US).trans (k6 f.UR);simp[wpList,rQ f.ak3,if_true];refine .inl (oV.wp (.inl ⟨f.bb,f.gh,f.run,?_⟩));rw[f.dst];simp[rQ f.ak4,if_true];refine .inl (oV.wp (.inl ⟨f.lr,f.gh,f.alN _ _ j k,?_⟩));rw[f.L1];simp[rQ f.UG,if_true];refine .inl (oV.wp (.inr (.inl ⟨_,f.Vj _ _ _ p q f.row rfl,?_⟩)));rw[f.FU];exact c
theorem B2(e:gx ah px)(ao:lG ah px){all:Array bx}:∀{l:U bx}{st:bw}{K:bw->ae R}{r:R},(l.all λo=>oM o&&rG st.n o)=ab->ops px all l st K=J r ->
  ∀{Q:Exit->Act->aT->Prop}{m:ed}{a:Act}{as_:U Act}{w:aT},Rel ah m a as_ (aB st) w->(∀aS a6 ca w',K aS = J r->(aS.n=st.n/\aS.cx=st.cx)->Rel ah a6 ca as_ (aB aS) w'->Q .normal ca w')->wpList ah.P all Q l a w
 |[],st,K,r,_,h,Q,m,a,as_,w,aF,gg=>gg st m a w h ⟨rfl,rfl⟩ aF
 |[o],st,K,r,bz,h,Q,m,a,as_,w,aF,gg=>by simp only[fk,bN]at bz;exact MG e ao bz.1.1 bz.1.2 h aF λaS a6 ca w' j b k=>gg aS a6 ca w' j b k
 |[o,ew],st,K,r,bz,h,Q,m,a,as_,w,aF,gg=>by simp only[fk,bN]at bz;refine MG e ao bz.1.1 bz.1.2 (show vR px all o st (λaS=>ops px all [ew] aS K)=J r from h) aF λaS a6 ca w' j b k=>?_;exact B2 e ao (by rw[b.1];simp only[fk,bN];exact bz.2) j k (λe1 t u v bc d q=>gg e1 t u v bc ⟨d.1.trans b.1,d.2.trans b.2⟩ q)
 |o::ew::mT::l,st,K,r,bz,h,Q,m,a,as_,w,aF,gg=>by
  rw[fk,bN]at bz;obtain⟨g,i⟩:=bz;simp at g;simp[ops]at h;split at h
  .rename_i p x;obtain⟨c,e1⟩:=p;obtain⟨s,z⟩:=h_ h;simp only at s z;subst s;obtain⟨f⟩:=ae9 e x aF;refine anR aF f ?_;simp only[fk,bN]at i;exact B2 e ao (by rw[f.n.1];exact i.2.2) z f.rel (λy alm a3 cv bc d q=>gg y alm a3 cv bc ⟨d.1.trans f.n.1,d.2.trans f.n.2⟩ q)
  .refine MG e ao g.1 g.2 h aF λaS a6 ca w' j b k=>?_;exact B2 e ao (by rw[b.1];exact i) j k (λe1 t u v bc d q=>gg e1 t u v bc ⟨d.1.trans b.1,d.2.trans b.2⟩ q)
end
section
variable {R:Type}{px:aR R}{ah:di}
def kY(o:bx)(t s:FS):FS:=if eE o then ho t s else s
structure Ef (ah:di) (px:aR R) (o:bx) (st aS:bw) (d:D) (ws:List Nat):Prop where
 same:sM st aS
 still:eE o=ai->aB aS = aB st
 mono:st.nb<=aS.nb
 sn:∀b,b∉ws->kE (aB st) (aB aS) b
 run:∀(s:FS) (m:ed) (a:Act) (as_:List Act) (w:aT),(∀t x,x∈o.op.operands->iy px s.env t x=iy px (get st.env) t x)->Tk o (aB st) s->Rel ah m a as_ s w->vv ah.P a w o λv w'=>∃a6,Rel ah a6 a as_ (kY o (aB aS) s) w'/\aG (vx ah a6 (kY o (aB aS) s) w') d v
variable{st:bw}{aS:bw}{ws:U Nat}
theorem D'{d:D}(c:eE o=ab)(hm:st.nb<=aS.nb)(g:∀b,b∉ws->kE (aB st) (aB aS) b)(h:rP ah px o st aS d):Ef ah px o st aS d ws:=⟨h.same,λe=>by(rw[c]at e;cases e),hm,g,λs m a as_ w f i j=>by have:=h.run s m a as_ w f (i.1 c) j;simpa[kY,c]using this⟩
theorem EL(st:bw):∀b,b∉([]:U Nat)->kE (aB st) (aB st) b:=λb _=>kE.F8 rfl b
theorem aBQ{d:D}(c:eE o=ai)(h:y0 ah px o (get st.env) (bF st.au) d):Ef ah px o st st d []:=⟨⟨rfl,rfl,rfl,rfl,rfl⟩,λ_=>rfl,bU _,EL st,λs m a as_ w b f e=>by obtain⟨v,g,i⟩:=h s m a as_ w b f.2 e;exact .inl ⟨v,w,g,m,by simpa[kY,c]using e,by simpa[kY,c]using i⟩⟩
variable{r:R}
theorem atY{K:D->ae R}(h:rE px o st K=J r):eE o=false:=by
 unfold rE at h;split at h<;>rename_i a<;>first
  |(simp[eE,a];done)
  |(cases h;done)
  |skip
 rename_i b xs bQ;split at h
 .rename_i az c;split at h
  .rename_i d ar;simp[eE,a];unfold IP at ar;split at ar<;>first|rfl|cases ar
  .cases h
 .cases h
theorem auR(aW:gx ah px)(cS:mv ah px)(al:oM o=ab){K:D->U Nat->bw->ae R}(h:RB px o st K=J r):∃d ws aS,K d ws aS = J r/\Ef ah px o st aS d ws:=by
 have quiet:(rE px o st λd=>K d [] st)=J r->∃d ws aS,K d ws aS = J r/\Ef ah px o st aS d ws:=λh=>by have hw:=atY h;obtain⟨d,bf,bV⟩:=Pj aW (MR al) h;exact⟨d,_,st,bf,aBQ hw bV⟩
 have a2:∀k,bF st.au st.nb=aj->∀b,b∉([]:U Nat)->kE (aB st) (aB (jl st k)) b:=λk bE b _=>by
  have e:∀b,(aB (jl st k)).au b=if b=st.nb then J k else bF st.au b:=λb=>gu st.au st.nb b k
  refine⟨λq al=>?_,λq al cZ=>?_⟩
  .have al:bF st.au b=J q:=al;rw[e,if_neg (λh=>by rw[h,bE]at al;cases al)];exact al
  .have cZ:b<st.nb:=cZ;rw[e,if_neg af]at al;exact al
 unfold RB at h;split at h
 .rename_i t len dL i;have hw:eE o=false:=Em
  simp[step,i]at h;split at h
  .rename_i c a4;split at h
   .rename_i xs dv;refine⟨_,_,_,h,⟨rfl,rfl,rfl,rfl,rfl⟩,λ_=>rfl,bU _,EL st,λs m a as_ w p _ aF=>?_⟩;obtain⟨am,dI,us,db,a5⟩:=Z2 aW i a4 dv p aF;simp[kY,hw,if_false];refine .inl ⟨_,_,a5,m,aF.quiet (uW w _).1,?_⟩;have:=aek aF (uW w (.cells us.toArray (ah.el c))).1 db ⟨bU _,by rw[am];exact dI⟩ (λj u dh=>by simp only[h7,rS];simpa using dh)
    rw[am]at this;exact this
   .cases h
  .cases h
 .rename_i q t x i;have hw:eE o=false:=Em
  simp[step,i]at h;split at h
  .rename_i l ag a4;split at h
   .rename_i cw;obtain⟨_,bf⟩:=h_ h;refine⟨_,_,_,bf,⟨rfl,rfl,rfl,rfl,rfl⟩,λ_=>rfl,bU _,EL st,λs m a as_ w p _ aF=>?_⟩;obtain⟨v,w',aY,aZ,bg⟩:=Ys aW i ag a4 (w_ cw) p aF;simp[kY,hw,if_false];exact .inl ⟨v,w',aY,m,aZ,bg⟩
   .cases h
  .obtain⟨d,bf,bV⟩:=Pj aW (MR al) h;refine⟨_,_,_,bf,⟨rfl,rfl,rfl,rfl,rfl⟩,λ_=>rfl,bU _,EL st,λs m a as_ w p gS aF=>?_⟩;obtain⟨v,aY,aZ⟩:=bV s m a as_ w p (λhm=>by rw[i]at hm;cases hm) aF;simp[kY,hw,if_false];refine .inl ⟨v,w,aY,m,aF,?_⟩;cases d<;>first|exact aZ|(simp[pW,aG]at aZ ⊢;exact⟨aZ.1,trivial⟩)
 .rename_i t i;have hw:eE o=true:=Em
  split at h
  .rename_i bE;simp[step,i]at h;split at h
   .rename_i n c a4;exact⟨_,_,_,h,D' hw (Nat.le_succ _) (a2 _ bE) (G7 aW i (.inl ⟨n,c,a4,rfl⟩))⟩
   .split at h
    .rename_i z dK;refine⟨_,_,_,h,D' hw (Nat.le_succ _) (a2 _ bE) (G7 aW i (.inr ⟨z,λe=>?_,dK,rfl⟩))⟩;rw[e]at dK;cases dK
    .cases h
  .cases h
 .rename_i t x i;have hw:eE o=true:=Em
  split at h
  .rename_i bE;simp[step,i]at h;split at h
   .rename_i d ar;split at h
    .rename_i bz;exact⟨_,_,_,h,D' hw (Nat.le_succ _) (a2 _ bE) (ahR i ar bz)⟩
    .cases h
   .cases h
  .cases h
 .rename_i f xs bQ i;have ek:∀{g:Nat}{nn:U D},aJ px st 0 f=J (.fn g nn)->Jk g=ai->eE o=true:=λ{g nn} cb bV=>by cases f with|func gI=>simp[aJ,dN,D.fn.injEq]at cb;obtain⟨rfl,_⟩:=cb;simp[eE,i,bV]|_=>simp[eE,i]
  have ev:∀{g:Nat}{aB:U D},aJ px st 0 f=J (.hB g aB)->eE o=true:=λ{g aB} cb=>by cases f with|func gI=>simp[aJ]at cb|_=>simp[eE,i]
  have call:∀{g:Nat}{args:U D},(Jk g=ai->eE o=ab)->JW px g args st K=J r->(∀(s:FS) (m:ed) (a:Act) (as_:U Act) (w:aT),(∀t x,x∈o.op.operands->iy px s.env t x=iy px (get st.env) t x)->Rel ah m a as_ s w->∃vs,bl (vx ah m s w) args vs/\(av.Enters ah.P g->(cE a.eval o).run ah.P w = .ok (.enter g vs.toArray) w))->∃d ws aS,K d ws aS = J r/\Ef ah px o st aS d ws:=by
   intro g args e8 h bG;unfold JW at h;split at h
   .rename_i F eX fC;have hw:=e8 eX;obtain⟨d,ws,aS,bf,b7,ac,cq,a3,a5⟩:=cS.w g F fC args st K r h;refine⟨d,ws,aS,bf,b7,λe=>(by rw[hw]at e;cases e),ac,cq,λs m a as_ w p gS aF=>?_⟩;obtain⟨vs,aY,aZ⟩:=bG s m a as_ w p aF;have de:kY o (aB aS) s=ho (aB aS) s:=by simp[kY,hw]
    rw[de];refine .inr ⟨g,_,w,aZ a3,(a5 s m a as_ w vs (gS.1 hw) aF aY).mono ?_⟩;rintro dJ w' ⟨v,fJ,a6,f_,kh⟩;exact⟨v,fJ,a6,f_,kh⟩
   .obtain⟨rs,bf,a3,a5⟩:=cS.q g args _ r h;refine⟨_,_,_,bf,⟨rfl,rfl,rfl,rfl,rfl⟩,λ_=>rfl,bU _,EL st,λs m a as_ w p gS aF=>?_⟩;obtain⟨vs,aY,aZ⟩:=bG s m a as_ w p aF;have de:kY o (aB st) s=s:=by cases hw:eE o with|true=>simp[kY,hw,if_true];exact Hc (gS.1 hw)|false=>simp[kY,hw]
    rw[de];refine .inr ⟨g,_,w,aZ a3,(a5 s m a as_ w vs aF aY).mono ?_⟩;rintro dJ w' ⟨v,fJ,f_,kh⟩;exact⟨v,fJ,m,f_,kh⟩
  split at h
  .rename_i g nn cb;split at h
   .rename_i az ct;refine call (ek cb) h λs m a as_ w p aF=>?_;rw[dx,<-p _ f (by simp[i,Op.operands,Call.operands])]at cb;obtain⟨UD,_,aZ,bg⟩:=aF.env.aJ cb;simp[aG]at bg;obtain⟨eY,rfl,bB⟩:=bg;obtain⟨vs,_,dE,eI⟩:=vd aF.env ct (λu q bV=>by rw[dx];exact p u q akb);exact⟨_,eI.append bB,λa3=>XI i aZ dE a3⟩
   .cases h
  .rename_i g hq cb;split at h
   .rename_i az ct;refine call (λ_=>ev cb) h λs m a as_ w p aF=>?_;rw[dx,<-p _ f (by simp[i,Op.operands,Call.operands])]at cb;obtain⟨UD,_,aZ,bg⟩:=aF.env.aJ cb;simp[aG]at bg;obtain⟨eY,rfl,bB⟩:=bg;obtain⟨vs,_,dE,eI⟩:=vd aF.env ct (λu q bV=>by rw[dx];exact p u q akb);exact⟨_,bB.append eI,λa3=>af0 i aZ dE a3⟩
   .cases h
  .cases h
 .rename_i dp dC eM dk gF;unfold step at h;split at h
  .rename_i t i;exact absurd i (eM t)
  .rename_i t x i;exact absurd i (dk t x)
  .rename_i t len dL i;exact absurd i (dp t len dL)
  .rename_i q t x i;exact absurd i (dC q t x)
  .rename_i x y t t' i;have hw:eE o=true:=Em
   split at h
   .rename_i c s d a4 ag aE a9;have a9:=dS a9;subst a9;unfold zk at h;split at h
    .split at h
     .rename_i dT xs bh cM;subst cM;split at h
      .cases h
      .rename_i bJ cV;split at h
       .cases h
       .rename_i ys bZ;obtain⟨bz,bf⟩:=h_ h;obtain⟨iZ,rfl⟩:=Ra bZ;exact⟨_,_,_,bf,D' hw (bU _) (λb _=>kE.F8 rfl b) (aac aW i a4 ag aE cV uM)⟩
     .cases h
    .cases h
   .rename_i s l a4 ag aE a9;split at h
    .rename_i ap;unfold zk at h;split at h
     .split at h
      .rename_i dT xs bh cM;subst cM;split at h
       .cases h
       .rename_i bJ cV;split at h
        .cases h
        .rename_i ys bZ;obtain⟨bz,bf⟩:=h_ h;simp[CG,dite_true,dN]at bZ;subst bZ;exact⟨_,_,_,bf,D' hw (bU _) (λb _=>kE.F8 rfl b) (akG aW i a4 (w_ ap) ag aE cV uM)⟩
      .cases h
     .cases h
    .cases h
   .cases h
  .rename_i f xs bQ i;exact absurd i (gF f xs bQ)
  .exact quiet h
def KU(all:Array bx)(T i:Nat)(a c:FS):Prop:=(∀b,kE a c b)\/∃(env:Env) (ws:U Nat),get env=a.env/\SQ all T i env ws=ab/\∀b,b∉ws->kE a c b
def DC(ah:di)(all:Array bx)(T:Nat):Nat->U bx->FS->FS->Prop|_,[],a,b=>a=b|i,o::l,a,b=>∃c,c=eC o c a/\a.nb<=c.nb/\KU all T i a c/\Rr ah all o a c/\DC ah all T (i+1) l c b
theorem _V{all:Array bx}{T:Nat}:∀{l:U bx}{i:Nat}{a b:FS},DC ah all T i l a b->∃s:Nat->FS,s 0=a/\s (I l)=b/\∀j o,l[j]? = J o->s (j+1)=eC o (s (j+1)) (s j)/\(s j).nb<=(s (j+1)).nb/\KU all T (i+j) (s j) (s (j+1))/\Rr ah all o (s j) (s (j+1))
 |[],i,a,b,h=>⟨λ_=>a,rfl,h,by simp⟩
 |o::l,i,a,b,⟨c,aY,aZ,aDS,bg,cB⟩=>by obtain⟨s,e,f,g⟩:=_V cB;refine⟨λj=>match j with|0=>a|j+1=>s j,rfl,f,λj dq d=>?_⟩;cases j with|zero=>simp at d;subst d;simp[e];exact⟨aY,aZ,aDS,bg⟩|succ j=>have:=g j dq uN;rw[show i+(j+1)=i+1+j by omega];exact this
theorem aeM{all:Array bx}{e0:FS}(h:∀k,k∈o.looksAt all->s.env k=e0.env k):∀t x,x∈o.op.operands->iy px s.env t x=iy px e0.env t x:=by intro t x ag;cases x with|tmp k=>exact h k (List.mem_append_left _ (List.mem_filterMap.2 ⟨.tmp k,by simpa using ag,rfl⟩))|_=>rfl
theorem XP{d:D}{k:Nat}(ar:o.dst=J k)(e:sM st aS)(b:eE o=ai->aB aS = aB st)(s:FS):eC o (aB (aS.put k d)) s=(kY o (aB aS) s).put k d:=by
 have _:=e;have _:=b;rw[r8];cases a:eE o
 .have c:kY o (aB aS) s=s:=by simp[kY,a]
  rw[c];refine FS.eq rfl ?_ rfl rfl rfl KK KK KK KK;funext j;simp[eC,FS.put,ar]
 .have c:kY o (aB aS) s=ho (aB aS) s:=by simp[kY,a]
  rw[c];refine FS.eq rfl ?_ rfl rfl rfl KH KH KH KH;funext j;simp[eC,FS.put,ar,ho]
theorem auq(d:eE o=ab->hx s (aB st)):eC o (aB (off o st)) s=match o.dst with
  |some k=>s.put k .undef
  |none=>s:=by
 have b:(aB (off o st)).au=(aB st).au/\(aB (off o st)).nb=(aB st).nb/\(aB (off o st)).bJ=(aB st).bJ/\(aB (off o st)).bu=(aB st).bu:=by unfold off;split<;>exact⟨rfl,rfl,rfl,rfl⟩
 have a:(eC o (aB (off o st)) s).au=s.au/\(eC o (aB (off o st)) s).nb=s.nb/\(eC o (aB (off o st)) s).bJ=s.bJ/\(eC o (aB (off o st)) s).bu=s.bu:=by
  cases c:eE o
  .simp[eC,c]
  .obtain⟨e,f,g,h⟩:=d c;simp[eC,c,if_true,b.1,b.2.1,b.2.2.1,b.2.2.2];exact⟨e.symm,f.symm,g.symm,h.symm⟩
 cases ar:o.dst with
 |none=>refine FS.eq rfl (by simp[eC,ar]) rfl rfl rfl a.1 a.2.1 a.2.2.1 a.2.2.2
 |some k=>
  refine FS.eq rfl ?_ rfl rfl rfl a.1 a.2.1 a.2.2.1 a.2.2.2;funext j;have:(aB (off o st)).env k=J .undef:=by unfold off;rw[ar];simp only;rw[r8];simp[FS.put]
  simp[eC,FS.put,ar,this]
variable{i:Nat}
theorem ap1(aW:gx ah px)(a2:mv ah px){all:Array bx}{T:Nat}(al:oM o=ab){K:bw->ae R}(h:Ar px all T i o st K=J r):∃aS,K aS = J r/\aS.n=st.n/\aB aS = eC o (aB aS) (aB st)/\st.nb<=aS.nb/\KU all T i (aB st) (aB aS)/\∀(s:FS) (m:ed) (a:Act) (as_:U Act) (w:aT),(∀k,k∈o.looksAt all->s.env k=(aB st).env k)->Tk o (aB st) s->s.n=st.n->Rel ah m a as_ s w->oV ah.P a w o λca w'=>∃a6,Rel ah a6 ca as_ (eC o (aB aS) s) w':=by
 unfold Ar at h;split at h
 .rename_i k ar;split at h
  .rename_i g;have g:k<st.n:=w6
   obtain⟨d,ws,aS,p,c⟩:=auR aW a2 al h;split at p
   .rename_i f;refine⟨_,p,c.same.1,?_,c.mono,?_,λs m a as_ w j gS ck aF=>?_⟩
    .rw[XP ar c.same c.still];rw[r8];congr 1;unfold kY;split
     .exact(E' c.same).symm
     .rename_i z;exact c.still (by simpa using z)
    .have e:∀b,b∉ws->kE (aB st) (aB (aS.put k d)) b:=λb al=>by rw[r8];exact c.sn b al
     simp at f;rcases f with l|l
     .have:ws=[]:=by simpa using l
      subst this;exact .inl λb=>e b (by simp)
     .exact .inr ⟨st.env,ws,rfl,l,e⟩
    .refine(c.run s m a as_ w (aeM j) gS aF).runs λv w' ⟨a6,l,aZ⟩=>⟨a6,?_⟩;rw[XP ar c.same c.still,ar];refine l.put ?_ aZ;have:(kY o (aB aS) s).n=s.n:=by unfold kY;split<;>rfl
     rw[this,ck];exact g
   .cases p
  .cases h
 .rename_i ar;split at h
  .rename_i f;obtain⟨aS,p,c⟩:=VG (ah:=ah) aW h;have a3:∃t x y,o.op = .store t x y:=by
    unfold uq at h;split at h
    .rename_i t x y bS;exact⟨t,x,y,bS⟩
    .cases h
   obtain⟨aFf,iL,My,bS⟩:=a3;have z:eE o=true:=by simp[eE,bS]
   have q:∀s,eC o (aB aS) s=ho (aB aS) s:=λs=>by refine FS.eq rfl (by simp[eC,ar,ho]) rfl rfl rfl ?_ ?_ ?_ ?_<;>simp[eC,z,ho]
   have u:=c.sn;refine⟨aS,p,c.same.1,?_,u.1,.inr ⟨st.env,_,rfl,f,u.2⟩,λs m a as_ w j gS ck aF=>?_⟩
   .rw[q];exact(E' c.same).symm
   .obtain⟨w',a6,l,aZ⟩:=c.run s m a as_ w (aeM j) (gS.1 z) aF;refine .inr (.inl ⟨w',l,a6,?_⟩);rw[ar,q];exact aZ
  .cases h
theorem PK(aW:gx ah px)(a2:mv ah px){all:Array bx}{T:Nat}:∀{l:U bx}{i:Nat}{st:bw}{K:bw->ae R}{r:R},(l.all λo=>oM o&&rG st.n o)=ab->Ap px all T i l st K=J r->∃aS,K aS = J r/\aS.n=st.n/\DC ah all T i l (aB st) (aB aS)
 |[],i,st,K,r,_,h=>⟨st,h,rfl,rfl⟩
 |o::l,i,st,K,r,bz,h=>by
  simp only[fk,bN]at bz;obtain⟨⟨al,a5⟩,b7⟩:=bz;have bB:∀d,o.dst=J d->d<st.n:=λd ar=>by simpa[rG,ar,Nat.blt_eq]using a5
  have bE:∀n,n=st.n->(l.all λo=>oM o&&rG n o)=true:=λn e=>by subst e;exact b7
  have f:∀(s:FS) (j:Nat) (b:Bool) (g:Nat),o.guard=J (j,b)->(all[j]?).bind (·.dst)=J g->(∀k,k∈o.looksAt all->s.env k=(aB st).env k)->s.env g=get st.env g:=λs j b g y dh c=>by refine c g (List.mem_append_right _ ?_);rw[y];simp[dh]
  have run:∀{c_:bw},aB c_=aB st->c_.n=st.n->(∀(s:FS) (m:ed) (a:Act) (as_:U Act) (w:aT),(∀k,k∈o.looksAt all->s.env k=(aB st).env k)->Rel ah m a as_ s w->kt o (yielded all a.tmps)=ab)->(Ar px all T i o c_ λaS=>Ap px all T (i+1) l aS K)=J r->∃aS,K aS = J r/\aS.n=st.n/\DC ah all T i (o::l) (aB st) (aB aS):=by intro c_ u ck z aY;obtain⟨e1,bf,v,ac,a3,cq,bG⟩:=ap1 (all:=all) aW a2 al aY;obtain⟨a4,fJ,f_,kh⟩:=PK aW a2 (bE _ (v.trans ck)) bf;have a3:(aB c_).nb<=(aB e1).nb:=a3;refine⟨a4,fJ,f_.trans (v.trans ck),aB e1,by rw[<-u];exact ac,by rw[<-u];exact a3,by rw[<-u];exact cq,λs m a as_ w c gS a9 p=>?_,kh⟩;exact .inl ⟨z s m a as_ w c p,bG s m a as_ w (by rw[u];exact c) (by rw[u];exact gS) (a9.trans ck.symm) p⟩
  have skip:∀{c_:bw},aB c_=aB st->c_.n=st.n->(∀(s:FS) (m:ed) (a:Act) (as_:U Act) (w:aT),(∀k,k∈o.looksAt all->s.env k=(aB st).env k)->Rel ah m a as_ s w->kt o (yielded all a.tmps)=ai)->Ap px all T (i+1) l (off o c_) K=J r->∃aS,K aS = J r/\aS.n=st.n/\DC ah all T i (o::l) (aB st) (aB aS):=by
   intro c_ u ck z aY;have bZ:(off o c_).n=st.n:=by rw[<-ck];unfold off;split<;>rfl
   obtain⟨a4,fJ,f_,kh⟩:=PK aW a2 (bE _ bZ) aY;have t:∀s:FS,(eE o=ab->hx s (aB st))->eC o (aB (off o c_)) s=match o.dst with|some k=>s.put k .undef|none=>s:=λs gS=>auq (by rw[u];exact gS)
   have de:(aB (off o c_)).au=(aB st).au/\(aB (off o c_)).nb=(aB st).nb:=by rw[<-u];unfold off;split<;>exact⟨rfl,rfl⟩
   refine⟨a4,fJ,f_.trans bZ,aB (off o c_),?_,by rw[de.2];exact bU _,.inl λb=>kE.F8 de.1 b,λs m a as_ w c gS v p=>.inr ⟨z s m a as_ w c p,m,?_⟩,kh⟩
   .rw[t (aB st) (λ_=>⟨rfl,rfl,rfl,rfl⟩)];unfold off;cases ar:o.dst with|none=>exact u|some k=>simp only;rw[r8,u]
   .rw[t s gS.1];cases ar:o.dst with|none=>exact p|some k=>exact p.put (by rw[v];exact bB k ar) (by simp[aG];rfl)
  simp[Ap,ajM]at h;split at h
  .rename_i y;exact run rfl rfl (λs m a as_ w _ p=>(KW (all:=all) (o:=o) p.env).1 y) h
  .rename_i j b y;split at h
   .cases h
   .rename_i g dh;have g3:∀q,get st.env g=J (.bool q)->∀(s:FS) (m:ed) (a:Act) (as_:U Act) (w:aT),(∀k,k∈o.looksAt all->s.env k=(aB st).env k)->Rel ah m a as_ s w->kt o (yielded all a.tmps)=(q == b):=λq x s m a as_ w c p=>((KW (all:=all) (o:=o) p.env).2 j b g y dh).1 q (by rw[f s j b g y dh c];exact x);split at h
    .rename_i q x;have z:=g3 q x;cases q with
     |true=>simp[cond_true]at h;cases b with|true=>exact run (u6 x) rfl z h|false=>exact skip (u6 x) rfl z h
     |false=>simp[cond_false]at h;cases b with|true=>exact skip (u6 x) rfl z h|false=>exact run (u6 x) rfl z h
    .rename_i x;exact skip rfl rfl (λs m a as_ w c p=>((KW (all:=all) (o:=o) p.env).2 j b g y dh).2 (by rw[f s j b g y dh c];exact x)) h
    .cases h
variable{j:Nat}
theorem ayG{ops:Array bx}{s:Nat->FS}(ao:nV ops s){T:Nat}(eZ:T<=ops.size){n:bx}(o:ops[j]? = J n)(f:j<T)(p:i<T)(g:KU ops T i (s i) (s (i+1)))(q:DG ops i j=ai){b:Nat}(al:Gd n (s j).env b):kE (s i) (s (i+1)) b:=by
 obtain⟨k,d,r,t,u⟩:=al;rcases g with h|⟨env,ws,v,w,x⟩
 .exact h b
 .have l:=dH.1 w j (List.mem_range.2 f);rw[o]at l;simp[r,q]at l;obtain⟨y,m⟩:=l;have a:=Z_ ao y (max i j-min i j) af af;rw[show min i j+(max i j-min i j)=max i j by omega]at a;have z:(s i).env k=(s j).env k:=by
   rcases Nat.le_total i j with c|e
   .rw[Nat.min_eq_left c,Nat.max_eq_right c]at a;exact a.symm
   .rw[Nat.min_eq_right e,Nat.max_eq_left e]at a;exact a
  rw[v,z,t]at m;simp[u]at m;exact x b Ej
end
def sX:cA->D->ae Nat|.sl _ ab,.sl _ _ (.id t)=>J t|_,_=>aj
def iX(i:Nat):U cA->U D->Nat->ae Nat|s::l,d::az=>λp=>if p=i then sX s d else iX (i+1) l az p|_,_=>λ_=>aj
variable{bJ:U Nat}
theorem acb{a:cA}{l:U cA}{az:U D}{x:aw (a::l)}(h:mc (a::l) bJ az=J x):∃d f y c,az=d::f/\wS bJ a d=J (y,c)/\((l=[]/\f = [])\/∃z,mc l c f = J z)/\∀i,eK i (a::l) x=fy i a y::(match l with|[]=>[]|b::aC=>match mc (b::aC) c f with|some z=>eK (i+1) (b::aC) z|none=>[]):=by
 cases l with
 |nil=>
  cases az with
  |nil=>simp[mc]at h
  |cons d az=>
   cases az with
   |nil=>
    simp[mc]at h;split at h
    .rename_i y c aE;simp at h;subst h;exact⟨d,[],y,c,rfl,aE,.inl ⟨rfl,rfl⟩,λi=>rfl⟩
    .cases h
   |cons e az=>simp[mc]at h
 |cons b l=>
  cases az with
  |nil=>simp[mc]at h
  |cons d az=>
   simp[mc]at h;split at h
   .rename_i y c aE;split at h
    .rename_i z g;simp at h;subst h;exact⟨d,az,y,c,rfl,aE,.inr ⟨z,g⟩,λi=>by simp[eK,g]⟩
    .cases h
   .cases h
theorem afi{c:U Nat}{s:cA}{d:D}{y:den s}(h:wS bJ s d=J (y,c)):(∀t,t∈c->t∈bJ)/\(∀t,sX s d=J t->t∈bJ/\t∉c):=by
 unfold wS at h;split at h
 .split at h
  .exact wc
  .cases h
 .exact wc
 .exact wc
 .split at h
  .split at h
   .split at h
    .rename_i e a;obtain⟨_,rfl⟩:=h;unfold o4 at a;split at a
     .cases a
     .simp at a;subst a;refine⟨λ_ h=>h,λt b=>by simp[sX]at b⟩
     .split at a
      .rename_i t0 ao;simp at a;subst a;refine⟨λt f=>(List.mem_filter.1 f).1,λt b=>?_⟩;simp[sX]at b
       simp_all
      .cases a
     .cases a
    .cases h
   .exact wc
  .cases h
 .split at h
  .exact wc
  .cases h
 .split at h
  .split at h
   .exact wc
   .cases h
  .cases h
 .split at h
  .exact wc
  .cases h
 .cases h
theorem BC(s:cA)(d:D)(l:U cA)(az:U D)(i p:Nat)(h:p≠i):iX i (s::l) (d::az) p=iX (i+1) l az p:=by simp[iX,h]
theorem IF(s:cA)(d:D)(l:U cA)(az:U D)(i:Nat):iX i (s::l) (d::az) i=sX s d:=by simp[iX]
theorem Ih:∀{l:U cA}{bJ:U Nat}{az:U D}{x:aw l}(i:Nat),mc l bJ az=J x->(∀p t,iX i l az p=J t->t∈bJ/\i<=p)/\∀p q t,iX i l az p=J t->iX i l az q=J t->p=q
 |[],bJ,az,x,i,_=>by simp[iX]
 |a::l,bJ,az,x,i,h=>by
  obtain⟨d,f,y,k,rfl,n,o,_⟩:=acb h;obtain⟨r,m⟩:=afi n;have j:(∀p t,iX (i+1) l f p=J t->t∈k/\i+1<=p)/\∀p q t,iX (i+1) l f p=J t->iX (i+1) l f q=J t->p=q:=by
   rcases o with ⟨rfl,rfl⟩|⟨z,s⟩
   .simp[iX]
   .exact Ih (i+1) s
  refine⟨λp t c=>?_,λp q t c g=>?_⟩
  .by_cases b:p=i
   .subst b;rw[IF]at c;exact⟨(m t c).1,bU _⟩
   .rw[BC _ _ _ _ _ _ b]at c;have:=j.1 p t c;exact⟨r t this.1,by omega⟩
  .by_cases b:p=i<;>by_cases e:q=i
   .rw[b,e]
   .exfalso;subst b;rw[BC _ _ _ _ _ _ e]at g;rw[IF]at c;exact(m t c).2 (j.1 q t g).1
   .exfalso;subst e;rw[BC _ _ _ _ _ _ b]at c;rw[IF]at g;exact(m t g).2 (j.1 p t c).1
   .rw[BC _ _ _ _ _ _ b]at c;rw[BC _ _ _ _ _ _ e]at g;exact j.2 p q t c g
theorem apw{X X':dn}(ja:∀b i,X'.S b i->X.S b i)(hw:X'.w=X.w)(bB:X'.el=X.el){bE:U Nat}{s:cA}{d:D}{y:den s}{v:aD}(i:Nat)(h:wS bJ s d=J (y,bE))(bG:∀t,t∈bJ->X.bJ t)(a:aG X d v)(r:∀c,s = .sl c ab->i<X'.bu/\X'.m.bh i=(sX s d).bind X.m.bh):aG X' (fy i s y) v:=by
 have l:∀{d:D}{v:aD},gl X.S X.w d v->gl X'.S X'.w d v:=λh=>by rw[hw];exact h.later (bM.refl _ _) (λk j bf=>.inl (ja k j bf))
 unfold wS at h;split at h
 .split at h
  .rename_i bf;simp at bf;subst bf;exact N1
  .cases h
 .exact N1
 .exact N1
 .rename_i c own dT xs t;split at h
  .rename_i ao;subst ao;simp[aG]at a;split at h
   .split at h
    .rename_i b7 f;simp[ ni]at h;obtain⟨rfl,_⟩:=h;obtain⟨x,o⟩:=r dT rfl;simp[fy];refine⟨l a.1,x,λ_=>?_⟩;cases t with
     |no=>simp[o4]at f
     |z=>simp[o4]at f
     |nil=>refine .inl ⟨a.2.1,?_,a.2.2⟩;rw[o];simp[sX]
     |id t0=>
      have a9:t0∈bJ:=by
       unfold o4 at f;simp only at f;split at f
       .rename_i ao;simpa using ao
       .cases f
      simp[sX]at o;rcases a.2.2 (bG t0 a9)with ⟨bI,a2,a3⟩|⟨g,cap,cur,bI,a2,a3,a4⟩
      .exact .inl ⟨bI,o.trans a2,a3⟩
      .exact .inr ⟨g,cap,cur,bI,o.trans a2,by rw[hw,bB];exact a3,a4⟩
    .cases h
   .simp[ ni]at h;obtain⟨rfl,_⟩:=h;simp[fy];exact⟨l a.1,trivial⟩
  .cases h
 .rename_i c d;split at h
  .rename_i aFv c5 bZ;simp[ ni]at h;obtain⟨rfl,_⟩:=h;obtain⟨p,a5,_⟩:=xW bZ a;obtain⟨vs,rfl⟩:=a5 c5;simp[fy];refine⟨c5,vs.toList,by simp,by simpa[lY]using p.1,λj e he=>?_⟩;obtain⟨u,hu,cb⟩:=p.2 j e he;exact⟨u,by simpa[lY]using hu,l cb⟩
  .cases h
 .split at h
  .rename_i c n dT mS xs ao;subst ao;split at h
   .rename_i ck;have ck:=dS ck;subst ck;exact adx
   .cases h
  .cases h
 .split at h
  .rename_i c dT xs ao;subst ao;exact adx
  .cases h
 .cases h
theorem u7{X X':dn}(ja:∀b i,X'.S b i->X.S b i)(hw:X'.w=X.w)(j:X'.el=X.el):∀{l:U cA}{bJ:U Nat}{az:U D}{x:aw l}{vs:U aD}(i:Nat),mc l bJ az=J x->(∀t,t∈bJ->X.bJ t)->bl X az vs->(∀p,p∈dw i l->p<X'.bu/\X'.m.bh p=(iX i l az p).bind X.m.bh)->bl X' (eK i l x) vs
 |[],bJ,az,x,vs,i,h,_,aF,_=>by cases az with|nil=>simpa[bl,eK]using aF|cons d az=>simp[mc]at h
 |a::l,bJ,az,x,vs,i,h,ak7,aF,yd=>by
  obtain⟨d,o,y,a2,rfl,aY,aZ,bg⟩:=acb h;simp[bl]at aF;obtain⟨u,us,rfl,q,g⟩:=aF;rw[bg i];simp only[bl];refine⟨u,us,rfl,apw ja hw j i aY ak7 q (λc ao=>?_),?_⟩
  .subst ao;have:=yd i (by simp[dw]);rwa[IF]at this
  .rcases aZ with ⟨rfl,rfl⟩|⟨z,r⟩
   .simpa[bl]using g
   .cases l with
    |nil=>cases o with|nil=>simpa[bl]using g|cons e es=>simp[mc]at r
    |cons b aC=>
     simp[r];refine u7 ja hw j (i+1) r (λt b'=>ak7 t (((afi aY).1) t b')) g (λp f=>?_);have k:∀(l:U cA) (i p:Nat),p∈dw i l->i<=p:=by
      intro l;induction l with
      |nil=>intro i p f;simp[dw]at f
      |cons s l v=>
       intro i p f;cases s<;>first|(have:=v (i+1) p (by simpa[dw]using f);omega)|skip
       rename_i c own;cases own with
       |true=>
        simp[dw]at f;rcases f with rfl|f
        .exact bU _
        .have:=v (i+1) p f;omega
       |false=>have:=v (i+1) p (by simpa[dw]using f);omega
     have a3:=k _ _ _ f;have n:p∈dw i (a::b::aC):=by
      cases a<;>first|exact f|skip
      rename_i c own;cases own with|true=>exact mg _ f|false=>exact f
     have:=yd p n;rwa[BC _ _ _ _ _ _ af]at this
end Go.ft
