/- Texts of the proof,one behind the other: Fc,Fk,Fd,Es,Ix,En,Ep,Ac,Ad,Sc,No,So,Sd,Se,Lx,Ly. -/
import Derived.Test.YtbkinkalnmbpjaaGreatDoorP4
set_option linter.all false
namespace Go.Proofs.YtbkinkalnmbpjaaGreatDoor
open Go.Ax
mutual
def Bb:Xpr->Nat
 |.mk _ _ _ l=>1+esizes l
def esizes:List Xpr->Nat
 |[]=>0
 |x::l=>1+Bb x+esizes l
end
theorem B1:∀{l:List Xpr}{x:Xpr},x∈l->Bb x<esizes l
 |y::l,x,h=>by
  simp only[List.mem_cons] at h;simp only[esizes];rcases h with rfl|h
  ·omega
  ·have:=B1 h;omega
theorem Ef:∀(l:List Xpr),l.length<=esizes l
 |[]=>by simp
 |x::l=>by have:=Ef l;simp only[esizes,Zf1];omega
theorem D6(e:Xpr) : 0<Bb e:=by cases e;simp only[Bb];omega
theorem E5(e:Xpr):Bb e=1+esizes e.l:=by cases e;simp only[Bb,Xpr.l]
theorem Xo{e:Xpr}(h:BdExpr e):ln e.l.length/\∀x,x∈e.l->BdExpr x:=by obtain⟨_,_,_,_,_,_,_,h4,h5⟩:=h;exact⟨h4,h5⟩
def Abi:Sig:=⟨19,[(0,.sl .expr false),(4,.int .i64),(7,.int .i64),(8,.int .i64)],[(1,.fn 227 [.ptr 1 0])],[(1,.cells [.int .i64])],80,80,400,[],[]⟩
abbrev M6:=List Xpr×Int×Int×Int×Int
def K8{R:Type}(rf:FT [.sv .expr,.int .i64] [.bool])(rec:M6->Option R)(kx:Ex->M6->Option R)(v:M6):Option R:=match v with
 |(v,v1,v2,v3,w) =>
 cond (decide (v3<v2)) (
  chk (inb v3 v.length) (
  (rf ((at' .expr v v3),(wr .i64 (w-1)))).bind λx =>
   cond (!x) (
   kx .ret (v,v3,v2,v3,w)) (
   rec (v,v1,v2,(wr .i64 (v3+1)),w)))) (
  kx (.exit 0) (v,v1,v2,v3,w))
def Nr(R:Type)(_k:Nat)(rf:FT [.sv .expr,.int .i64] [.bool]):Px R:=pxO [(168,cA rf)] [] [] []
noncomputable def S5(R:Type)(k:Nat)(rf:FT [.sv .expr,.int .i64] [.bool]):Px R:=pxO [(227,Aw 120 600 (Nr R k rf) Tryz.f227)] [] [(2,Ao k Abi (K8 rf))] []
noncomputable def Acs(R:Type)(k:Nat)(rf:FT [.sv .expr,.int .i64] [.bool]):Px R:=pxO [(237,Aw 80 400 (S5 R k rf) Tryz.f237)] [] [] []
noncomputable def Aly(R:Type)(k:Nat)(rf:FT [.sv .expr,.int .i64] [.bool]):Px R:=pxO [(226,cA Ahv),(113,cA Mv),(193,Aw 40 200 (Acs R k rf) Tryz.f193)] [(125,qA Aom)] [] []
def F5(k:Nat)(rf:FT [.sv .expr,.int .i64] [.bool])(x:HV [.sv .expr,.int .i64]):Option (HV [.bool]):=match x with
 |(e,most) =>
 cond (decide (most=0)) (
  some false) (
  cond (!decide ((e.l.length:Int)=(parts e.kind))) (
  some false) (
  let j2:=λ(_:Unit) =>
   let j1:=λ(_:Unit) =>
   Aq (λrec=>K8 rf rec (λe vz=>match vz with|(_,v5,_,_,_)=>match e with
    |.ret =>
    some (!(decide (0<=v5)))
    |.exit 0 =>
    some true
    |_=>none)) k (e.l,0,(e.l.length:Int),0,most)
   let j:=λ(p5:Bool) =>
   cond (p5) (
    some false) (
    cond (!decide (e.kind=2)) (
    cond (!decide (e.name=[])) (
     some false) (
     j1 ())) (
    j1 ()))
   cond (decide (e.kind=2)) (
   j (!(F2 e.name))) (
   j false)
  cond (decide (e.kind=1)) (
   cond (!decide ((Of e.v)=0)) (
   some false) (
   cond (decide (e.v.kind=3)) (
    cond (decide (e.v.n<0)) (
    some false) (
    j2 ())) (
    j2 ()))) (
   cond (!decide (e.v=(Val.mk 0 0 []))) (
   some false) (
   j2 ()))))
theorem Awp(k:Nat)(rf:FT [.sv .expr,.int .i64] [.bool])(hrf:FO 168 [.sv .expr,.int .i64] [.bool] rf):FO 168 [.sv .expr,.int .i64] [.bool] (F5 k rf):=fR (px:=Aly _ k rf) (n:=0) Tryz.func168 rfl (λcx H=>by have h3:Lv cx (Nr (HV [.bool]) k rf):=lv H (c1 H hrf Ae) Aa Ab;have h2:Lv cx (S5 (HV [.bool]) k rf):=lv H (An (cR H h3 Tryz.func227 rfl (n:=0) (Ai)) Ae) Aa Ab;have hleright_0:=lO H h2 (b:=lp Tryz.f237 0) (k:=k) (n:=0) (s:=Abi) (step:=K8 rf) (λ_ _ _ (_,_,_,_,_)=>by kernel_rfl) Ai;have h1:Lv cx (Acs (HV [.bool]) k rf):=lv H (An (cR H h2 Tryz.func237 rfl (n:=1) ((Bc Ai hleright_0))) Ae) Aa Ab;have h0:Lv cx (Aly (HV [.bool]) k rf):=lv H (c1 H Amp (c1 H P5 (An (cR H h1 Tryz.func193 rfl (n:=0) (Ai)) Ae))) (q1 H At5 Aa) Ab;exact⟨h0,Ai⟩) λ(_,_)=>by kernel_rfl
def eok(k:Int)(v:Val)(nm:Str):Bool:=cond (decide (k=1)) (decide (Of v=0) && !(decide (v.kind=3)&&decide (v.n<0))) (decide (v=⟨0,0,[]⟩))&&cond (decide (k=2)) (F2 nm) (decide (nm=[]))
mutual
def Cp:Xpr->Int->Bool
 |.mk k v nm l,m => !decide (m=0)&&decide ((l.length:Int)=parts k)&&eok k v nm&&erights l (wr .i64 (m-1))
def erights:List Xpr->Int->Bool
 |[],_=>true
 |x::l,m=>Cp x m&&erights l m
end
def N7:FT [.sv .expr,.int .i64] [.bool]:=λx=>some (Cp x.1 x.2)
theorem Ack{R:Type}{rf:FT [.sv .expr,.int .i64] [.bool]}{kx:Ex->M6->Option R}{l:List Xpr}{m:Int}{a b:Option R}(hn:ln l.length)(hrf:∀x,x∈l->rf (x,wr .i64 (m-1))=some (Cp x (wr .i64 (m-1))))(h1:∀(j:Nat),kx .ret (l,(j:Int),(l.length:Int),(j:Int),m)=a)(h2:∀q j,kx (.exit 0) (l,q,(l.length:Int),j,m)=b):∀(k i:Nat) q,i<=l.length->l.length-i<k->Aq (λrec=>K8 rf rec kx) k (l,q,(l.length:Int),(i:Int),m)=cond (erights (l.drop i) (wr .i64 (m-1))) b a
 |0,i,q,_,h=>by omega
 |k+1,i,q,hi,h=>by
  rw[Bu];by_cases hl:i<l.length
  ·have ih:=Ack hn hrf h1 h2 k (i+1) q (by omega) (by omega);simp only[K8,Ay hl hn,ih,h1,Au hl,A0 (c :=.expr) hl,A1 hl,chk,Ah,Bool.cond_decide,erights,hrf _ (List.getElem_mem hl),Zc1];rw[if_pos (by omega)];cases Cp l[i] (wr .i64 (m-1))<;>rfl
  ·simp only[K8,h2,Bool.cond_decide];rw[if_neg (by omega),Zk1 (by omega)];rfl
theorem A5g(e:Xpr)(m:Int):Cp e m=(!decide (m=0)&&decide ((e.l.length:Int)=parts e.kind)&&eok e.kind e.v e.name&&erights e.l (wr .i64 (m-1))):=by cases e;simp only[Cp];rfl
theorem Agb(k:Nat):∀(n:Nat) (e:Xpr) (m:Int),BdExpr e->Bb e<=n->Bb e<=k->Aq (F5 k) n (e,m)=some (Cp e m)
 |0,e,m,_,h,_=>by have:=D6 e;omega
 |n+1,e,m,hb,h,hk=>by
  obtain⟨hb4,hb5⟩:=Xo hb;rw[E5] at h hk;have hl:=Ef e.l;have hrf:∀x,x∈e.l->∀m,Aq (F5 k) n (x,m)=some (Cp x m):=λx hx m=>Agb k n x m (hb5 x hx) (by have:=B1 hx;omega) (by have:=B1 hx;omega);have hloop:=Ack (R:=Bool) (rf:=Aq (F5 k) n) (l:=e.l) (m:=m) (a:=some false) (b:=some true) (kx:=λe v=>match v with
   |(_,v5,_,_,_)=>match e with
    |.ret=>some (!(decide (0<=v5)))
    |.exit 0=>some true
    |_=>none) hb4 (λx hx=>hrf x hx _) (λj=>by simp) (λ_ _=>rfl) k 0 0 (Nat.zero_le _) (by omega)
  have e0:((0:Nat):Int)=0:=rfl;rw[e0] at hloop;rw[Bu,A5g];simp only[F5] at hloop ⊢;rw[hloop];simp only[Zq1,eok];by_cases hm:m=0
  ·simp[hm]
  ·rw[Zd1 hm];simp only[Al,Zs1,Bool.true_and];by_cases hp:(e.l.length:Int)=parts e.kind
   ·rw[Ze1 hp];by_cases h1:e.kind=1
    ·have h2:¬e.kind=2:=by omega
     rw[Ze1 h1,Zd1 h2];simp only[Ah,Al,Zs1,Zt1,Bool.true_and];cases decide (Of e.v=0)<;>cases decide (e.v.kind=3)<;>cases decide (e.v.n<0)<;>cases decide (e.name=[])<;>cases erights e.l (wr .i64 (m-1))<;>rfl
    ·rw[Zd1 h1];simp only[Al,Zt1,Bool.true_and];cases decide (e.v=Val.mk 0 0 [])<;>cases decide (e.kind=2)<;>cases decide (e.name=[])<;>cases F2 e.name<;>cases erights e.l (wr .i64 (m-1))<;>rfl
   ·rw[Zd1 hp];rfl
theorem Rm:FO 168 [.sv .expr,.int .i64] [.bool] N7:=by refine .fin (ι:=Nat) 0 (F:=λn=>Aq (F5 n) n) (λn=>FnOk.rec' (Sx.enters_of Tryz.func168 rfl rfl) (λrf hrf=>Awp n rf hrf) n) λ(e,m) r hb hx=>⟨Bb e,?_⟩;exact(Agb (Bb e) (Bb e) e m hb.1 (Zn1 _) (Zn1 _)).trans hx
def A8o(R:Type):Px R:=pxO [(168,cA N7)] [] [] []
def Ux(x:HV [.sv .expr]):Option (HV [.int .i64]):=match x with
 |e =>
 cond (!(Cp e 30)) (
  some 2) (
  some 0)
theorem A67:FO 104 [.sv .expr] [.int .i64] (Ux):=fR (px:=A8o _) (n:=0) Tryz.func104 rfl (λ_ H=>⟨lv H (c1 H Rm Ae) Aa Ab,Ai⟩) λ_=>by kernel_rfl
def Abr(e:Xpr):Int :=
 cond (!(Cp e 30)) (
  2) (
  0)
theorem A6f(x:HV [.sv .expr]):Ux x=some (Abr x):=by
 first
  |exact rfl
  |simp only[Ux,Abr,Az]
def Apd:FT [.sv .expr] [.int .i64]:=λx=>some (Abr x)
theorem Aua:FO 104 [.sv .expr] [.int .i64] Apd :=.fin0 A67 λx _ _ hx=>(A6f x).trans hx
def Aix:Sig:=⟨41,[(1,.int .i64),(5,.int .i64),(6,.int .i64)],[(2,.ptr 0 0)],[(0,.one (.sv .expr))],1,0,0,[],[]⟩
abbrev Q3:=Int×Int×Int×Xpr
def Q6{R:Type}(rf:FT [.sv .expr,.int .i64] [.int .i64])(rec:Q3->Option R)(kx:Ex->Q3->Option R)(v:Q3):Option R:=match v with
 |(v,v1,v2,w) =>
 cond (decide (v2<(w.l.length:Int))) (
  cond (decide (v1<v)) (
  chk (inb v2 w.l.length) (
   (rf ((at' .expr w.l v2),(wr .i64 (v-v1)))).bind λx =>
   rec (v,(wr .i64 (v1+x)),(wr .i64 (v2+1)),w))) (
  kx (.exit 0) (v,v1,v2,w))) (
  kx (.exit 0) (v,v1,v2,w))
def Aqt(R:Type)(k:Nat)(rf:FT [.sv .expr,.int .i64] [.int .i64]):Px R:=pxO [(52,cA rf)] [] [(3,Ao k Aix (Q6 rf))] []
def Jg(k:Nat)(rf:FT [.sv .expr,.int .i64] [.int .i64])(x:HV [.sv .expr,.int .i64]):Option (HV [.int .i64]):=match x with
 |(e,most) =>
 Aq (λrec=>Q6 rf rec (λe vz=>match vz with|(_,v4,_,_)=>match e with
  |.exit 0 =>
  some v4
  |_=>none)) k (most,(wr .i64 (1+(wr .i64 (Int.tdiv (wr .i64 ((e.v.s.length:Int)+(e.name.length:Int))) 30)))),0,e)
theorem A3k(k:Nat)(rf:FT [.sv .expr,.int .i64] [.int .i64])(hrf:FO 52 [.sv .expr,.int .i64] [.int .i64] rf):FO 52 [.sv .expr,.int .i64] [.int .i64] (Jg k rf):=fR (px:=Aqt _ k rf) (n:=1) Tryz.func52 rfl (λcx H=>by have h0:Lv cx (Aqt (HV [.int .i64]) k rf):=lv H (c1 H hrf Ae) Aa Ab;have hlmuch1_0:=lO H h0 (b:=lp Tryz.f52 0) (k:=k) (n:=0) (s:=Aix) (step:=Q6 rf) (λ_ _ _ (_,_,_,_)=>by kernel_rfl) Ai;exact⟨h0,(Bc Ai hlmuch1_0)⟩) λ(_,_)=>by kernel_rfl
mutual
def B6:Xpr->Int->Int
 |.mk _ v nm l,most=>muchL l most (wr .i64 (1+wr .i64 (Int.tdiv (wr .i64 ((v.s.length:Int)+(nm.length:Int))) 30)))
def muchL:List Xpr->Int->Int->Int
 |[],_,n=>n
 |x::l,most,n=>cond (decide (n<most)) (muchL l most (wr .i64 (n+B6 x (wr .i64 (most-n))))) n
end
def Apw:FT [.sv .expr,.int .i64] [.int .i64]:=λx=>some (B6 x.1 x.2)
theorem Aec{R:Type}{rf:FT [.sv .expr,.int .i64] [.int .i64]}{kx:Ex->Q3->Option R}{e:Xpr}{most:Int}{g:Int->Option R}(hn:ln e.l.length)(hrf:∀x,x∈e.l->∀m,rf (x,m)=some (B6 x m))(h2:∀n j,kx (.exit 0) (most,n,j,e)=g n):∀(k i:Nat) n,i<=e.l.length->e.l.length-i<k->Aq (λrec=>Q6 rf rec kx) k (most,n,(i:Int),e)=g (muchL (e.l.drop i) most n)
 |0,i,n,_,h=>by omega
 |k+1,i,n,hi,h=>by
  rw[Bu];by_cases hl:i<e.l.length
  ·have ih:=λn=>Aec hn hrf h2 k (i+1) n (by omega) (by omega);simp only[Q6,Ay hl hn,ih,h2,Au hl,A0 (c :=.expr) hl,A1 hl,chk,Ah,Bool.cond_decide,muchL,hrf _ (List.getElem_mem hl),Zc1];rw[if_pos (by omega)];split<;>rfl
  ·simp only[Q6,h2,Bool.cond_decide];rw[if_neg (by omega),Zk1 (by omega)];rfl
theorem Aju(k:Nat):∀(n:Nat) (e:Xpr) (m:Int),BdExpr e->Bb e<=n->Bb e<=k->Aq (Jg k) n (e,m)=some (B6 e m)
 |0,e,m,_,h,_=>by have:=D6 e;omega
 |n+1,.mk kd v nm l,m,hb,h,hk=>by
  obtain⟨_,_,_,_,hb1,hb2,hb3,hb4,hb5⟩:=hb;simp only[Bb] at h hk;have hl:=Ef l;have hrf:∀x,x∈l->∀m,Aq (Jg k) n (x,m)=some (B6 x m):=λx hx m=>Aju k n x m (hb5 x hx) (by have:=B1 hx;omega) (by have:=B1 hx;omega);rw[Bu];simp only[Jg];refine(Aec (e :=.mk kd v nm l) (g:=some) hb4 hrf ?_ k 0 _ (Nat.zero_le _) (by simp only[Xpr.l];omega)).trans ?_
  ·exactλ_ _=>rfl
  ·simp only[B6,Xpr.l,Zq1,Xpr.v,Xpr.name]
theorem Asq:FO 52 [.sv .expr,.int .i64] [.int .i64] Apw:=by refine .fin (ι:=Nat) 0 (F:=λn=>Aq (Jg n) n) (λn=>FnOk.rec' (Sx.enters_of Tryz.func52 rfl rfl) (λrf hrf=>A3k n rf hrf) n) λ(e,m) r hb hx=>⟨Bb e,?_⟩;exact(Aju (Bb e) (Bb e) e m hb.1 (Zn1 _) (Zn1 _)).trans hx
def A7e(R:Type):Px R:=pxO [] [] [] []
def Vr(x:HV [.int .i64,.int .i64]):Option (HV [.bool]):=match x with
 |(k,want) =>
 cond (decide (k=want)) (
  some true) (
  some (decide (k=1)))
theorem A42:FO 170 [.int .i64,.int .i64] [.bool] (Vr):=fR (px:=A7e _) (n:=0) Tryz.func170 rfl (λ_ H=>⟨lv H Ae Aa Ab,Ai⟩) λ(_,_)=>by kernel_rfl
def Dc(k:Int)(want:Int):Bool :=
 cond (decide (k=want)) (
  true) (
  (decide (k=1)))
theorem A4a(x:HV [.int .i64,.int .i64]):Vr x=some (Dc x.1 x.2):=by
 first
  |exact rfl
  |simp only[Vr,Dc,Az]
def A09:FT [.int .i64,.int .i64] [.bool]:=λx=>some (Dc x.1 x.2)
theorem Baz:FO 170 [.int .i64,.int .i64] [.bool] A09 :=.fin0 A42 λx _ _ hx=>(A4a x).trans hx
def A9m(R:Type):Px R:=pxO [] [] [] []
def Uv(x:HV [.bool]):Option (HV [.sv .val]):=match x with
 |b =>
 cond (b) (
  some (Val.mk 2 1 [])) (
  some (Val.mk 2 0 []))
theorem A24:FO 171 [.bool] [.sv .val] (Uv):=fR (px:=A9m _) (n:=0) Tryz.func171 rfl (λ_ H=>⟨lv H Ae Aa Ab,Ai⟩) λ_=>by kernel_rfl
def Hc(b:Bool):Val :=
 cond (b) (
  (Val.mk 2 1 [])) (
  (Val.mk 2 0 []))
theorem A45(x:HV [.bool]):Uv x=some (Hc x):=by
 first
  |exact rfl
  |simp only[Uv,Hc,Az]
def Ao8:FT [.bool] [.sv .val]:=λx=>some (Hc x)
theorem As2:FO 171 [.bool] [.sv .val] Ao8 :=.fin0 A24 λx _ _ hx=>(A45 x).trans hx
def A6c(R:Type):Px R:=pxO [] [] [] []
def Oq(x:HV [.int .i64,.int .i64]):Option (HV [.bool]):=match x with
 |(kind,n) =>
 cond (decide (kind=6)) (
  some (decide (n=0))) (
  cond (decide (kind=7)) (
  some (!decide (n=0))) (
  cond (decide (kind=8)) (
   some (decide (n<0))) (
   cond (decide (kind=9)) (
   some (decide (n<=0))) (
   cond (decide (kind=10)) (
    some (decide (0<n))) (
    some (decide (0<=n)))))))
theorem Ay7:FO 174 [.int .i64,.int .i64] [.bool] (Oq):=fR (px:=A6c _) (n:=0) Tryz.func174 rfl (λ_ H=>⟨lv H Ae Aa Ab,Ai⟩) λ(_,_)=>by kernel_rfl
def Ahw(kind:Int)(n:Int):Bool :=
 cond (decide (kind=6)) (
  (decide (n=0))) (
  cond (decide (kind=7)) (
  (!decide (n=0))) (
  cond (decide (kind=8)) (
   (decide (n<0))) (
   cond (decide (kind=9)) (
   (decide (n<=0))) (
   cond (decide (kind=10)) (
    (decide (0<n))) (
    (decide (0<=n)))))))
theorem Ayo(x:HV [.int .i64,.int .i64]):Oq x=some (Ahw x.1 x.2):=by
 first
  |exact rfl
  |simp only[Oq,Ahw,Az]
def Ark:FT [.int .i64,.int .i64] [.bool]:=λx=>some (Ahw x.1 x.2)
theorem A4k:FO 174 [.int .i64,.int .i64] [.bool] Ark :=.fin0 Ay7 λx _ _ hx=>(Ayo x).trans hx
def Bdi(R:Type):Px R:=pxO [(228,cA Av4),(229,cA A8x),(230,cA Ax1)] [] [] []
def Z9(x:HV [.int .i64,.int .i64,.int .i64]):Option (HV [.sv .val,.int .i64]):=match x with
 |(kind,a,b) =>
 cond (decide (kind=12)) (
  cond (!decide ((Za a b).2=0)) (
  some ((Val.mk 0 0 []),(Za a b).2)) (
  some ((Val.mk 3 ((Za a b).1) []),0))) (
  cond (decide (kind=13)) (
  cond (!decide ((Vu a b).2=0)) (
   some ((Val.mk 0 0 []),(Vu a b).2)) (
   some ((Val.mk 3 ((Vu a b).1) []),0))) (
  cond (decide (kind=14)) (
   cond (!decide ((We a b).2=0)) (
   some ((Val.mk 0 0 []),(We a b).2)) (
   some ((Val.mk 3 ((We a b).1) []),0))) (
   cond (!decide ((Vu 0 a).2=0)) (
   some ((Val.mk 0 0 []),(Vu 0 a).2)) (
   some ((Val.mk 3 ((Vu 0 a).1) []),0)))))
theorem A7u:FO 173 [.int .i64,.int .i64,.int .i64] [.sv .val,.int .i64] (Z9):=fR (px:=Bdi _) (n:=0) Tryz.func173 rfl (λ_ H=>⟨lv H (c1 H Azk (c1 H Beu (c1 H Azm Ae))) Aa Ab,Ai⟩) λ(_,_,_)=>by kernel_rfl
def Agw(kind:Int)(a:Int)(b:Int):Val×Int :=
 cond (decide (kind=12)) (
  cond (!decide ((Za a b).2=0)) (
  ((Val.mk 0 0 []),(Za a b).2)) (
  ((Val.mk 3 ((Za a b).1) []),0))) (
  cond (decide (kind=13)) (
  cond (!decide ((Vu a b).2=0)) (
   ((Val.mk 0 0 []),(Vu a b).2)) (
   ((Val.mk 3 ((Vu a b).1) []),0))) (
  cond (decide (kind=14)) (
   cond (!decide ((We a b).2=0)) (
   ((Val.mk 0 0 []),(We a b).2)) (
   ((Val.mk 3 ((We a b).1) []),0))) (
   cond (!decide ((Vu 0 a).2=0)) (
   ((Val.mk 0 0 []),(Vu 0 a).2)) (
   ((Val.mk 3 ((Vu 0 a).1) []),0)))))
theorem Baa(x:HV [.int .i64,.int .i64,.int .i64]):Z9 x=some (Agw x.1 x.2.1 x.2.2):=by
 first
  |exact rfl
  |simp only[Z9,Agw,Az]
def Bbg:FT [.int .i64,.int .i64,.int .i64] [.sv .val,.int .i64]:=λx=>some (Agw x.1 x.2.1 x.2.2)
theorem Bd2:FO 173 [.int .i64,.int .i64,.int .i64] [.sv .val,.int .i64] Bbg :=.fin0 A7u λx _ _ hx=>(Baa x).trans hx
def Ale:Sig:=⟨20,[(1,.str),(4,.int .i64),(7,.sl .col false),(8,.int .i64),(9,.int .i64)],[],[],0,0,0,[],[]⟩
abbrev Wi:=Str×Int×List Col×Int×Int
def Zh{R:Type}(rec:Wi->Option R)(kx:Ex->Wi->Option R)(v:Wi):Option R:=match v with
 |(v,v1,v2,v3,v4) =>
 cond (decide (v4<v3)) (
  chk (inb v4 v2.length) (
  cond (decide (((at' .col v2 v4).name)=v)) (
   kx .ret (v,v4,v2,v3,v4)) (
   rec (v,v1,v2,v3,(wr .i64 (v4+1)))))) (
  kx (.exit 0) (v,v1,v2,v3,v4))
def A0d(R:Type)(k:Nat):Px R:=pxO [] [] [(2,Ao k Ale (Zh))] []
def Anb(k:Nat)(x:HV [.sl .col false,.str]):Option (HV [.int .i64]):=match x with
 |(cols,name) =>
 Aq (λrec=>Zh rec (λe vz=>match vz with|(_,v6,_,_,_)=>match e with
  |.ret =>
  some v6
  |.exit 0 =>
  some (-1)
  |_=>none)) k (name,0,cols,(cols.length:Int),0)
theorem A7j(k:Nat):FO 169 [.sl .col false,.str] [.int .i64] (Anb k):=fR (px:=A0d _ k) (n:=1) Tryz.func169 rfl (λcx H=>by have h0:Lv cx (A0d (HV [.int .i64]) k):=lv H Ae Aa Ab;have hlfind_0:=lO H h0 (b:=lp Tryz.f169 0) (k:=k) (n:=0) (s:=Ale) (step:=Zh) (λ_ _ _ (_,_,_,_,_)=>by kernel_rfl) Ai;exact⟨h0,(Bc Ai hlfind_0)⟩) λ(_,_)=>by kernel_rfl
def E8:List Col->Str->Nat->Int
 |[],_,_ => -1
 |c::l,s,i=>if c.name=s then(i:Int) else E8 l s (i+1)
def H4(cols:List Col)(name:Str):Int:=E8 cols name 0
def Awc:FT [.sl .col false,.str] [.int .i64]:=λx=>some (H4 x.1 x.2)
theorem Ams{R:Type}{kx:Ex->Wi->Option R}{s:Str}{cols:List Col}{g:Int->Option R}(hn:ln cols.length)(h1:∀j,kx .ret (s,j,cols,(cols.length:Int),j)=g j)(h2:∀q j,kx (.exit 0) (s,q,cols,(cols.length:Int),j)=g (-1)):∀(k i:Nat) q,i<=cols.length->cols.length-i<k->Aq (λrec=>Zh rec kx) k (s,q,cols,(cols.length:Int),(i:Int))=g (E8 (cols.drop i) s i)
 |0,i,q,_,h=>by omega
 |k+1,i,q,hi,h=>by
  rw[Bu];by_cases hl:i<cols.length
  ·have ih:=Ams hn h1 h2 k (i+1) q (by omega) (by omega);simp only[Zh,Ay hl hn,ih,h1,Au hl,A0 (c :=.col) hl,A1 hl,chk,Ah,Bool.cond_decide,E8];rw[if_pos (by omega)];split<;>rfl
  ·simp only[Zh,h2,Bool.cond_decide];rw[if_neg (by omega),Zk1 (by omega)];rfl
theorem A14:FO 169 [.sl .col false,.str] [.int .i64] Awc :=.fin 0 A7j λ(cols,s) r hb hx=>⟨cols.length+1,by
 simp only[Anb];refine(Ams (g:=some) hb.1.1 ?_ ?_ (cols.length+1) 0 0 (Nat.zero_le _) (by omega)).trans hx
 ·exactλ_=>rfl
 ·exactλ_ _=>rfl⟩
def Wg:Sig:=⟨28,[(1,.sl .val false),(4,.bool),(12,.sl .col false),(13,.int .i64),(14,.int .i64)],[],[],0,0,0,[],[]⟩
abbrev Kh:=List Val×Bool×List Col×Int×Int
def Ic{R:Type}(rec:Kh->Option R)(kx:Ex->Kh->Option R)(v:Kh):Option R:=match v with
 |(v,v1,v2,v3,v4) =>
 cond (decide (v4<v3)) (
  chk (inb v4 v2.length) (
  chk (inb v4 v.length) (
   cond (!(Alq (at' .val v v4) ((at' .col v2 v4).kind))) (
   kx .ret (v,false,v2,v3,v4)) (
   rec (v,v1,v2,v3,(wr .i64 (v4+1))))))) (
  kx (.exit 0) (v,v1,v2,v3,v4))
def Afe(R:Type)(k:Nat):Px R:=pxO [(102,cA Azz)] [] [(4,Ao k Wg (Ic))] []
def Wn(k:Nat)(x:HV [.sl .col false,.sl .val false]):Option (HV [.bool]):=match x with
 |(cols,row) =>
 cond (!decide ((cols.length:Int)=(row.length:Int))) (
  some false) (
  Aq (λrec=>Ic rec (λe vz=>match vz with|(_,v6,_,_,_)=>match e with
  |.ret =>some v6
  |.exit 0 =>some true
  |_=>none)) k (row,false,cols,(cols.length:Int),0))
theorem Aqm(k:Nat):FO 40 [.sl .col false,.sl .val false] [.bool] (Wn k):=fR (px:=Afe _ k) (n:=1) Tryz.func40 rfl (λcx H=>by have h0:Lv cx (Afe (HV [.bool]) k):=lv H (c1 H Bay Ae) Aa Ab;have hlrowfits_0:=lO H h0 (b:=lp Tryz.f40 0) (k:=k) (n:=0) (s:=Wg) (step:=Ic) (λ_ _ _ (_,_,_,_,_)=>by kernel_rfl) Ai;exact⟨h0,(Bc Ai hlrowfits_0)⟩) λ(_,_)=>by kernel_rfl
def I3:List Col->List Val->Bool
 |[],[]=>true
 |c::cs,v::vs=>Alq v c.kind&&I3 cs vs
 |_,_=>false
def Adc(cols:List Col)(row:List Val):Bool:=I3 cols row
def Rw:FT [.sl .col false,.sl .val false] [.bool]:=λx=>some (Adc x.1 x.2)
theorem Aer:∀{cols:List Col}{row:List Val},I3 cols row=true->cols.length=row.length
 |[],[],_=>rfl
 |_::cs,_::vs,h=>by simp only[I3,Zb1] at h;simp[Aer h.2]
 |[],_::_,h=>by simp[I3] at h
 |_::_,[],h=>by simp[I3] at h
theorem Wh{R:Type}{kx:Ex->Kh->Option R}{row:List Val}{cols:List Col}{a b:Option R}(hn:ln cols.length)(he:cols.length=row.length)(h1:∀j,kx .ret (row,false,cols,(cols.length:Int),j)=a)(h2:∀q j,kx (.exit 0) (row,q,cols,(cols.length:Int),j)=b):∀(k i:Nat) q,i<=cols.length->cols.length-i<k->Aq (λrec=>Ic rec kx) k (row,q,cols,(cols.length:Int),(i:Int))=cond (I3 (cols.drop i) (row.drop i)) b a
 |0,i,q,_,h=>by omega
 |k+1,i,q,hi,h=>by
  rw[Bu];by_cases hl:i<cols.length
  ·have ih:=Wh hn he h1 h2 k (i+1) q (by omega) (by omega);have hl2:i<row.length:=by omega
   simp only[Ic,Ay hl hn,ih,h1,Au hl,Au hl2,A0 (c :=.col) hl,A0 (c :=.val) hl2,A1 hl,A1 hl2,chk,Ah,Bool.cond_decide,I3];rw[if_pos (by omega)];cases Alq row[i] cols[i].kind<;>rfl
  ·simp only[Ic,h2,Bool.cond_decide];rw[if_neg (by omega),Zk1 (by omega),Zk1 (by omega)];rfl
theorem Ahi:FO 40 [.sl .col false,.sl .val false] [.bool] Rw :=.fin 0 Aqm λ(cols,row) r hb hx=>⟨cols.length+1,by
 simp only[Rw,Za1,Adc] at hx;simp only[Wn];by_cases he:cols.length=row.length
 ·rw[Ze1 (by omega)];simp only[Zt1,Al];refine(Wh (a:=some false) (b:=some true) hb.1.1 he ?_ ?_ (cols.length+1) 0 false (Nat.zero_le _) (by omega)).trans ?_
  ·exactλ_=>rfl
  ·exactλ_ _=>rfl
  ·rw[<-hx];simp only[Zq1];cases I3 cols row<;>rfl
 ·rw[Zd1 (by omega)];have:I3 cols row=false:=by cases hf:I3 cols row with|false=>rfl|true=>exact absurd (Aer hf) he
  rw[<-hx,this];rfl⟩
def Aht:Sig:=⟨34,[(0,.int .i64),(6,.bool),(12,.sl .val false),(13,.int .i64),(14,.int .i64)],[(4,.ptr 0 0),(5,.ptr 1 0)],[(0,.one (.sv .val)),(1,.one (.sv .val))],2,0,0,[],[]⟩
abbrev Sp:=Int×Bool×List Val×Int×Int×Val×Val
def Qs{R:Type}(rec:Sp->Option R)(kx:Ex->Sp->Option R)(v:Sp):Option R:=match v with
 |(v,v1,v2,v3,v4,w,w1) =>
 cond (decide (v4<v3)) (
  chk (inb v4 v2.length) (
  cond (decide ((at' .val v2 v4)=w1)) (
   kx .ret (v,v1,v2,v3,v4,w1,w1)) (
   cond (v1) (
   rec (v,true,v2,v3,(wr .i64 (v4+1)),w,w1)) (
   rec (v,decide ((at' .val v2 v4).kind=1),v2,v3,(wr .i64 (v4+1)),w,w1))))) (
  kx (.exit 0) (v,v1,v2,v3,v4,w,w1))
def Asu(R:Type)(k:Nat):Px R:=pxO [(171,cA Ao8)] [] [(4,Ao k Aht (Qs))] []
def Ai6(k:Nat)(x:HV [.int .i64,.sl .val false]):Option (HV [.sv .val]):=match x with
 |(kind,l) =>
 Aq (λrec=>Qs rec (λe vz=>match vz with|(v5,v6,_,_,_,a,_)=>match e with
  |.ret =>
  some a
  |.exit 0 =>
  cond (v6) (
   some (Val.mk 1 0 [])) (
   some (Hc (!decide (v5=5))))
  |_=>none)) k (kind,false,l,(l.length:Int),0,(Val.mk 0 0 []),(Hc (decide (kind=5))))
theorem A5k(k:Nat):FO 172 [.int .i64,.sl .val false] [.sv .val] (Ai6 k):=fR (px:=Asu _ k) (n:=1) Tryz.func172 rfl (λcx H=>by have h0:Lv cx (Asu (HV [.sv .val]) k):=lv H (c1 H As2 Ae) Aa Ab;have hllogic_0:=lO H h0 (b:=lp Tryz.f172 0) (k:=k) (n:=0) (s:=Aht) (step:=Qs) (λ_ _ _ (_,_,_,_,_,_,_)=>by kernel_rfl) Ai;exact⟨h0,(Bc Ai hllogic_0)⟩) λ(_,_)=>by kernel_rfl
def P0(v:Val):Bool:=decide (v.kind=1)
def A1x(kind:Int)(l:List Val):Val:=cond (l.any λv=>decide (v=Hc (decide (kind=5)))) (Hc (decide (kind=5))) (cond (l.any P0) ⟨1,0,[]⟩ (Hc (!decide (kind=5))))
def Anl:FT [.int .i64,.sl .val false] [.sv .val]:=λx=>some (A1x x.1 x.2)
theorem Afl{R:Type}{kx:Ex->Sp->Option R}{kd:Int}{l:List Val}{e:Val}{a:Option R}{b:Bool->Option R}(hn:ln l.length)(h1:∀q j,kx .ret (kd,q,l,(l.length:Int),j,e,e)=a)(h2:∀q j z,kx (.exit 0) (kd,q,l,(l.length:Int),j,z,e)=b q):∀(k i:Nat) (u:Bool) z,i<=l.length->l.length-i<k->Aq (λrec=>Qs rec kx) k (kd,u,l,(l.length:Int),(i:Int),z,e)=cond ((l.drop i).any λv=>decide (v=e)) a (b (u||(l.drop i).any P0))
 |0,i,u,z,_,h=>by omega
 |k+1,i,u,z,hi,h=>by
  rw[Bu];by_cases hl:i<l.length
  ·have ih:=λu=>Afl hn h1 h2 k (i+1) u z (by omega) (by omega);simp only[Qs,Ay hl hn,ih,h1,Au hl,A0 (c :=.val) hl,A1 hl,chk,Ah,Bool.cond_decide,List.any_cons];rw[if_pos (by omega)];by_cases he:l[i]=e
   ·rw[if_pos he,Ze1 he];rfl
   ·rw[if_neg he,Zd1 he];cases u<;>simp[P0]
  ·simp only[Qs,h2,Bool.cond_decide];rw[if_neg (by omega),Zk1 (by omega)];simp
theorem Ba7:FO 172 [.int .i64,.sl .val false] [.sv .val] Anl :=.fin 0 A5k λ(kd,l) r hb hx=>⟨l.length+1,by
 simp only[Anl,Za1,A1x] at hx;simp only[Ai6];refine(Afl (a:=some (Hc (decide (kd=5)))) (b:=λq=>cond q (some ⟨1,0,[]⟩) (some (Hc (!decide (kd=5))))) hb.2.1 ?_ ?_ (l.length+1) 0 false _ (Nat.zero_le _) (by omega)).trans ?_
 ·exactλ_ _=>rfl
 ·exactλ_ _ _=>rfl
 rw[<-hx];simp only[Zq1,Bool.false_or];cases (l.any λv=>decide (v=Hc (decide (kd=5))))<;>cases l.any P0<;>rfl⟩
theorem O9:∀(l:List Col) (s:Str) (i:Nat),E8 l s i = -1\/((i:Int)<=E8 l s i/\E8 l s i<(i+l.length:Nat))
 |[],_,_ =>.inl rfl
 |c::l,s,i=>by
  simp only[E8,Zf1];split
  ·right;omega
  ·have:=O9 l s (i+1);omega
theorem Awa(l:List Col)(s:Str):H4 l s = -1\/(0<=H4 l s/\H4 l s<(l.length:Int)):=by have:=O9 l s 0;simpa[H4] using this
theorem A9r{l:List Col}{s:Str}(h:¬H4 l s<0):inb (H4 l s) l.length=true:=by have:=Awa l s;simp only[inb,Zb1,Zg1];omega
def Afa:Sig:=⟨102,[(1,.sl .col false),(4,.int .i64),(5,.int .i64),(12,.sl .expr false),(13,.int .i64),(14,.int .i64)],[(2,.ptr 0 0),(6,.ptr 1 0)],[(0,.one (.sv .expr)),(1,.one (.rw .int 2))],2,0,0,[],[]⟩
abbrev Ss:=List Col×Int×Int×List Xpr×Int×Int×Xpr×List Int
def E9{R:Type}(rf:FT [.sv .expr,.sl .col false] [.int .i64,.int .i64])(rec:Ss->Option R)(kx:Ex->Ss->Option R)(v:Ss):Option R:=match v with
 |(v,v1,v2,v3,v4,v5,w,w1) =>
 cond (decide (v5<v4)) (
  chk (inb v5 v3.length) (
  (rf ((at' .expr v3 v5),v)).bind λ(x,x1) =>
   chk (inb v5 2) (
   cond (!decide (x1=0)) (
    kx .ret (v,0,x1,v3,v4,v5,w,(w1.set (v5:Int).toNat x))) (
    cond (decide (v5=1)) (
    kx (.exit 0) (v,v1,v2,v3,v4,v5,w,(w1.set (v5:Int).toNat x))) (
    rec (v,v1,v2,v3,v4,(wr .i64 (v5+1)),w,(w1.set (v5:Int).toNat x))))))) (
  kx (.exit 0) (v,v1,v2,v3,v4,v5,w,w1))
def Au0(R:Type)(k:Nat)(rf:FT [.sv .expr,.sl .col false] [.int .i64,.int .i64]):Px R:=pxO [(105,cA rf),(169,cA Awc),(170,cA A09)] [] [(3,Ao k Afa (E9 rf))] []
def I7(k:Nat)(rf:FT [.sv .expr,.sl .col false] [.int .i64,.int .i64])(x:HV [.sv .expr,.sl .col false]):Option (HV [.int .i64,.int .i64]):=match x with
 |(e,cols) =>
 Aq (λrec=>E9 rf rec (λe vz=>match vz with|(v6,v7,v8,_,_,_,a,b)=>match e with
  |.ret =>
  some (v7,v8)
  |.exit 0 =>
  let j2:=λ(q:List Int) =>
   cond (decide (a.kind=1)) (
   some (a.v.kind,0)) (
   cond (decide (a.kind=2)) (
    cond (decide ((H4 v6 a.name)<0)) (
    some (0,150)) (
    chk (inb (H4 v6 a.name) v6.length) (
     some ((at' .col v6 (H4 v6 a.name)).kind,0)))) (
    cond (decide (a.kind=16)) (
    some (2,0)) (
    let j1:=λ(p:Bool) =>
     cond (p) (
     cond ((Dc (at' .int q 0) 2)) (
      cond ((Dc (at' .int q 1) 2)) (
      some (2,0)) (
      some (0,151))) (
      some (0,151))) (
     let j:=λ(p3:Bool) =>
      cond (p3) (
      cond ((Dc (at' .int q 0) 3)) (
       cond ((Dc (at' .int q 1) 3)) (
       some (3,0)) (
       some (0,151))) (
       some (0,151))) (
      cond (decide ((at' .int q 0)=(at' .int q 1))) (
       some (2,0)) (
       cond (decide ((at' .int q 0)=1)) (
       some (2,0)) (
       cond (decide ((at' .int q 1)=1)) (
        some (2,0)) (
        some (0,151)))))
     cond (decide (a.kind=12)) (
      j (decide (a.kind=12))) (
      cond (decide (a.kind=13)) (
      j (decide (a.kind=13))) (
      cond (decide (a.kind=14)) (
       j (decide (a.kind=14))) (
       j (decide (a.kind=15))))))
    cond (decide (a.kind=3)) (
     j1 (decide (a.kind=3))) (
     cond (decide (a.kind=4)) (
     j1 (decide (a.kind=4))) (
     j1 (decide (a.kind=5)))))))
  cond (decide ((a.l.length:Int)=1)) (
   j2 (b.set (1:Int).toNat (at' .int b 0))) (
   j2 b)
  |_=>none)) k (cols,0,0,e.l,(e.l.length:Int),0,e,[0,0])
theorem A3t(k:Nat)(rf:FT [.sv .expr,.sl .col false] [.int .i64,.int .i64])(hrf:FO 105 [.sv .expr,.sl .col false] [.int .i64,.int .i64] rf):FO 105 [.sv .expr,.sl .col false] [.int .i64,.int .i64] (I7 k rf):=fR (px:=Au0 _ k rf) (n:=1) Tryz.func105 rfl (λcx H=>by have h0:Lv cx (Au0 (HV [.int .i64,.int .i64]) k rf):=lv H (c1 H hrf (c1 H A14 (c1 H Baz Ae))) Aa Ab;have hlkindE_0:=lO H h0 (b:=lp Tryz.f105 0) (k:=k) (n:=0) (s:=Afa) (step:=E9 rf) (λ_ _ _ (_,_,_,_,_,_,_,_)=>by kernel_rfl) Ai;exact⟨h0,(Bc Ai hlkindE_0)⟩) λ(_,_)=>by kernel_rfl
def A9c(e:Xpr)(cols:List Col)(a b:Int):Int×Int :=
 if e.kind=1 then(e.v.kind,0)
 else if e.kind=2 then(if H4 cols e.name<0 then(0,150) else((at' .col cols (H4 cols e.name)).kind,0))
 else if e.kind=16 then(2,0)
 else if e.kind=3\/e.kind=4\/e.kind=5 then(if Dc a 2&&Dc b 2 then(2,0) else(0,151))
 else if e.kind=12\/e.kind=13\/e.kind=14\/e.kind=15 then(if Dc a 3&&Dc b 3 then(3,0) else(0,151))
 else if a=b\/a=1\/b=1 then(2,0) else(0,151)
def Bbr(e:Xpr)(cols:List Col):List (Int×Int)->Int×Int
 |[]=>A9c e cols 0 0
 |[(a,f)]=>if f=0 then A9c e cols a a else(0,f)
 |(a,f)::(b,g)::_=>if f=0 then(if g=0 then A9c e cols a b else(0,g)) else(0,f)
mutual
def Cu:Xpr->List Col->Int×Int
 |.mk k v nm l,cols=>Bbr (.mk k v nm l) cols (kindL l cols)
def kindL:List Xpr->List Col->List (Int×Int)
 |[],_=>[]
 |x::l,cols=>Cu x cols::kindL l cols
end
theorem A9t(e:Xpr)(cols:List Col):Cu e cols=Bbr e cols (kindL e.l cols):=by cases e;simp only[Cu,Xpr.l]
def Aol:FT [.sv .expr,.sl .col false] [.int .i64,.int .i64]:=λx=>some (Cu x.1 x.2)
def A0e(a:Xpr)(v6:List Col)(q:List Int):Option (Int×Int) :=
   cond (decide (a.kind=1)) (
   some (a.v.kind,0)) (
   cond (decide (a.kind=2)) (
    cond (decide ((H4 v6 a.name)<0)) (
    some (0,150)) (
    chk (inb (H4 v6 a.name) v6.length) (
     some ((at' .col v6 (H4 v6 a.name)).kind,0)))) (
    cond (decide (a.kind=16)) (
    some (2,0)) (
    let j1:=λ(p:Bool) =>
     cond (p) (
     cond ((Dc (at' .int q 0) 2)) (
      cond ((Dc (at' .int q 1) 2)) (
      some (2,0)) (
      some (0,151))) (
      some (0,151))) (
     let j:=λ(p3:Bool) =>
      cond (p3) (
      cond ((Dc (at' .int q 0) 3)) (
       cond ((Dc (at' .int q 1) 3)) (
       some (3,0)) (
       some (0,151))) (
       some (0,151))) (
      cond (decide ((at' .int q 0)=(at' .int q 1))) (
       some (2,0)) (
       cond (decide ((at' .int q 0)=1)) (
       some (2,0)) (
       cond (decide ((at' .int q 1)=1)) (
        some (2,0)) (
        some (0,151)))))
     cond (decide (a.kind=12)) (
      j (decide (a.kind=12))) (
      cond (decide (a.kind=13)) (
      j (decide (a.kind=13))) (
      cond (decide (a.kind=14)) (
       j (decide (a.kind=14))) (
       j (decide (a.kind=15))))))
    cond (decide (a.kind=3)) (
     j1 (decide (a.kind=3))) (
     cond (decide (a.kind=4)) (
     j1 (decide (a.kind=4))) (
     j1 (decide (a.kind=5)))))))
theorem Y0(e:Xpr)(cols:List Col)(a b:Int):A0e e cols [a,b]=some (A9c e cols a b):=by
 have ha:at' .int [a,b] 0=a:=rfl;have hb:at' .int [a,b] 1=b:=rfl;simp only[A0e,A9c,ha,hb];generalize e.kind=k;by_cases h1:k=1
 ·simp[h1]
 by_cases h2:k=2
 ·simp only[h2];by_cases hf:H4 cols e.name<0
  ·simp[hf]
  ·rw[A9r hf];simp[hf,chk]
 by_cases h16:k=16
 ·simp[h16]
 rw[Zd1 h1,Zd1 h2,Zd1 h16,if_neg h1,if_neg h2,if_neg h16];simp only[Al];by_cases h3:k=3
 ·subst h3;cases Dc a 2<;>cases Dc b 2<;>rfl
 by_cases h4:k=4
 ·subst h4;cases Dc a 2<;>cases Dc b 2<;>rfl
 by_cases h5:k=5
 ·subst h5;cases Dc a 2<;>cases Dc b 2<;>rfl
 rw[Zd1 h3,Zd1 h4,Zd1 h5,if_neg (by omega)];simp only[Al];by_cases h12:k=12
 ·subst h12;cases Dc a 3<;>cases Dc b 3<;>rfl
 by_cases h13:k=13
 ·subst h13;cases Dc a 3<;>cases Dc b 3<;>rfl
 by_cases h14:k=14
 ·subst h14;cases Dc a 3<;>cases Dc b 3<;>rfl
 by_cases h15:k=15
 ·subst h15;cases Dc a 3<;>cases Dc b 3<;>rfl
 rw[Zd1 h12,Zd1 h13,Zd1 h14,Zd1 h15,if_neg (by omega)];simp only[Al];by_cases c1:a=b
 ·simp[c1]
 by_cases c2:a=1
 ·simp[c2]
 by_cases c3:b=1
 ·simp[c3]
 simp[c1,c2,c3]
def Aif{R:Type}(ga:Int->Option R)(gb:Int->Int->Option R):List (Int×Int)->Option R
 |[]=>gb 0 0
 |[(a,f)]=>if f=0 then gb a 0 else ga f
 |(a,f)::(b,g)::_=>if f=0 then(if g=0 then gb a b else ga g) else ga f
theorem A4x{R:Type}{rf:FT [.sv .expr,.sl .col false] [.int .i64,.int .i64]}{kx:Ex->Ss->Option R}{cols:List Col}{e:Xpr}{ga:Int->Option R}{gb:Int->Int->Option R}(hn:ln e.l.length)(hrf:∀x,x∈e.l->rf (x,cols)=some (Cu x cols))(h1:∀f i ks,kx .ret (cols,0,f,e.l,(e.l.length:Int),i,e,ks)=ga f)(h2:∀i a b,kx (.exit 0) (cols,0,0,e.l,(e.l.length:Int),i,e,[a,b])=gb a b)(k:Nat):Aq (λrec=>E9 rf rec kx) (k+3) (cols,0,0,e.l,(e.l.length:Int),0,e,[0,0])=Aif ga gb (kindL e.l cols):=by
 rw[Bu];generalize e.l=l at *;match l with
 |[] =>simp only[E9,kindL,Aif];exact h2 0 0 0
 |[x] =>
  simp only[E9,Zf1,Zi1];have e1:at' .expr [x] 0=x:=rfl;rw[e1,hrf x (by simp)];simp only[Zc1,kindL,Aif];show cond (!decide ((Cu x cols).2=0)) (kx .ret (cols,0,(Cu x cols).2,[x],1,0,e,[(Cu x cols).1,0])) (Aq (λrec=>E9 rf rec kx) (k+2) (cols,0,0,[x],1,1,e,[(Cu x cols).1,0]))=_;have h1':=λf i ks=>h1 f i ks;have h2':=λi a b=>h2 i a b;have hl:(([x]:List Xpr).length:Int)=1:=rfl;rw[hl] at h1' h2';rw[h1',Bu];have:E9 rf (Aq (λrec=>E9 rf rec kx) (k+1)) kx (cols,0,0,[x],1,1,e,[(Cu x cols).1,0])=kx (.exit 0) (cols,0,0,[x],1,1,e,[(Cu x cols).1,0]):=rfl;rw[this,h2'];by_cases hf:(Cu x cols).2=0
  ·simp[hf]
  ·simp[hf]
 |x::y::t =>
  simp only[E9];have hlen:(0:Int)<((x::y::t).length:Int):=by simp;omega
  have hlen1:(1:Int)<((x::y::t).length:Int):=by simp;omega
  have e1:at' .expr (x::y::t) 0=x:=rfl;have e2:at' .expr (x::y::t) 1=y:=rfl;rw[Ze1 hlen,e1,hrf x (by simp)];have i1:inb 0 (x::y::t).length=true:=A1 (i:=0) (by simp);have i2:inb 1 (x::y::t).length=true:=A1 (i:=1) (by simp);rw[i1];simp only[Ah,chk,Zc1,kindL,Aif];show cond (!decide ((Cu x cols).2=0)) (kx .ret (cols,0,(Cu x cols).2,x::y::t,_,0,e,[(Cu x cols).1,0])) (Aq (λrec=>E9 rf rec kx) (k+2) (cols,0,0,x::y::t,((x::y::t).length:Int),1,e,[(Cu x cols).1,0]))=_;rw[h1,Bu];simp only[E9];rw[Ze1 hlen1,e2,hrf y (by simp),i2];simp only[Ah,chk,Zc1];show cond (!decide ((Cu x cols).2=0)) (ga (Cu x cols).2) (cond (!decide ((Cu y cols).2=0)) (kx .ret (cols,0,(Cu y cols).2,x::y::t,_,1,e,_)) (kx (.exit 0) (cols,0,0,x::y::t,_,1,e,[(Cu x cols).1,(Cu y cols).1])))=_;rw[h1,h2];by_cases hf:(Cu x cols).2=0
  ·by_cases hg:(Cu y cols).2=0
   ·simp[hf,hg]
   ·simp[hf,hg]
  ·simp[hf]
theorem Alu(k:Nat):∀(n:Nat) (e:Xpr) (cols:List Col),BdExpr e->Bb e<=n->Aq (I7 (k+3)) n (e,cols)=some (Cu e cols)
 |0,e,cols,_,h=>by have:=D6 e;omega
 |n+1,e,cols,hb,h=>by
  obtain⟨hb4,hb5⟩:=Xo hb;rw[E5] at h;have hrf:∀x,x∈e.l->Aq (I7 (k+3)) n (x,cols)=some (Cu x cols):=λx hx=>Alu k n x cols (hb5 x hx) (by have:=B1 hx;omega);rw[Bu,A9t];simp only[I7];refine(A4x (ga:=λf=>some (0,f)) (gb:=λa b=>cond (decide ((e.l.length:Int)=1)) (A0e e cols [a,a]) (A0e e cols [a,b])) hb4 hrf ?_ ?_ k).trans ?_
  ·exactλ_ _ _=>rfl
  ·exactλ_ _ _=>rfl
  ·generalize e.l=l;match l with
   |[]=>simp[kindL,Aif,Bbr,Y0]
   |[x] =>simp only[kindL,Aif,Bbr,Y0];split<;>simp
   |x::y::t =>
    simp only[kindL,Aif,Bbr,Y0];have:¬(((x::y::t).length:Int)=1):=by simp;omega
    rw[Zd1 this];split
    ·split<;>rfl
    ·rfl
theorem Atw:FO 105 [.sv .expr,.sl .col false] [.int .i64,.int .i64] Aol:=by refine .fin (ι:=Nat) 0 (F:=λn=>Aq (I7 3) n) (λn=>FnOk.rec' (Sx.enters_of Tryz.func105 rfl rfl) (λrf hrf=>A3t 3 rf hrf) n) λ(e,cols) r hb hx=>⟨Bb e,?_⟩;exact(Alu 0 (Bb e) e cols hb.1 (Zn1 _)).trans hx
def Bah(R:Type):Px R:=pxO [(104,cA Apd),(105,cA Aol)] [] [] []
def Ue(x:HV [.sv .expr,.sl .col false]):Option (HV [.int .i64,.int .i64]):=match x with
 |(e,cols) =>
 cond (!decide ((Abr e)=0)) (
  some (0,(Abr e))) (
  some ((Cu e cols).1,(Cu e cols).2))
theorem A66:FO 86 [.sv .expr,.sl .col false] [.int .i64,.int .i64] (Ue):=fR (px:=Bah _) (n:=0) Tryz.func86 rfl (λ_ H=>⟨lv H (c1 H Aua (c1 H Atw Ae)) Aa Ab,Ai⟩) λ(_,_)=>by kernel_rfl
def Hp(e:Xpr)(cols:List Col):Int×Int :=
 cond (!decide ((Abr e)=0)) (
  (0,(Abr e))) (
  ((Cu e cols).1,(Cu e cols).2))
theorem A20(x:HV [.sv .expr,.sl .col false]):Ue x=some (Hp x.1 x.2):=by
 first
  |exact rfl
  |simp only[Ue,Hp,Az]
def A2k:FT [.sv .expr,.sl .col false] [.int .i64,.int .i64]:=λx=>some (Hp x.1 x.2)
theorem A9l:FO 86 [.sv .expr,.sl .col false] [.int .i64,.int .i64] A2k :=.fin0 A66 λx _ _ hx=>(A20 x).trans hx
def Af2:Sig:=⟨133,[(1,.sl .col false),(2,.sl .val false),(7,.int .i64),(8,.sl .val true),(9,.bool),(15,.sl .expr false),(16,.int .i64),(17,.int .i64)],[(3,.ptr 0 0),(6,.ptr 1 0)],[(0,.one (.sv .expr)),(1,.one (.sv .val))],2,0,0,[],[]⟩
abbrev Qr:=List Col×List Val×Int×List Val×Bool×List Xpr×Int×Int×Xpr×Val
def Qj{R:Type}(rf:FT [.sv .expr,.sl .col false,.sl .val false] [.sv .val,.int .i64])(rec:Qr->Option R)(kx:Ex->Qr->Option R)(v:Qr):Option R:=match v with
 |(v,v1,v2,v3,v4,v5,v6,v7,w,w1) =>
 cond (decide (v7<v6)) (
  chk (inb v7 v5.length) (
  (rf ((at' .expr v5 v7),v,v1)).bind λ(x,x1) =>
   cond (!decide (x1=0)) (
   kx .ret (v,v1,x1,v3,v4,v5,v6,v7,w,(Val.mk 0 0 []))) (
   chk (decide (v3.length+1<=Av)) (
    cond (v4) (
    rec (v,v1,v2,(v3++[x]),true,v5,v6,(wr .i64 (v7+1)),w,w1)) (
    rec (v,v1,v2,(v3++[x]),decide (x.kind=1),v5,v6,(wr .i64 (v7+1)),w,w1)))))) (
  kx (.exit 0) (v,v1,v2,v3,v4,v5,v6,v7,w,w1))
def Ar6(R:Type)(k:Nat)(rf:FT [.sv .expr,.sl .col false,.sl .val false] [.sv .val,.int .i64]):Px R:=pxO [(106,cA rf),(169,cA Awc),(171,cA Ao8),(172,cA Anl),(174,cA Ark)] [(173,qA Bbg),(43,qA Axw)] [(4,Ao k Af2 (Qj rf))] []
def Iu(k:Nat)(rf:FT [.sv .expr,.sl .col false,.sl .val false] [.sv .val,.int .i64])(x:HV [.sv .expr,.sl .col false,.sl .val false]):Option (HV [.sv .val,.int .i64]):=match x with
 |(e,cols,row) =>
 Aq (λrec=>Qj rf rec (λe vz=>match vz with|(v8,v9,d,b,c,_,_,_,a,f)=>match e with
  |.ret =>
  some (f,d)
  |.exit 0 =>
  cond (decide (a.kind=1)) (
   some (a.v,0)) (
   cond (decide (a.kind=2)) (
   chk (inb (H4 v8 a.name) v9.length) (
    some ((at' .val v9 (H4 v8 a.name)),0))) (
   cond (decide (a.kind=16)) (
    some ((Hc c),0)) (
    let j:=λ(p5:Bool) =>
    cond (p5) (
     some ((A1x a.kind b),0)) (
     cond (c) (
     some ((Val.mk 1 0 []),0)) (
     cond (decide (a.kind=3)) (
      chk (inb 0 b.length) (
      some ((Hc (decide ((at' .val b 0).n=0))),0))) (
      cond (decide (a.kind=15)) (
      chk (inb 0 b.length) (
       some ((Agw a.kind ((at' .val b 0).n) 0).1,(Agw a.kind ((at' .val b 0).n) 0).2))) (
      cond (decide (12<=a.kind)) (
       chk (inb 0 b.length) (
       chk (inb 1 b.length) (
        some ((Agw a.kind ((at' .val b 0).n) ((at' .val b 1).n)).1,(Agw a.kind ((at' .val b 0).n) ((at' .val b 1).n)).2)))) (
       chk (inb 0 b.length) (
       chk (inb 1 b.length) (
        some ((Hc (Ahw a.kind (A60 (at' .val b 0) (at' .val b 1)))),0))))))))
    cond (decide (a.kind=4)) (
    j true) (
    j (decide (a.kind=5))))))
  |_=>none)) k (cols,row,0,[],false,e.l,(e.l.length:Int),0,e,(Val.mk 0 0 []))
theorem A4f(k:Nat)(rf:FT [.sv .expr,.sl .col false,.sl .val false] [.sv .val,.int .i64])(hrf:FO 106 [.sv .expr,.sl .col false,.sl .val false] [.sv .val,.int .i64] rf):FO 106 [.sv .expr,.sl .col false,.sl .val false] [.sv .val,.int .i64] (Iu k rf):=fR (px:=Ar6 _ k rf) (n:=1) Tryz.func106 rfl (λcx H=>by have h0:Lv cx (Ar6 (HV [.sv .val,.int .i64]) k rf):=lv H (c1 H hrf (c1 H A14 (c1 H As2 (c1 H Ba7 (c1 H A4k Ae))))) (q1 H Bd2 (q1 H A1w Aa)) Ab;have hlevalE_0:=lO H h0 (b:=lp Tryz.f106 0) (k:=k) (n:=0) (s:=Af2) (step:=Qj rf) (λ_ _ _ (_,_,_,_,_,_,_,_,_,_)=>by kernel_rfl) Ai;exact⟨h0,(Bc Ai hlevalE_0)⟩) λ(_,_,_)=>by kernel_rfl
def Bhu(a:Xpr)(v8:List Col)(v9:List Val)(b:List Val)(c:Bool):Option (Val×Int) :=
  cond (decide (a.kind=1)) (
   some (a.v,0)) (
   cond (decide (a.kind=2)) (
   chk (inb (H4 v8 a.name) v9.length) (
    some ((at' .val v9 (H4 v8 a.name)),0))) (
   cond (decide (a.kind=16)) (
    some ((Hc c),0)) (
    let j:=λ(p3:Bool) =>
    cond (p3) (
     some ((A1x a.kind b),0)) (
     cond (c) (
     some ((Val.mk 1 0 []),0)) (
     cond (decide (a.kind=3)) (
      chk (inb 0 b.length) (
      some ((Hc (decide ((at' .val b 0).n=0))),0))) (
      cond (decide (a.kind=15)) (
      chk (inb 0 b.length) (
       some (((Agw a.kind ((at' .val b 0).n) 0).1),(Agw a.kind ((at' .val b 0).n) 0).2))) (
      cond (decide (12<=a.kind)) (
       chk (inb 0 b.length) (
       chk (inb 1 b.length) (
        some (((Agw a.kind ((at' .val b 0).n) ((at' .val b 1).n)).1),(Agw a.kind ((at' .val b 0).n) ((at' .val b 1).n)).2)))) (
       chk (inb 0 b.length) (
       chk (inb 1 b.length) (
        some ((Hc (Ahw a.kind (A60 (at' .val b 0) (at' .val b 1)))),0))))))))
    cond (decide (a.kind=4)) (
    j true) (
    j (decide (a.kind=5))))))
mutual
def Aa9:Xpr->List Col->List Val->Option (Val×Int)
 |.mk k v nm l,cols,row=>match evalL l cols row with|some (f,vs)=>chk (decide (l.length<=Av)) (if f=0 then Bhu (.mk k v nm l) cols row vs (vs.any P0) else some (⟨0,0,[]⟩,f))|none=>none
def evalL:List Xpr->List Col->List Val->Option (Int×List Val)
 |[],_,_=>some (0,[])
 |x::l,cols,row=>match Aa9 x cols row with
  |some (v,f)=>if f=0 then(match evalL l cols row with
   |some (g,vs)=>some (g,v::vs)
   |none=>none) else some (f,[])
  |none=>none
end
theorem Bbp(e:Xpr)(cols:List Col)(row:List Val):Aa9 e cols row=match evalL e.l cols row with
  |some (f,vs)=>chk (decide (e.l.length<=Av)) (if f=0 then Bhu e cols row vs (vs.any P0) else some (⟨0,0,[]⟩,f))
  |none=>none:=by
 cases e;simp only[Aa9,Xpr.l];rfl
def Azy:FT [.sv .expr,.sl .col false,.sl .val false] [.sv .val,.int .i64]:=λx=>Aa9 x.1 x.2.1 x.2.2
theorem Aj4{R:Type}{rf:FT [.sv .expr,.sl .col false,.sl .val false] [.sv .val,.int .i64]}{kx:Ex->Qr->Option R}{cols:List Col}{row:List Val}{e:Xpr}{ga:Int->Option R}{gb:List Val->Bool->Option R}(hn:ln e.l.length)(hm:e.l.length<=Av)(hrf:∀x,x∈e.l->∀r,Aa9 x cols row=some r->rf (x,cols,row)=some r)(h1:∀f vs u j,kx .ret (cols,row,f,vs,u,e.l,(e.l.length:Int),j,e,⟨0,0,[]⟩)=ga f)(h2:∀vs u j z,kx (.exit 0) (cols,row,0,vs,u,e.l,(e.l.length:Int),j,e,z)=gb vs u):∀(k i:Nat) (acc:List Val) (u:Bool) z f vs,acc.length=i->i<=e.l.length->e.l.length-i<k->evalL (e.l.drop i) cols row=some (f,vs)->Aq (λrec=>Qj rf rec kx) k (cols,row,0,acc,u,e.l,(e.l.length:Int),(i:Int),e,z)=if f=0 then gb (acc++vs) (u||vs.any P0) else ga f
 |0,i,_,_,_,_,_,_,_,h,_=>by omega
 |k+1,i,acc,u,z,f,vs,ha,hi,h,hev=>by
  rw[Bu];by_cases hl:i<e.l.length
  ·rw[Au hl] at hev;simp only[evalL] at hev;split at hev
   ·rename_i v f' hx;have hr:=hrf _ (List.getElem_mem hl) _ hx;simp only[Qj,A0 (c :=.expr) hl,A1 hl,hr,Zc1,chk,Ah,Bool.cond_decide];rw[if_pos (by omega)];split at hev
    ·rename_i hf;subst hf;split at hev
     ·rename_i g vs' hrest;simp only[Za1,Zp1] at hev;obtain⟨rfl,rfl⟩:=hev;have ih:=λu=>Aj4 hn hm hrf h1 h2 k (i+1) (acc++[v]) u z g vs' (by simp[ha]) (by omega) (by omega) hrest;rw[if_pos (by simp only[Av] at *;omega)];simp only[decide_true,Zt1,Al,Ay hl hn,ih,Zj1,List.singleton_append,List.any_cons];cases u<;>simp[P0]
     ·cases hev
    ·rename_i hf;simp only[Za1,Zp1] at hev;obtain⟨rfl,rfl⟩:=hev;rw[Zd1 hf,if_neg hf];simp only[Zs1,Ah,h1]
   ·cases hev
  ·rw[Zk1 (by omega)] at hev;simp only[evalL,Za1,Zp1] at hev;obtain⟨rfl,rfl⟩:=hev;simp only[Qj,h2,Bool.cond_decide];rw[if_neg (by omega)];simp
theorem Ak0(k:Nat):∀(n:Nat) (e:Xpr) (cols:List Col) (row:List Val) r,BdExpr e->Bb e<=n->Bb e<=k->Aa9 e cols row=some r->Aq (Iu k) n (e,cols,row)=some r
 |0,e,_,_,_,_,h,_,_=>by have:=D6 e;omega
 |n+1,e,cols,row,r,hb,h,hk,he=>by
  obtain⟨hb4,hb5⟩:=Xo hb;rw[E5] at h hk;have hl:=Ef e.l;have hrf:∀x,x∈e.l->∀r,Aa9 x cols row=some r->Aq (Iu k) n (x,cols,row)=some r:=λx hx r hr=>Ak0 k n x cols row r (hb5 x hx) (by have:=B1 hx;omega) (by have:=B1 hx;omega) hr;rw[Bu];simp only[Iu];rw[Bbp] at he;split at he
  ·rename_i f vs hev;obtain⟨hc,he⟩:=A4 he;simp only[Zg1] at hc;refine(Aj4 (ga:=λf=>some (⟨0,0,[]⟩,f)) (gb:=λvs u=>Bhu e cols row vs u) hb4 hc hrf ?_ ?_ k 0 [] false _ f vs rfl (Nat.zero_le _) (by omega) (by simpa using hev)).trans ?_
   ·exactλ_ _ _ _=>rfl
   ·exactλ_ _ _ _=>rfl
   ·simpa using he
  ·cases he
theorem A9d:FO 106 [.sv .expr,.sl .col false,.sl .val false] [.sv .val,.int .i64] Azy:=by refine .fin (ι:=Nat) 0 (F:=λn=>Aq (Iu n) n) (λn=>FnOk.rec' (Sx.enters_of Tryz.func106 rfl rfl) (λrf hrf=>A4f n rf hrf) n) λ(e,cols,row) r hb hx=>⟨Bb e,?_⟩;exact Ak0 (Bb e) (Bb e) e cols row r hb.1 (Zn1 _) (Zn1 _) hx
mutual
def F6:Xpr->Xpr->Bool
 |.mk k v n l,.mk k' v' n' l'=>decide (k=k')&&decide (v=v')&&decide (n=n')&&xsames l l'
def xsames:List Xpr->List Xpr->Bool
 |[],[]=>true
 |x::l,y::m=>F6 x y&&xsames l m
 |_,_=>false
end
mutual
theorem Z8:∀a b:Xpr,F6 a b=true↔a=b
 |.mk k v n l,.mk k' v' n' l'=>by
  simp only[F6,Zb1,Zg1,xsames_iff l l',Xpr.mk.injEq];constructor
  ·rintro⟨⟨⟨h1,h2⟩,h3⟩,h4⟩;exact⟨h1,h2,h3,h4⟩
  ·rintro⟨h1,h2,h3,h4⟩;exact⟨⟨⟨h1,h2⟩,h3⟩,h4⟩
theorem xsames_iff:∀a b:List Xpr,xsames a b=true↔a=b
 |[],[]=>by simp[xsames]
 |x::l,y::m=>by simp only[xsames,Zb1,Z8 x y,xsames_iff l m,Zd2]
 |[],_::_=>by simp[xsames]
 |_::_,[]=>by simp[xsames]
end
instance:DecidableEq Xpr:=λa b=>decidable_of_iff (F6 a b=true) (Z8 a b)
theorem Ie(a b:Xpr):F6 a b=decide (a=b):=by rw[Bool.eq_iff_iff,Z8,Zg1]
theorem Ad2{a b:List Xpr}(h:xsames a b=true):a.length=b.length:=by rw[(xsames_iff a b).1 h]
theorem Au2(a b:Xpr):F6 a b=(decide (a.kind=b.kind)&&decide (a.v=b.v)&&decide (a.name=b.name)&&xsames a.l b.l):=by cases a;cases b;simp only[F6];rfl
def Age:Sig:=⟨32,[(1,.sl .expr false),(6,.bool),(15,.sl .expr false),(16,.int .i64),(17,.int .i64)],[(2,.fn 184 [])],[],40,40,200,[],[]⟩
abbrev Ro:=List Xpr×Bool×List Xpr×Int×Int
def Qz{R:Type}(rf:FT [.sv .expr,.sv .expr] [.bool])(rec:Ro->Option R)(kx:Ex->Ro->Option R)(v:Ro):Option R:=match v with
 |(v,v1,v2,v3,v4) =>
 cond (decide (v4<v3)) (
  chk (inb v4 v2.length) (
  chk (inb v4 v.length) (
   (rf ((at' .expr v2 v4),(at' .expr v v4))).bind λx =>
   cond (!x) (
    kx .ret (v,false,v2,v3,v4)) (
    rec (v,v1,v2,v3,(wr .i64 (v4+1))))))) (
  kx (.exit 0) (v,v1,v2,v3,v4))
def Ael(R:Type)(k:Nat)(rf:FT [.sv .expr,.sv .expr] [.bool]):Px R:=pxO [(184,cA rf)] [] [(4,Ao k Age (Qz rf))] []
noncomputable def Au1(R:Type)(k:Nat)(rf:FT [.sv .expr,.sv .expr] [.bool]):Px R:=pxO [(188,Aw 40 200 (Ael R k rf) Tryz.f188)] [] [] []
def Gz(k:Nat)(rf:FT [.sv .expr,.sv .expr] [.bool])(x:HV [.sv .expr,.sv .expr]):Option (HV [.bool]):=match x with
 |(a,b) =>
 let j1:=λ(p:Bool) =>
  let j:=λ(p1:Bool) =>
  cond (p1) (
   cond (!decide ((a.l.length:Int)=(b.l.length:Int))) (
   some false) (
   Aq (λrec=>Qz rf rec (λe vz=>match vz with|(_,v6,_,_,_)=>match e with
    |.ret =>
    some v6
    |.exit 0 =>
    some true
    |_=>none)) k (b.l,false,a.l,(a.l.length:Int),0))) (
   some false)
  cond (p) (
  j (decide (a.name=b.name))) (
  j false)
 cond (decide (a.kind=b.kind)) (
  j1 (decide (a.v=b.v))) (
  j1 false)
theorem A4u(k:Nat)(rf:FT [.sv .expr,.sv .expr] [.bool])(hrf:FO 184 [.sv .expr,.sv .expr] [.bool] rf):FO 184 [.sv .expr,.sv .expr] [.bool] (Gz k rf):=fR (px:=Au1 _ k rf) (n:=0) Tryz.func184 rfl (λcx H=>by have h1:Lv cx (Ael (HV [.bool]) k rf):=lv H (c1 H hrf Ae) Aa Ab;have hlasame_0:=lO H h1 (b:=lp Tryz.f188 0) (k:=k) (n:=0) (s:=Age) (step:=Qz rf) (λ_ _ _ (_,_,_,_,_)=>by kernel_rfl) Ai;have h0:Lv cx (Au1 (HV [.bool]) k rf):=lv H (An (cR H h1 Tryz.func188 rfl (n:=1) ((Bc Ai hlasame_0))) Ae) Aa Ab;exact⟨h0,Ai⟩) λ(_,_)=>by kernel_rfl
def N9(a b:Xpr):Bool:=F6 a b
def Q7:FT [.sv .expr,.sv .expr] [.bool]:=λx=>some (N9 x.1 x.2)
theorem Azf{R:Type}{rf:FT [.sv .expr,.sv .expr] [.bool]}{kx:Ex->Ro->Option R}{l m:List Xpr}{c:Bool->Option R}(hn:ln l.length)(hm:l.length=m.length)(hrf:∀x,x∈l->∀y,y∈m->rf (x,y)=some (F6 x y))
  (h1:∀i,kx .ret (m,false,l,(l.length:Int),i)=c false) (h2:∀q i,kx (.exit 0) (m,q,l,(l.length:Int),i)=c true) (k:Nat) (hk:l.length<k):Aq (λrec=>Qz rf rec kx) k (m,false,l,(l.length:Int),0)=c (xsames l m):=by
 refine(Bh l.length (λi=>(m,false,l,(l.length:Int),(i:Int))) (λi=>c (xsames (l.drop i) (m.drop i))) (λi hi rec hr =>?_) (λrec =>?_) k 0 (Nat.zero_le _) (by omega)).trans (by rw[Zq1,Zq1])
 ·have hi2:i<m.length:=by omega
  simp only[Qz,Dw hi,Ah,A1 hi,A1 hi2,chk,A0 (c :=.expr) hi,A0 (c :=.expr) hi2,hrf _ (List.getElem_mem hi) _ (List.getElem_mem hi2),Zc1,Ay hi hn,hr,h1,Au hi,Au hi2,xsames];cases F6 l[i] m[i]<;>rfl
 ·simp only[Qz,Dv,Al,h2];rw[Zk1 (Zn1 _),Zk1 (by omega)];rfl
theorem Ak7(k:Nat):∀(n:Nat) (a b:Xpr),BdExpr a->BdExpr b->Bb a<=n->Bb a<=k->Aq (Gz k) n (a,b)=some (F6 a b)
 |0,a,b,_,_,h,_=>by have:=D6 a;omega
 |n+1,a,b,ha,hb,h,hk=>by
  obtain⟨hb4,hb5⟩:=Xo ha;obtain⟨hc4,hc5⟩:=Xo hb;rw[E5] at h hk;have hl:=Ef a.l;have hrf:∀x,x∈a.l->∀y,y∈b.l->Aq (Gz k) n (x,y)=some (F6 x y):=λx hx y hy=>Ak7 k n x y (hb5 x hx) (hc5 y hy) (by have:=B1 hx;omega) (by have:=B1 hx;omega);rw[Bu,Au2];simp only[Gz];by_cases hlen:a.l.length=b.l.length
  ·have hloop:=Azf (R:=Bool) (rf:=Aq (Gz k) n) (l:=a.l) (m:=b.l) (c:=some) (kx:=λe v=>match v with
    |(_,v6,_,_,_)=>match e with
     |.ret=>some v6
     |.exit 0=>some true
     |_=>none) hb4 hlen hrf (λ_=>rfl) (λ_ _=>rfl) k (by omega)
   rw[hloop,Ze1 (show(a.l.length:Int)=(b.l.length:Int) by omega)];cases decide (a.kind=b.kind)<;>cases decide (a.v=b.v)<;>cases decide (a.name=b.name)<;>cases xsames a.l b.l<;>rfl
  ·have hno:xsames a.l b.l=false:=by cases hs:xsames a.l b.l with|false=>rfl|true=>exact absurd (Ad2 hs) hlen
   rw[hno,Zd1 (show ¬(a.l.length:Int)=(b.l.length:Int) by omega)];cases decide (a.kind=b.kind)<;>cases decide (a.v=b.v)<;>cases decide (a.name=b.name)<;>rfl
theorem Pm:FO 184 [.sv .expr,.sv .expr] [.bool] Q7:=by refine .fin (ι:=Nat) 0 (F:=λn=>Aq (Gz n) n) (λn=>FnOk.rec' (Sx.enters_of Tryz.func184 rfl rfl) (λrf hrf=>A4u n rf hrf) n) λ(a,b) r hb hx=>⟨Bb a,?_⟩;exact(Ak7 (Bb a) (Bb a) a b hb.1 hb.2 (Zn1 _) (Zn1 _)).trans hx
def Af9:Sig:=⟨53,[(4,.bool),(5,.int .i64)],[(2,.ptr 0 0),(3,.ptr 1 0)],[(0,.one (.sv .expr)),(1,.one (.sv .expr))],2,0,0,[],[]⟩
abbrev Rn:=Bool×Int×Xpr×Xpr
def R6{R:Type}(rf:FT [.sv .expr,.sv .expr] [.bool])(rec:Rn->Option R)(kx:Ex->Rn->Option R)(v:Rn):Option R:=match v with
 |(v,v1,w,w1) =>
 cond (decide (v1<(w.l.length:Int))) (
  chk (inb v1 w.l.length) (
  chk (inb v1 w1.l.length) (
   (rf ((at' .expr w.l v1),(at' .expr w1.l v1))).bind λx =>
   cond (!x) (
    kx .ret (false,v1,w,w1)) (
    rec (v,(wr .i64 (v1+1)),w,w1))))) (
  kx (.exit 0) (v,v1,w,w1))
def Atb(R:Type)(k:Nat)(rf:FT [.sv .expr,.sv .expr] [.bool]):Px R:=pxO [(99,cA rf)] [] [(4,Ao k Af9 (R6 rf))] []
def Gr(k:Nat)(rf:FT [.sv .expr,.sv .expr] [.bool])(x:HV [.sv .expr,.sv .expr]):Option (HV [.bool]):=match x with
 |(a,b) =>
 let j:=λ(p:Bool) =>
  cond (p) (
  some false) (
  cond (!decide (a.name=b.name)) (
   some false) (
   cond (!decide ((a.l.length:Int)=(b.l.length:Int))) (
   some false) (
   Aq (λrec=>R6 rf rec (λe vz=>match vz with|(v2,_,_,_)=>match e with
    |.ret =>
    some v2
    |.exit 0 =>
    some true
    |_=>none)) k (false,0,a,b))))
 cond (!decide (a.kind=b.kind)) (
  j true) (
  j (!decide (a.v=b.v)))
theorem A5a(k:Nat)(rf:FT [.sv .expr,.sv .expr] [.bool])(hrf:FO 99 [.sv .expr,.sv .expr] [.bool] rf):FO 99 [.sv .expr,.sv .expr] [.bool] (Gr k rf):=fR (px:=Atb _ k rf) (n:=1) Tryz.func99 rfl (λcx H=>by have h0:Lv cx (Atb (HV [.bool]) k rf):=lv H (c1 H hrf Ae) Aa Ab;have hlrsame_0:=lO H h0 (b:=lp Tryz.f99 0) (k:=k) (n:=0) (s:=Af9) (step:=R6 rf) (λ_ _ _ (_,_,_,_)=>by kernel_rfl) Ai;exact⟨h0,(Bc Ai hlrsame_0)⟩) λ(_,_)=>by kernel_rfl
def Alz(a b:Xpr):Bool:=F6 a b
def Apj:FT [.sv .expr,.sv .expr] [.bool]:=λx=>some (Alz x.1 x.2)
theorem Aya{R:Type}{rf:FT [.sv .expr,.sv .expr] [.bool]}{kx:Ex->Rn->Option R}{a b:Xpr}{c:Bool->Option R}(hn:ln a.l.length)(hm:a.l.length=b.l.length)(hrf:∀x,x∈a.l->∀y,y∈b.l->rf (x,y)=some (F6 x y))
  (h1:∀i,kx .ret (false,i,a,b)=c false) (h2:∀q i,kx (.exit 0) (q,i,a,b)=c true) (k:Nat) (hk:a.l.length<k):Aq (λrec=>R6 rf rec kx) k (false,0,a,b)=c (xsames a.l b.l):=by
 refine(Bh a.l.length (λi=>(false,(i:Int),a,b)) (λi=>c (xsames (a.l.drop i) (b.l.drop i))) (λi hi rec hr =>?_) (λrec =>?_) k 0 (Nat.zero_le _) (by omega)).trans (by rw[Zq1,Zq1])
 ·have hi2:i<b.l.length:=by omega
  simp only[R6,Dw hi,Ah,A1 hi,A1 hi2,chk,A0 (c :=.expr) hi,A0 (c :=.expr) hi2,hrf _ (List.getElem_mem hi) _ (List.getElem_mem hi2),Zc1,Ay hi hn,hr,h1,Au hi,Au hi2,xsames];cases F6 a.l[i] b.l[i]<;>rfl
 ·simp only[R6,Dv,Al,h2];rw[Zk1 (Zn1 _),Zk1 (by omega)];rfl
theorem Ajy(k:Nat):∀(n:Nat) (a b:Xpr),BdExpr a->BdExpr b->Bb a<=n->Bb a<=k->Aq (Gr k) n (a,b)=some (F6 a b)
 |0,a,b,_,_,h,_=>by have:=D6 a;omega
 |n+1,a,b,ha,hb,h,hk=>by
  obtain⟨hb4,hb5⟩:=Xo ha;obtain⟨hc4,hc5⟩:=Xo hb;rw[E5] at h hk;have hl:=Ef a.l;have hrf:∀x,x∈a.l->∀y,y∈b.l->Aq (Gr k) n (x,y)=some (F6 x y):=λx hx y hy=>Ajy k n x y (hb5 x hx) (hc5 y hy) (by have:=B1 hx;omega) (by have:=B1 hx;omega);rw[Bu,Au2];simp only[Gr];by_cases hlen:a.l.length=b.l.length
  ·have hloop:=Aya (R:=Bool) (rf:=Aq (Gr k) n) (a:=a) (b:=b) (c:=some) (kx:=λe v=>match v with
    |(v2,_,_,_)=>match e with
     |.ret=>some v2
     |.exit 0=>some true
     |_=>none) hb4 hlen hrf (λ_=>rfl) (λ_ _=>rfl) k (by omega)
   rw[hloop,Ze1 (show(a.l.length:Int)=(b.l.length:Int) by omega)];cases decide (a.kind=b.kind)<;>cases decide (a.v=b.v)<;>cases decide (a.name=b.name)<;>cases xsames a.l b.l<;>rfl
  ·have hno:xsames a.l b.l=false:=by cases hs:xsames a.l b.l with|false=>rfl|true=>exact absurd (Ad2 hs) hlen
   rw[hno,Zd1 (show ¬(a.l.length:Int)=(b.l.length:Int) by omega)];cases decide (a.kind=b.kind)<;>cases decide (a.v=b.v)<;>cases decide (a.name=b.name)<;>rfl
theorem Auj:FO 99 [.sv .expr,.sv .expr] [.bool] Apj:=by refine .fin (ι:=Nat) 0 (F:=λn=>Aq (Gr n) n) (λn=>FnOk.rec' (Sx.enters_of Tryz.func99 rfl rfl) (λrf hrf=>A5a n rf hrf) n) λ(a,b) r hb hx=>⟨Bb a,?_⟩;exact(Ajy (Bb a) (Bb a) a b hb.1 hb.2 (Zn1 _) (Zn1 _)).trans hx
def Ak3:Sig:=⟨19,[(0,.sl .str false),(1,.str),(4,.int .i64),(7,.int .i64),(8,.int .i64)],[],[],0,0,0,[],[]⟩
abbrev Yc:=List Str×Str×Int×Int×Int
def Y3{R:Type}(rec:Yc->Option R)(kx:Ex->Yc->Option R)(v:Yc):Option R:=match v with
 |(v,v1,v2,v3,v4) =>
 cond (decide (v4<v3)) (
  chk (inb v4 v.length) (
  cond (decide (v1=(at' .str v v4))) (
   kx .ret (v,v1,v4,v3,v4)) (
   rec (v,v1,v2,v3,(wr .i64 (v4+1)))))) (
  kx (.exit 0) (v,v1,v2,v3,v4))
def A0t(R:Type)(k:Nat):Px R:=pxO [] [] [(2,Ao k Ak3 (Y3))] []
def Akt(k:Nat)(x:HV [.sl .str false,.str]):Option (HV [.int .i64]):=match x with
 |(l,s) =>
 Aq (λrec=>Y3 rec (λe vz=>match vz with|(_,_,v7,_,_)=>match e with
  |.ret =>
  some v7
  |.exit 0 =>
  some (-1)
  |_=>none)) k (l,s,0,(l.length:Int),0)
theorem A8y(k:Nat):FO 103 [.sl .str false,.str] [.int .i64] (Akt k):=fR (px:=A0t _ k) (n:=1) Tryz.func103 rfl (λcx H=>by have h0:Lv cx (A0t (HV [.int .i64]) k):=lv H Ae Aa Ab;have hlsidx_0:=lO H h0 (b:=lp Tryz.f103 0) (k:=k) (n:=0) (s:=Ak3) (step:=Y3) (λ_ _ _ (_,_,_,_,_)=>by kernel_rfl) Ai;exact⟨h0,(Bc Ai hlsidx_0)⟩) λ(_,_)=>by kernel_rfl
def Bh2(l:List Str)(s:Str):Int:=Lp.idx s l 0
def Ax4:FT [.sl .str false,.str] [.int .i64]:=λx=>some (Bh2 x.1 x.2)
theorem Aku{R:Type}{kx:Ex->Yc->Option R}{l:List Str}{s:Str}{c:Int->Option R}(hl:ln l.length)(h1:∀(r:Int) (i:Int),kx .ret (l,s,r,(l.length:Int),i)=c r)(h2:∀q:Int,kx (.exit 0) (l,s,q,(l.length:Int),(l.length:Int))=c (-1)) :
  ∀(k i:Nat) (q:Int),i<=l.length->l.length-i<k->Aq (λrec=>Y3 rec kx) k (l,s,q,(l.length:Int),(i:Int))=c (Lp.idx s (l.drop i) i)
 |0,i,_,_,h=>absurd h (Zm1 _)
 |k+1,i,q,hi,h=>by
  rw[Bu];by_cases hlt:i<l.length
  ·have ih:=Aku hl h1 h2 k (i+1) q (by omega) (by omega);have e1:decide ((i:Int)<(l.length:Int))=true:=Ze1 (by omega);have en:((i+1:Nat):Int)=(i:Int)+1:=by omega
   simp only[Y3,e1,Ah,A1 hlt,chk,A0 (c :=.str) hlt,Ay hlt hl,ih,h1];rw[Au hlt,Lp.idx,en];by_cases hx:s=l[i]
   ·rw[Ze1 hx,if_pos hx,Ah]
   ·rw[Zd1 hx,if_neg hx,Al]
  ·have hi:i=l.length:=by omega
   subst hi;simp only[Y3,Zd1 (show ¬((l.length:Nat):Int)<(l.length:Int) by omega),Al,h2,List.drop_length,Lp.idx]
theorem Bfd:FO 103 [.sl .str false,.str] [.int .i64] Ax4 :=.fin 0 A8y λ(l,s) r hb hx=>⟨l.length+1,by simp only[Ax4,Za1] at hx;rw[<-hx];simp only[Akt];exact Aku (c:=λq=>some q) hb.1.1 (λ_ _=>rfl) (λ_=>rfl) (l.length+1) 0 0 (Nat.zero_le _) (by omega)⟩
def Be7(R:Type):Px R:=pxO [(103,cA Ax4)] [] [] []
def Z5(x:HV [.sl .str false,.str]):Option (HV [.bool]):=match x with
 |(l,s) =>
 some (decide (0<=(Bh2 l s)))
theorem Bdc:FO 41 [.sl .str false,.str] [.bool] (Z5):=fR (px:=Be7 _) (n:=0) Tryz.func41 rfl (λ_ H=>⟨lv H (c1 H Bfd Ae) Aa Ab,Ai⟩) λ(_,_)=>by kernel_rfl
def Atq(l:List Str)(s:Str):Bool :=(decide (0<=(Bh2 l s)))
theorem Bcn(x:HV [.sl .str false,.str]):Z5 x=some (Atq x.1 x.2):=by
 first
  |exact rfl
  |simp only[Z5,Atq,Az]
def Ax3:FT [.sl .str false,.str] [.bool]:=λx=>some (Atq x.1 x.2)
theorem A0h:FO 41 [.sl .str false,.str] [.bool] Ax3 :=.fin0 Bdc λx _ _ hx=>(Bcn x).trans hx
theorem A1b(l:List Str)(s:Str):Atq l s=l.contains s:=by have e:Atq l s=decide (0<=Lp.idx s l 0):=rfl;rw[e,Bool.eq_iff_iff,Zg1,Lp.idx_ge s l 0 (Int.le_refl 0)];simp
def Am7:Sig:=⟨26,[(0,.sl .col false),(1,.sl .col false),(4,.bool),(12,.int .i64),(13,.int .i64)],[],[],0,0,0,[],[]⟩
abbrev Wv:=List Col×List Col×Bool×Int×Int
def Zr{R:Type}(rec:Wv->Option R)(kx:Ex->Wv->Option R)(v:Wv):Option R:=match v with
 |(v,v1,v2,v3,v4) =>
 cond (decide (v4<v3)) (
  chk (inb v4 v.length) (
  chk (inb v4 v1.length) (
   cond (!decide ((at' .col v v4)=(at' .col v1 v4))) (
   kx .ret (v,v1,false,v3,v4)) (
   rec (v,v1,v2,v3,(wr .i64 (v4+1))))))) (
  kx (.exit 0) (v,v1,v2,v3,v4))
def A0y(R:Type)(k:Nat):Px R:=pxO [] [] [(4,Ao k Am7 (Zr))] []
def Aj5(k:Nat)(x:HV [.sl .col false,.sl .col false]):Option (HV [.bool]):=match x with
 |(a,b) =>
 cond (!decide ((a.length:Int)=(b.length:Int))) (
  some false) (
  Aq (λrec=>Zr rec (λe vz=>match vz with|(_,_,v7,_,_)=>match e with
  |.ret =>some v7
  |.exit 0 =>some true
  |_=>none)) k (a,b,false,(a.length:Int),0))
theorem A9q(k:Nat):FO 185 [.sl .col false,.sl .col false] [.bool] (Aj5 k):=fR (px:=A0y _ k) (n:=1) Tryz.func185 rfl (λcx H=>by have h0:Lv cx (A0y (HV [.bool]) k):=lv H Ae Aa Ab;have hlaeqc_0:=lO H h0 (b:=lp Tryz.f185 0) (k:=k) (n:=0) (s:=Am7) (step:=Zr) (λ_ _ _ (_,_,_,_,_)=>by kernel_rfl) Ai;exact⟨h0,(Bc Ai hlaeqc_0)⟩) λ(_,_)=>by kernel_rfl
def Bdw(a b:List Col):Bool:=decide (a=b)
def Ay1:FT [.sl .col false,.sl .col false] [.bool]:=λx=>some (Bdw x.1 x.2)
theorem A4b{R:Type}{kx:Ex->Wv->Option R}{a b:List Col}{c:Bool->Option R}(hn:ln a.length)(he:a.length=b.length)(h1:∀i,kx .ret (a,b,false,(a.length:Int),i)=c false)(h2:∀q i,kx (.exit 0) (a,b,q,(a.length:Int),i)=c true)(k:Nat)(hk:a.length<k) :
  Aq (λrec=>Zr rec kx) k (a,b,false,(a.length:Int),0)=c (decide (a=b)):=by
 refine(Bh a.length (λi=>(a,b,false,(a.length:Int),(i:Int))) (λi=>c (decide (a.drop i=b.drop i))) (λi hi rec hr =>?_) (λrec =>?_) k 0 (Nat.zero_le _) (by omega)).trans (by rw[Zq1,Zq1])
 ·have hi2:i<b.length:=by omega
  simp only[Zr,Dw hi,Ah,A1 hi,A1 hi2,chk,A0 (c :=.col) hi,A0 (c :=.col) hi2,Ay hi hn,hr,h1,Au hi,Au hi2,Zd2];by_cases hx:a[i]=b[i]
  ·rw[Ze1 hx];simp[hx]
  ·rw[Zd1 hx];simp[hx]
 ·simp only[Zr,Dv,Al,h2];rw[Zk1 (Zn1 _),Zk1 (by omega)];rfl
theorem Bfv:FO 185 [.sl .col false,.sl .col false] [.bool] Ay1 :=.fin 0 A9q λ(a,b) r hb hx=>⟨a.length+1,by
 simp only[Ay1,Za1] at hx;rw[<-hx];simp only[Aj5,Bdw];by_cases he:a.length=b.length
 ·rw[Ze1 (show(a.length:Int)=(b.length:Int) by omega),Zt1,Al];exact A4b (c:=some) hb.1.1 he (λ_=>rfl) (λ_ _=>rfl) (a.length+1) (by omega)
 ·rw[Zd1 (show ¬(a.length:Int)=(b.length:Int) by omega),Zd1 (λh=>he (by rw[h]))];rfl⟩
def Amq:Sig:=⟨26,[(0,.sl .str false),(1,.sl .str false),(4,.bool),(12,.int .i64),(13,.int .i64)],[],[],0,0,0,[],[]⟩
abbrev Yo:=List Str×List Str×Bool×Int×Int
def Y1{R:Type}(rec:Yo->Option R)(kx:Ex->Yo->Option R)(v:Yo):Option R:=match v with
 |(v,v1,v2,v3,v4) =>
 cond (decide (v4<v3)) (
  chk (inb v4 v.length) (
  chk (inb v4 v1.length) (
   cond (!decide ((at' .str v v4)=(at' .str v1 v4))) (
   kx .ret (v,v1,false,v3,v4)) (
   rec (v,v1,v2,v3,(wr .i64 (v4+1))))))) (
  kx (.exit 0) (v,v1,v2,v3,v4))
def A0w(R:Type)(k:Nat):Px R:=pxO [] [] [(4,Ao k Amq (Y1))] []
def Akd(k:Nat)(x:HV [.sl .str false,.sl .str false]):Option (HV [.bool]):=match x with
 |(a,b) =>
 cond (!decide ((a.length:Int)=(b.length:Int))) (
  some false) (
  Aq (λrec=>Y1 rec (λe vz=>match vz with|(_,_,v7,_,_)=>match e with
  |.ret =>some v7
  |.exit 0 =>some true
  |_=>none)) k (a,b,false,(a.length:Int),0))
theorem Bcw(k:Nat):FO 186 [.sl .str false,.sl .str false] [.bool] (Akd k):=fR (px:=A0w _ k) (n:=1) Tryz.func186 rfl (λcx H=>by have h0:Lv cx (A0w (HV [.bool]) k):=lv H Ae Aa Ab;have hlaeqs_0:=lO H h0 (b:=lp Tryz.f186 0) (k:=k) (n:=0) (s:=Amq) (step:=Y1) (λ_ _ _ (_,_,_,_,_)=>by kernel_rfl) Ai;exact⟨h0,(Bc Ai hlaeqs_0)⟩) λ(_,_)=>by kernel_rfl
def A85(a b:List Str):Bool:=decide (a=b)
def Azd:FT [.sl .str false,.sl .str false] [.bool]:=λx=>some (A85 x.1 x.2)
theorem A6t{R:Type}{kx:Ex->Yo->Option R}{a b:List Str}{c:Bool->Option R}(hn:ln a.length)(he:a.length=b.length)(h1:∀i,kx .ret (a,b,false,(a.length:Int),i)=c false)(h2:∀q i,kx (.exit 0) (a,b,q,(a.length:Int),i)=c true)(k:Nat)(hk:a.length<k) :
  Aq (λrec=>Y1 rec kx) k (a,b,false,(a.length:Int),0)=c (decide (a=b)):=by
 refine(Bh a.length (λi=>(a,b,false,(a.length:Int),(i:Int))) (λi=>c (decide (a.drop i=b.drop i))) (λi hi rec hr =>?_) (λrec =>?_) k 0 (Nat.zero_le _) (by omega)).trans (by rw[Zq1,Zq1])
 ·have hi2:i<b.length:=by omega
  simp only[Y1,Dw hi,Ah,A1 hi,A1 hi2,chk,A0 (c :=.str) hi,A0 (c :=.str) hi2,Ay hi hn,hr,h1,Au hi,Au hi2,Zd2];by_cases hx:a[i]=b[i]
  ·rw[Ze1 hx];simp[hx]
  ·rw[Zd1 hx];simp[hx]
 ·simp only[Y1,Dv,Al,h2];rw[Zk1 (Zn1 _),Zk1 (by omega)];rfl
theorem Bf4:FO 186 [.sl .str false,.sl .str false] [.bool] Azd :=.fin 0 Bcw λ(a,b) r hb hx=>⟨a.length+1,by
 simp only[Azd,Za1] at hx;rw[<-hx];simp only[Akd,A85];by_cases he:a.length=b.length
 ·rw[Ze1 (show(a.length:Int)=(b.length:Int) by omega),Zt1,Al];exact A6t (c:=some) hb.1.1 he (λ_=>rfl) (λ_ _=>rfl) (a.length+1) (by omega)
 ·rw[Zd1 (show ¬(a.length:Int)=(b.length:Int) by omega),Zd1 (λh=>he (by rw[h]))];rfl⟩
def Akz:Sig:=⟨26,[(0,.sl .bool false),(1,.sl .bool false),(4,.bool),(12,.int .i64),(13,.int .i64)],[],[],0,0,0,[],[]⟩
abbrev Yh:=List Bool×List Bool×Bool×Int×Int
def Zt{R:Type}(rec:Yh->Option R)(kx:Ex->Yh->Option R)(v:Yh):Option R:=match v with
 |(v,v1,v2,v3,v4) =>
 cond (decide (v4<v3)) (
  chk (inb v4 v.length) (
  chk (inb v4 v1.length) (
   cond (!decide ((at' .bool v v4)=(at' .bool v1 v4))) (
   kx .ret (v,v1,false,v3,v4)) (
   rec (v,v1,v2,v3,(wr .i64 (v4+1))))))) (
  kx (.exit 0) (v,v1,v2,v3,v4))
def A1h(R:Type)(k:Nat):Px R:=pxO [] [] [(4,Ao k Akz (Zt))] []
def Alb(k:Nat)(x:HV [.sl .bool false,.sl .bool false]):Option (HV [.bool]):=match x with
 |(a,b) =>
 cond (!decide ((a.length:Int)=(b.length:Int))) (
  some false) (
  Aq (λrec=>Zt rec (λe vz=>match vz with|(_,_,v7,_,_)=>match e with
  |.ret =>some v7
  |.exit 0 =>some true
  |_=>none)) k (a,b,false,(a.length:Int),0))
theorem Bdb(k:Nat):FO 187 [.sl .bool false,.sl .bool false] [.bool] (Alb k):=fR (px:=A1h _ k) (n:=1) Tryz.func187 rfl (λcx H=>by have h0:Lv cx (A1h (HV [.bool]) k):=lv H Ae Aa Ab;have hlaeqb_0:=lO H h0 (b:=lp Tryz.f187 0) (k:=k) (n:=0) (s:=Akz) (step:=Zt) (λ_ _ _ (_,_,_,_,_)=>by kernel_rfl) Ai;exact⟨h0,(Bc Ai hlaeqb_0)⟩) λ(_,_)=>by kernel_rfl
def Bel(a b:List Bool):Bool:=decide (a=b)
def Av5:FT [.sl .bool false,.sl .bool false] [.bool]:=λx=>some (Bel x.1 x.2)
theorem A2p{R:Type}{kx:Ex->Yh->Option R}{a b:List Bool}{c:Bool->Option R}(hn:ln a.length)(he:a.length=b.length)(h1:∀i,kx .ret (a,b,false,(a.length:Int),i)=c false)(h2:∀q i,kx (.exit 0) (a,b,q,(a.length:Int),i)=c true)(k:Nat)(hk:a.length<k) :
  Aq (λrec=>Zt rec kx) k (a,b,false,(a.length:Int),0)=c (decide (a=b)):=by
 refine(Bh a.length (λi=>(a,b,false,(a.length:Int),(i:Int))) (λi=>c (decide (a.drop i=b.drop i))) (λi hi rec hr =>?_) (λrec =>?_) k 0 (Nat.zero_le _) (by omega)).trans (by rw[Zq1,Zq1])
 ·have hi2:i<b.length:=by omega
  simp only[Zt,Dw hi,Ah,A1 hi,A1 hi2,chk,A0 (c :=.bool) hi,A0 (c :=.bool) hi2,Ay hi hn,hr,h1,Au hi,Au hi2,Zd2];by_cases hx:a[i]=b[i]
  ·rw[Ze1 hx];simp[hx]
  ·rw[Zd1 hx];simp[hx]
 ·simp only[Zt,Dv,Al,h2];rw[Zk1 (Zn1 _),Zk1 (by omega)];rfl
theorem Bf9:FO 187 [.sl .bool false,.sl .bool false] [.bool] Av5 :=.fin 0 Bdb λ(a,b) r hb hx=>⟨a.length+1,by
 simp only[Av5,Za1] at hx;rw[<-hx];simp only[Alb,Bel];by_cases he:a.length=b.length
 ·rw[Ze1 (show(a.length:Int)=(b.length:Int) by omega),Zt1,Al];exact A2p (c:=some) hb.1.1 he (λ_=>rfl) (λ_ _=>rfl) (a.length+1) (by omega)
 ·rw[Zd1 (show ¬(a.length:Int)=(b.length:Int) by omega),Zd1 (λh=>he (by rw[h]))];rfl⟩
instance:DecidableEq SetE:=λa b=>decidable_of_iff (a.name=b.name/\a.e=b.e) (by cases a;cases b;simp)
def Apm(a b:SetE):Bool:=decide (a.name=b.name)&&F6 a.e b.e
theorem Aqq(a b:SetE):Apm a b=decide (a=b):=by cases a;cases b;simp only[Apm,Ie,SetE.mk.injEq,Bool.decide_and]
def Ae7(a b:Stm):Bool:=decide (a.kind=b.kind)&&decide (a.name=b.name)&&decide (a.on=b.on)&&decide (a.has=b.has)&&decide (a.most=b.most)&&decide (a.whr=b.whr)&&(decide (a.cols=b.cols)&&decide (a.names=b.names)&&decide (a.order=b.order)&&decide (a.desc=b.desc)&&decide (a.l=b.l))&&decide (a.rows=b.rows)&&decide (a.sets=b.sets)
theorem Amk(a b:Stm):Ae7 a b=true↔a=b:=by
 cases a;cases b;simp only[Ae7,Zb1,Zg1,Stm.mk.injEq];constructor
 ·rintro⟨⟨⟨⟨⟨⟨⟨⟨h1,h2⟩,h3⟩,h4⟩,h5⟩,h6⟩,⟨⟨⟨h7,h8⟩,h9⟩,h10⟩,h11⟩,h12⟩,h13⟩;exact⟨h1,h2,h3,h7,h8,h11,h12,h13,h4,h6,h9,h10,h5⟩
 ·rintro⟨h1,h2,h3,h7,h8,h11,h12,h13,h4,h6,h9,h10,h5⟩;exact⟨⟨⟨⟨⟨⟨⟨⟨h1,h2⟩,h3⟩,h4⟩,h5⟩,h6⟩,⟨⟨⟨h7,h8⟩,h9⟩,h10⟩,h11⟩,h12⟩,h13⟩
def Abn:Sig:=⟨32,[(1,.sl .set false),(6,.bool),(15,.sl .set false),(16,.int .i64),(17,.int .i64)],[(2,.fn 192 [])],[],40,40,600,[],[]⟩
abbrev My:=List SetE×Bool×List SetE×Int×Int
def K7{R:Type}(rec:My->Option R)(kx:Ex->My->Option R)(v:My):Option R:=match v with
 |(b,f,c,d,a) =>
 cond (decide (a<d)) (
  chk (inb a c.length) (
  chk (inb a b.length) (
   cond (decide (((at' .set c a).name)=((at' .set b a).name))) (
   cond (!(N9 (H1 ((at' .set c a).e)) (H1 ((at' .set b a).e)))) (
    kx .ret (b,false,c,d,a)) (
    rec (b,f,c,d,(wr .i64 (a+1))))) (
   kx .ret (b,false,c,d,a))))) (
  kx (.exit 0) (b,f,c,d,a))
def Acm:Sig:=⟨32,[(1,.sl .expr false),(6,.bool),(15,.sl .expr false),(16,.int .i64),(17,.int .i64)],[(2,.fn 184 [])],[(0,.one (.sv .stmt)),(1,.one (.sv .stmt))],120,120,600,[],[]⟩
abbrev Mt:=List Xpr×Bool×List Xpr×Int×Int×Stm×Stm
def Ku{R:Type}(rec:Mt->Option R)(kx:Ex->Mt->Option R)(v:Mt):Option R:=match v with
 |(b,e,c,d,a,w4,w5) =>
 cond (decide (a<d)) (
  chk (inb a c.length) (
  chk (inb a b.length) (
   cond (!(N9 (at' .expr c a) (at' .expr b a))) (
   kx .ret (b,false,c,d,a,w4,w5)) (
   rec (b,e,c,d,(wr .i64 (a+1)),w4,w5))))) (
  kx (.exit 0) (b,e,c,d,a,w4,w5))
def Abf:Sig:=⟨32,[(1,.sl .exprs false),(6,.bool),(15,.sl .exprs false),(16,.int .i64),(17,.int .i64)],[(2,.fn 190 [])],[(0,.one (.sv .stmt)),(1,.one (.sv .stmt))],40,40,400,[],[]⟩
abbrev Mm:=List (List Xpr)×Bool×List (List Xpr)×Int×Int×Stm×Stm
def L4{R:Type}(k:Nat)(rec:Mm->Option R)(kx:Ex->Mm->Option R)(v:Mm):Option R:=match v with
 |(c,f,b,d,a,w2,w3) =>
 cond (decide (a<d)) (
  chk (inb a b.length) (
  chk (inb a c.length) (
   cond (!decide (((at' .exprs b a).length:Int)=((at' .exprs c a).length:Int))) (
   kx .ret (c,false,b,d,a,w2,w3)) (
   Aq (λrc=>Ku rc (λe vz=>match vz with|(_,i,_,_,_,g,h)=>match e with
    |.ret =>
    cond (!i) (
     kx .ret (c,false,b,d,a,g,h)) (
     rec (c,f,b,d,(wr .i64 (a+1)),g,h))
    |.exit 0 =>
    rec (c,f,b,d,(wr .i64 (a+1)),g,h)
    |_=>none)) k ((at' .exprs c a),false,(at' .exprs b a),((at' .exprs b a).length:Int),0,w2,w3))))) (
  kx (.exit 0) (c,f,b,d,a,w2,w3))
def Aax:Sig:=⟨32,[(1,.sl .expr false),(6,.bool),(15,.sl .expr false),(16,.int .i64),(17,.int .i64)],[(2,.fn 184 [])],[(0,.one (.sv .stmt)),(1,.one (.sv .stmt))],40,40,200,[],[]⟩
abbrev Nb:=List Xpr×Bool×List Xpr×Int×Int×Stm×Stm
def L3{R:Type}(rec:Nb->Option R)(kx:Ex->Nb->Option R)(v:Nb):Option R:=match v with
 |(v,v1,v2,v3,v4,w,w1) =>
 cond (decide (v4<v3)) (
  chk (inb v4 v2.length) (
  chk (inb v4 v.length) (
   cond (!(N9 (at' .expr v2 v4) (at' .expr v v4))) (
   kx .ret (v,false,v2,v3,v4,w,w1)) (
   rec (v,v1,v2,v3,(wr .i64 (v4+1)),w,w1))))) (
  kx (.exit 0) (v,v1,v2,v3,v4,w,w1))
def Ab7(R:Type)(k:Nat):Px R:=pxO [(184,cA Q7)] [] [(4,Ao k Aax (L3))] []
def Nu(R:Type)(k:Nat):Px R:=pxO [(184,cA Q7)] [] [(4,Ao k Acm (Ku))] []
noncomputable def T3(R:Type)(k:Nat):Px R:=pxO [(188,Aw 120 600 (Nu R k) Tryz.f188)] [] [] []
noncomputable def Abs(R:Type)(k:Nat):Px R:=pxO [(190,Aw 80 600 (T3 R k) Tryz.f190)] [] [(4,Ao k Abf (L4 k))] []
def Tu(R:Type)(_k:Nat):Px R:=pxO [(184,cA Q7)] [] [] []
noncomputable def Ach(R:Type)(k:Nat):Px R:=pxO [(192,Aw 80 800 (Tu R k) Tryz.f192)] [] [(4,Ao k Abn (K7))] []
noncomputable def Aj6(R:Type)(k:Nat):Px R:=pxO [(184,cA Q7),(185,cA Ay1),(186,cA Azd),(187,cA Av5),(188,Aw 40 200 (Ab7 R k) Tryz.f188),(189,Aw 40 400 (Abs R k) Tryz.f189),(191,Aw 40 600 (Ach R k) Tryz.f191)] [] [] []
def Og(k:Nat)(x:HV [.sv .stmt,.sv .stmt]):Option (HV [.bool]):=match x with
 |(a,b) =>
 let j9:=λ(p6:Bool) =>
  let j8:=λ(m:Bool) (q6:Stm) (q7:Stm) =>
  let j7:=λ(n:Bool) =>
   let j6:=λ(o:Bool) (c:Stm) (d:Stm) =>
   cond (o) (
    cond (!decide ((c.sets.length:Int)=(d.sets.length:Int))) (
    some false) (
    Aq (λrec=>K7 rec (λe vz=>match vz with|(_,q,_,_,_)=>match e with
     |.ret =>
     some q
     |.exit 0 =>
     some true
     |_=>none)) k (d.sets,false,c.sets,(c.sets.length:Int),0))) (
    some false)
   cond (n) (
   cond (!decide ((q6.rows.length:Int)=(q7.rows.length:Int))) (
    j6 false q6 q7) (
    Aq (λrec=>L4 k rec (λe vz=>match vz with|(_,r,_,_,_,f,g)=>match e with
    |.ret =>j6 r f g
    |.exit 0 =>j6 true f g
    |_=>none)) k (q7.rows,false,q6.rows,(q6.rows.length:Int),0,q6,q7))) (
   j6 false q6 q7)
  cond (p6) (
   j7 m) (
   j7 false)
  let j5:=λ(p7:Bool) =>
  let j4:=λ(p8:Bool) =>
   let j3:=λ(p9:Bool) =>
   cond (p9) (
    cond (!decide ((a.l.length:Int)=(b.l.length:Int))) (
    j8 false a b) (
    Aq (λrec=>L3 rec (λe vz=>match vz with|(_,v6,_,_,_,h,i)=>match e with
     |.ret =>
     j8 v6 h i
     |.exit 0 =>
     j8 true h i
     |_=>none)) k (b.l,false,a.l,(a.l.length:Int),0,a,b))) (
    j8 false a b)
   cond (p8) (
   j3 (Bel a.desc b.desc)) (
   j3 false)
  cond (p7) (
   j4 (A85 a.order b.order)) (
   j4 false)
  cond ((Bdw a.cols b.cols)) (
  j5 (A85 a.names b.names)) (
  j5 false)
 let j2:=λ(p:Bool) =>
  let j1:=λ(p1:Bool) =>
  let j:=λ(p2:Bool) =>
   cond (p2) (
   cond (decide (a.most=b.most)) (
    j9 (N9 (H1 a.whr) (H1 b.whr))) (
    j9 false)) (
   j9 false)
  cond (p1) (
   j (decide (a.has=b.has))) (
   j false)
  cond (p) (
  j1 (decide (a.on=b.on))) (
  j1 false)
 cond (decide (a.kind=b.kind)) (
  j2 (decide (a.name=b.name))) (
  j2 false)
theorem Ay4(k:Nat):FO 114 [.sv .stmt,.sv .stmt] [.bool] (Og k):=fR (px:=Aj6 _ k) (n:=0) Tryz.func114 rfl (λcx H=>by have h1:Lv cx (Ab7 (HV [.bool]) k):=lv H (c1 H Pm Ae) Aa Ab;have hlastmts_0:=lO H h1 (b:=lp Tryz.f188 0) (k:=k) (n:=0) (s:=Aax) (step:=L3) (λ_ _ _ (_,_,_,_,_,_,_)=>by kernel_rfl) Ai;have h4:Lv cx (Nu (HV [.bool]) k):=lv H (c1 H Pm Ae) Aa Ab;have hlastmts_2:=lO H h4 (b:=lp Tryz.f188 0) (k:=k) (n:=0) (s:=Acm) (step:=Ku) (λ_ _ _ (_,_,_,_,_,_,_)=>by kernel_rfl) Ai;have h3:Lv cx (T3 (HV [.bool]) k):=lv H (An (cR H h4 Tryz.func188 rfl (n:=1) ((Bc Ai hlastmts_2))) Ae) Aa Ab;have h2:Lv cx (Abs (HV [.bool]) k):=lv H (An (cR H h3 Tryz.func190 rfl (n:=0) (Ai)) Ae) Aa Ab;have hlastmts_1:=lO H h2 (b:=lp Tryz.f189 0) (k:=k) (n:=0) (s:=Abf) (step:=L4 k) (λ_ _ _ (_,_,_,_,_,_,_)=>by kernel_rfl) Ai;have h6:Lv cx (Tu (HV [.bool]) k):=lv H (c1 H Pm Ae) Aa Ab;have h5:Lv cx (Ach (HV [.bool]) k):=lv H (An (cR H h6 Tryz.func192 rfl (n:=0) (Ai)) Ae) Aa Ab;have hlastmts_3:=lO H h5 (b:=lp Tryz.f191 0) (k:=k) (n:=0) (s:=Abn) (step:=K7) (λ_ _ _ (_,_,_,_,_)=>by kernel_rfl) Ai;have h0:Lv cx (Aj6 (HV [.bool]) k):=lv H (c1 H Pm (c1 H Bfv (c1 H Bf4 (c1 H Bf9 (An (cR H h1 Tryz.func188 rfl (n:=1) ((Bc Ai hlastmts_0))) (An (cR H h2 Tryz.func189 rfl (n:=1) ((Bc Ai hlastmts_1))) (An (cR H h5 Tryz.func191 rfl (n:=1) ((Bc Ai hlastmts_3))) Ae))))))) Aa Ab;exact⟨h0,Ai⟩) λ(_,_)=>by kernel_rfl
def Avk(a b:Stm):Bool:=Ae7 a b
def Ar9:FT [.sv .stmt,.sv .stmt] [.bool]:=λx=>some (Avk x.1 x.2)
theorem Wl{α:Type}[DecidableEq α](x y : α)(l m:List α):decide (x::l=y::m)=(decide (x=y)&&decide (l=m)):=by simp only[Zd2,Bool.decide_and]
theorem Aja{R:Type}{kx:Ex->Nb->Option R}{l m:List Xpr}{s t:Stm}{c:Bool->Option R}(hn:ln l.length)(hm:l.length=m.length)
  (h1:∀i,kx .ret (m,false,l,(l.length:Int),i,s,t)=c false) (h2:∀q i,kx (.exit 0) (m,q,l,(l.length:Int),i,s,t)=c true) (k:Nat) (hk:l.length<k):Aq (λrec=>L3 rec kx) k (m,false,l,(l.length:Int),0,s,t)=c (decide (l=m)):=by
 refine(Bh l.length (λi=>(m,false,l,(l.length:Int),(i:Int),s,t)) (λi=>c (decide (l.drop i=m.drop i))) (λi hi rec hr =>?_) (λrec =>?_) k 0 (Nat.zero_le _) (by omega)).trans (by rw[Zq1,Zq1])
 ·have hi2:i<m.length:=by omega
  simp only[L3,Dw hi,Ah,A1 hi,A1 hi2,chk,A0 (c :=.expr) hi,A0 (c :=.expr) hi2,Ay hi hn,hr,h1,Au hi,Au hi2,Wl,N9,Ie];cases decide (l[i]=m[i])<;>rfl
 ·simp only[L3,Dv,Al,h2];rw[Zk1 (Zn1 _),Zk1 (by omega)];rfl
theorem Ajh{R:Type}{kx:Ex->Mt->Option R}{l m:List Xpr}{s t:Stm}{c:Bool->Option R}(hn:ln l.length)(hm:l.length=m.length)
  (h1:∀i,kx .ret (m,false,l,(l.length:Int),i,s,t)=c false) (h2:∀q i,kx (.exit 0) (m,q,l,(l.length:Int),i,s,t)=c true) (k:Nat) (hk:l.length<k):Aq (λrec=>Ku rec kx) k (m,false,l,(l.length:Int),0,s,t)=c (decide (l=m)):=by
 refine(Bh l.length (λi=>(m,false,l,(l.length:Int),(i:Int),s,t)) (λi=>c (decide (l.drop i=m.drop i))) (λi hi rec hr =>?_) (λrec =>?_) k 0 (Nat.zero_le _) (by omega)).trans (by rw[Zq1,Zq1])
 ·have hi2:i<m.length:=by omega
  simp only[Ku,Dw hi,Ah,A1 hi,A1 hi2,chk,A0 (c :=.expr) hi,A0 (c :=.expr) hi2,Ay hi hn,hr,h1,Au hi,Au hi2,Wl,N9,Ie];cases decide (l[i]=m[i])<;>rfl
 ·simp only[Ku,Dv,Al,h2];rw[Zk1 (Zn1 _),Zk1 (by omega)];rfl
theorem Ai8{R:Type}{kx:Ex->Mm->Option R}{l m:List (List Xpr)}{s t:Stm}{c:Bool->Option R}(hn:ln l.length)(hm:l.length=m.length)(hr0:∀x,x∈l->ln x.length)(k:Nat)(hkr:∀x,x∈l->List.length x<k)
  (h1:∀i,kx .ret (m,false,l,(l.length:Int),i,s,t)=c false) (h2:∀q i,kx (.exit 0) (m,q,l,(l.length:Int),i,s,t)=c true) (hk:l.length<k):Aq (λrec=>L4 k rec kx) k (m,false,l,(l.length:Int),0,s,t)=c (decide (l=m)):=by
 refine(Bh l.length (λi=>(m,false,l,(l.length:Int),(i:Int),s,t)) (λi=>c (decide (l.drop i=m.drop i))) (λi hi rec hr =>?_) (λrec =>?_) k 0 (Nat.zero_le _) (by omega)).trans (by rw[Zq1,Zq1])
 ·have hi2:i<m.length:=by omega
  simp only[L4,Dw hi,Ah,A1 hi,A1 hi2,chk,A0 (c :=.exprs) hi,A0 (c :=.exprs) hi2,Ay hi hn,Au hi,Au hi2,Wl];by_cases hlen:l[i].length=m[i].length
  ·rw[Ze1 (show(l[i].length:Int)=(m[i].length:Int) by omega),Zt1,Al];rw[Ajh (c:=λb=>cond b (c (decide (l.drop (i+1)=m.drop (i+1)))) (c false)) (hr0 _ (List.getElem_mem hi)) hlen (λ_=>h1 _) (λ_ _=>hr) k (hkr _ (List.getElem_mem hi))];cases decide (l[i]=m[i])<;>rfl
  ·rw[Zd1 (show ¬(l[i].length:Int)=(m[i].length:Int) by omega),Zd1 (λh=>hlen (by rw[h])),h1];rfl
 ·simp only[L4,Dv,Al,h2];rw[Zk1 (Zn1 _),Zk1 (by omega)];rfl
theorem Ajc{R:Type}{kx:Ex->My->Option R}{l m:List SetE}{c:Bool->Option R}(hn:ln l.length)(hm:l.length=m.length)
  (h1:∀i,kx .ret (m,false,l,(l.length:Int),i)=c false) (h2:∀q i,kx (.exit 0) (m,q,l,(l.length:Int),i)=c true) (k:Nat) (hk:l.length<k):Aq (λrec=>K7 rec kx) k (m,false,l,(l.length:Int),0)=c (decide (l=m)):=by
 refine(Bh l.length (λi=>(m,false,l,(l.length:Int),(i:Int))) (λi=>c (decide (l.drop i=m.drop i))) (λi hi rec hr =>?_) (λrec =>?_) k 0 (Nat.zero_le _) (by omega)).trans (by rw[Zq1,Zq1])
 ·have hi2:i<m.length:=by omega
  simp only[K7,Dw hi,Ah,A1 hi,A1 hi2,chk,A0 (c :=.set) hi,A0 (c :=.set) hi2,Ay hi hn,hr,h1,Au hi,Au hi2,Wl,N9,<-Aqq,Apm,G2];cases decide (l[i].name=m[i].name)<;>cases F6 l[i].e m[i].e<;>rfl
 ·simp only[K7,Dv,Al,h2];rw[Zk1 (Zn1 _),Zk1 (by omega)];rfl
theorem Aok{α:Type}[DecidableEq α]{l m:List α}(h:¬l.length=m.length):decide (l=m)=false:=Zd1 λe=>h (by rw[e])
def Bfq(s:Stm):Nat:=s.l.length+s.rows.length+s.sets.length+(s.rows.map List.length).sum
theorem Azn{l:List (List Xpr)}{x:List Xpr}(h:x∈l):x.length<=(l.map List.length).sum:=by
 induction l with
 |nil=>cases h
 |cons y l ih =>
  simp only[Zw1,List.sum_cons];rcases List.mem_cons.1 h with rfl|h
  ·omega
  ·have:=ih h;omega
theorem Bcx(k:Nat)(a b:Stm)(hb:BdStm a)(hk:Bfq a<k):Og k (a,b)=some (Ae7 a b):=by
 have hk2:=hk;simp only[Bfq] at hk2;simp -zeta only [Og,N9,Ie,G2,Bdw,A85,Bel];extract_lets j6 j9 j j1 j2;have h6:∀q,j6 q a b=some (q&&decide (a.sets=b.sets)):=λq=>by
  simp -zeta only [j6];cases q with
  |false=>rfl
  |true =>
   rw[Ah,Bool.true_and];by_cases hs:a.sets.length=b.sets.length
   ·rw[Ze1 (show(a.sets.length:Int)=(b.sets.length:Int) by omega),Zt1,Al];exact Ajc (c:=some) hb.sets.1 hs (λ_=>rfl) (λ_ _=>rfl) k (by omega)
   ·rw[Zd1 (show ¬(a.sets.length:Int)=(b.sets.length:Int) by omega),Aok hs];rfl
 have h9:∀p,j9 p=some (p&&(decide (a.cols=b.cols)&&decide (a.names=b.names)&&decide (a.order=b.order)&&decide (a.desc=b.desc)&&decide (a.l=b.l))&&decide (a.rows=b.rows)&&decide (a.sets=b.sets)):=λp=>by
  simp -zeta only [j9];extract_lets j8 j3 j4 j5;have h8:∀q,j8 q a b=some (p&&q&&decide (a.rows=b.rows)&&decide (a.sets=b.sets)):=λq=>by
   simp -zeta only [j8];extract_lets j7;have h7:∀q,j7 q=some (q&&decide (a.rows=b.rows)&&decide (a.sets=b.sets)):=λq=>by
    simp -zeta only [j7];cases q with
    |false=>exact(h6 false).trans rfl
    |true =>
     rw[Ah,Bool.true_and];by_cases hs:a.rows.length=b.rows.length
     ·rw[Ze1 (show(a.rows.length:Int)=(b.rows.length:Int) by omega),Zt1,Al];refine(Ai8 (c:=λq=>j6 q a b) hb.rows.1 hs (λx hx=>(hb.rows.2 x hx).1) k (λx hx=>by have:=Azn hx;omega) (λ_=>rfl) (λ_ _=>rfl) (by omega)).trans (h6 _)
     ·rw[Zd1 (show ¬(a.rows.length:Int)=(b.rows.length:Int) by omega),Aok hs];exact(h6 false).trans rfl
   cases p with|false=>exact(h7 false).trans rfl|true=>exact(h7 q).trans (by rw[Bool.true_and])
  have h3:∀q,j3 q=some (p&&(q&&decide (a.l=b.l))&&decide (a.rows=b.rows)&&decide (a.sets=b.sets)):=λq=>by
   simp -zeta only [j3];cases q with
   |false=>exact h8 false
   |true =>
    rw[Ah,Bool.true_and];by_cases hs:a.l.length=b.l.length
    ·rw[Ze1 (show(a.l.length:Int)=(b.l.length:Int) by omega),Zt1,Al];exact(Aja (c:=λq=>j8 q a b) hb.l.1 hs (λ_=>rfl) (λ_ _=>rfl) k (by omega)).trans (h8 _)
    ·rw[Zd1 (show ¬(a.l.length:Int)=(b.l.length:Int) by omega),Aok hs];exact h8 false
  have h4:∀q,j4 q=some (p&&(q&&decide (a.desc=b.desc)&&decide (a.l=b.l))&&decide (a.rows=b.rows)&&decide (a.sets=b.sets)):=λq=>by simp -zeta only [j4];cases q with|false=>exact h3 false|true=>exact(h3 _).trans (by rw[Bool.true_and])
  have h5:∀q,j5 q=some (p&&(q&&decide (a.order=b.order)&&decide (a.desc=b.desc)&&decide (a.l=b.l))&&decide (a.rows=b.rows)&&decide (a.sets=b.sets)):=λq=>by simp -zeta only [j5];cases q with|false=>exact h4 false|true=>exact(h4 _).trans (by rw[Bool.true_and])
  cases decide (a.cols=b.cols) with|false=>exact h5 false|true=>exact(h5 _).trans (by simp only[Bool.true_and])
 simp -zeta only [j2,j1,j,Ae7];cases decide (a.kind=b.kind) with
 |false=>exact(h9 false).trans rfl
 |true =>
  cases decide (a.name=b.name) with
  |false=>exact(h9 false).trans rfl
  |true =>
   cases decide (a.on=b.on) with
   |false=>exact(h9 false).trans rfl
   |true =>
    cases decide (a.has=b.has) with
    |false=>exact(h9 false).trans rfl
    |true =>cases decide (a.most=b.most) with|false=>exact(h9 false).trans rfl|true=>exact(h9 _).trans (by simp only[Bool.true_and])
theorem A59:FO 114 [.sv .stmt,.sv .stmt] [.bool] Ar9 :=.fin 0 Ay4 λ(a,b) r hb hx=>⟨Bfq a+1,(Bcx (Bfq a+1) a b hb.1 (by omega)).trans hx⟩
instance:DecidableEq Stm:=λa b=>decidable_of_iff (Ae7 a b=true) (Amk a b)
theorem A6q(a b:Stm):Ae7 a b=decide (a=b):=by rw[Bool.eq_iff_iff,Amk,Zg1]
def Bca(R:Type):Px R:=pxO [] [] [] []
def Vi(x:HV [.int .i64]):Option (HV [.bool]):=match x with
 |n =>
 cond (decide (1<=n)) (
  some (decide (n<=100))) (
  some false)
theorem A26:FO 117 [.int .i64] [.bool] (Vi):=fR (px:=Bca _) (n:=0) Tryz.func117 rfl (λ_ H=>⟨lv H Ae Aa Ab,Ai⟩) λ_=>by kernel_rfl
def Cy(n:Int):Bool :=
 cond (decide (1<=n)) (
  (decide (n<=100))) (
  false)
theorem A5m(x:HV [.int .i64]):Vi x=some (Cy x):=by
 first
  |exact rfl
  |simp only[Vi,Cy,Az]
def Wx:FT [.int .i64] [.bool]:=λx=>some (Cy x)
theorem W6:FO 117 [.int .i64] [.bool] Wx :=.fin0 A26 λx _ _ hx=>(A5m x).trans hx
def Aee:Sig:=⟨26,[(0,.sl .str false),(2,.bool),(5,.sl .str false),(6,.int .i64),(7,.int .i64)],[],[],0,0,0,[],[]⟩
abbrev Ru:=List Str×Bool×List Str×Int×Int
def Sl{R:Type}(rec:Ru->Option R)(kx:Ex->Ru->Option R)(v:Ru):Option R:=match v with
 |(v,v1,v2,v3,v4) =>
 cond (decide (v4<v3)) (
  chk (inb v4 v2.length) (
  cond (!(F2 (at' .str v2 v4))) (
   kx .ret (v,false,v2,v3,v4)) (
   chk (E4 0 v4 v.length) (
   cond ((Atq (v.take (v4:Int).toNat) (at' .str v2 v4))) (
    kx .ret (v,false,v2,v3,v4)) (
    rec (v,v1,v2,v3,(wr .i64 (v4+1)))))))) (
  kx (.exit 0) (v,v1,v2,v3,v4))
def Auz(R:Type)(k:Nat):Px R:=pxO [(113,cA Mv),(41,cA Ax3)] [] [(2,Ao k Aee (Sl))] []
def Ahf(k:Nat)(x:HV [.sl .str false]):Option (HV [.bool]):=match x with
 |l =>
 Aq (λrec=>Sl rec (λe vz=>match vz with|(v5,v6,_,_,_)=>match e with
  |.ret =>
  some v6
  |.exit 0 =>
  some (decide ((v5.length:Int)<=100))
  |_=>none)) k (l,false,l,(l.length:Int),0)
theorem A6k(k:Nat):FO 118 [.sl .str false] [.bool] (Ahf k):=fR (px:=Auz _ k) (n:=1) Tryz.func118 rfl (λcx H=>by have h0:Lv cx (Auz (HV [.bool]) k):=lv H (c1 H P5 (c1 H A0h Ae)) Aa Ab;have hlaonce_0:=lO H h0 (b:=lp Tryz.f118 0) (k:=k) (n:=0) (s:=Aee) (step:=Sl) (λ_ _ _ (_,_,_,_,_)=>by kernel_rfl) Ai;exact⟨h0,(Bc Ai hlaonce_0)⟩) λ_=>by kernel_rfl
def Ani:List Str->List Str->Bool
 |_,[]=>true
 |seen,s::r=>F2 s && !seen.contains s&&Ani (seen++[s]) r
def Dx(l:List Str):Bool:=Ani [] l&&decide (l.length<=100)
def Wt:FT [.sl .str false] [.bool]:=λx=>some (Dx x)
theorem Axz{l:List Str}{i:Nat}(hi:i<l.length):l.take (i+1)=l.take i++[l[i]]:=by rw[List.take_add_one,Zo1 hi];rfl
theorem Ay5{R:Type}{kx:Ex->Ru->Option R}{l:List Str}{c:Bool->Option R}(hn:ln l.length)(h1:∀i,kx .ret (l,false,l,(l.length:Int),i)=c false)(h2:∀q i,kx (.exit 0) (l,q,l,(l.length:Int),i)=c true)(k:Nat)(hk:l.length<k) :
  Aq (λrec=>Sl rec kx) k (l,false,l,(l.length:Int),0)=c (Ani [] l):=by
 refine(Bh l.length (λi=>(l,false,l,(l.length:Int),(i:Int))) (λi=>c (Ani (l.take i) (l.drop i))) (λi hi rec hr =>?_) (λrec =>?_) k 0 (Nat.zero_le _) (by omega)).trans (by rw[Zq1,List.take_zero])
 ·have hu:E4 0 (i:Int) l.length=true:=by simp[E4];omega
  simp only[Sl,Dw hi,Ah,A1 hi,chk,A0 (c :=.str) hi,Ay hi hn,hr,h1,Au hi,Ani,hu,Int.toNat_natCast,A1b,Axz hi];cases F2 l[i]<;>cases (l.take i).contains l[i]<;>rfl
 ·simp only[Sl,Dv,Al,h2];rw[Zk1 (Zn1 _)];rfl
theorem Ah4:FO 118 [.sl .str false] [.bool] Wt :=.fin 0 A6k λl r hb hx=>⟨l.length+1,by simp only[Wt,Za1] at hx;rw[<-hx];simp only[Ahf];refine(Ay5 (l:=l) (c:=λb=>cond b (some (decide ((l.length:Int)<=100))) (some false)) hb.1 (λ_=>rfl) (λ_ _=>rfl) (l.length+1) (by omega)).trans ?_;rw[show decide ((l.length:Int)<=100)=decide (l.length<=100) from Zy1.2 (by omega),Dx];cases Ani [] l<;>rfl⟩
def Acl:Sig:=⟨19,[(0,.sl .expr false),(4,.int .i64),(7,.int .i64),(8,.int .i64)],[(1,.fn 194 [])],[],80,80,400,[],[]⟩
abbrev Mz:=List Xpr×Int×Int×Int
def Li{R:Type}(rec:Mz->Option R)(kx:Ex->Mz->Option R)(v:Mz):Option R:=match v with
 |(v,v1,v2,v3) =>
 cond (decide (v3<v2)) (
  chk (inb v3 v.length) (
  cond (!(Cp (at' .expr v v3) 30)) (
   kx .ret (v,v3,v2,v3)) (
   rec (v,v1,v2,(wr .i64 (v3+1)))))) (
  kx (.exit 0) (v,v1,v2,v3))
def Nw(R:Type)(_k:Nat):Px R:=pxO [(168,cA N7)] [] [] []
noncomputable def Tb(R:Type)(k:Nat):Px R:=pxO [(194,Aw 120 600 (Nw R k) Tryz.f194)] [] [(2,Ao k Acl (Li))] []
noncomputable def Aa8(R:Type)(k:Nat):Px R:=pxO [(237,Aw 80 400 (Tb R k) Tryz.f237)] [] [] []
noncomputable def Ak5(R:Type)(k:Nat):Px R:=pxO [(193,Aw 40 200 (Aa8 R k) Tryz.f193)] [] [] []
def Ab8(k:Nat)(x:HV [.sl .expr false]):Option (HV [.bool]):=match x with
 |l =>
 cond (decide ((l.length:Int)<=100)) (
  Aq (λrec=>Li rec (λe vz=>match vz with|(_,v5,_,_)=>match e with
  |.ret =>some (!(decide (0<=v5)))
  |.exit 0 =>some true
  |_=>none)) k (l,0,(l.length:Int),0)) (
  some false)
theorem Ax7(k:Nat):FO 119 [.sl .expr false] [.bool] (Ab8 k):=fR (px:=Ak5 _ k) (n:=0) Tryz.func119 rfl (λcx H=>by have h3:Lv cx (Nw (HV [.bool]) k):=lv H (c1 H Rm Ae) Aa Ab;have h2:Lv cx (Tb (HV [.bool]) k):=lv H (An (cR H h3 Tryz.func194 rfl (n:=0) (Ai)) Ae) Aa Ab;have hlaexprs_0:=lO H h2 (b:=lp Tryz.f237 0) (k:=k) (n:=0) (s:=Acl) (step:=Li) (λ_ _ _ (_,_,_,_)=>by kernel_rfl) Ai;have h1:Lv cx (Aa8 (HV [.bool]) k):=lv H (An (cR H h2 Tryz.func237 rfl (n:=1) ((Bc Ai hlaexprs_0))) Ae) Aa Ab;have h0:Lv cx (Ak5 (HV [.bool]) k):=lv H (An (cR H h1 Tryz.func193 rfl (n:=0) (Ai)) Ae) Aa Ab;exact⟨h0,Ai⟩) λ_=>by kernel_rfl
def Kk(l:List Xpr):Bool:=decide (l.length<=100)&&l.all λe=>Cp e 30
def Yd:FT [.sl .expr false] [.bool]:=λx=>some (Kk x)
theorem Aq2{R:Type}{kx:Ex->Mz->Option R}{l:List Xpr}{c:Bool->Option R}(hn:ln l.length)(h1:∀i:Nat,kx .ret (l,(i:Int),(l.length:Int),(i:Int))=c false)(h2:∀q i,kx (.exit 0) (l,q,(l.length:Int),i)=c true)(k:Nat)(hk:l.length<k) :
  Aq (λrec=>Li rec kx) k (l,0,(l.length:Int),0)=c (l.all λe=>Cp e 30):=by
 refine(Bh l.length (λi=>(l,(0:Int),(l.length:Int),(i:Int))) (λi=>c ((l.drop i).all λe=>Cp e 30)) (λi hi rec hr =>?_) (λrec =>?_) k 0 (Nat.zero_le _) (by omega)).trans (by rw[Zq1])
 ·simp only[Li,Dw hi,Ah,A1 hi,chk,A0 (c :=.expr) hi,Ay hi hn,hr,h1,Au hi,Zv1];cases Cp l[i] 30<;>rfl
 ·simp only[Li,Dv,Al,h2];rw[Zk1 (Zn1 _)];rfl
theorem Ajq:FO 119 [.sl .expr false] [.bool] Yd :=.fin 0 Ax7 λl r hb hx=>⟨l.length+1,by
 simp only[Yd,Za1] at hx;rw[<-hx];simp only[Ab8,Kk];rw[show decide ((l.length:Int)<=100)=decide (l.length<=100) from Zy1.2 (by omega)];cases decide (l.length<=100) with
 |false=>rfl
 |true =>rw[Ah,Bool.true_and];exact Aq2 (l:=l) (c:=some) hb.1 (λi=>by simp) (λ_ _=>rfl) (l.length+1) (by omega)⟩
def Ag2:Sig:=⟨19,[(0,.sl .exprs false),(4,.int .i64),(7,.int .i64),(8,.int .i64)],[(1,.fn 196 [])],[],80,80,400,[],[]⟩
abbrev Rj:=List (List Xpr)×Int×Int×Int
def Ri{R:Type}(rec:Rj->Option R)(kx:Ex->Rj->Option R)(v:Rj):Option R:=match v with
 |(v,v1,v2,v3) =>
 cond (decide (v3<v2)) (
  chk (inb v3 v.length) (
  cond (decide (((at' .exprs v v3).length:Int)=0)) (
   kx .ret (v,v3,v2,v3)) (
   cond (!(Kk (at' .exprs v v3))) (
   kx .ret (v,v3,v2,v3)) (
   rec (v,v1,v2,(wr .i64 (v3+1))))))) (
  kx (.exit 0) (v,v1,v2,v3))
def O4(R:Type)(_k:Nat):Px R:=pxO [(119,cA Yd)] [] [] []
noncomputable def V4(R:Type)(k:Nat):Px R:=pxO [(196,Aw 120 600 (O4 R k) Tryz.f196)] [] [(2,Ao k Ag2 (Ri))] []
noncomputable def Ad3(R:Type)(k:Nat):Px R:=pxO [(238,Aw 80 400 (V4 R k) Tryz.f238)] [] [] []
noncomputable def Atg(R:Type)(k:Nat):Px R:=pxO [(117,cA Wx),(195,Aw 40 200 (Ad3 R k) Tryz.f195)] [] [] []
def Aeb(k:Nat)(x:HV [.sl .exprs false]):Option (HV [.bool]):=match x with
 |l =>
 cond ((Cy (l.length:Int))) (
  Aq (λrec=>Ri rec (λe vz=>match vz with|(_,v5,_,_)=>match e with
  |.ret =>some (!(decide (0<=v5)))
  |.exit 0 =>some true
  |_=>none)) k (l,0,(l.length:Int),0)) (
  some false)
theorem A63(k:Nat):FO 120 [.sl .exprs false] [.bool] (Aeb k):=fR (px:=Atg _ k) (n:=0) Tryz.func120 rfl (λcx H=>by have h3:Lv cx (O4 (HV [.bool]) k):=lv H (c1 H Ajq Ae) Aa Ab;have h2:Lv cx (V4 (HV [.bool]) k):=lv H (An (cR H h3 Tryz.func196 rfl (n:=0) (Ai)) Ae) Aa Ab;have hlarows_0:=lO H h2 (b:=lp Tryz.f238 0) (k:=k) (n:=0) (s:=Ag2) (step:=Ri) (λ_ _ _ (_,_,_,_)=>by kernel_rfl) Ai;have h1:Lv cx (Ad3 (HV [.bool]) k):=lv H (An (cR H h2 Tryz.func238 rfl (n:=1) ((Bc Ai hlarows_0))) Ae) Aa Ab;have h0:Lv cx (Atg (HV [.bool]) k):=lv H (c1 H W6 (An (cR H h1 Tryz.func195 rfl (n:=0) (Ai)) Ae)) Aa Ab;exact⟨h0,Ai⟩) λ_=>by kernel_rfl
def A0n(r:List Xpr):Bool := !decide (r.length=0)&&Kk r
def Aqy(l:List (List Xpr)):Bool:=Cy (l.length:Int)&&l.all A0n
def Ap9:FT [.sl .exprs false] [.bool]:=λx=>some (Aqy x)
theorem Ayc{R:Type}{kx:Ex->Rj->Option R}{l:List (List Xpr)}{c:Bool->Option R}(hn:ln l.length)(h1:∀i:Nat,kx .ret (l,(i:Int),(l.length:Int),(i:Int))=c false)(h2:∀q i,kx (.exit 0) (l,q,(l.length:Int),i)=c true)(k:Nat)(hk:l.length<k) :
  Aq (λrec=>Ri rec kx) k (l,0,(l.length:Int),0)=c (l.all A0n):=by
 refine(Bh l.length (λi=>(l,(0:Int),(l.length:Int),(i:Int))) (λi=>c ((l.drop i).all A0n)) (λi hi rec hr =>?_) (λrec =>?_) k 0 (Nat.zero_le _) (by omega)).trans (by rw[Zq1])
 ·simp only[Ri,Dw hi,Ah,A1 hi,chk,A0 (c :=.exprs) hi,Ay hi hn,hr,h1,Au hi,Zv1,A0n];rw[show decide ((l[i].length:Int)=0)=decide (l[i].length=0) from Zy1.2 (by omega)];cases decide (l[i].length=0)<;>cases Kk l[i]<;>rfl
 ·simp only[Ri,Dv,Al,h2];rw[Zk1 (Zn1 _)];rfl
theorem Bc9:FO 120 [.sl .exprs false] [.bool] Ap9 :=.fin 0 A63 λl r hb hx=>⟨l.length+1,by
 simp only[Ap9,Za1] at hx;rw[<-hx];simp only[Aeb,Aqy];cases Cy (l.length:Int) with
 |false=>rfl
 |true =>rw[Ah,Bool.true_and];exact Ayc (l:=l) (c:=some) hb.1 (λi=>by simp) (λ_ _=>rfl) (l.length+1) (by omega)⟩
def Bbx(R:Type):Px R:=pxO [(184,cA Q7)] [] [] []
def Uf(x:HV [.sv .expr]):Option (HV [.bool]):=match x with
 |e =>
 some (N9 e (Xpr.mk 0 ⟨0,0,[]⟩ [] []))
theorem A5i:FO 197 [.sv .expr] [.bool] (Uf):=fR (px:=Bbx _) (n:=0) Tryz.func197 rfl (λ_ H=>⟨lv H (c1 H Pm Ae) Aa Ab,Ai⟩) λ_=>by kernel_rfl
def Aum(e:Xpr):Bool :=(N9 e (Xpr.mk 0 ⟨0,0,[]⟩ [] []))
theorem A5h(x:HV [.sv .expr]):Uf x=some (Aum x):=by
 first
  |exact rfl
  |simp only[Uf,Aum,Az]
def A2d:FT [.sv .expr] [.bool]:=λx=>some (Aum x)
theorem A7w:FO 197 [.sv .expr] [.bool] A2d :=.fin0 A5i λx _ _ hx=>(A5h x).trans hx
def A3p(R:Type):Px R:=pxO [(197,cA A2d),(168,cA N7)] [] [] []
def O0(x:HV [.sv .stmt]):Option (HV [.bool]):=match x with
 |s =>
 cond (!s.has) (
  some (Aum (H1 s.whr))) (
  some (Cp (H1 s.whr) 30))
theorem Ayk:FO 122 [.sv .stmt] [.bool] (O0):=fR (px:=A3p _) (n:=0) Tryz.func122 rfl (λ_ H=>⟨lv H (c1 H A7w (c1 H Rm Ae)) Aa Ab,Ai⟩) λ_=>by kernel_rfl
def Km(s:Stm):Bool :=
 cond (!s.has) (
  (Aum (H1 s.whr))) (
  (Cp (H1 s.whr) 30))
theorem Awl(x:HV [.sv .stmt]):O0 x=some (Km x):=by
 first
  |exact rfl
  |simp only[O0,Km,Az]
def Att:FT [.sv .stmt] [.bool]:=λx=>some (Km x)
theorem A4o:FO 122 [.sv .stmt] [.bool] Att :=.fin0 Ayk λx _ _ hx=>(Awl x).trans hx
def Aeu:Sig:=⟨44,[(0,.sl .col false),(2,.bool),(3,.sl .str true),(6,.sl .col false),(7,.int .i64),(8,.int .i64)],[],[],0,0,0,[],[]⟩
abbrev Rr:=List Col×Bool×List Str×List Col×Int×Int
def Qp{R:Type}(rec:Rr->Option R)(kx:Ex->Rr->Option R)(v:Rr):Option R:=match v with
 |(v,v1,v2,v3,v4,v5) =>
 cond (decide (v5<v4)) (
  chk (inb v5 v3.length) (
  let j:=λ(p:Bool) =>
   cond (p) (
   kx .ret (v,false,v2,v3,v4,v5)) (
   cond (!decide (((at' .col v3 v5).ref)=[])) (
    cond (!(F2 ((at' .col v3 v5).ref))) (
    kx .ret (v,false,v2,v3,v4,v5)) (
    chk (decide (v2.length+1<=Av)) (
     rec (v,v1,(v2++[((at' .col v3 v5).name)]),v3,v4,(wr .i64 (v5+1)))))) (
    chk (decide (v2.length+1<=Av)) (
    rec (v,v1,(v2++[((at' .col v3 v5).name)]),v3,v4,(wr .i64 (v5+1))))))
  cond (decide ((at' .col v3 v5).kind<2)) (
   j true) (
   j (decide (5<(at' .col v3 v5).kind))))) (
  kx (.exit 0) (v,v1,v2,v3,v4,v5))
def As7(R:Type)(k:Nat):Px R:=pxO [(113,cA Mv),(117,cA Wx),(118,cA Wt)] [] [(3,Ao k Aeu (Qp))] []
def Ahx(k:Nat)(x:HV [.sl .col false]):Option (HV [.bool]):=match x with
 |l =>
 Aq (λrec=>Qp rec (λe vz=>match vz with|(v6,v7,v8,_,_,_)=>match e with
  |.ret =>
  some v7
  |.exit 0 =>
  cond ((Cy (v6.length:Int))) (
   some (Dx v8)) (
   some false)
  |_=>none)) k (l,false,[],l,(l.length:Int),0)
theorem A3c(k:Nat):FO 116 [.sl .col false] [.bool] (Ahx k):=fR (px:=As7 _ k) (n:=1) Tryz.func116 rfl (λcx H=>by have h0:Lv cx (As7 (HV [.bool]) k):=lv H (c1 H P5 (c1 H W6 (c1 H Ah4 Ae))) Aa Ab;have hlacols_0:=lO H h0 (b:=lp Tryz.f116 0) (k:=k) (n:=0) (s:=Aeu) (step:=Qp) (λ_ _ _ (_,_,_,_,_,_)=>by kernel_rfl) Ai;exact⟨h0,(Bc Ai hlacols_0)⟩) λ_=>by kernel_rfl
def Ah1(c:Col):Bool:=decide (2<=c.kind)&&decide (c.kind<=5)&&(decide (c.ref=[])||F2 c.ref)
def A0f(l:List Col):Option Bool:=if l.length<=1000000 then some (l.all Ah1&&Cy (l.length:Int)&&Dx (l.map (·.name))) else none
def Ao9:FT [.sl .col false] [.bool]:=λx=>A0f x
theorem Avd{R:Type}{kx:Ex->Rr->Option R}{l:List Col}{c:Bool->Option R}(hn:l.length<=1000000)(h1:∀o i,kx .ret (l,false,o,l,(l.length:Int),i)=c false)(h2:∀q o i,kx (.exit 0) (l,q,o,l,(l.length:Int),i)=cond (Cy (l.length:Int)) (c (Dx o)) (c false))(k:Nat)(hk:l.length<k) :
  Aq (λrec=>Qp rec kx) k (l,false,[],l,(l.length:Int),0)=c (l.all Ah1&&Cy (l.length:Int)&&Dx (l.map (·.name))):=by
 have hl:ln l.length:=by simp only[ln];omega
 refine(Bh l.length (λi=>(l,false,(l.take i).map (·.name),l,(l.length:Int),(i:Int))) (λi=>c ((l.drop i).all Ah1&&Cy (l.length:Int)&&Dx (l.map (·.name)))) (λi hi rec hr =>?_) (λrec =>?_) k 0 (Nat.zero_le _) (by omega)).trans (by rw[Zq1])
 ·have ht:(l.take (i+1)).map (·.name)=(l.take i).map (·.name)++[l[i].name]:=by rw[List.take_add_one,Zo1 hi,List.map_append];rfl
  have hlen:((l.take i).map (·.name)).length+1<=Av:=by simp only[List.length_map,List.length_take,Av];omega
  rw[ht] at hr;simp only[Qp,Dw hi,Ah,A1 hi,chk,A0 (c :=.col) hi,Ay hi hl,hr,h1,Au hi,Zv1,Ah1,Ze1 hlen];by_cases ha:l[i].kind<2
  ·rw[Ze1 ha,Zd1 (show ¬ 2<=l[i].kind by omega)];rfl
  ·rw[Zd1 ha,Ze1 (show 2<=l[i].kind by omega)];by_cases hb : 5<l[i].kind
   ·rw[Ze1 hb,Zd1 (show ¬l[i].kind<=5 by omega)];rfl
   ·rw[Zd1 hb,Ze1 (show l[i].kind<=5 by omega)];cases decide (l[i].ref=[])<;>cases F2 l[i].ref<;>rfl
 ·simp only[Qp,Dv,Al,h2];rw[Zk1 (Zn1 _),List.take_length];cases Cy (l.length:Int)<;>rfl
theorem A99:FO 116 [.sl .col false] [.bool] Ao9 :=.fin 0 A3c λl r hb hx=>⟨l.length+1,by
 simp only[Ao9,A0f] at hx;split at hx
 ·rename_i h;rw[<-hx];simp only[Ahx];refine Avd (l:=l) (c:=some) h (λ_ _=>rfl) (λ_ _ _ =>?_) (l.length+1) (by omega);cases Cy (l.length:Int)<;>rfl
 ·cases hx⟩
def Ahh:Sig:=⟨29,[(0,.sl .set false),(2,.bool),(3,.sl .str true),(6,.sl .set false),(7,.int .i64),(8,.int .i64)],[],[],0,0,0,[],[]⟩
abbrev Qy:=List SetE×Bool×List Str×List SetE×Int×Int
def R3{R:Type}(rec:Qy->Option R)(kx:Ex->Qy->Option R)(v:Qy):Option R:=match v with
 |(v,v1,v2,v3,v4,v5) =>
 cond (decide (v5<v4)) (
  chk (inb v5 v3.length) (
  cond (!(Cp (H1 ((at' .set v3 v5).e)) 30)) (
   kx .ret (v,false,v2,v3,v4,v5)) (
   chk (decide (v2.length+1<=Av)) (
   rec (v,v1,(v2++[((at' .set v3 v5).name)]),v3,v4,(wr .i64 (v5+1))))))) (
  kx (.exit 0) (v,v1,v2,v3,v4,v5))
def Auc(R:Type)(k:Nat):Px R:=pxO [(168,cA N7),(117,cA Wx),(118,cA Wt)] [] [(3,Ao k Ahh (R3))] []
def Afu(k:Nat)(x:HV [.sl .set false]):Option (HV [.bool]):=match x with
 |l =>
 Aq (λrec=>R3 rec (λe vz=>match vz with|(v6,v7,v8,_,_,_)=>match e with
  |.ret =>
  some v7
  |.exit 0 =>
  cond ((Cy (v6.length:Int))) (
   some (Dx v8)) (
   some false)
  |_=>none)) k (l,false,[],l,(l.length:Int),0)
theorem A3m(k:Nat):FO 121 [.sl .set false] [.bool] (Afu k):=fR (px:=Auc _ k) (n:=1) Tryz.func121 rfl (λcx H=>by have h0:Lv cx (Auc (HV [.bool]) k):=lv H (c1 H Rm (c1 H W6 (c1 H Ah4 Ae))) Aa Ab;have hlasets_0:=lO H h0 (b:=lp Tryz.f121 0) (k:=k) (n:=0) (s:=Ahh) (step:=R3) (λ_ _ _ (_,_,_,_,_,_)=>by kernel_rfl) Ai;exact⟨h0,(Bc Ai hlasets_0)⟩) λ_=>by kernel_rfl
def A04(l:List SetE):Option Bool:=if l.length<=1000000 then some (l.all (λx=>Cp x.e 30)&&Cy (l.length:Int)&&Dx (l.map (·.name))) else none
def Aog:FT [.sl .set false] [.bool]:=λx=>A04 x
theorem Ax0{R:Type}{kx:Ex->Qy->Option R}{l:List SetE}{c:Bool->Option R}(hn:l.length<=1000000)(h1:∀o i,kx .ret (l,false,o,l,(l.length:Int),i)=c false)(h2:∀q o i,kx (.exit 0) (l,q,o,l,(l.length:Int),i)=cond (Cy (l.length:Int)) (c (Dx o)) (c false))(k:Nat)(hk:l.length<k) :
  Aq (λrec=>R3 rec kx) k (l,false,[],l,(l.length:Int),0)=c (l.all (λx=>Cp x.e 30)&&Cy (l.length:Int)&&Dx (l.map (·.name))):=by
 have hl:ln l.length:=by simp only[ln];omega
 refine(Bh l.length (λi=>(l,false,(l.take i).map (·.name),l,(l.length:Int),(i:Int))) (λi=>c ((l.drop i).all (λx=>Cp x.e 30)&&Cy (l.length:Int)&&Dx (l.map (·.name)))) (λi hi rec hr =>?_) (λrec =>?_) k 0 (Nat.zero_le _) (by omega)).trans (by rw[Zq1])
 ·have ht:(l.take (i+1)).map (·.name)=(l.take i).map (·.name)++[l[i].name]:=by rw[List.take_add_one,Zo1 hi,List.map_append];rfl
  have hlen:((l.take i).map (·.name)).length+1<=Av:=by simp only[List.length_map,List.length_take,Av];omega
  rw[ht] at hr;simp only[R3,Dw hi,Ah,A1 hi,chk,A0 (c :=.set) hi,Ay hi hl,hr,h1,Au hi,Zv1,Ze1 hlen,G2];cases Cp l[i].e 30<;>rfl
 ·simp only[R3,Dv,Al,h2];rw[Zk1 (Zn1 _),List.take_length];cases Cy (l.length:Int)<;>rfl
theorem Bbo:FO 121 [.sl .set false] [.bool] Aog :=.fin 0 A3m λl r hb hx=>⟨l.length+1,by
 simp only[Aog,A04] at hx;split at hx
 ·rename_i h;rw[<-hx];simp only[Afu];refine Ax0 (l:=l) (c:=some) h (λ_ _=>rfl) (λ_ _ _ =>?_) (l.length+1) (by omega);cases Cy (l.length:Int)<;>rfl
 ·cases hx⟩
def noX:Xpr :=.mk 0 ⟨0,0,[]⟩ [] []
def noS:Stm:=⟨0,[],[],[],[],[],[],[],false,noX,[],[],0⟩
def Bbj(R:Type):Px R:=pxO [] [] [] []
def Ai4(x:HV [.sv .stmt]):Option (HV [.sv .stmt]):=match x with
 |s =>
 cond (decide (s.kind=1)) (
  some (Stm.mk 0 [] s.on [] [] [] s.rows s.sets s.has (H1 s.whr) s.order s.desc s.most)) (
  cond (decide (s.kind=3)) (
  some (Stm.mk 0 [] [] s.cols [] s.l s.rows s.sets s.has (H1 s.whr) s.order s.desc s.most)) (
  cond (decide (s.kind=5)) (
   some (Stm.mk 0 [] s.on s.cols s.names s.l [] s.sets s.has (H1 s.whr) s.order s.desc s.most)) (
   cond (decide (s.kind=6)) (
   some (Stm.mk 0 [] s.on s.cols s.names s.l s.rows [] false (Xpr.mk 0 ⟨0,0,[]⟩ [] []) s.order s.desc s.most)) (
   cond (decide (s.kind=7)) (
    some (Stm.mk 0 [] s.on s.cols s.names s.l s.rows s.sets false (Xpr.mk 0 ⟨0,0,[]⟩ [] []) s.order s.desc s.most)) (
    cond (decide (s.kind=8)) (
    some (Stm.mk 0 [] s.on s.cols s.names [] s.rows s.sets false (Xpr.mk 0 ⟨0,0,[]⟩ [] []) [] [] 0)) (
    some (Stm.mk 0 [] s.on s.cols s.names s.l s.rows s.sets s.has (H1 s.whr) s.order s.desc s.most)))))))
theorem A4y:FO 115 [.sv .stmt] [.sv .stmt] (Ai4):=fR (px:=Bbj _) (n:=0) Tryz.func115 rfl (λ_ H=>⟨lv H Ae Aa Ab,Ai⟩) λ_=>by kernel_rfl
def Aa3(s:Stm):Stm :=
 if s.kind=1 then { s with kind:=0,name:=[],cols:=[],names:=[],l:=[] }
 else if s.kind=3 then { s with kind:=0,name:=[],on:=[],names:=[] }
 else if s.kind=5 then { s with kind:=0,name:=[],rows:=[] }
 else if s.kind=6 then { s with kind:=0,name:=[],sets:=[],has:=false,whr:=noX }
 else if s.kind=7 then { s with kind:=0,name:=[],has:=false,whr:=noX }
 else if s.kind=8 then { s with kind:=0,name:=[],l:=[],has:=false,whr:=noX,order:=[],desc:=[],most:=0 }
 else { s with kind:=0,name:=[] }
def An4:FT [.sv .stmt] [.sv .stmt]:=λx=>some (Aa3 x)
theorem A7s:FO 115 [.sv .stmt] [.sv .stmt] An4 :=.fin0 A4y λs r hb hx=>by
 simp only[An4,Za1] at hx;rw[<-hx];simp only[Ai4,Aa3,G2,Bool.cond_decide];split; · rfl
 split; · rfl
 split; · rfl
 split; · rfl
 split; · rfl
 split<;>rfl
def A27(R:Type):Px R:=pxO [(113,cA Mv),(115,cA An4),(114,cA Ar9),(116,cA Ao9),(117,cA Wx),(118,cA Wt),(119,cA Yd),(120,cA Ap9),(121,cA Aog),(122,cA Att)] [] [] []
def Aaz(x:HV [.sv .stmt]):Option (HV [.int .i64]):=match x with
 |s =>
 let j7:=λ(p1:Bool) =>
  cond (decide (s.kind=1)) (
  let j1:=λ(p2:Bool) =>
   let j:=λ(p3:Bool) =>
   cond (p3) (
    cond ((Dx s.names)) (
    cond (!(Kk s.l)) (
     some 2) (
     some 0)) (
    some 2)) (
    some 2)
   cond (p2) (
   j (Cy (s.names.length:Int))) (
   j false)
  cond (p1) (
   (A0f s.cols).bind λx =>
   j1 x) (
   j1 false)) (
  cond (decide (s.kind=3)) (
   let j2:=λ(p7:Bool) =>
   cond (p7) (
    cond ((Cy (s.names.length:Int))) (
    cond (!(Dx s.names)) (
     some 2) (
     some 0)) (
    some 2)) (
    some 2)
   cond (p1) (
   j2 (F2 s.on)) (
   j2 false)) (
   let j6:=λ(a:Bool) =>
   cond (a) (
    cond (!p1) (
    some 2) (
    some 0)) (
    cond (decide (s.kind=5)) (
    cond (p1) (
     cond (!(Aqy s.rows)) (
     some 2) (
     some 0)) (
     some 2)) (
    cond (decide (s.kind=6)) (
     cond (p1) (
     (A04 s.sets).bind λx1 =>
      cond (x1) (
      cond (!(Km s)) (
       some 2) (
       some 0)) (
      some 2)) (
     some 2)) (
     cond (decide (s.kind=7)) (
     cond (p1) (
      cond (!(Km s)) (
      some 2) (
      some 0)) (
      some 2)) (
     cond (decide (s.kind=8)) (
      let j5:=λ(b:Bool) =>
      let j4:=λ(c:Bool) =>
       let j3:=λ(d:Bool) =>
       cond (d) (
        cond (decide ((s.desc.length:Int)=(s.order.length:Int))) (
        cond (!(decide ((-1)<=s.most))) (
         some 2) (
         some 0)) (
        some 2)) (
        some 2)
       cond (c) (
       j3 (Dx s.order)) (
       j3 false)
      cond (b) (
       j4 (Km s)) (
       j4 false)
      cond (p1) (
      j5 (Kk s.l)) (
      j5 false)) (
      some 2)))))
   cond (decide (s.kind=2)) (
   j6 (decide (s.kind=2))) (
   j6 (decide (s.kind=4)))))
 cond ((F2 s.name)) (
  j7 (Avk (Aa3 s) (Stm.mk 0 [] [] [] [] [] [] [] false (Xpr.mk 0 ⟨0,0,[]⟩ [] []) [] [] 0))) (
  j7 false)
theorem Au9:FO 53 [.sv .stmt] [.int .i64] (Aaz):=fR (px:=A27 _) (n:=0) Tryz.func53 rfl (λ_ H=>⟨lv H (c1 H P5 (c1 H A7s (c1 H A59 (c1 H A99 (c1 H W6 (c1 H Ah4 (c1 H Ajq (c1 H Bc9 (c1 H Bbo (c1 H A4o Ae)))))))))) Aa Ab,Ai⟩) λ_=>by kernel_rfl
def Ev(s:Stm):Bool:=F2 s.name&&decide (Aa3 s=noS)&&(
 if s.kind=1 then s.cols.all Ah1&&Cy (s.cols.length:Int)&&Dx (s.cols.map (·.name))&&Cy (s.names.length:Int)&&Dx s.names&&Kk s.l
 else if s.kind=3 then F2 s.on&&Cy (s.names.length:Int)&&Dx s.names
 else if s.kind=2\/s.kind=4 then true
 else if s.kind=5 then Aqy s.rows
 else if s.kind=6 then s.sets.all (λx=>Cp x.e 30)&&Cy (s.sets.length:Int)&&Dx (s.sets.map (·.name))&&Km s
 else if s.kind=7 then Km s
 else if s.kind=8 then Kk s.l&&Km s&&Dx s.order&&decide (s.desc.length=s.order.length)&&decide (-1<=s.most)
 else false)
def I5(s:Stm):Option Int:=if s.cols.length<=1000000/\s.sets.length<=1000000 then some (cond (Ev s) 0 2) else none
def Kx:FT [.sv .stmt] [.int .i64]:=λx=>I5 x
theorem Ql:FO 53 [.sv .stmt] [.int .i64] Kx :=.fin0 Au9 λs r hb hx=>by
 simp only[Kx,I5] at hx;split at hx
 case isFalse=>cases hx
 rename_i h;rw[<-hx];have e1:A0f s.cols=some (s.cols.all Ah1&&Cy (s.cols.length:Int)&&Dx (s.cols.map (·.name))):=if_pos h.1;have e2:A04 s.sets=some (s.sets.all (λx=>Cp x.e 30)&&Cy (s.sets.length:Int)&&Dx (s.sets.map (·.name))):=if_pos h.2;have e3:Avk (Aa3 s) (Stm.mk 0 [] [] [] [] [] [] [] false (Xpr.mk 0 ⟨0,0,[]⟩ [] []) [] [] 0)=decide (Aa3 s=noS):=A6q _ _;have e4:decide ((s.desc.length:Int)=(s.order.length:Int))=decide (s.desc.length=s.order.length):=Zy1.2 (by omega);simp only[Aaz,Ev,e1,e2,e3,e4,Zc1];generalize F2 s.name=A;generalize decide (Aa3 s=noS)=B;generalize (s.cols.all Ah1&&Cy (s.cols.length:Int)&&Dx (s.cols.map (·.name)))=C;generalize Cy (s.names.length:Int)=D;generalize Dx s.names=E;generalize Kk s.l=F;generalize F2 s.on=G;generalize Aqy s.rows=H;generalize (s.sets.all (λx=>Cp x.e 30)&&Cy (s.sets.length:Int)&&Dx (s.sets.map (·.name)))=I;generalize Km s=J;generalize Dx s.order=K;generalize decide (s.desc.length=s.order.length)=L;generalize decide (-1<=s.most)=M;by_cases h1:s.kind=1
 ·rw[Ze1 h1,if_pos h1];cases A<;>cases B<;>cases C<;>cases D<;>cases E<;>cases F<;>rfl
 rw[Zd1 h1,if_neg h1];by_cases h3:s.kind=3
 ·rw[Ze1 h3,if_pos h3];cases A<;>cases B<;>cases G<;>cases D<;>cases E<;>rfl
 rw[Zd1 h3,if_neg h3];by_cases h24:s.kind=2\/s.kind=4
 ·rw[if_pos h24];rcases h24 with h2|h2
  ·rw[Ze1 h2];cases A<;>cases B<;>rfl
  ·rw[Ze1 h2,Zd1 (show ¬s.kind=2 by omega)];cases A<;>cases B<;>rfl
 rw[if_neg h24,Zd1 (show ¬s.kind=2 by omega),Zd1 (show ¬s.kind=4 by omega)];by_cases h5:s.kind=5
 ·rw[Ze1 h5,if_pos h5];cases A<;>cases B<;>cases H<;>rfl
 rw[Zd1 h5,if_neg h5];by_cases h6:s.kind=6
 ·rw[Ze1 h6,if_pos h6];cases A<;>cases B<;>cases I<;>cases J<;>rfl
 rw[Zd1 h6,if_neg h6];by_cases h7:s.kind=7
 ·rw[Ze1 h7,if_pos h7];cases A<;>cases B<;>cases J<;>rfl
 rw[Zd1 h7,if_neg h7];by_cases h8:s.kind=8
 ·rw[Ze1 h8,if_pos h8];cases A<;>cases B<;>cases F<;>cases J<;>cases K<;>cases L<;>cases M<;>rfl
 rw[Zd1 h8,if_neg h8];cases A<;>cases B<;>rfl
def P7:Sig:=⟨26,[(10,.int .i64),(11,.int .i64)],[(1,.ptr 0 0),(2,.ptr 1 0)],[(0,.oc [.int .i64,.int .i64,.int .i64,.str,.str] 2 .expr),(1,.one (.sv .expr)),(2,.one (.dn .expr))],3,0,0,[],[]⟩
abbrev Fj:=Int×Int×Int×Int×Int×Str×Str×Int×Int×Xpr×List Xpr
def I8{R:Type}(rf:FT [.sv .expr] [.sv .expr])(rec:Fj->Option R)(kx:Ex->Fj->Option R)(v:Fj):Option R:=match v with
 |(v,v1,w,w1,w2,w3,w4,w5,w6,w7,w8) =>
 cond (decide (v1<v)) (
  chk (inO v1 w6) (
  chk (inb (w5+v1) w8.length) (
   (rf (at' .expr w8 (w5+v1))).bind λx =>
   chk (inO v1 w6) (
    chk (inb (w5+v1) w8.length) (
    rec (v,(wr .i64 (v1+1)),w,w1,w2,w3,w4,w5,w6,w7,(w8.set ((w5+v1):Int).toNat x))))))) (
  kx (.exit 0) (v,v1,w,w1,w2,w3,w4,w5,w6,w7,w8))
noncomputable def Aeh(R:Type)(_k:Nat)(rf:FT [.sv .expr] [.sv .expr]):Px R:=pxO [(153,Zg .expr)] [(87,qA rf)] [] []
noncomputable def Re(R:Type)(k:Nat)(rf:FT [.sv .expr] [.sv .expr]):Px R:=pxO [(153,Zg .expr)] [(87,qA rf)] [(3,Aw2 (Aeh R k rf) (lp Tryz.f87 0) k P7 (I8 rf))] []
theorem Ary(R:Type)(k:Nat)(rf:FT [.sv .expr] [.sv .expr]):∀(fr:List Fr) (rec:Fj->Option R) (kx:Ex->Fj->Option R) (v:Fj),Qb (Re R k rf) P7 (lp Tryz.f87 0) fr rec kx v=I8 rf rec kx v
 |fr,rec,kx,(v,v1,w,w1,w2,w3,w4,w5,w6,w7,w8)=>by kernel_rfl
def Hg(k:Nat)(rf:FT [.sv .expr] [.sv .expr])(x:HV [.sv .expr]):Option (HV [.sv .expr]):=match x with
 |e =>
 chk (decide (e.l.length<=1000000)) (
  cond (List.isEmpty e.l) (
  some (Xpr.mk e.kind ⟨e.v.kind,e.v.n,e.v.s⟩ e.name [])) (
  Aq (λrec=>I8 rf rec (λe vz=>match vz with|(_,_,v4,v5,v6,v7,v8,v9,a,_,b)=>match e with
   |.exit 0 =>
   chk (decide ((0:Int)<=v9)&&decide ((0:Int)<=a)&&decide ((v9+a)<=(b.length:Int))) (
    some (Xpr.mk v4 ⟨v5,v6,v7⟩ v8 (cut b v9 (v9+a))))
   |_=>none)) k ((e.l.length:Int),0,e.kind,e.v.kind,e.v.n,e.v.s,e.name,0,(e.l.length:Int),(Xpr.mk 0 ⟨0,0,[]⟩ [] []),e.l)))
theorem Awe(k:Nat)(rf:FT [.sv .expr] [.sv .expr])(hrf:FO 87 [.sv .expr] [.sv .expr] rf):FO 87 [.sv .expr] [.sv .expr] (Hg k rf):=fR (px:=Re _ k rf) (n:=1) Tryz.func87 rfl (λcx H=>by have h0:Lv cx (Re (HV [.sv .expr]) k rf):=lv H (An (cCl H Ac7 Ym) Ae) (q1 H hrf Aa) Ab;have h00:Lv cx (Aeh (HV [.sv .expr]) k rf):=lv H (An (cCl H Ac7 Ym) Ae) (q1 H hrf Aa) Ab;have hlcopied_0:B9 cx (Re (HV [.sv .expr]) k rf) (lp Tryz.f87 0):=Avz h0.p h0.c h0.q (by rw[H.p];exact follows) h00.p h00.c h00.q (λ_ _ _=>rfl) (k:=k) (s:=P7) (step:=I8 rf) (λ_ _=>by kernel_rfl) (by kernel_rfl) (Ary _ k rf) (Iv (n:=0) (by kernel_rfl) Ai);exact⟨h0,(Bc Ai hlcopied_0)⟩) λ_=>by kernel_rfl
def Ahe(e:Xpr):Option Xpr:=cond (decide (Bb e<=1000000)) (some e) none
def Afq:FT [.sv .expr] [.sv .expr]:=λx=>Ahe x
theorem Bfx{i n:Nat}(h:i<n):inO (i:Int) (n:Int)=true:=by simp only[inO,Zb1,Zg1];omega
theorem Arl{R:Type}{rf:FT [.sv .expr] [.sv .expr]}{kx:Ex->Fj->Option R}{a b n:Int}{s nm:Str}{z:Xpr}{l:List Xpr}{c:Option R}(hn:ln l.length)(hrf:∀x,x∈l->rf x=some x)(h2:kx (.exit 0) ((l.length:Int),(l.length:Int),a,b,n,s,nm,0,(l.length:Int),z,l)=c)(k:Nat)(hk:l.length<k) :
  Aq (λrec=>I8 rf rec kx) k ((l.length:Int),0,a,b,n,s,nm,0,(l.length:Int),z,l)=c:=by
 refine Bh l.length (λi=>((l.length:Int),(i:Int),a,b,n,s,nm,0,(l.length:Int),z,l)) (λ_=>c) (λi hi rec hr =>?_) (λrec =>?_) k 0 (Nat.zero_le _) (by omega)
 ·simp only[I8,Dw hi,Ah,Int.zero_add,Bfx hi,A1 hi,chk,A0 (c :=.expr) hi,hrf _ (List.getElem_mem hi),Zc1,Ay hi hn,Int.toNat_natCast,List.set_getElem_self,hr]
 ·simp only[I8,Dv,Al,h2]
theorem Aea(k:Nat):∀(n:Nat) (e:Xpr),BdExpr e->Bb e<=n->Bb e<=k->Bb e<=1000000->Aq (Hg k) n e=some e
 |0,e,_,h,_,_=>by have:=D6 e;omega
 |n+1,e,hb,h,hk,ho=>by
  obtain⟨hb4,hb5⟩:=Xo hb;rw[E5] at h hk ho;have hl:=Ef e.l;have hrf:∀x,x∈e.l->Aq (Hg k) n x=some x:=λx hx=>Aea k n x (hb5 x hx) (by have:=B1 hx;omega) (by have:=B1 hx;omega) (by have:=B1 hx;omega);rw[Bu];simp only[Hg];rw[Ze1 (show e.l.length<=1000000 by omega)];simp only[chk,Ah];cases he:e.l with
  |nil =>simp only[List.isEmpty_nil,Ah];obtain⟨kd,v,nm,l⟩:=e;simp only[Xpr.l] at he;subst he;rfl
  |cons x t =>
   rw[<-he];have:List.isEmpty e.l=false:=by rw[he];rfl
   rw[this];simp only[Al];refine(Arl (c:=some e) hb4 hrf ?_ k (by omega));have h1:(decide ((0:Int)<=0)&&decide ((0:Int)<=(e.l.length:Int))&&decide ((0:Int)+(e.l.length:Int)<=(e.l.length:Int)))=true:=by simp
   simp only[h1,Ah,Apn];cases e;rfl
theorem A4e:FO 87 [.sv .expr] [.sv .expr] Afq:=by refine .fin (ι:=Nat) 0 (F:=λn=>Aq (Hg n) n) (λn=>FnOk.rec' (Sx.enters_of Tryz.func87 rfl rfl) (λrf hrf=>Awe n rf hrf) n) λe r hb hx=>⟨Bb e,?_⟩;simp only[Afq,Ahe] at hx;cases hd:decide (Bb e<=1000000) with|false=>rw[hd] at hx;cases hx|true =>rw[hd] at hx;exact(Aea (Bb e) (Bb e) e hb (Zn1 _) (Zn1 _) (of_decide_eq_true hd)).trans hx
def Alm:Sig:=⟨19,[(0,.sl .col false),(4,.int .i64),(7,.int .i64),(8,.int .i64)],[(1,.fn 215 [.ptr 1 0])],[(1,.cells [.str])],40,40,200,[],[]⟩
abbrev Wy:=List Col×Int×Int×Int×Str
def Yt{R:Type}(rec:Wy->Option R)(kx:Ex->Wy->Option R)(v:Wy):Option R:=match v with
 |(v,v1,v2,v3,w) =>
 cond (decide (v3<v2)) (
  chk (inb v3 v.length) (
  cond (decide (((at' .col v v3).name)=w)) (
   kx .ret (v,v3,v2,v3,w)) (
   rec (v,v1,v2,(wr .i64 (v3+1)),w)))) (
  kx (.exit 0) (v,v1,v2,v3,w))
def Abm(R:Type)(_k:Nat):Px R:=pxO [] [] [] []
noncomputable def Am3(R:Type)(k:Nat):Px R:=pxO [(215,Aw 80 400 (Abm R k) Tryz.f215)] [] [(2,Ao k Alm (Yt))] []
noncomputable def A2l(R:Type)(k:Nat):Px R:=pxO [(214,Aw 40 200 (Am3 R k) Tryz.f214)] [] [] []
def Al4(k:Nat)(x:HV [.sv .tbl,.str]):Option (HV [.int .i64]):=match x with
 |(t,s) =>
 Aq (λrec=>Yt rec (λe vz=>match vz with|(_,v5,_,_,_)=>match e with
  |.ret =>
  some v5
  |.exit 0 =>
  some (-1)
  |_=>none)) k (t.cols,0,(t.cols.length:Int),0,s)
theorem Bci(k:Nat):FO 152 [.sv .tbl,.str] [.int .i64] (Al4 k):=fR (px:=A2l _ k) (n:=0) Tryz.func152 rfl (λcx H=>by have h2:Lv cx (Abm (HV [.int .i64]) k):=lv H Ae Aa Ab;have h1:Lv cx (Am3 (HV [.int .i64]) k):=lv H (An (cR H h2 Tryz.func215 rfl (n:=0) (Ai)) Ae) Aa Ab;have hlscol_0:=lO H h1 (b:=lp Tryz.f214 0) (k:=k) (n:=0) (s:=Alm) (step:=Yt) (λ_ _ _ (_,_,_,_,_)=>by kernel_rfl) Ai;have h0:Lv cx (A2l (HV [.int .i64]) k):=lv H (An (cR H h1 Tryz.func214 rfl (n:=1) ((Bc Ai hlscol_0))) Ae) Aa Ab;exact⟨h0,Ai⟩) λ(_,_)=>by kernel_rfl
def Bfr(t:Tbl)(s:Str):Int:=H4 t.cols s
def Ay2:FT [.sv .tbl,.str] [.int .i64]:=λx=>some (Bfr x.1 x.2)
theorem A6d{R:Type}{kx:Ex->Wy->Option R}{s:Str}{cols:List Col}{g:Int->Option R}(hn:ln cols.length)(h1:∀i:Nat,kx .ret (cols,(i:Int),(cols.length:Int),(i:Int),s)=g i)(h2:kx (.exit 0) (cols,0,(cols.length:Int),(cols.length:Int),s)=g (-1))(k:Nat)(hk:cols.length<k) :
  Aq (λrec=>Yt rec kx) k (cols,0,(cols.length:Int),0,s)=g (H4 cols s):=by
 refine(Bh cols.length (λi=>(cols,0,(cols.length:Int),(i:Int),s)) (λi=>g (E8 (cols.drop i) s i)) (λi hi rec hr =>?_) (λrec =>?_) k 0 (Nat.zero_le _) (by omega)).trans (by rw[Zq1];rfl)
 ·simp only[Yt,Dw hi,Ah,A1 hi,chk,A0 (c :=.col) hi,Ay hi hn,hr,h1,Au hi,E8,Bool.cond_decide];split<;>rfl
 ·simp only[Yt,Dv,Al,h2];rw[Zk1 (Zn1 _)];rfl
theorem Bdr:FO 152 [.sv .tbl,.str] [.int .i64] Ay2 :=.fin 0 Bci λ(t,s) r hb hx=>⟨t.cols.length+1,by simp only[Ay2,Za1,Bfr] at hx;simp only[Al4];exact(A6d (g:=some) hb.1.cols.1 (λ_=>rfl) rfl _ (by omega)).trans (congrArg some hx)⟩
def Akl:Sig:=⟨19,[(0,.sl .str false),(4,.int .i64),(7,.int .i64),(8,.int .i64)],[(1,.fn 151 [.ptr 0 0])],[(0,.one (.sv .tbl))],80,80,400,[],[]⟩
abbrev X0:=List Str×Int×Int×Int×Tbl
def Zm{R:Type}(rec:X0->Option R)(kx:Ex->X0->Option R)(v:X0):Option R:=match v with
 |(v,v1,v2,v3,w) =>
 cond (decide (v3<v2)) (
  chk (inb v3 v.length) (
  cond (decide ((Bfr w (at' .str v v3))<0)) (
   kx .ret (v,v3,v2,v3,w)) (
   rec (v,v1,v2,(wr .i64 (v3+1)),w)))) (
  kx (.exit 0) (v,v1,v2,v3,w))
def Te(R:Type)(_k:Nat):Px R:=pxO [(152,cA Ay2)] [] [] []
noncomputable def Aca(R:Type)(k:Nat):Px R:=pxO [(151,Aw 120 600 (Te R k) Tryz.f151)] [] [(2,Ao k Akl (Zm))] []
noncomputable def Al5(R:Type)(k:Nat):Px R:=pxO [(213,Aw 80 400 (Aca R k) Tryz.f213)] [] [] []
noncomputable def A1p(R:Type)(k:Nat):Px R:=pxO [(150,Aw 40 200 (Al5 R k) Tryz.f150)] [] [] []
def Aml(k:Nat)(x:HV [.sv .tbl,.sl .str false]):Option (HV [.bool]):=match x with
 |(t,names) =>
 Aq (λrec=>Zm rec (λe vz=>match vz with|(_,v5,_,_,_)=>match e with
  |.ret =>
  some (!(decide (0<=v5)))
  |.exit 0 =>
  some true
  |_=>none)) k (names,0,(names.length:Int),0,t)
theorem Bcy(k:Nat):FO 85 [.sv .tbl,.sl .str false] [.bool] (Aml k):=fR (px:=A1p _ k) (n:=0) Tryz.func85 rfl (λcx H=>by have h3:Lv cx (Te (HV [.bool]) k):=lv H (c1 H Bdr Ae) Aa Ab;have h2:Lv cx (Aca (HV [.bool]) k):=lv H (An (cR H h3 Tryz.func151 rfl (n:=0) (Ai)) Ae) Aa Ab;have hlsall_0:=lO H h2 (b:=lp Tryz.f213 0) (k:=k) (n:=0) (s:=Akl) (step:=Zm) (λ_ _ _ (_,_,_,_,_)=>by kernel_rfl) Ai;have h1:Lv cx (Al5 (HV [.bool]) k):=lv H (An (cR H h2 Tryz.func213 rfl (n:=1) ((Bc Ai hlsall_0))) Ae) Aa Ab;have h0:Lv cx (A1p (HV [.bool]) k):=lv H (An (cR H h1 Tryz.func150 rfl (n:=0) (Ai)) Ae) Aa Ab;exact⟨h0,Ai⟩) λ(_,_)=>by kernel_rfl
def Nj(t:Tbl)(names:List Str):Bool:=names.all λs => !decide (H4 t.cols s<0)
def Aod:FT [.sv .tbl,.sl .str false] [.bool]:=λx=>some (Nj x.1 x.2)
theorem A6w{R:Type}{kx:Ex->X0->Option R}{t:Tbl}{l:List Str}{a b:Option R}(hn:ln l.length)(h1:∀i:Nat,kx .ret (l,(i:Int),(l.length:Int),(i:Int),t)=a)(h2:kx (.exit 0) (l,0,(l.length:Int),(l.length:Int),t)=b)(k:Nat)(hk:l.length<k) :
  Aq (λrec=>Zm rec kx) k (l,0,(l.length:Int),0,t)=cond (Nj t l) b a:=by
 refine(Bh l.length (λi=>(l,0,(l.length:Int),(i:Int),t)) (λi=>cond (Nj t (l.drop i)) b a) (λi hi rec hr =>?_) (λrec =>?_) k 0 (Nat.zero_le _) (by omega)).trans (by rw[Zq1])
 ·simp only[Zm,Dw hi,Ah,A1 hi,chk,A0 (c :=.str) hi,Ay hi hn,hr,h1,Au hi,Nj,Zv1,Bfr];cases decide (H4 t.cols l[i]<0)<;>rfl
 ·simp only[Zm,Dv,Al,h2];rw[Zk1 (Zn1 _)];rfl
theorem A1y:FO 85 [.sv .tbl,.sl .str false] [.bool] Aod :=.fin 0 Bcy λ(t,l) r hb hx=>⟨l.length+1,by
 simp only[Aod,Za1] at hx;simp only[Aml];refine(A6w (a:=some false) (b:=some true) hb.2.1 (λi =>?_) rfl _ (by omega)).trans ?_
 ·show some (!decide ((0:Int)<=(i:Int)))=some false;rw[Ze1 (by omega)];rfl
 ·rw[<-hx];cases Nj t l<;>rfl⟩
structure LinC {α:Type}(c : α->α->Int):Prop where
 rng:∀x y,c x y = -1\/c x y=0\/c x y=1
 eq:∀x y,c x y=0↔x=y
 anti:∀x y,c y x = -(c x y)
 tr:∀x y z,c x y<=0->c y z<=0->c x z<=0
def Oz(p q:Int):Int:=if p=0 then q else p
theorem Asb{p q:Int}(h:Oz p q<=0):p<=0/\(p=0->q<=0):=by simp only[Oz] at h;split at h<;>omega
theorem Bbb{α β:Type}{c : α->α->Int}{d : β->β->Int}(hc:LinC c){x y z : α}{u v w : β}(hd:d u v<=0->d v w<=0->d u w<=0)(h1:Oz (c x y) (d u v)<=0)(h2:Oz (c y z) (d v w)<=0):Oz (c x z) (d u w)<=0:=by
 obtain⟨a1,a2⟩:=Asb h1;obtain⟨b1,b2⟩:=Asb h2;have t:=hc.tr x y z a1 b1;simp only[Oz];split
 ·rename_i h0;have e:=(hc.eq x z).1 h0;subst e;have an:=hc.anti x y;have p0:c x y=0:=by omega
  have q0:c y x=0:=by omega
  exact hd (a2 p0) (b2 q0)
 ·exact t
def N1{α:Type}(c : α->α->Int):List α->List α->Int
 |[],[]=>0
 |[],_::_ => -1
 |_::_,[]=>1
 |x::a,y::b=>Oz (c x y) (N1 c a b)
theorem Bcd{α:Type}{c : α->α->Int}(hc:LinC c):LinC (N1 c):=by
 refine⟨?_,?_,?_,?_⟩
 ·intro x;induction x with
  |nil=>intro y;cases y<;>simp[N1]
  |cons x a ih =>
   intro y;cases y with
   |nil=>simp[N1]
   |cons y b =>
    simp only[N1,Oz];split
    ·exact ih b
    ·exact hc.rng x y
 ·intro x;induction x with
  |nil=>intro y;cases y<;>simp[N1]
  |cons x a ih =>
   intro y;cases y with
   |nil=>simp[N1]
   |cons y b =>
    simp only[N1,Oz,Zd2];split
    ·rename_i h;rw[ih b];exact⟨λe=>⟨(hc.eq x y).1 h,e⟩,λe=>e.2⟩
    ·rename_i h;exact⟨λe=>absurd e h,λe=>absurd ((hc.eq x y).2 e.1) h⟩
 ·intro x;induction x with
  |nil=>intro y;cases y<;>simp[N1]
  |cons x a ih =>intro y;cases y with|nil=>simp[N1]|cons y b =>have h:=hc.anti x y;have hb:=ih b;simp only[N1,Oz];split<;>split<;>omega
 ·intro x;induction x with
  |nil=>intro y z _ _;cases z<;>simp[N1]
  |cons x a ih =>
   intro y z h1 h2;cases y with
   |nil=>simp[N1] at h1
   |cons y b =>cases z with|nil=>simp[N1] at h2|cons z e =>simp only[N1] at h1 h2 ⊢;exact Bbb hc (λp q=>ih b e p q) h1 h2
theorem sg_lin:LinC Hq:=by
 have e:∀x y,Hq x y=if x<y then -1 else if y<x then 1 else 0:=λx y=>by simp only[Hq,Bool.cond_decide]
 refine⟨λx y =>?_,λx y =>?_,λx y =>?_,λx y z h1 h2 =>?_⟩
 ·rw[e];split
  ·simp
  ·split<;>simp
 ·rw[e];split
  ·simp;omega
  ·split
   ·simp;omega
   ·simp;omega
 ·rw[e,e];split<;>split<;>(try split)<;>omega
 ·rw[e] at h1 h2 ⊢;split at h1
  ·split at h2
   ·rw[if_pos (by omega)];omega
   ·split at h2
    ·omega
    ·rw[if_pos (by omega)];omega
  ·split at h1
   ·omega
   ·split at h2
    ·rw[if_pos (by omega)];omega
    ·split at h2
     ·omega
     ·rw[if_neg (by omega),if_neg (by omega)];omega
def A7t(a b:UInt8):Int:=Hq (a.toNat:Int) (b.toNat:Int)
theorem Bac:LinC A7t:=by
 refine⟨λx y=>sg_lin.rng _ _,λx y =>?_,λx y=>sg_lin.anti _ _,λx y z=>sg_lin.tr _ _ _⟩;simp only[A7t];rw[sg_lin.eq];constructor
 ·intro h;exact UInt8.toNat_inj.1 (by omega)
 ·intro h;rw[h]
theorem Auh:∀a b:Str,Vy a b=N1 A7t a b
 |[],[]=>rfl
 |[],_::_=>rfl
 |_::_,[]=>rfl
 |a::l,b::m=>by
  have ih:=Auh l m;simp only[Vy,Lib.compareBytes] at ih ⊢;simp only[N1,Oz,A7t,Hq,Bool.cond_decide,<-ih];by_cases h1:a<b
  ·have:(a.toNat:Int)<(b.toNat:Int):=by have:=UInt8.lt_iff_toNat_lt.1 h1;omega
   simp[h1,this]
  ·by_cases h2:b<a
   ·have h3:¬(a.toNat:Int)<(b.toNat:Int):=by have:=UInt8.lt_iff_toNat_lt.1 h2;omega
    have h4:(b.toNat:Int)<(a.toNat:Int):=by have:=UInt8.lt_iff_toNat_lt.1 h2;omega
    simp[h1,h2,h3,h4]
   ·have h3:a=b:=UInt8.le_antisymm (UInt8.not_lt.1 h2) (UInt8.not_lt.1 h1);subst h3;simp[h1]
theorem scmp_lin:LinC Vy:=by
 have e:(Vy:Str->Str->Int)=N1 A7t:=by funext a b;exact Auh a b
 rw[e];exact Bcd Bac
def ltN(a b:Str):Bool:=decide (Vy a b<0)
theorem X8(a:Str):ltN a a=false:=by have:=(scmp_lin.eq a a).2 rfl;simp only[ltN,this];rfl
theorem Axl{a b c:Str}(h1:ltN a b=true)(h2:ltN b c=true):ltN a c=true:=by
 simp only[ltN,Zg1] at *;have h3:=scmp_lin.tr a b c (by omega) (by omega);rcases Int.lt_or_eq_of_le h3 with h|h
 ·exact h
 ·have e:=(scmp_lin.eq a c).1 h;subst e;have:=scmp_lin.anti a b;omega
theorem Beg(a b:Str):ltN a b=true\/a=b\/ltN b a=true:=by
 simp only[ltN,Zg1];rcases scmp_lin.rng a b with h|h|h
 ·left;omega
 ·exact .inr (.inl ((scmp_lin.eq a b).1 h))
 ·right;right;have:=scmp_lin.anti a b;omega
theorem A9y{a b:Str}(h:ltN a b=true):ltN b a=false:=by cases hb:ltN b a with|false=>rfl|true=>exact(Bool.false_ne_true ((X8 a).symm.trans (Axl h hb))).elim
theorem Axo{a b:Str}(h:ltN a b=true):a≠b:=λe=>by rw[e,X8] at h;cases h
def A9:List Idx->Bool
 |[]=>true
 |x::l=>l.all (λy=>ltN x.name y.name)&&A9 l
def Cb(l:List Idx)(x:Idx):List Idx:=l.takeWhile (λy=>ltN y.name x.name)++x::l.dropWhile (λy=>ltN y.name x.name)
def D7(l:List Idx)(s:Str):Bool:=l.any λy=>decide (y.name=s)
def D9(l:List Idx)(s:Str):Nat:=(l.takeWhile λy=>ltN y.name s).length
theorem Ap1(l:List Idx)(s:Str):D9 l s<=l.length:=by
 induction l with
 |nil=>simp[D9]
 |cons x l ih =>
  simp only[D9,List.takeWhile_cons] at ih ⊢;split
  ·simp only[Zf1];omega
  ·simp
theorem Xj:∀{l:List Idx}{s:Str},A9 l=true->∀(h:Nat) (hl:h<l.length),ltN l[h].name s=decide (h<D9 l s)
 |[],_,_,h,hl=>by simp at hl
 |x::l,s,hs,h,hl=>by
  simp only[A9,Zb1,Zf2] at hs;have ih:=Xj (l:=l) (s:=s) hs.2;have hp:D9 (x::l) s=if ltN x.name s then D9 l s+1 else 0:=by simp only[D9,List.takeWhile_cons];split<;>simp
  rw[hp];cases hx:ltN x.name s with
  |true =>simp only[if_true];cases h with|zero=>simp[hx]|succ h =>simp only[List.getElem_cons_succ];rw[ih h (by simpa using hl)];simp
  |false =>
   simp only[Zi2,if_false,Zm1,decide_false];cases h with
   |zero=>simpa using hx
   |succ h =>simp only[List.getElem_cons_succ];cases hq:ltN (l[h]'(by simpa using hl)).name s with|false=>rfl|true=>rw[Axl (hs.1 _ (List.getElem_mem _)) hq] at hx;cases hx
theorem M5:∀{l:List Idx},A9 l=true->∀(i j:Nat) (hi:i<l.length) (hj:j<l.length),i<j->ltN l[i].name l[j].name=true
 |[],_,i,j,hi,_,_=>by simp at hi
 |x::l,hs,i,j,hi,hj,hij=>by
  simp only[A9,Zb1,Zf2] at hs;cases j with
  |zero=>omega
  |succ j =>cases i with|zero=>exact hs.1 _ (List.getElem_mem _)|succ i=>exact M5 hs.2 i j (by simpa using hi) (by simpa using hj) (by omega)
theorem Jm{l:List Idx}{s:Str}:D7 l s=true↔∃y,y∈l/\y.name=s:=by simp[D7]
theorem A0k{l:List Idx}{s:Str}(hs:A9 l=true):D7 l s=true↔∃h:D9 l s<l.length,l[D9 l s].name=s:=by
 rw[Jm];constructor
 ·rintro⟨y,hy,e⟩;obtain⟨k,hk,rfl⟩:=List.getElem_of_mem hy;have h1:=Xj (s:=s) hs k hk;rw[e,X8] at h1;have hkp:¬k<D9 l s:=λh=>by rw[Ze1 h] at h1;cases h1
  have hpl:D9 l s<l.length:=by omega
  refine⟨hpl,?_⟩;rcases Nat.lt_or_eq_of_le (Nat.le_of_not_lt hkp) with h|h
  ·have h2:=M5 hs _ k hpl hk h;rw[e] at h2;have h3:=Xj (s:=s) hs _ hpl;rw[h2] at h3;simp at h3
  ·subst h;exact e
 ·rintro⟨h,e⟩;exact⟨_,List.getElem_mem h,e⟩
theorem Baf(l:List Idx)(s:Str):l.take (D9 l s)=l.takeWhile (λy=>ltN y.name s):=by have:=List.takeWhile_append_dropWhile (p:=λy:Idx=>ltN y.name s) (l:=l);have h2:(l.takeWhile (λy=>ltN y.name s)++l.dropWhile (λy=>ltN y.name s)).take (D9 l s)=l.takeWhile (λy=>ltN y.name s):=List.take_left' rfl;rwa[this] at h2
theorem A8p(l:List Idx)(s:Str):l.drop (D9 l s)=l.dropWhile (λy=>ltN y.name s):=by have:=List.takeWhile_append_dropWhile (p:=λy:Idx=>ltN y.name s) (l:=l);have h2:(l.takeWhile (λy=>ltN y.name s)++l.dropWhile (λy=>ltN y.name s)).drop (D9 l s)=l.dropWhile (λy=>ltN y.name s):=List.drop_left' rfl;rwa[this] at h2
theorem W9(l:List Idx)(x:Idx):Cb l x=l.take (D9 l x.name)++x::l.drop (D9 l x.name):=by rw[Baf,A8p,Cb]
theorem Kf{l:List Idx}{x y:Idx}:y∈Cb l x↔y=x\/y∈l:=by
 rw[W9];have:y∈l↔y∈l.take (D9 l x.name)\/y∈l.drop (D9 l x.name):=by rw[<-List.mem_append,List.take_append_drop]
 rw[this];simp only[List.mem_append,List.mem_cons];constructor
 ·rintro(h|h|h)
  ·exact .inr (.inl h)
  ·exact .inl h
  ·exact .inr (.inr h)
 ·rintro(h|h|h)
  ·exact .inr (.inl h)
  ·exact .inl h
  ·exact .inr (.inr h)
theorem Hv(l:List Idx)(x:Idx):(Cb l x).length=l.length+1:=by rw[W9];have:=Ap1 l x.name;simp only[Zh1,List.length_take,Zf1,Za2];omega
theorem Af8:∀{p q:List Idx},A9 p=true->A9 q=true->(∀y,y∈p↔y∈q)->p=q
 |[],[],_,_,_=>rfl
 |[],y::q,_,_,h=>by have:=(h y).2 (by simp);cases this
 |x::p,[],_,_,h=>by have:=(h x).1 (by simp);cases this
 |x::p,y::q,hp,hq,h=>by
  simp only[A9,Zb1,Zf2] at hp hq;have e:x=y:=by
   rcases List.mem_cons.1 ((h x).1 (by simp)) with e|h1
   ·exact e
   ·rcases List.mem_cons.1 ((h y).2 (by simp)) with e|h2
    ·exact e.symm
    ·have:=A9y (hp.1 y h2);rw[hq.1 x h1] at this;cases this
  subst e;rw[Af8 hp.2 hq.2 λz=>⟨λhz =>?_,λhz =>?_⟩]
  ·rcases List.mem_cons.1 ((h z).1 (Zu1 _ hz)) with e|h1
   ·have:=hp.1 z hz;rw[e,X8] at this;cases this
   ·exact h1
  ·rcases List.mem_cons.1 ((h z).2 (Zu1 _ hz)) with e|h1
   ·have:=hq.1 z hz;rw[e,X8] at this;cases this
   ·exact h1
theorem Df:∀{l:List Idx}{x:Idx},A9 l=true->D7 l x.name=false->A9 (Cb l x)=true
 |[],x,_,_=>by simp[Cb,A9]
 |y::l,x,hs,hh=>by
  have hs':=hs;simp only[A9,Zb1,Zf2] at hs';simp only[D7,List.any_cons,Bool.or_eq_false_iff,decide_eq_false_iff_not] at hh;have ih:=Df (l:=l) (x:=x) hs'.2 hh.2;cases hy:ltN y.name x.name with
  |true =>
   have e:Cb (y::l) x=y::Cb l x:=by simp[Cb,hy]
   rw[e];simp only[A9,Zb1,Zf2];refine⟨λz hz =>?_,ih⟩;rcases Kf.1 hz with rfl|hz
   ·exact hy
   ·exact hs'.1 z hz
  |false =>
   have e:Cb (y::l) x=x::y::l:=by simp[Cb,hy]
   have hxy:ltN x.name y.name=true:=by
    rcases Beg x.name y.name with h|h|h
    ·exact h
    ·exact absurd h.symm hh.1
    ·rw[h] at hy;cases hy
   rw[e];simp only[A9,Zb1,Zf2];refine⟨λz hz =>?_,hs'⟩;rcases List.mem_cons.1 hz with rfl|hz
   ·exact hxy
   ·exact Axl hxy (hs'.1 z hz)
theorem Atn:∀{l:List Idx}{x:Idx},(∀y,y∈l->ltN y.name x.name=true)->Cb l x=l++[x]
 |[],x,_=>rfl
 |y::l,x,h=>by
  have hy:=h y (by simp);have e:Cb (y::l) x=y::Cb l x:=by simp[Cb,hy]
  rw[e,Atn λz hz=>h z (by simp[hz])];rfl
theorem S0:∀{p q:List Idx},A9 (p++q)=true->A9 p=true/\∀y z,y∈p->z∈q->ltN y.name z.name=true
 |[],_,_=>⟨rfl,λ_ _ h=>by cases h⟩
 |x::p,q,h=>by
  simp only[Zb2,A9,Zb1,Zf2,List.mem_append] at h;obtain⟨h1,h2⟩:=S0 h.2;refine⟨?_,λy z hy hz =>?_⟩
  ·simp only[A9,Zb1,Zf2];exact⟨λy hy=>h.1 y (.inl hy),h1⟩
  ·rcases List.mem_cons.1 hy with rfl|hy
   ·exact h.1 z (.inr hz)
   ·exact h2 y z hy hz
theorem Bbh{l:List Idx}{a b:Idx}(hs:A9 l=true)(ha:D7 l a.name=false)(hb:D7 l b.name=false)(hab:a.name≠b.name):Cb (Cb l a) b=Cb (Cb l b) a:=by
 have has:∀(x y:Idx),D7 l y.name=false->x.name≠y.name->D7 (Cb l x) y.name=false:=λx y hy hxy=>by
  cases h:D7 (Cb l x) y.name with
  |false=>rfl
  |true =>
   obtain⟨z,hz,e⟩:=Jm.1 h;rcases Kf.1 hz with rfl|hz
   ·exact absurd e hxy
   ·rw[Jm.2 ⟨z,hz,e⟩] at hy;cases hy
 refine Af8 (Df (Df hs ha) (has a b hb hab)) (Df (Df hs hb) (has b a ha (Ne.symm hab))) λy =>?_;simp only[Kf];constructor
 ·rintro(h|h|h)
  ·exact .inr (.inl h)
  ·exact .inl h
  ·exact .inr (.inr h)
 ·rintro(h|h|h)
  ·exact .inr (.inl h)
  ·exact .inl h
  ·exact .inr (.inr h)
def F8:Tbl:=⟨[],[],[],[],[]⟩
def A90(cols:List Col)(e:Xpr):Int:=cond (decide ((Hp e cols).2=0)) (cond (decide ((Hp e cols).1=2)||decide ((Hp e cols).1=1)) 0 151) (Hp e cols).2
def Tn(cols:List Col):List Xpr->Int
 |[]=>0
 |e::l=>cond (decide (A90 cols e=0)) (Tn cols l) (A90 cols e)
def Z2(s:Stm):Bool:=decide (s.cols.length<=1000000)&&(decide (s.sets.length<=1000000)&&(decide (s.names.length<=1000000)&&(decide (s.l.length<=1000000)&&s.l.all λe=>decide (Bb e<=1000000))))
def Aa1(s:Stm):Tbl×Int:=cond (decide (s.kind=1)&&Ev s) (cond (Nj ⟨s.name,s.cols,s.names,[],[]⟩ s.names) (cond (decide (Tn s.cols s.l=0)) (⟨s.name,s.cols,s.names,s.l,[]⟩,0) (F8,Tn s.cols s.l)) (F8,150)) (F8,2)
def Aep:Sig:=⟨70,[(3,.int .i64),(34,.sl .expr false),(35,.int .i64),(36,.int .i64)],[(2,.ptr 1 0),(4,.ptr 2 0)],[(1,.cells [.str,.sl .col true,.sl .str true,.sl .expr true,.sl .idx true]),(2,.cells [.str,.sl .col false,.sl .str false,.sl .expr true,.sl .idx true])],3,0,0,[],[]⟩
abbrev Sb:=Int×List Xpr×Int×Int×Str×List Col×List Str×List Xpr×List Idx×Str×List Col×List Str×List Xpr×List Idx
def Qn{R:Type}(rec:Sb->Option R)(kx:Ex->Sb->Option R)(v:Sb):Option R:=match v with
 |(v,v1,v2,v3,w,w1,w2,w3,w4,w5,w6,w7,w8,w9) =>
 cond (decide (v3<v2)) (
  chk (inb v3 v1.length) (
  let j:=λ(p6:Int) =>
   cond (!decide (p6=0)) (
   kx .ret (p6,v1,v2,v3,[],[],[],[],[],w5,w6,w7,w8,w9)) (
   (Ahe (at' .expr v1 v3)).bind λx3 =>
    chk (decide (w8.length+1<=Av)) (
    rec (v,v1,v2,(wr .i64 (v3+1)),w,w1,w2,w3,w4,w5,w6,w7,(w8++[x3]),w9)))
  cond (decide ((Hp (at' .expr v1 v3) w6).2=0)) (
   cond (!decide ((Hp (at' .expr v1 v3) w6).1=2)) (
   cond (!decide ((Hp (at' .expr v1 v3) w6).1=1)) (
    j 151) (
    j ((Hp (at' .expr v1 v3) w6).2))) (
   j ((Hp (at' .expr v1 v3) w6).2))) (
   j ((Hp (at' .expr v1 v3) w6).2)))) (
  kx (.exit 0) (v,v1,v2,v3,w,w1,w2,w3,w4,w5,w6,w7,w8,w9))
def At0(R:Type)(k:Nat):Px R:=pxO [(53,cA Kx),(85,cA Aod),(86,cA A2k)] [(83,qA Ag4),(84,qA Ud),(87,qA Afq)] [(7,Ao k Aep (Qn))] []
def Ag1(k:Nat)(x:HV [.sv .stmt]):Option (HV [.sv .tbl,.int .i64]):=match x with
 |s =>
 cond (!decide (s.kind=1)) (
  some ((Tbl.mk [] [] [] [] []),2)) (
  (I5 s).bind λx =>
  cond (!decide (x=0)) (
   some ((Tbl.mk [] [] [] [] []),2)) (
   (Af7 s.cols).bind λx1 =>
   (Md s.names).bind λx2 =>
    cond (!(Nj (Tbl.mk s.name x1 x2 [] []) x2)) (
    some ((Tbl.mk [] [] [] [] []),150)) (
    Aq (λrec=>Qn rec (λe vz=>match vz with|(v4,_,_,_,v8,v9,a,b,c,d,f,g,h,i)=>match e with
     |.ret =>
     some ((Tbl.mk v8 v9 a b c),v4)
     |.exit 0 =>
     some ((Tbl.mk d f g h i),0)
     |_=>none)) k (0,s.l,(s.l.length:Int),0,[],[],[],[],[],s.name,x1,x2,[],[]))))
theorem A6h(k:Nat):FO 34 [.sv .stmt] [.sv .tbl,.int .i64] (Ag1 k):=fR (px:=At0 _ k) (n:=1) Tryz.func34 rfl (λcx H=>by have h0:Lv cx (At0 (HV [.sv .tbl,.int .i64]) k):=lv H (c1 H Ql (c1 H A1y (c1 H A9l Ae))) (q1 H Auo (q1 H Acz (q1 H A4e Aa))) Ab;have hlsmake_0:=lO H h0 (b:=lp Tryz.f34 0) (k:=k) (n:=0) (s:=Aep) (step:=Qn) (λ_ _ _ (_,_,_,_,_,_,_,_,_,_,_,_,_,_)=>by kernel_rfl) Ai;exact⟨h0,(Bc Ai hlsmake_0)⟩) λ_=>by kernel_rfl
def Amg(s:Stm):Option (Tbl×Int):=cond (Z2 s) (some (Aa1 s)) none
def Adl:FT [.sv .stmt] [.sv .tbl,.int .i64]:=λx=>Amg x
theorem Azi{R:Type}{kx:Ex->Sb->Option R}{nm:Str}{cols:List Col}{names:List Str}{l:List Xpr}{b:Option R}{g:Int->Option R}(hn:l.length<=1000000)(hs:l.all (λe=>decide (Bb e<=1000000))=true)(h1:∀(p:Int) (i:Nat) (acc:List Xpr),kx .ret (p,l,(l.length:Int),(i:Int),[],[],[],[],[],nm,cols,names,acc,[])=g p)(h2:kx (.exit 0) (0,l,(l.length:Int),(l.length:Int),[],[],[],[],[],nm,cols,names,l,[])=b)(k:Nat)(hk:l.length<k) :
  Aq (λrec=>Qn rec kx) k (0,l,(l.length:Int),0,[],[],[],[],[],nm,cols,names,[],[])=cond (decide (Tn cols l=0)) b (g (Tn cols l)):=by
 have hl:ln l.length:=by simp only[ln];omega
 refine(Bh l.length (λi=>(0,l,(l.length:Int),(i:Int),[],[],[],[],[],nm,cols,names,l.take i,[])) (λi=>cond (decide (Tn cols (l.drop i)=0)) b (g (Tn cols (l.drop i)))) (λi hi rec hr =>?_) (λrec =>?_) k 0 (Nat.zero_le _) (by omega)).trans (by rw[Zq1])
 ·have ht:l.take (i+1)=l.take i++[l[i]]:=by rw[List.take_add_one,Zo1 hi];rfl
  have hlen:decide ((l.take i).length+1<=Av)=true:=Ze1 (by simp only[List.length_take,Av];omega);have hc:Ahe l[i]=some l[i]:=by have:=Zf2.1 hs _ (List.getElem_mem hi);simp only[Ahe,this,Ah]
  rw[ht] at hr;simp only[Qn,Dw hi,Ah,A1 hi,chk,A0 (c :=.expr) hi,hc,Zc1,hlen,Ay hi hl,hr,h1,Au hi,Tn,A90];by_cases hf:(Hp l[i] cols).2=0
  ·by_cases ha:(Hp l[i] cols).1=2
   ·simp[hf,ha]
   ·by_cases hb:(Hp l[i] cols).1=1
    ·simp[hf,hb]
    ·simp[hf,ha,hb]
  ·simp[hf]
 ·simp only[Qn,Dv,Al,h2,List.take_length];rw[Zk1 (Zn1 _)];rfl
theorem A5p{s:Stm}(h:Z2 s=true):s.cols.length<=1000000/\s.sets.length<=1000000/\s.names.length<=1000000/\s.l.length<=1000000/\s.l.all (λe=>decide (Bb e<=1000000))=true:=by simp only[Z2,Zb1,Zg1] at h;exact h
theorem At9:FO 34 [.sv .stmt] [.sv .tbl,.int .i64] Adl :=.fin 0 A6h λs r hb hx=>⟨s.l.length+1,by
 simp only[Adl,Amg] at hx;cases hs:Z2 s with
 |false=>rw[hs] at hx;cases hx
 |true =>
  rw[hs] at hx;simp only[Ah,Za1] at hx;rw[<-hx];obtain⟨q1,q2,q3,q4,q5⟩:=A5p hs;have ec:I5 s=some (cond (Ev s) 0 2):=if_pos ⟨q1,q2⟩;simp only[Ag1,ec,Zc1,Af7,Md,Ze1 q1,Ze1 q3,Ah,Aa1];cases decide (s.kind=1) with
  |false=>rfl
  |true =>
   cases Ev s with
   |false=>rfl
   |true =>
    simp only[Zt1,Al,Ah,Bool.and_self,decide_true];cases Nj ⟨s.name,s.cols,s.names,[],[]⟩ s.names with
    |false=>rfl
    |true =>simp only[Zt1,Al,Ah];refine(Azi (g:=λp=>some (F8,p)) (b:=some (⟨s.name,s.cols,s.names,s.l,[]⟩,0)) q4 q5 (λ_ _ _=>rfl) rfl _ (by omega)).trans ?_;cases decide (Tn s.cols s.l=0)<;>rfl⟩
def A7q(R:Type):Px R:=pxO [] [] [] []
def Vq(x:HV [.sv .tbl]):Option (HV [.sv .stmt]):=match x with
 |t =>
 some (Stm.mk 1 t.name [] t.cols t.key t.checks [] [] false (Xpr.mk 0 ⟨0,0,[]⟩ [] []) [] [] 0)
theorem A50:FO 25 [.sv .tbl] [.sv .stmt] (Vq):=fR (px:=A7q _) (n:=0) Tryz.func25 rfl (λ_ H=>⟨lv H Ae Aa Ab,Ai⟩) λ_=>by kernel_rfl
def E3(t:Tbl):Stm :=(Stm.mk 1 t.name [] t.cols t.key t.checks [] [] false (Xpr.mk 0 ⟨0,0,[]⟩ [] []) [] [] 0)
theorem A4n(x:HV [.sv .tbl]):Vq x=some (E3 x):=by
 first
  |exact rfl
  |simp only[Vq,E3,Az]
def An8:FT [.sv .tbl] [.sv .stmt]:=λx=>some (E3 x)
theorem Ari:FO 25 [.sv .tbl] [.sv .stmt] An8 :=.fin0 A50 λx _ _ hx=>(A4n x).trans hx
def A21(R:Type):Px R:=pxO [] [] [] []
def P1(x:HV [.sv .tbl,.sv .idx]):Option (HV [.sv .stmt]):=match x with
 |(t,x) =>
 some (Stm.mk 3 x.name t.name [] x.cols [] [] [] false (Xpr.mk 0 ⟨0,0,[]⟩ [] []) [] [] 0)
theorem Ayf:FO 26 [.sv .tbl,.sv .idx] [.sv .stmt] (P1):=fR (px:=A21 _) (n:=0) Tryz.func26 rfl (λ_ H=>⟨lv H Ae Aa Ab,Ai⟩) λ(_,_)=>by kernel_rfl
def Fl(t:Tbl)(x:Idx):Stm :=(Stm.mk 3 x.name t.name [] x.cols [] [] [] false (Xpr.mk 0 ⟨0,0,[]⟩ [] []) [] [] 0)
theorem Awx(x:HV [.sv .tbl,.sv .idx]):P1 x=some (Fl x.1 x.2):=by
 first
  |exact rfl
  |simp only[P1,Fl,Az]
def Afz:FT [.sv .tbl,.sv .idx] [.sv .stmt]:=λx=>some (Fl x.1 x.2)
theorem Aka:FO 26 [.sv .tbl,.sv .idx] [.sv .stmt] Afz :=.fin0 Ayf λx _ _ hx=>(Awx x).trans hx
def Ave(R:Type):Px R:=pxO [(108,cA Ut)] [] [] []
def Mf(x:HV [.sv .idx,.str]):Option (HV [.int .i64]):=match x with
 |(x,name) =>
 some (Iy x.name name)
theorem Aud:FO 89 [.sv .idx,.str] [.int .i64] (Mf):=fR (px:=Ave _) (n:=0) Tryz.func89 rfl (λ_ H=>⟨lv H (c1 H Abq Ae) Aa Ab,Ai⟩) λ(_,_)=>by kernel_rfl
def Js(x:Idx)(name:Str):Int :=(Iy x.name name)
theorem Are(x:HV [.sv .idx,.str]):Mf x=some (Js x.1 x.2):=by
 first
  |exact rfl
  |simp only[Mf,Js,Az]
def Akh:FT [.sv .idx,.str] [.int .i64]:=λx=>some (Js x.1 x.2)
theorem Awt:FO 89 [.sv .idx,.str] [.int .i64] Akh :=.fin0 Aud λx _ _ hx=>(Are x).trans hx
def Agx:Sig:=⟨49,[(0,.sl .idx false),(1,.str),(8,.int .i64),(9,.int .i64),(10,.int .i64)],[(2,.fn 89 [])],[(0,.one (.sv .tbl)),(1,.one (.sv .stmt)),(2,.one (.sv .tbl))],40,40,200,[],[]⟩
abbrev Qo:=List Idx×Str×Int×Int×Int×Tbl×Stm×Tbl
def Qv{R:Type}(rec:Qo->Option R)(kx:Ex->Qo->Option R)(v:Qo):Option R:=match v with
 |(v,v1,v2,v3,v4,w,w1,w2) =>
 cond (decide (v3<v4)) (
  chk (inb (wr .i64 (Eo .u64 (wr .u64 (wr .i64 (v3+v4))) 1)) v.length) (
  cond (decide ((Js (at' .idx v (wr .i64 (Eo .u64 (wr .u64 (wr .i64 (v3+v4))) 1))) v1)<0)) (
   rec (v,v1,v2,(wr .i64 ((wr .i64 (Eo .u64 (wr .u64 (wr .i64 (v3+v4))) 1))+1)),v4,w,w1,w2)) (
   rec (v,v1,v2,v3,(wr .i64 (Eo .u64 (wr .u64 (wr .i64 (v3+v4))) 1)),w,w1,w2)))) (
  kx (.exit 0) (v,v1,v2,v3,v4,w,w1,w2))
def Ahs(R:Type)(k:Nat):Px R:=pxO [(89,cA Akh)] [] [(3,Ao k Agx (Qv))] []
noncomputable def Aux(R:Type)(k:Nat):Px R:=pxO [(53,cA Kx),(85,cA Aod),(90,Adh),(88,Aw 40 200 (Ahs R k) Tryz.f88)] [(84,qA Ud)] [] [(50,Adr .idx)]
def Ahq(k:Nat)(x:HV [.sv .tbl,.sv .stmt]):Option (HV [.sv .tbl,.int .i64]):=match x with
 |(t,s) =>
 cond (!decide (s.kind=3)) (
  some ((Tbl.mk [] [] [] [] []),2)) (
  (I5 s).bind λx =>
  cond (!decide (x=0)) (
   some ((Tbl.mk [] [] [] [] []),2)) (
   cond (!decide (s.on=t.name)) (
   some ((Tbl.mk [] [] [] [] []),2)) (
   Aq (λrec=>Qv rec (λe vz=>match vz with|(v5,v6,v7,v8,_,a,b,_)=>match e with
    |.exit 0 =>
    let j:=λ(c:Bool) =>
     cond (c) (
     some ((Tbl.mk [] [] [] [] []),160)) (
     cond (decide (100<=(a.idx.length:Int))) (
      some ((Tbl.mk [] [] [] [] []),3)) (
      cond (!(Nj a b.names)) (
      some ((Tbl.mk [] [] [] [] []),150)) (
      chk (decide (a.idx.length<=1000000)) (
       cond (List.isEmpty a.idx) (
       (Md b.names).bind λx1 =>
        chk (decide (v8=0)) (
        some ((Tbl.mk a.name a.cols a.key a.checks [(Idx.mk b.name x1)]),0))) (
       (Md b.names).bind λx2 =>
        chk (decide ((0:Int)=0)&&decide ((0:Int)<(a.idx.length:Int))&&decide ((a.idx.length:Int)=(a.idx.length:Int))&&decide ((0:Int)<=v8)&&decide (v8<=(a.idx.length:Int))&&decide ((a.idx.length:Int)<=(1000000:Int))) (
        some ((Tbl.mk a.name a.cols a.key a.checks (List.take (v8:Int).toNat a.idx++(Idx.mk b.name x2)::List.drop (v8:Int).toNat a.idx)),0)))))))
    cond (decide (v8<v7)) (
     chk (inb v8 v5.length) (
     j (decide ((Js (at' .idx v5 v8) v6)=0)))) (
     j false)
    |_=>none)) k (t.idx,s.name,(t.idx.length:Int),0,(t.idx.length:Int),t,s,(Tbl.mk [] [] [] [] [])))))
theorem A6i(k:Nat):FO 35 [.sv .tbl,.sv .stmt] [.sv .tbl,.int .i64] (Ahq k):=fR (px:=Aux _ k) (n:=0) Tryz.func35 rfl (λcx H=>by have h1:Lv cx (Ahs (HV [.sv .tbl,.int .i64]) k):=lv H (c1 H Awt Ae) Aa Ab;have hlswith_0:=lO H h1 (b:=lp Tryz.f88 0) (k:=k) (n:=0) (s:=Agx) (step:=Qv) (λ_ _ _ (_,_,_,_,_,_,_,_)=>by kernel_rfl) Ai;have h0:Lv cx (Aux (HV [.sv .tbl,.int .i64]) k):=lv H (c1 H Ql (c1 H A1y (An (Bjm H Bhr) (An (cR H h1 Tryz.func88 rfl (n:=1) ((Bc Ai hlswith_0))) Ae)))) (q1 H Acz Aa) (Ako (Bjk H Ac3 Xt) Ab);exact⟨h0,Ai⟩) λ(_,_)=>by kernel_rfl
def Gl(t:Tbl)(s:Stm):Tbl×Int:=cond (decide (s.kind=3)&&(Ev s&&decide (s.on=t.name))) (cond (D7 t.idx s.name) (F8,160) (cond (decide (100<=t.idx.length)) (F8,3) (cond (Nj t s.names) ({ t with idx:=Cb t.idx ⟨s.name,s.names⟩ },0) (F8,150)))) (F8,2)
def Vj(t:Tbl)(s:Stm):Bool:=decide (s.cols.length<=1000000)&&(decide (s.sets.length<=1000000)&&(decide (s.names.length<=1000000)&&(decide (t.idx.length<=1000000)&&A9 t.idx)))
def Kc(t:Tbl)(s:Stm):Option (Tbl×Int):=cond (Vj t s) (some (Gl t s)) none
def Wq:FT [.sv .tbl,.sv .stmt] [.sv .tbl,.int .i64]:=λx=>Kc x.1 x.2
theorem Bjj{n:Nat}(h:n<=4000000):wr .u64 (n:Int)=(n:Int):=by
 have e:wr .u64 (n:Int)=(n:Int) % 18446744073709551616:=by simp[wr,IntKind.wrap,IntKind.bits,IntKind.signed]
 omega
theorem Bif{a:Int}:Eo .u64 a 1=a / 2:=by show a.fdiv (2 ^ min (1:Int).toNat IntKind.u64.bits)=_;rw[show(2:Int) ^ min (1:Int).toNat IntKind.u64.bits=2 from by decide];exact Int.fdiv_eq_ediv_of_nonneg _ (by omega)
theorem Bfi{a b:Nat}(h:a+b<=4000000):wr .i64 (Eo .u64 (wr .u64 (wr .i64 ((a:Int)+(b:Int)))) 1)=(((a+b) / 2:Nat):Int):=by rw[show(a:Int)+(b:Int)=((a+b:Nat):Int) by omega,Bb0 (by simp only[ln];omega),Bjj h,Bif,show((a+b:Nat):Int) / 2=(((a+b) / 2:Nat):Int) by omega,Bb0 (by simp only[ln];omega)]
theorem Vg{R:Type}{kx:Ex->Qo->Option R}{l:List Idx}{nm:Str}{t t2:Tbl}{s:Stm}{c:Option R}(hs:A9 l=true)(hn:l.length<=1000000)(h2:kx (.exit 0) (l,nm,(l.length:Int),(D9 l nm:Int),(D9 l nm:Int),t,s,t2)=c):∀(k lo hi:Nat),lo<=D9 l nm->D9 l nm<=hi->hi<=l.length->hi-lo<k ->
  Aq (λrec=>Qv rec kx) k (l,nm,(l.length:Int),(lo:Int),(hi:Int),t,s,t2)=c
 |0,lo,hi,_,_,_,h=>by omega
 |k+1,lo,hi,h3,h4,h5,h=>by
  rw[Bu];by_cases hlt:lo<hi
  ·have hm:(lo+hi) / 2<l.length:=by omega
   have hp:=Xj (s:=nm) hs _ hm;have hb:decide (Js l[(lo+hi) / 2] nm<0)=decide ((lo+hi) / 2<D9 l nm):=hp;have ih1:=Vg hs hn h2 k ((lo+hi) / 2+1) hi;have ih2:=Vg hs hn h2 k lo ((lo+hi) / 2);simp only[Qv,Ze1 (show(lo:Int)<(hi:Int) by omega),Ah,Bfi (show lo+hi<=4000000 by omega),A1 hm,chk,A0 (c :=.idx) hm,hb,Ay hm (show ln l.length by simp only[ln];omega)];by_cases hq:(lo+hi) / 2<D9 l nm
   ·rw[Ze1 hq];exact ih1 (by omega) h4 h5 (by omega)
   ·rw[Zd1 hq];exact ih2 h3 (by omega) (by omega) (by omega)
  ·have e1:lo=D9 l nm:=by omega
   have e2:hi=D9 l nm:=by omega
   simp only[Qv,Zd1 (show ¬(lo:Int)<(hi:Int) by omega),Al];rw[e1,e2];exact h2
theorem Bb6{l:List Idx}{nm:Str}(hs:A9 l=true){R:Type}{A B:Option R}:(cond (decide ((D9 l nm:Int)<(l.length:Int))) (chk (inb (D9 l nm:Int) l.length) (cond (decide (Js (at' .idx l (D9 l nm:Int)) nm=0)) A B)) B)=cond (D7 l nm) A B:=by
 by_cases hp:D9 l nm<l.length
 ·rw[Ze1 (show(D9 l nm:Int)<(l.length:Int) by omega)];simp only[Ah,A1 hp,chk,A0 (c :=.idx) hp];have e:decide (Js l[D9 l nm] nm=0)=D7 l nm:=by
   rw[Bool.eq_iff_iff,A0k hs,Zg1];constructor
   ·intro h;exact⟨hp,(scmp_lin.eq _ _).1 h⟩
   ·rintro⟨_,h⟩;exact(scmp_lin.eq _ _).2 h
  rw[e]
 ·rw[Zd1 (show ¬(D9 l nm:Int)<(l.length:Int) by omega)];have e:D7 l nm=false:=by cases h:D7 l nm with|false=>rfl|true=>exact absurd ((A0k hs).1 h).1 hp
  rw[e];rfl
theorem A5x{t:Tbl}{s:Stm}(h:Vj t s=true):s.cols.length<=1000000/\s.sets.length<=1000000/\s.names.length<=1000000/\t.idx.length<=1000000/\A9 t.idx=true:=by simp only[Vj,Zb1,Zg1] at h;exact h
theorem Ae9:FO 35 [.sv .tbl,.sv .stmt] [.sv .tbl,.int .i64] Wq :=.fin 0 A6i λ(t,s) r hb hx=>⟨t.idx.length+1,by
 simp only[Wq,Kc] at hx;cases hs:Vj t s with
 |false=>rw[hs] at hx;cases hx
 |true =>
  rw[hs] at hx;simp only[Ah,Za1] at hx;rw[<-hx];obtain⟨q1,q2,q3,q4,q5⟩:=A5x hs;have ec:I5 s=some (cond (Ev s) 0 2):=if_pos ⟨q1,q2⟩;simp only[Ahq,ec,Zc1,Md,Gl];cases decide (s.kind=3) with
  |false=>rfl
  |true =>
   cases Ev s with
   |false=>rfl
   |true =>
    cases decide (s.on=t.name) with
    |false=>rfl
    |true =>
     simp only[Zt1,Al,Ah,Bool.and_self,decide_true];refine(Vg (c:=some (cond (D7 t.idx s.name) (F8,160) (cond (decide (100<=t.idx.length)) (F8,3) (cond (Nj t s.names) ({ t with idx:=Cb t.idx ⟨s.name,s.names⟩ },0) (F8,150))))) q5 q4 ?_ _ 0 t.idx.length (Nat.zero_le _) (Ap1 _ _) (Zn1 _) (by omega)).trans rfl;have hle:=Ap1 t.idx s.name;simp only;rw[Bb6 q5];cases D7 t.idx s.name with
     |true=>rfl
     |false =>
      have e100:decide ((100:Int)<=(t.idx.length:Int))=decide (100<=t.idx.length):=Zy1.2 (by omega);simp only[Al,e100];cases decide (100<=t.idx.length) with
      |true=>rfl
      |false =>
       simp only[Al];cases Nj t s.names with
       |false=>rfl
       |true =>
        simp only[Zt1,Al,Ah,chk,Ze1 q4];simp only[Ze1 q3,Ah,Zc1];cases hE:t.idx.isEmpty with
        |true =>have h0:t.idx=[]:=List.isEmpty_iff.1 hE;simp only[Ah,h0];rfl
        |false =>
         have hpos : 0<t.idx.length:=by cases h0:t.idx with|nil=>rw[h0] at hE;cases hE|cons x l=>simp only[Zf1];omega
         simp only[Al,W9,Int.toNat_natCast];have hck:decide ((0:Int)<(t.idx.length:Int))=true/\decide ((0:Int)<=(D9 t.idx s.name:Int))=true/\decide ((D9 t.idx s.name:Int)<=(t.idx.length:Int))=true/\decide ((t.idx.length:Int)<=1000000)=true:=by simp only[Zg1];omega
         simp only[hck.1,hck.2.1,hck.2.2.1,hck.2.2.2,Bool.and_self,Ah]⟩
def T2:Sig:=⟨58,[(3,.bool),(39,.sl .idx false),(40,.int .i64),(41,.int .i64)],[(1,.ptr 0 0),(2,.ptr 1 0),(4,.ptr 2 0)],[(0,.one (.sv .tbl)),(1,.one (.sv .tbl)),(2,.one (.sv .tbl))],3,0,0,[],[]⟩
abbrev H2:=Bool×List Idx×Int×Int×Tbl×Tbl×Tbl
def Gx{R:Type}(rec:H2->Option R)(kx:Ex->H2->Option R)(v:H2):Option R:=match v with
 |(d,b,c,a,w3,w4,w5) =>
 cond (decide (a<c)) (
  chk (inb a b.length) (
  chk (inb a w3.idx.length) (
   cond (!decide (((at' .idx b a).name)=((at' .idx w3.idx a).name))) (
   kx .ret (false,b,c,a,w3,(Tbl.mk [] [] [] [] []),w5)) (
   rec (d,b,c,(wr .i64 (a+1)),w3,w4,w5))))) (
  kx (.exit 2) (d,b,c,a,w3,w4,w5))
def To:Sig:=⟨58,[(3,.bool),(20,.sl .idx false),(21,.int .i64),(22,.int .i64)],[(1,.ptr 0 0),(2,.ptr 1 0),(4,.ptr 2 0)],[(0,.one (.sv .tbl)),(1,.one (.sv .tbl)),(2,.one (.sv .tbl))],3,0,0,[],[]⟩
abbrev H0:=Bool×List Idx×Int×Int×Tbl×Tbl×Tbl
def Gt{R:Type}(rec:H0->Option R)(kx:Ex->H0->Option R)(v:H0):Option R:=match v with
 |(v,v1,v2,v3,w,w1,w2) =>
 cond (decide (v3<v2)) (
  chk (inb v3 v1.length) (
  (Kc w2 (Fl w (at' .idx v1 v3))).bind λ(x2,x3) =>
   cond (!decide (x3=0)) (
   kx .ret (false,v1,v2,v3,w,(Tbl.mk [] [] [] [] []),x2)) (
   rec (v,v1,v2,(wr .i64 (v3+1)),w,w1,x2)))) (
  kx (.exit 0) (v,v1,v2,v3,w,w1,w2))
def Ab4(R:Type)(k:Nat):Px R:=pxO [(25,cA An8),(34,cA Adl)] [(26,qA Afz),(35,qA Wq)] [(5,Ao k To (Gt)),(12,Ao k T2 (Gx))] []
def Tc(k:Nat)(x:HV [.sv .tbl]):Option (HV [.sv .tbl,.bool]):=match x with
 |t =>
 (Amg (E3 t)).bind λ(x,x1) =>
  cond (!decide (x1=0)) (
  some ((Tbl.mk [] [] [] [] []),false)) (
  Aq (λrec=>Gt rec (λe vz=>match vz with|(v4,_,_,_,v8,v9,a)=>match e with
   |.ret =>
   some (v9,v4)
   |.exit 0 =>
   Aq (λrec=>Gx rec (λe vz=>match vz with|(b,_,_,_,_,c,d)=>match e with
    |.ret =>
    some (c,b)
    |.exit 2 =>
    some (d,true)
    |_=>none)) k (v4,a.idx,(a.idx.length:Int),0,v8,v9,a)
   |_=>none)) k (false,t.idx,(t.idx.length:Int),0,t,(Tbl.mk [] [] [] [] []),x))
theorem Ao1(k:Nat):FO 44 [.sv .tbl] [.sv .tbl,.bool] (Tc k):=fR (px:=Ab4 _ k) (n:=2) Tryz.func44 rfl (λcx H=>by have h0:Lv cx (Ab4 (HV [.sv .tbl,.bool]) k):=lv H (c1 H Ari (c1 H At9 Ae)) (q1 H Aka (q1 H Ae9 Aa)) Ab;have hlsrebuilt_0:=lO H h0 (b:=lp Tryz.f44 0) (k:=k) (n:=0) (s:=To) (step:=Gt) (λ_ _ _ (_,_,_,_,_,_,_)=>by kernel_rfl) Ai;have hlsrebuilt_1:=lO H h0 (b:=lp Tryz.f44 1) (k:=k) (n:=0) (s:=T2) (step:=Gx) (λ_ _ _ (_,_,_,_,_,_,_)=>by kernel_rfl) Ai;exact⟨h0,(Bc (Bc Ai hlsrebuilt_0) hlsrebuilt_1)⟩) λ_=>by kernel_rfl
def Ti(t:Tbl)(x:Idx):Bool:=Ev (Fl t x)&&Nj t x.cols
def ixs(t:Tbl):List Idx->List Idx->Option (List Idx)
 |acc,[]=>some acc
 |acc,x::l=>cond (Ti t x&&(!D7 acc x.name&&decide (acc.length<100))) (ixs t (Cb acc x) l) none
def On(t:Tbl):Bool:=decide ((Aa1 (E3 t)).2=0)&&(A9 t.idx&&(decide (t.idx.length<=100)&&t.idx.all (Ti t)))
def Fb(t:Tbl):Bool:=Z2 (E3 t)&&(decide (t.idx.length<=1000000)&&t.idx.all λx=>decide (x.cols.length<=1000000))
def K6(t:Tbl):Option (Tbl×Bool):=cond (Fb t) (some (cond (On t) (t,true) (F8,false))) none
def Mg:FT [.sv .tbl] [.sv .tbl,.bool]:=λx=>K6 x
theorem Bdp{t:Tbl}{acc:List Idx}{x:Idx}:Gl { t with idx:=acc } (Fl t x)=cond (Ev (Fl t x)) (cond (D7 acc x.name) (F8,160) (cond (decide (100<=acc.length)) (F8,3) (cond (Nj t x.cols) ({ t with idx:=Cb acc x },0) (F8,150)))) (F8,2):=by simp only[Gl,Fl,decide_true,Bool.and_true,Bool.true_and];rfl
theorem Arn{t:Tbl}:∀{l acc a:List Idx},A9 acc=true->ixs t acc l=some a->A9 a=true/\(∀y,y∈a↔y∈acc\/y∈l)/\a.length=acc.length+l.length/\l.all (Ti t)=true/\(acc.length<=100->a.length<=100)
 |[],acc,a,hs,h=>by simp only[ixs,Za1] at h;subst h;exact⟨hs,by simp,by simp,rfl,id⟩
 |x::l,acc,a,hs,h=>by
  simp only[ixs] at h;cases hc:Ti t x&&(!D7 acc x.name&&decide (acc.length<100)) with
  |false=>rw[hc] at h;cases h
  |true =>
   rw[hc] at h;simp only[Ah] at h;simp only[Zb1,Bool.not_eq_true',Zg1] at hc;obtain⟨h1,h2,h3,h4,h5⟩:=Arn (Df hs hc.2.1) h;rw[Hv] at h3 h5;refine⟨h1,λy =>?_,by simp only[Zf1];omega,by simp[h4,hc.1],λ_=>h5 (by omega)⟩;rw[h2,Kf,List.mem_cons];constructor
   ·rintro((h|h)|h)
    ·exact .inr (.inl h)
    ·exact .inl h
    ·exact .inr (.inr h)
   ·rintro(h|h|h)
    ·exact .inl (.inr h)
    ·exact .inl (.inl h)
    ·exact .inr h
theorem Aoa{t:Tbl}:∀{q p:List Idx},A9 (p++q)=true->(p++q).length<=100->q.all (Ti t)=true->ixs t p q=some (p++q)
 |[],p,_,_,_=>by simp[ixs]
 |x::q,p,hs,hn,hk=>by
  simp only[Zv1,Zb1] at hk;have hlt:=(S0 hs).2;have h1:D7 p x.name=false:=by cases h:D7 p x.name with|false=>rfl|true =>obtain⟨y,hy,e⟩:=Jm.1 h;exact absurd e (Axo (hlt y x hy (by simp)))
  have h2:decide (p.length<100)=true:=Ze1 (by simp only[Zh1,Zf1] at hn;omega);have h3:Cb p x=p++[x]:=Atn λy hy=>hlt y x hy (by simp);simp only[ixs,hk.1,h1,h2,Zs1,Bool.and_self,Ah,h3];rw[Aoa (by simpa using hs) (by simpa using hn) hk.2];simp
def Ac8:List Idx->List Idx->Bool
 |x::a,y::b=>decide (x.name=y.name)&&Ac8 a b
 |_,_=>true
theorem Asm:∀{a b:List Idx},Ac8 a b=true->∀(i:Nat) (hi:i<a.length) (hj:i<b.length),a[i].name=b[i].name
 |[],_,_,i,hi,_=>by simp at hi
 |_::_,[],_,i,_,hj=>by simp at hj
 |x::a,y::b,h,i,hi,hj=>by simp only[Ac8,Zb1,Zg1] at h;cases i with|zero=>exact h.1|succ i=>exact Asm h.2 i (by simpa using hi) (by simpa using hj)
theorem Ame:∀a:List Idx,Ac8 a a=true
 |[]=>rfl
 |x::a=>by simp[Ac8,Ame a]
theorem A5j{l:List Idx}(hs:A9 l=true){x y:Idx}(hx:x∈l)(hy:y∈l)(e:x.name=y.name):x=y:=by
 obtain⟨i,hi,rfl⟩:=List.getElem_of_mem hx;obtain⟨j,hj,rfl⟩:=List.getElem_of_mem hy;rcases Nat.lt_trichotomy i j with h|h|h
 ·exact absurd e (Axo (M5 hs i j hi hj h))
 ·subst h;rfl
 ·exact absurd e.symm (Axo (M5 hs j i hj hi h))
theorem Bdl{a b:List Idx}(hs:A9 a=true)(hm:∀y,y∈a↔y∈b)(hn:a.length=b.length)(h:Ac8 a b=true):a=b :=List.ext_getElem hn λi hi hj=>A5j hs (List.getElem_mem hi) ((hm _).2 (List.getElem_mem hj)) (Asm h i hi hj)
theorem Bha{t:Tbl}{R:Type}{g:List Idx->R}{c:R}:(match ixs t [] t.idx with|some a=>cond (Ac8 a t.idx) (g a) c|none=>c)=cond (A9 t.idx&&(decide (t.idx.length<=100)&&t.idx.all (Ti t))) (g t.idx) c:=by
 cases hx:ixs t [] t.idx with
 |none =>cases hc:A9 t.idx&&(decide (t.idx.length<=100)&&t.idx.all (Ti t)) with|false=>rfl|true =>simp only[Zb1,Zg1] at hc;rw[Aoa (p:=[]) (by simpa using hc.1) (by simpa using hc.2.1) hc.2.2] at hx;cases hx
 |some a =>
  obtain⟨h1,h2,h3,h4,h5⟩:=Arn (by rfl) hx;simp only;cases hs:Ac8 a t.idx with
  |true =>have e:=Bdl h1 (λy=>by rw[h2];simp) (by simpa using h3) hs;rw[<-e,h1];rw[<-e] at h4;rw[h4,Ze1 (h5 (by simp))];rfl
  |false =>cases hc:A9 t.idx&&(decide (t.idx.length<=100)&&t.idx.all (Ti t)) with|false=>rfl|true =>simp only[Zb1,Zg1] at hc;rw[Aoa (p:=[]) (by simpa using hc.1) (by simpa using hc.2.1) hc.2.2] at hx;cases hx;rw[Ze2,Ame] at hs;cases hs
theorem Y7{t:Tbl}(h:Fb t=true):Z2 (E3 t)=true/\t.idx.length<=1000000/\∀x,x∈t.idx->x.cols.length<=1000000:=by simp only[Fb,Zb1,Zf2,Zg1] at h;exact h
theorem Auq{R:Type}{kx:Ex->H0->Option R}{t:Tbl}{g:List Idx->Option R}{c:Option R}(hs:Fb t=true)(h1:∀i p,kx .ret (false,t.idx,(t.idx.length:Int),i,t,F8,p)=c)(h2:∀a:List Idx,a.length=t.idx.length->kx (.exit 0) (false,t.idx,(t.idx.length:Int),(t.idx.length:Int),t,F8,{ t with idx:=a })=g a)(k:Nat)(hk:t.idx.length<k) :
  Aq (λrec=>Gt rec kx) k (false,t.idx,(t.idx.length:Int),0,t,F8,{ t with idx:=[] })=(match ixs t [] t.idx with|some a=>g a|none=>c):=by
 obtain⟨_,hn,hcs⟩:=Y7 hs;have hl:ln t.idx.length:=by simp only[ln];omega
 refine(Ed t.idx.length (λi (acc:List Idx)=>(false,t.idx,(t.idx.length:Int),(i:Int),t,F8,{ t with idx:=acc })) (λi acc=>A9 acc=true/\acc.length=i) (λi acc=>(match ixs t acc (t.idx.drop i) with|some a=>g a|none=>c)) (λi hi acc ha rec hr =>?_) (λacc ha rec =>?_) k 0 [] (Nat.zero_le _) (by omega) ⟨rfl,rfl⟩).trans (by rw[Zq1])
 ·have hw:Kc { t with idx:=acc } (Fl t t.idx[i])=some (Gl { t with idx:=acc } (Fl t t.idx[i])):=by
   have:Vj { t with idx:=acc } (Fl t t.idx[i])=true:=by have h1:=hcs _ (List.getElem_mem hi);have h2:=ha.2;show(decide ((0:Nat)<=1000000)&&(decide ((0:Nat)<=1000000)&&(decide (t.idx[i].cols.length<=1000000)&&(decide (acc.length<=1000000)&&A9 acc))))=true;rw[Ze1 h1,Ze1 (show acc.length<=1000000 by omega),ha.1];rfl
   rw[Kc,this];rfl
  simp only[Gt,Dw hi,Ah,A1 hi,chk,A0 (c :=.idx) hi,hw,Zc1,Bdp,Ay hi hl,Au hi,ixs,Ti];cases Ev (Fl t t.idx[i]) with
  |false=>exact h1 _ _
  |true =>
   simp only[Ah,Bool.true_and];cases hh:D7 acc t.idx[i].name with
   |true =>simp only[Ah,Zt1,Bool.false_and,Bool.and_false];exact h1 _ _
   |false =>
    simp only[Al,Zs1,Bool.true_and];by_cases h100:acc.length<100
    ·rw[Ze1 h100,Zd1 (show ¬ 100<=acc.length by omega)];simp only[Al,Bool.and_true];cases Nj t t.idx[i].cols with|false=>exact h1 _ _|true =>simp only[Ah];exact hr _ ⟨Df ha.1 hh,by rw[Hv,ha.2]⟩
    ·rw[Zd1 h100,Ze1 (show 100<=acc.length by omega)];simp only[Ah,Bool.and_false];exact h1 _ _
 ·simp only[Gt,Dv,Al,h2 acc ha.2];rw[Zk1 (Zn1 _)];rfl
theorem Ate{R:Type}{kx:Ex->H2->Option R}{t:Tbl}{a:List Idx}{b c:Option R}(hs:Fb t=true)(ha:a.length=t.idx.length)(h1:∀i,kx .ret (false,a,(a.length:Int),i,t,F8,{ t with idx:=a })=c)(h2:kx (.exit 2) (false,a,(a.length:Int),(a.length:Int),t,F8,{ t with idx:=a })=b)(k:Nat)(hk:t.idx.length<k) :
  Aq (λrec=>Gx rec kx) k (false,a,(a.length:Int),0,t,F8,{ t with idx:=a })=cond (Ac8 a t.idx) b c:=by
 obtain⟨_,hn,hcs⟩:=Y7 hs;have hl:ln a.length:=by simp only[ln];omega
 refine(Bh a.length (λi=>(false,a,(a.length:Int),(i:Int),t,F8,{ t with idx:=a })) (λi=>cond (Ac8 (a.drop i) (t.idx.drop i)) b c) (λi hi rec hr =>?_) (λrec =>?_) k 0 (Nat.zero_le _) (by omega)).trans (by rw[Zq1,Zq1])
 ·have hi2:i<t.idx.length:=by omega
  simp only[Gx,Dw hi,Ah,A1 hi,A1 hi2,chk,A0 (c :=.idx) hi,A0 (c :=.idx) hi2,Ay hi hl,Au hi,Au hi2,Ac8,hr];cases decide (a[i].name=t.idx[i].name) with|false=>exact h1 _|true=>rfl
 ·simp only[Gx,Dv,Al,h2];rw[Zk1 (Zn1 _)];rfl
theorem A65{t:Tbl}(h:(Aa1 (E3 t)).2=0):Aa1 (E3 t)=({ t with idx:=[] },0):=by
 simp only[Aa1] at h ⊢;generalize (decide ((E3 t).kind=1)&&Ev (E3 t))=b1 at h ⊢;generalize Nj ⟨(E3 t).name,(E3 t).cols,(E3 t).names,[],[]⟩ (E3 t).names=b2 at h ⊢;cases b1 with
 |false=>simp at h
 |true =>
  cases b2 with
  |false=>simp at h
  |true =>
   by_cases hc:Tn (E3 t).cols (E3 t).l=0
   ·simp only[hc,decide_true,Ah];rfl
   ·simp[hc] at h
theorem Abk:FO 44 [.sv .tbl] [.sv .tbl,.bool] Mg :=.fin 0 Ao1 λt r hb hx=>⟨t.idx.length+1,by
 simp only[Mg,K6] at hx;cases hs:Fb t with
 |false=>rw[hs] at hx;cases hx
 |true =>
  rw[hs] at hx;simp only[Ah,Za1] at hx;rw[<-hx];obtain⟨q1,q2,q3⟩:=Y7 hs;have em:Amg (E3 t)=some (Aa1 (E3 t)):=by rw[Amg,q1];rfl
  simp only[Tc,em,Zc1,On];by_cases h0:(Aa1 (E3 t)).2=0
  ·simp only[A65 h0,decide_true,Zt1,Al,Bool.true_and];refine(Auq (c:=some (F8,false)) (g:=λa=>cond (Ac8 a t.idx) (some ({ t with idx:=a },true)) (some (F8,false))) hs (λ_ _=>rfl) (λa ha =>?_) _ (by omega)).trans ?_
   ·exact Ate hs ha (λ_=>rfl) rfl _ (by omega)
   ·rw[Bha (g:=λa=>some (({ t with idx:=a }:Tbl),true)),Az]
  ·simp only[Zd1 h0,Zs1,Ah,Bool.false_and,Al];rfl⟩
def A22(R:Type):Px R:=pxO [(44,cA Mg)] [] [] []
def Aa7(x:HV [.sv .tbl]):Option (HV [.int .i64]):=match x with
 |t =>
 (K6 t).bind λ(_,x1) =>
  cond (!x1) (
  some 2) (
  some 0)
theorem Awu:FO 17 [.sv .tbl] [.int .i64] (Aa7):=fR (px:=A22 _) (n:=0) Tryz.func17 rfl (λ_ H=>⟨lv H (c1 H Abk Ae) Aa Ab,Ai⟩) λ_=>by kernel_rfl
def Mr(t:Tbl):Option Int:=cond (Fb t) (some (cond (On t) 0 2)) none
def K3:FT [.sv .tbl] [.int .i64]:=λx=>Mr x
theorem Ry:FO 17 [.sv .tbl] [.int .i64] K3 :=.fin0 Awu λt r hb hx=>by simp only[K3,Mr] at hx;rw[<-hx];simp only[Aa7,K6];cases Fb t with|false=>rfl|true=>cases On t<;>rfl
def Bai(R:Type):Px R:=pxO [(44,cA Mg),(35,cA Wq)] [] [] []
def Ah2(x:HV [.sv .tbl,.sv .stmt]):Option (HV [.sv .tbl,.int .i64]):=match x with
 |(t,s) =>
 (K6 t).bind λ(x,x1) =>
  cond (!x1) (
  some ((Tbl.mk [] [] [] [] []),2)) (
  (Kc x s).bind λ(x2,x3) =>some (x2,x3))
theorem A4s:FO 19 [.sv .tbl,.sv .stmt] [.sv .tbl,.int .i64] (Ah2):=fR (px:=Bai _) (n:=0) Tryz.func19 rfl (λ_ H=>⟨lv H (c1 H Abk (c1 H Ae9 Ae)) Aa Ab,Ai⟩) λ(_,_)=>by kernel_rfl
def Hh(t:Tbl)(s:Stm):Option (Tbl×Int):=cond (Fb t) (cond (On t) (Kc t s) (some (F8,2))) none
def Aoi:FT [.sv .tbl,.sv .stmt] [.sv .tbl,.int .i64]:=λx=>Hh x.1 x.2
theorem Bcj:FO 19 [.sv .tbl,.sv .stmt] [.sv .tbl,.int .i64] Aoi :=.fin0 A4s λ(t,s) r hb hx=>by
 simp only[Aoi,Hh] at hx;rw[<-hx];simp only[Ah2,K6];cases Fb t with
 |false=>rfl
 |true =>cases On t with|false=>rfl|true =>simp only[Ah,Zc1,Zt1,Al];cases Kc t s<;>rfl
def S6:Sig:=⟨19,[(0,.sl .idx false),(4,.int .i64),(7,.int .i64),(8,.int .i64)],[(1,.fn 49 [.ptr 1 0])],[(0,.one (.sv .tbl)),(1,.cells [.str]),(2,.one (.sv .tbl))],40,40,200,[],[]⟩
abbrev Hu:=List Idx×Int×Int×Int×Tbl×Str×Tbl
def Gy{R:Type}(rec:Hu->Option R)(kx:Ex->Hu->Option R)(v:Hu):Option R:=match v with
 |(v,v1,v2,v3,w,w1,w2) =>
 cond (decide (v3<v2)) (
  chk (inb v3 v.length) (
  cond (decide (((at' .idx v v3).name)=w1)) (
   kx .ret (v,v3,v2,v3,w,w1,w2)) (
   rec (v,v1,v2,(wr .i64 (v3+1)),w,w1,w2)))) (
  kx (.exit 0) (v,v1,v2,v3,w,w1,w2))
def Ns(R:Type)(_k:Nat):Px R:=pxO [] [] [] []
noncomputable def T1(R:Type)(k:Nat):Px R:=pxO [(49,Aw 80 400 (Ns R k) Tryz.f49)] [] [(2,Ao k S6 (Gy))] []
noncomputable def Abz(R:Type)(k:Nat):Px R:=pxO [(50,Zg .idx),(51,Ads),(48,Aw 40 200 (T1 R k) Tryz.f48)] [] [] []
def Tg(k:Nat)(x:HV [.sv .tbl,.str]):Option (HV [.sv .tbl,.bool]):=match x with
 |(t,index) =>
 Aq (λrec=>Gy rec (λe vz=>match vz with|(_,v5,_,_,v8,_,_)=>match e with
  |.ret =>
  chk (decide (v8.idx.length<=1000000)) (
   cond (List.isEmpty v8.idx) (
   cond (decide (v5<0)) (
    some ((Tbl.mk v8.name v8.cols v8.key v8.checks []),false)) (
    none)) (
   cond (decide (v5<0)) (
    chk (decide ((0:Int)<=0)&&decide ((0:Int)<=(v8.idx.length:Int))&&decide ((0+(v8.idx.length:Int))<=(v8.idx.length:Int))) (
    some ((Tbl.mk v8.name v8.cols v8.key v8.checks (cut v8.idx 0 (0+(v8.idx.length:Int)))),false))) (
    chk (decide ((0:Int)=0)&&decide ((v8.idx.length:Int)=(v8.idx.length:Int))&&decide ((0:Int)<=v5)&&decide (v5<(wr .i64 (v5+1)))&&decide ((wr .i64 (v5+1))<=(v8.idx.length:Int))) (
    some ((Tbl.mk v8.name v8.cols v8.key v8.checks (List.take (v5:Int).toNat v8.idx++List.drop ((wr .i64 (v5+1)):Int).toNat v8.idx)),true)))))
  |.exit 0 =>
  chk (decide (v8.idx.length<=1000000)) (
   cond (List.isEmpty v8.idx) (
   some ((Tbl.mk v8.name v8.cols v8.key v8.checks []),false)) (
   chk (decide ((0:Int)<=0)&&decide ((0:Int)<=(v8.idx.length:Int))&&decide ((0+(v8.idx.length:Int))<=(v8.idx.length:Int))) (
    some ((Tbl.mk v8.name v8.cols v8.key v8.checks (cut v8.idx 0 (0+(v8.idx.length:Int)))),false))))
  |_=>none)) k (t.idx,0,(t.idx.length:Int),0,t,index,(Tbl.mk [] [] [] [] []))
theorem Ao0(k:Nat):FO 20 [.sv .tbl,.str] [.sv .tbl,.bool] (Tg k):=fR (px:=Abz _ k) (n:=0) Tryz.func20 rfl (λcx H=>by have h2:Lv cx (Ns (HV [.sv .tbl,.bool]) k):=lv H Ae Aa Ab;have h1:Lv cx (T1 (HV [.sv .tbl,.bool]) k):=lv H (An (cR H h2 Tryz.func49 rfl (n:=0) (Ai)) Ae) Aa Ab;have hlswithout_0:=lO H h1 (b:=lp Tryz.f48 0) (k:=k) (n:=0) (s:=S6) (step:=Gy) (λ_ _ _ (_,_,_,_,_,_,_)=>by kernel_rfl) Ai;have h0:Lv cx (Abz (HV [.sv .tbl,.bool]) k):=lv H (An (cCl H Ac3 Xt) (An (Bjq H Bg4) (An (cR H h1 Tryz.func48 rfl (n:=1) ((Bc Ai hlswithout_0))) Ae))) Aa Ab;exact⟨h0,Ai⟩) λ(_,_)=>by kernel_rfl
def fN(nm:Str):List Idx->Nat
 |[]=>0
 |x::l=>cond (decide (x.name=nm)) 0 (fN nm l+1)
def Azc(l:List Idx)(nm:Str):List Idx:=l.take (fN nm l)++l.drop (fN nm l+1)
def P9(t:Tbl)(nm:Str):Option (Tbl×Bool):=cond (decide (t.idx.length<=1000000)) (some (cond (D7 t.idx nm) ({ t with idx:=Azc t.idx nm },true) (t,false))) none
def T5:FT [.sv .tbl,.str] [.sv .tbl,.bool]:=λx=>P9 x.1 x.2
theorem Ajp{R:Type}{kx:Ex->Hu->Option R}{t a:Tbl}{l:List Idx}{nm:Str}{g:Nat->Option R}{c:Option R}(hl:ln l.length)(h1:∀i:Nat,i<l.length->kx .ret (l,(i:Int),(l.length:Int),(i:Int),t,nm,a)=g i)(h2:kx (.exit 0) (l,0,(l.length:Int),(l.length:Int),t,nm,a)=c)(k:Nat)(hk:l.length<k) :
  Aq (λrec=>Gy rec kx) k (l,0,(l.length:Int),0,t,nm,a)=cond (D7 l nm) (g (fN nm l)) c:=by
 refine(Bh l.length (λi=>(l,0,(l.length:Int),(i:Int),t,nm,a)) (λi=>cond (D7 (l.drop i) nm) (g (i+fN nm (l.drop i))) c) (λi hi rec hr =>?_) (λrec =>?_) k 0 (Nat.zero_le _) (by omega)).trans (by rw[Zq1,Nat.zero_add])
 ·simp only[Gy,Dw hi,Ah,A1 hi,chk,A0 (c :=.idx) hi,Ay hi hl,hr,h1 i hi,Au hi,D7,List.any_cons,fN];cases decide (l[i].name=nm) with|true=>rfl|false =>simp only[Al,Bool.false_or];rw[show i+1+fN nm (l.drop (i+1))=i+(fN nm (l.drop (i+1))+1) by omega]
 ·simp only[Gy,Dv,Al,h2];rw[Zk1 (Zn1 _)];rfl
theorem Aq7:FO 20 [.sv .tbl,.str] [.sv .tbl,.bool] T5 :=.fin 0 Ao0 λ(t,nm) r hb hx=>⟨t.idx.length+1,by
 simp only[T5,P9] at hx;cases hn:decide (t.idx.length<=1000000) with
 |false=>rw[hn] at hx;cases hx
 |true =>
  rw[hn] at hx;simp only[Ah,Za1] at hx;rw[<-hx];simp only[Tg];refine(Ajp (g:=λi=>some ({ t with idx:=t.idx.take i++t.idx.drop (i+1) },true)) (c:=some (t,false)) hb.1.idx.1 (λi hi =>?_) ?_ _ (by omega)).trans (Az)
  ·have he:List.isEmpty t.idx=false:=by cases h0:t.idx with|nil=>rw[h0] at hi;simp at hi|cons x l=>rfl
   have hw:wr .i64 ((i:Int)+1)=((i+1:Nat):Int):=Ay hi hb.1.idx.1;simp only[hn,chk,Ah,he,Al,Zd1 (show ¬(i:Int)<0 by omega),hw,Int.toNat_natCast];simp only[decide_true,Bool.true_and,Ze1 (show(0:Int)<=(i:Int) by omega),Ze1 (show(i:Int)<((i+1:Nat):Int) by omega),Ze1 (show((i+1:Nat):Int)<=(t.idx.length:Int) by omega),Ah]
  ·have h1:(decide ((0:Int)<=0)&&decide ((0:Int)<=(t.idx.length:Int))&&decide ((0:Int)+(t.idx.length:Int)<=(t.idx.length:Int)))=true:=by simp
   simp only[hn,chk,Ah,h1,Apn];obtain⟨a,b,c,d,l⟩:=t;cases l<;>rfl⟩
theorem Bbf{m n:Nat}(h:m<=n):E4 0 (m:Int) n=true:=by simp[E4];omega
def A9s(R:Type):Px R:=pxO [] [] [] []
def Aiq(x:HV [.str,.str]):Option (HV [.bool]):=match x with
 |(l,m) =>
 cond (decide ((m.length:Int)<=(l.length:Int))) (
  chk (E4 0 (m.length:Int) l.length) (
  some (decide ((l.take ((m.length:Int):Int).toNat)=m)))) (
  some false)
theorem A6v:FO 270 [.str,.str] [.bool] (Aiq):=fR (px:=A9s _) (n:=0) Tryz.func270 rfl (λ_ H=>⟨lv H Ae Aa Ab,Ai⟩) λ(_,_)=>by kernel_rfl
def A0s(l m:Str):Bool:=Lp.pre l m
def Ap3:FT [.str,.str] [.bool]:=λx=>some (A0s x.1 x.2)
theorem A7d:FO 270 [.str,.str] [.bool] Ap3 :=.fin0 A6v λ(l,m) r hb hx=>by
 simp only[Ap3,Za1] at hx;subst hx;simp only[Aiq,A0s,Lp.pre];have e:decide ((m.length:Int)<=(l.length:Int))=decide (m.length<=l.length):=Zy1.2 (by omega);rw[e];by_cases h:m.length<=l.length
 ·rw[Ze1 h,Ah,Bbf h,Int.toNat_natCast];rfl
 ·rw[Zd1 h];rfl
def Be2(R:Type):Px R:=pxO [(270,cA Ap3)] [] [] []
def Aaa(x:HV [.str,.str]):Option (HV [.bool]):=match x with
 |(l,m) =>
 some (A0s l m)
theorem Bad:FO 244 [.str,.str] [.bool] (Aaa):=fR (px:=Be2 _) (n:=0) Tryz.func244 rfl (λ_ H=>⟨lv H (c1 H A7d Ae) Aa Ab,Ai⟩) λ(_,_)=>by kernel_rfl
def hpre(l:Str)(m:Str):Bool :=(A0s l m)
theorem A8m(x:HV [.str,.str]):Aaa x=some (hpre x.1 x.2):=by
 first
  |exact rfl
  |simp only[Aaa,hpre,Az]
def Aze:FT [.str,.str] [.bool]:=λx=>some (hpre x.1 x.2)
theorem A2n:FO 244 [.str,.str] [.bool] Aze :=.fin0 Bad λx _ _ hx=>(A8m x).trans hx
set_option maxRecDepth 20000 in
open Go.Sx in
theorem P4(l:Str)(c:Int):Con Tryz.prog 243 [S l,.int .u8 c] [] (λ_=>True) (Is (.int .i64 (Lib.indexByte l c.toNat.toUInt8))):=by
 have run:∀w,(callFunc 269 #[S l,.int .u8 c]).run Tryz.prog w = .ok (.value (.int .i64 (Lib.indexByte l c.toNat.toUInt8))) w:=λw=>by rw[run_callFunc_extern Tryz.func269 (by kernel_rfl) rfl (by kernel_rfl) (e:=Extern.BytealgIndexByte.indexByte) (by kernel_rfl)];simp[Lib.run_indexByteString,go_sem]
 refine C7 Tryz.func243 Tryz.ntmps243 rfl (by kernel_rfl) rfl λw M =>?_
 repeat' (first|refine Dp ?_|refine Be ?_|refine Dm ?_|refine Dk ?_|refine n_blk ?_|refine g_block ?_|refine B7 ?_|refine g_exit ?_|refine x_here ?_|refine x_seq ?_|refine x_loop ?_|refine x_blk rfl ?_|refine g_scope ?_|refine n_scope ?_|refine x_scope ?_|refine g_label ?_|(apply A8 rfl rfl;(first|exact p_move rfl|exact p_assign rfl|exact p_lens (by dsimp only;decide +kernel) rfl|exact p_lensl (by dsimp only;decide +kernel) rfl|exact p_extract rfl rfl|exact p_pick_t rfl rfl|exact p_pick_f rfl rfl|exact p_eql rfl rfl|exact p_neq rfl rfl|exact p_lss rfl rfl|exact p_leq rfl rfl|exact p_gtr rfl rfl|exact p_geq rfl rfl|exact p_not rfl|exact p_eqls rfl rfl|exact p_neqs rfl rfl|exact Ag rfl rfl (by omega)|exact Af rfl rfl (by omega)|exact p_index (by dsimp only;decide +kernel) rfl rfl (by omega)|exact p_cut (by dsimp only;decide +kernel) rfl rfl rfl (by omega)|exact p_cutlo (by dsimp only;decide +kernel) rfl rfl (by omega)|exact p_cuthi (by dsimp only;decide +kernel) rfl rfl (by omega)|exact p_fa (fo:=0) (by dsimp only;decide +kernel) rfl|exact p_fa (fo:=1) (by dsimp only;decide +kernel) rfl|exact p_fa (fo:=2) (by dsimp only;decide +kernel) rfl|exact p_fa (fo:=3) (by dsimp only;decide +kernel) rfl|exact p_nil rfl))|refine o_off rfl rfl ?_|refine o_off_none rfl ?_|(apply A8 rfl rfl (A1r rfl rfl run))|(refine o_gsd rfl rfl ?_ ?_<;>intro hc)|(refine o_gse rfl rfl ?_ ?_<;>intro hc)|(refine o_gsn rfl rfl ?_ ?_<;>intro hc)|(refine o_gsxd rfl rfl ?_ ?_<;>intro hc)|(refine o_gsx rfl rfl ?_ ?_<;>intro hc)|(refine o_gs rfl rfl ?_ ?_<;>intro hc)|refine g_cond_t rfl rfl ?_|refine g_cond_f rfl rfl ?_|refine g_cond_t rfl (Ze1 (by omega)) ?_|refine g_cond_f rfl (Zd1 (by omega)) ?_|(refine Bl rfl ?_ ?_<;>intro hc)|(refine g_conde rfl ?_ ?_<;>intro hc)|(refine g_condn rfl ?_ ?_<;>intro hc)|(refine g_condxd rfl ?_ ?_<;>intro hc)|(refine g_condx rfl ?_ ?_<;>intro hc)|(refine B5 rfl ?_ ?_<;>intro hc)|refine B8 rfl rfl ?_|refine g_ret2 rfl rfl rfl ?_|refine g_ret3 rfl rfl rfl rfl ?_|fail)
 exact Bby rfl
def sib(l:Str)(c:Int):Int:=Lib.indexByte l c.toNat.toUInt8
def A9e:FT [.str,.int .u8] [.int .i64]:=λx=>some (sib x.1 x.2)
theorem Bej(l:Str)(c:Int) : -1<=sib l c/\sib l c<l.length+1:=by have:=Lp.indexByte_in l c.toNat.toUInt8;simp only[sib];omega
theorem Bgx:FO 243 [.str,.int .u8] [.int .i64] A9e:=by
 refine FnOk.ofIs (P4 [] 0).enters rfl λx r hx =>?_;obtain⟨l,c⟩:=x;simp only[A9e,Za1] at hx;subst hx;refine⟨[Sx.S l,.int .u8 c],_,λX vs h =>?_,P4 l c,λX hb =>?_⟩
 ·simp only[B3,Ce,Reps,Rep] at h;obtain⟨u,us,rfl,⟨rfl,_⟩,u2,us2,rfl,⟨rfl,_⟩,rfl⟩:=h;rfl
 ·simp only[Gj,B3,Ce];have h:=Bej l c;have hl:ln l.length:=hb.1;refine Cl (Aq6 ?_);simp only[IntKind.min,IntKind.max,IntKind.signed,IntKind.bits,sib,ln] at *;simp only[if_true];omega
def Bao(R:Type):Px R:=pxO [(243,cA A9e)] [] [] []
def Uk(x:HV [.str,.int .u8]):Option (HV [.int .i64]):=match x with
 |(l,c) =>
 some (sib l c)
theorem A6z:FO 203 [.str,.int .u8] [.int .i64] (Uk):=fR (px:=Bao _) (n:=0) Tryz.func203 rfl (λ_ H=>⟨lv H (c1 H Bgx Ae) Aa Ab,Ai⟩) λ(_,_)=>by kernel_rfl
def Jt(l:Str)(c:Int):Int :=(sib l c)
theorem A2t(x:HV [.str,.int .u8]):Uk x=some (Jt x.1 x.2):=by
 first
  |exact rfl
  |simp only[Uk,Jt,Az]
def Adw:FT [.str,.int .u8] [.int .i64]:=λx=>some (Jt x.1 x.2)
theorem Ah3:FO 203 [.str,.int .u8] [.int .i64] Adw :=.fin0 A6z λx _ _ hx=>(A2t x).trans hx
def A7b(R:Type):Px R:=pxO [] [] [] []
def U0(x:HV [.int .u8]):Option (HV [.bool]):=match x with
 |c =>
 cond (decide (65<=c)) (
  some (decide (c<=90))) (
  some false)
theorem A4d:FO 246 [.int .u8] [.bool] (U0):=fR (px:=A7b _) (n:=0) Tryz.func246 rfl (λ_ H=>⟨lv H Ae Aa Ab,Ai⟩) λ_=>by kernel_rfl
def Ac4(c:Int):Bool :=
 cond (decide (65<=c)) (
  (decide (c<=90))) (
  false)
theorem A6p(x:HV [.int .u8]):U0 x=some (Ac4 x):=by
 first
  |exact rfl
  |simp only[U0,Ac4,Az]
def Adg:FT [.int .u8] [.bool]:=λx=>some (Ac4 x)
theorem Afm:FO 246 [.int .u8] [.bool] Adg :=.fin0 A4d λx _ _ hx=>(A6p x).trans hx
theorem Ag6(c:Int):Ac4 c=Lp.isUp c:=by simp only[Ac4,Lp.isUp];cases decide (65<=c)<;>rfl
def Bbz(R:Type):Px R:=pxO [(183,cA Adi),(246,cA Adg)] [] [] []
def Up(x:HV [.str,.int .i64]):Option (HV [.bool]):=match x with
 |(s,i) =>
 cond (decide (i=(s.length:Int))) (
  some true) (
  chk (inb i s.length) (
  cond (!(Aas (bat s i))) (
   chk (inb i s.length) (
   some (!(Ac4 (bat s i))))) (
   some false)))
theorem A48:FO 248 [.str,.int .i64] [.bool] (Up):=fR (px:=Bbz _) (n:=0) Tryz.func248 rfl (λ_ H=>⟨lv H (c1 H Afo (c1 H Afm Ae)) Aa Ab,Ai⟩) λ(_,_)=>by kernel_rfl
def Tt(s:Str)(i:Int):Option Bool:=if 0<=i/\i<=s.length then some (Lp.aloneF s i) else none
def Ap4:FT [.str,.int .i64] [.bool]:=λx=>Tt x.1 x.2
theorem Bex(a b:Int):(a == b)=decide (a=b):=rfl
theorem Bff(s:Str)(i:Int)(h : 0<=i/\i<=s.length):Up (s,i)=some (Lp.aloneF s i):=by
 simp only[Up,Lp.aloneF,Ahl,Ag6,Bex];by_cases he:i=s.length
 ·rw[Ze1 he];rfl
 ·rw[Zd1 he,Arz (by omega)];show cond (!Lp.isIn (bat s i)) (some (!Lp.isUp (bat s i))) (some false)=some (!Lp.isIn (bat s i) && !Lp.isUp (bat s i));cases Lp.isIn (bat s i)<;>rfl
theorem Bco:FO 248 [.str,.int .i64] [.bool] Ap4 :=.fin0 A48 λ(s,i) r hb hx=>by
 simp only[Ap4,Tt] at hx;split at hx
 ·rename_i h;exact(Bff s i h).trans hx
 ·cases hx
def Abt:Sig:=⟨46,[(0,.str),(2,.int .i64),(3,.bool),(4,.int .i64),(11,.int .i64),(12,.int .i64)],[],[],0,0,0,[],[]⟩
abbrev Nk:=Str×Int×Bool×Int×Int×Int
def Le{R:Type}(rec:Nk->Option R)(kx:Ex->Nk->Option R)(v:Nk):Option R:=match v with
 |(v,v1,v2,v3,v4,v5) =>
 cond (decide (v5<v4)) (
  chk (inb v5 v.length) (
  cond (!decide ((We v3 10).2=0)) (
   kx .ret (v,0,false,v3,v4,v5)) (
   cond (!decide ((Za ((We v3 10).1) (wr .i64 (wr .u8 ((bat v v5)-48)))).2=0)) (
   kx .ret (v,0,false,v3,v4,v5)) (
   rec (v,v1,v2,(Za ((We v3 10).1) (wr .i64 (wr .u8 ((bat v v5)-48)))).1,v4,(wr .i64 (v5+1))))))) (
  kx (.exit 0) (v,v1,v2,v3,v4,v5))
def Amh(R:Type)(k:Nat):Px R:=pxO [(230,cA Ax1),(228,cA Av4)] [] [(3,Ao k Abt (Le))] []
def Aa4(k:Nat)(x:HV [.str]):Option (HV [.int .i64,.bool]):=match x with
 |s =>
 Aq (λrec=>Le rec (λe vz=>match vz with|(v6,v7,v8,v9,_,_)=>match e with
  |.ret =>
  some (v7,v8)
  |.exit 0 =>
  cond (decide (v6=[48])) (
   some (v9,true)) (
   chk (inb 0 v6.length) (
   some (v9, !decide ((bat v6 0)=48))))
  |_=>none)) k (s,0,false,0,(s.length:Int),0)
theorem Aww(k:Nat):FO 249 [.str] [.int .i64,.bool] (Aa4 k):=fR (px:=Amh _ k) (n:=1) Tryz.func249 rfl (λcx H=>by have h0:Lv cx (Amh (HV [.int .i64,.bool]) k):=lv H (c1 H Azm (c1 H Azk Ae)) Aa Ab;have hlnumber_0:=lO H h0 (b:=lp Tryz.f249 0) (k:=k) (n:=0) (s:=Abt) (step:=Le) (λ_ _ _ (_,_,_,_,_,_)=>by kernel_rfl) Ai;exact⟨h0,(Bc Ai hlnumber_0)⟩) λ_=>by kernel_rfl
def A9w(s:Str):Int×Bool:=match Lp.numGo s 0 with|some n=>(n,decide (s=[48]) || !decide (bat s 0=48))|none=>(0,false)
def Apb(s:Str):Option (Int×Bool):=match s with|[]=>none|_=>some (A9w s)
def Ae2:FT [.str] [.int .i64,.bool]:=λx=>Apb x
theorem Abu{R:Type}{kx:Ex->Nk->Option R}{s:Str}{c:Option Int->Option R}(hs:ln s.length)(h1:∀n j,kx .ret (s,0,false,n,(s.length:Int),j)=c none)(h2:∀q r n j,kx (.exit 0) (s,q,r,n,(s.length:Int),j)=c (some n)):∀(k i:Nat) (q:Int) (r:Bool) (n:Int),inI n->i<=s.length->s.length-i<k->Aq (λrec=>Le rec kx) k (s,q,r,n,(s.length:Int),(i:Int))=c (Lp.numGo (s.drop i) n)
 |0,i,q,r,n,_,_,h=>absurd h (Zm1 _)
 |k+1,i,q,r,n,hn,hi,h=>by
  rw[Bu];by_cases hl:i<s.length
  ·have hd:=Lp.inI_dg (s[i].toNat:Int);have e10:inI (10:Int):=by simp only[inI];omega
   have em:=Bhq hn e10;simp only[Le,A1 hl,Ct hl,em];rw[Ze1 (show(i:Int)<(s.length:Int) by omega),Au hl];simp only[Ah,chk,Lp.numGo];by_cases hm:inI (n*10)
   ·have hm':=hm;simp only[inI] at hm';have ef:Uw (n*10)=(n*10,0):=by rw[Uw,if_pos hm']
    have ea:=Bg5 hm (show inI (wr .i64 (wr .u8 ((s[i].toNat:Int)-48))) from hd);simp only[ef,ea];by_cases hf:inI (n*10+Lp.dg (s[i].toNat:Int))
    ·have hf':=hf;simp only[inI] at hf';have eg:Uw (n*10+wr .i64 (wr .u8 ((s[i].toNat:Int)-48)))=(n*10+Lp.dg (s[i].toNat:Int),0):=by have hf2 : -9223372036854775808<=n*10+wr .i64 (wr .u8 ((s[i].toNat:Int)-48))/\n*10+wr .i64 (wr .u8 ((s[i].toNat:Int)-48))<=9223372036854775807:=hf';rw[Uw,if_pos hf2];rfl
     rw[eg,if_pos (show Lp.inI _/\Lp.inI _ from⟨hm,hf⟩)];have ih:=Abu hs h1 h2 k (i+1) q r (n*10+Lp.dg (s[i].toNat:Int)) hf (by omega) (by omega);rw[Ay hl hs];exact ih
    ·have hf':=hf;simp only[inI] at hf';have eg:Uw (n*10+wr .i64 (wr .u8 ((s[i].toNat:Int)-48)))=(0,20):=by have hf2:¬(-9223372036854775808<=n*10+wr .i64 (wr .u8 ((s[i].toNat:Int)-48))/\n*10+wr .i64 (wr .u8 ((s[i].toNat:Int)-48))<=9223372036854775807):=hf';rw[Uw,if_neg hf2]
     rw[eg,if_neg (λh=>hf h.2)];exact h1 _ _
   ·have hm':=hm;simp only[inI] at hm';have ef:Uw (n*10)=(0,20):=by rw[Uw,if_neg hm']
    rw[if_neg (λh=>hm h.1)];simp only[ef];exact h1 _ _
  ·simp only[Le,h2];rw[Zd1 (by omega),Zk1 (by omega)];rfl
theorem A52:FO 249 [.str] [.int .i64,.bool] Ae2 :=.fin 0 Aww λs r hb hx=>⟨s.length+1,by
 simp only[Ae2] at hx;cases s with
 |nil=>cases hx
 |cons b l =>
  have hx:some (A9w (b::l))=some r:=hx;rw[<-hx];simp only[Aa4];refine(Abu (s:=b::l) (c:=λo=>match o with|some n=>some (n,decide (b::l=[48]) || !decide (bat (b::l) 0=48))|none=>some (0,false)) hb (λ_ _=>rfl) (λ_ _ n _ =>?_) ((b::l).length+1) 0 0 false 0 (by simp[inI]) (Nat.zero_le _) (by omega)).trans ?_
  ·show cond (decide (b::l=[48])) (some (n,true)) (chk (inb 0 (b::l).length) (some (n, !decide (bat (b::l) 0=48))))=_;rw[Arz (by simp only[Zf1];omega)];cases decide (b::l=[48])<;>rfl
  ·simp only[Zq1,A9w];cases Lp.numGo (b::l) 0<;>rfl⟩
def Aa5:Sig:=⟨40,[(0,.str),(4,.str),(5,.int .i64),(6,.sl .byte true),(7,.int .i64)],[],[],0,0,0,[],[]⟩
abbrev M9:=Str×Str×Int×List UInt8×Int
def Lb{R:Type}(rec:M9->Option R)(kx:Ex->M9->Option R)(v:M9):Option R:=match v with
 |(v,v1,v2,v3,v4) =>
 cond (decide (v4<(v.length:Int))) (
  chk (inb v4 v.length) (
  cond (decide ((bat v v4)=39)) (
   cond (decide ((wr .i64 (v4+1))=(v.length:Int))) (
   kx .ret (v,v3,(wr .i64 (v4+1)),v3,(wr .i64 (v4+1)))) (
   chk (inb (wr .i64 (v4+1)) v.length) (
    cond (!decide ((bat v (wr .i64 (v4+1)))=39)) (
    kx .ret (v,v3,(wr .i64 (v4+1)),v3,(wr .i64 (v4+1)))) (
    chk (inb (wr .i64 (v4+1)) v.length) (
     chk (decide (v3.length+1<=Av)) (
     rec (v,v1,v2,(v3++[(UInt8.ofNat ((bat v (wr .i64 (v4+1))):Int).toNat)]),(wr .i64 ((wr .i64 (v4+1))+1))))))))) (
   chk (inb v4 v.length) (
   chk (decide (v3.length+1<=Av)) (
    rec (v,v1,v2,(v3++[(UInt8.ofNat ((bat v v4):Int).toNat)]),(wr .i64 (v4+1)))))))) (
  kx (.exit 0) (v,v1,v2,v3,v4))
def Am5(R:Type)(k:Nat):Px R:=pxO [] [] [(3,Ao k Aa5 (Lb))] []
def Acn(k:Nat)(x:HV [.str,.int .i64]):Option (HV [.str,.int .i64]):=match x with
 |(s,i) =>
 Aq (λrec=>Lb rec (λe vz=>match vz with|(_,v6,v7,_,_)=>match e with
  |.ret =>
  some (v6,v7)
  |.exit 0 =>
  some ([],(-1))
  |_=>none)) k (s,[],0,[],i)
theorem Awv(k:Nat):FO 250 [.str,.int .i64] [.str,.int .i64] (Acn k):=fR (px:=Am5 _ k) (n:=1) Tryz.func250 rfl (λcx H=>by have h0:Lv cx (Am5 (HV [.str,.int .i64]) k):=lv H Ae Aa Ab;have hlquoted_0:=lO H h0 (b:=lp Tryz.f250 0) (k:=k) (n:=0) (s:=Aa5) (step:=Lb) (λ_ _ _ (_,_,_,_,_)=>by kernel_rfl) Ai;exact⟨h0,(Bc Ai hlquoted_0)⟩) λ(_,_)=>by kernel_rfl
def Aqe(s:Str)(i:Int):Option (Str×Int):=if 0<=i/\i<=s.length/\s.length<=1000000 then some (Lp.qGo (s.drop i.toNat) [] i) else none
def Afk:FT [.str,.int .i64] [.str,.int .i64]:=λx=>Aqe x.1 x.2
theorem Aij(b:UInt8):UInt8.ofNat ((b.toNat:Int)).toNat=b:=by simp
theorem Ov{R:Type}{kx:Ex->M9->Option R}{s:Str}{c:Str×Int->Option R}(hs:s.length<=1000000)(h1:∀a j,kx .ret (s,a,j,a,j)=c (a,j))(h2:∀q r a j,kx (.exit 0) (s,q,r,a,j)=c ([], -1)):∀(k i:Nat) (q:Str) (r:Int) (a:Str),a.length<=i->i<=s.length->s.length-i<k->Aq (λrec=>Lb rec kx) k (s,q,r,a,(i:Int))=c (Lp.qGo (s.drop (i:Int).toNat) a i)
 |0,i,q,r,a,_,_,h=>absurd h (Zm1 _)
 |k+1,i,q,r,a,ha,hi,h=>by
  rw[Bu];by_cases hl:i<s.length
  ·have hln:ln s.length:=by simp only[ln];omega
   have ea:decide (a.length+1<=Av)=true:=Ze1 (by simp only[Av];omega);have eb:Sx.byt s (i:Int)=(s[i].toNat:Int):=Ct hl;simp only[Lb,A1 hl,Ay hl hln,Ct hl,ea,Aij];rw[Ze1 (show(i:Int)<(s.length:Int) by omega)];simp only[Ah,chk];by_cases h39:(s[i].toNat:Int)=39
   ·rw[Ze1 h39,Ah];by_cases he:i+1=s.length
    ·rw[Ze1 (show((i+1:Nat):Int)=(s.length:Int) by omega),Ah,h1,Lp.q_last (by omega) (by omega) (eb.trans h39)];rfl
    ·have hl2:i+1<s.length:=by omega
     have eb2:Sx.byt s ((i:Int)+1)=(s[i+1].toNat:Int):=Ct hl2;rw[Zd1 (show ¬((i+1:Nat):Int)=(s.length:Int) by omega),A1 hl2,Al];simp only[Ah,Ct hl2,Aij];by_cases h3:(s[i+1].toNat:Int)=39
     ·have ih:=Ov hs h1 h2 k (i+1+1) q r (a++[s[i+1]]) (by simp only[Zh1,Zf1,Zi1];omega) (by omega) (by omega);have e39:s[i+1]=39:=by rw[<-UInt8.toNat_inj];exact Int.ofNat.inj h3
      rw[Ze1 h3,Lp.q_two (by omega) (by omega) (eb.trans h39) (eb2.trans h3),Ay hl2 hln];simp only[Zt1,Al];rw[ih,e39];rfl
     ·rw[Zd1 h3,Lp.q_close (by omega) (by omega) (eb.trans h39) (λe=>h3 (eb2.symm.trans e))];simp only[Zs1,Ah,h1];rfl
   ·have ih:=Ov hs h1 h2 k (i+1) q r (a++[s[i]]) (by simp only[Zh1,Zf1,Zi1];omega) (by omega) (by omega);rw[Zd1 h39,Al,ih,Lp.q_other (by omega) (by omega) (λe=>h39 (eb.symm.trans e))];have eg:s.getD (i:Int).toNat 0=s[i]:=by simp[List.getD_eq_getElem?_getD,hl]
    rw[eg];rfl
  ·simp only[Lb,h2];rw[Zd1 (by omega),Lp.q_end (by omega)];rfl
theorem A5u:FO 250 [.str,.int .i64] [.str,.int .i64] Afk :=.fin 0 Awv λ(s,i) r hb hx=>⟨s.length+1,by
 simp only[Afk,Aqe] at hx;split at hx
 ·rename_i h;rw[<-hx];obtain⟨n,rfl⟩:=Int.eq_ofNat_of_zero_le h.1;simp only[Acn];exact Ov (c:=some) h.2.2 (λ_ _=>rfl) (λ_ _ _ _=>rfl) (s.length+1) n [] 0 [] (Nat.zero_le _) (by omega) (by omega)
 ·cases hx⟩
def Aek:Sig:=⟨19,[(0,.str),(2,.int .i64),(5,.sl .str true),(6,.int .i64),(7,.int .i64)],[],[],0,0,0,[],[]⟩
abbrev Yr:=Str×Int×List Str×Int×Int
def Anv{R:Type}(rec:Yr->Option R)(kx:Ex->Yr->Option R)(v:Yr):Option R:=match v with
 |(v,v1,v2,v3,v4) =>
 cond (decide (v4<v3)) (
  chk (inb v4 v2.length) (
  cond ((hpre v (at' .str v2 v4))) (
   kx .ret (v,2,v2,v3,v4)) (
   rec (v,v1,v2,v3,(wr .i64 (v4+1)))))) (
  kx (.exit 0) (v,v1,v2,v3,v4))
def Auv(R:Type)(k:Nat):Px R:=pxO [(244,cA Aze),(203,cA Adw)] [] [(2,Ao k Aek (Anv))] []
def Ae3(k:Nat)(x:HV [.str]):Option (HV [.int .i64]):=match x with
 |s =>
 Aq (λrec=>Anv rec (λe vz=>match vz with|(v5,v6,_,_,_)=>match e with
  |.ret =>
  some v6
  |.exit 0 =>
  chk (inb 0 v5.length) (
   cond (decide (0<=(Jt [40,41,44,42,61,60,62,43,45,59] (bat v5 0)))) (
   some 1) (
   some 0))
  |_=>none)) k (s,0,[[60,62],[60,61],[62,61]],3,0)
theorem A2u(k:Nat):FO 251 [.str] [.int .i64] (Ae3 k):=fR (px:=Auv _ k) (n:=1) Tryz.func251 rfl (λcx H=>by have h0:Lv cx (Auv (HV [.int .i64]) k):=lv H (c1 H A2n (c1 H Ah3 Ae)) Aa Ab;have hllsign_0:=lO H h0 (b:=lp Tryz.f251 0) (k:=k) (n:=0) (s:=Aek) (step:=Anv) (λ_ _ _ (_,_,_,_,_)=>by kernel_rfl) Ai;exact⟨h0,(Bc Ai hllsign_0)⟩) λ_=>by kernel_rfl
def Bcg(s:Str):Option Int:=match s with|[]=>none|_=>some (Lp.signF s)
def Aph:FT [.str] [.int .i64]:=λx=>Bcg x
theorem Bbn:FO 251 [.str] [.int .i64] Aph :=.fin 0 A2u λs r hb hx=>⟨4,by
 simp only[Aph] at hx;cases s with
 |nil=>cases hx
 |cons b l =>
  have hx:some (Lp.signF (b::l))=some r:=hx;rw[<-hx];have e0:inb 0 (b::l).length=true:=Arz (by simp only[Zf1];omega);have e1:hpre (b::l) [60,62]=Lp.pre (b::l) [60,62]:=rfl;have e2:hpre (b::l) [60,61]=Lp.pre (b::l) [60,61]:=rfl;have e3:hpre (b::l) [62,61]=Lp.pre (b::l) [62,61]:=rfl;have ei:Jt [40,41,44,42,61,60,62,43,45,59] (bat (b::l) 0)=Lib.indexByte Lp.signs (Sx.byt (b::l) 0).toNat.toUInt8:=rfl;simp only[Ae3,Lp.signF,<-ei,<-e1,<-e2,<-e3];show cond (hpre (b::l) [60,62]) (some 2) (cond (hpre (b::l) [60,61]) (some 2) (cond (hpre (b::l) [62,61]) (some 2) (chk (inb 0 (b::l).length) (cond (decide (0<=Jt [40,41,44,42,61,60,62,43,45,59] (bat (b::l) 0))) (some 1) (some 0)))))=_;generalize Jt [40,41,44,42,61,60,62,43,45,59] (bat (b::l) 0)=z;rw[e0];by_cases hz : 0<=z
  ·rw[Ze1 hz,if_pos hz];cases hpre (b::l) [60,62]<;>cases hpre (b::l) [60,61]<;>cases hpre (b::l) [62,61]<;>rfl
  ·rw[Zd1 hz,if_neg hz];cases hpre (b::l) [60,62]<;>cases hpre (b::l) [60,61]<;>cases hpre (b::l) [62,61]<;>rfl⟩
def A61(R:Type):Px R:=pxO [] [] [] []
def Pp(x:HV [.int .u8]):Option (HV [.int .u8,.bool]):=match x with
 |c =>
 let j:=λ(p1:Bool) =>
  cond (p1) (
  some ((wr .u8 (c-48)),true)) (
  cond (decide (97<=c)) (
   cond (decide (c<=102)) (
   some ((wr .u8 ((wr .u8 (c-97))+10)),true)) (
   some (0,false))) (
   some (0,false)))
 cond (decide (48<=c)) (
  j (decide (c<=57))) (
  j false)
theorem Awh:FO 271 [.int .u8] [.int .u8,.bool] (Pp):=fR (px:=A61 _) (n:=0) Tryz.func271 rfl (λ_ H=>⟨lv H Ae Aa Ab,Ai⟩) λ_=>by kernel_rfl
def Nq(c:Int):Int×Bool :=
 let j:=λ(p1:Bool) =>
  cond (p1) (
  ((wr .u8 (c-48)),true)) (
  cond (decide (97<=c)) (
   cond (decide (c<=102)) (
   ((wr .u8 ((wr .u8 (c-97))+10)),true)) (
   (0,false))) (
   (0,false)))
 cond (decide (48<=c)) (
  j (decide (c<=57))) (
  j false)
theorem Ax2(x:HV [.int .u8]):Pp x=some (Nq x):=by
 first
  |exact rfl
  |simp only[Pp,Nq,Az]
def Aru:FT [.int .u8] [.int .u8,.bool]:=λx=>some (Nq x)
theorem A55:FO 271 [.int .u8] [.int .u8,.bool] Aru :=.fin0 Awh λx _ _ hx=>(Ax2 x).trans hx
def Bic(c:Int):Int×Bool:=match Lp.hexD c with|some n=>(n,true)|none=>(0,false)
theorem Awd:((List.range 256).all λn=>decide (Nq (n:Int)=Bic (n:Int)))=true:=by kernel_rfl
theorem A44(b:UInt8):Nq (b.toNat:Int)=Bic (b.toNat:Int):=by have h:=Zf2.1 Awd b.toNat (List.mem_range.2 b.toNat_lt);exact of_decide_eq_true h
def Agj:Sig:=⟨49,[(0,.str),(2,.sl .byte true),(3,.int .i64),(4,.sl .byte true),(5,.int .i64)],[],[],0,0,0,[],[]⟩
abbrev Rb:=Str×List UInt8×Int×List UInt8×Int
def Qw{R:Type}(rec:Rb->Option R)(kx:Ex->Rb->Option R)(v:Rb):Option R:=match v with
 |(v,v1,v2,v3,v4) =>
 cond (decide (v4<(v.length:Int))) (
  chk (inb v4 v.length) (
  chk (inb (wr .i64 (v4+1)) v.length) (
   cond (!((Nq (bat v v4)).2)) (
   kx .ret (v,[],11,v3,v4)) (
   cond (!((Nq (bat v (wr .i64 (v4+1)))).2)) (
    kx .ret (v,[],11,v3,v4)) (
    chk (decide (v3.length+1<=Av)) (
    rec (v,v1,v2,(v3++[(UInt8.ofNat ((ior .u8 (A38 .u8 ((Nq (bat v v4)).1) 4) ((Nq (bat v (wr .i64 (v4+1)))).1)):Int).toNat)]),(wr .i64 (v4+2))))))))) (
  kx (.exit 0) (v,v1,v2,v3,v4))
def Ath(R:Type)(k:Nat):Px R:=pxO [(271,cA Aru)] [] [(5,Ao k Agj (Qw))] []
def Agg(k:Nat)(x:HV [.str]):Option (HV [.sl .byte true,.int .i64]):=match x with
 |s =>
 cond (!decide ((Int.tmod (s.length:Int) 2)=0)) (
  some ([],11)) (
  Aq (λrec=>Qw rec (λe vz=>match vz with|(_,v6,v7,v8,_)=>match e with
  |.ret =>some (v6,v7)
  |.exit 0 =>some (v8,0)
  |_=>none)) k (s,[],0,[],0))
theorem A64(k:Nat):FO 245 [.str] [.sl .byte true,.int .i64] (Agg k):=fR (px:=Ath _ k) (n:=1) Tryz.func245 rfl (λcx H=>by have h0:Lv cx (Ath (HV [.sl .byte true,.int .i64]) k):=lv H (c1 H A55 Ae) Aa Ab;have hlunhex_0:=lO H h0 (b:=lp Tryz.f245 0) (k:=k) (n:=0) (s:=Agj) (step:=Qw) (λ_ _ _ (_,_,_,_,_)=>by kernel_rfl) Ai;exact⟨h0,(Bc Ai hlunhex_0)⟩) λ_=>by kernel_rfl
def unP(s:Str):Str×Int:=match(if s.length % 2=0 then Lp.unGo s [] else none) with|some b=>(b,0)|none=>([],11)
def A0b(s:Str):Option (Str×Int):=if s.length<=1000000 then some (unP s) else none
def Ao4:FT [.str] [.sl .byte true,.int .i64]:=λx=>A0b x
theorem Aeo{R:Type}{kx:Ex->Rb->Option R}{s:Str}{c:Option Str->Option R}(hs:s.length<=1000000)(h1:∀a j,kx .ret (s,[],11,a,j)=c none)(h2:∀q r a j,kx (.exit 0) (s,q,r,a,j)=c (some a)):∀(k i:Nat) (q:Str) (r:Int) (a:Str),a.length<=i->i<=s.length->(s.length-i) % 2=0->s.length-i<k->Aq (λrec=>Qw rec kx) k (s,q,r,a,(i:Int))=c (Lp.unGo (s.drop (i:Int).toNat) a)
 |0,i,q,r,a,_,_,_,h=>absurd h (Zm1 _)
 |k+1,i,q,r,a,ha,hi,hev,h=>by
  rw[Bu];by_cases hl:i<s.length
  ·have hl2:i+1<s.length:=by omega
   have hln:ln s.length:=by simp only[ln];omega
   have ea:decide (a.length+1<=Av)=true:=Ze1 (by simp only[Av];omega);have eb:Sx.byt s (i:Int)=(s[i].toNat:Int):=Ct hl;have eb2:Sx.byt s ((i:Int)+1)=(s[i+1].toNat:Int):=Ct hl2;have ew:wr .i64 ((i:Int)+2)=((i+1+1:Nat):Int):=by rw[Dr (by simp only[inI];omega)];omega
   simp only[Qw,A1 hl,Ay hl hln,Ct hl,Ct hl2,A1 hl2,ea,ew,A44];rw[Ze1 (show(i:Int)<(s.length:Int) by omega),Lp.un_step (by omega) (by omega),eb,eb2];simp only[Ah,chk,Bic];cases hx:Lp.hexD (s[i].toNat:Int) with
   |none=>exact h1 _ _
   |some x =>cases hy:Lp.hexD (s[i+1].toNat:Int) with|none=>exact h1 _ _|some y =>have ih:=Aeo hs h1 h2 k (i+1+1) q r (a++[UInt8.ofNat (x*16+y).toNat]) (by simp only[Zh1,Zf1,Zi1];omega) (by omega) (by omega) (by omega);have ej:ior .u8 (A38 .u8 x 4) y=_:=Lp.joinhex' (Lp.hexD_lt hx) (Lp.hexD_lt hy);simp only[Zt1,Al,ej,Aij];exact ih
  ·simp only[Qw,h2];rw[Zd1 (by omega),Zk1 (by omega)];rfl
theorem A9i:FO 245 [.str] [.sl .byte true,.int .i64] Ao4 :=.fin 0 A64 λs r hb hx=>⟨s.length+1,by
 simp only[Ao4,A0b] at hx;split at hx
 ·rename_i h;rw[<-hx];have et:Int.tmod (s.length:Int) 2=((s.length % 2:Nat):Int):=rfl;simp only[Agg,et,unP];by_cases h2:s.length % 2=0
  ·rw[Ze1 (show((s.length % 2:Nat):Int)=0 by omega),if_pos h2,Zt1,Al];refine(Aeo (c:=λo=>match o with|some b=>some (b,(0:Int))|none=>some ([],11)) h (λ_ _ =>?_) (λ_ _ _ _ =>?_) (s.length+1) 0 [] 0 [] (Nat.zero_le _) (Nat.zero_le _) h2 (by omega)).trans ?_
   ·rfl
   ·rfl
   simp only[Int.toNat_natCast,Zq1];cases Lp.unGo s []<;>rfl
  ·rw[Zd1 (show ¬((s.length % 2:Nat):Int)=0 by omega),if_neg h2];rfl
 ·cases hx⟩
def Bb2(R:Type):Px R:=pxO [(41,cA Ax3)] [] [] []
def U9(x:HV [.str]):Option (HV [.bool]):=match x with
 |s =>
 some (Atq wordsL s)
theorem A6y:FO 247 [.str] [.bool] (U9):=fR (px:=Bb2 _) (n:=0) Tryz.func247 rfl (λ_ H=>⟨lv H (c1 H A0h Ae) Aa Ab,Ai⟩) λ_=>by kernel_rfl
def Amy(s:Str):Bool :=(Atq wordsL s)
theorem A3i(x:HV [.str]):U9 x=some (Amy x):=by
 first
  |exact rfl
  |simp only[U9,Amy,Az]
def Azu:FT [.str] [.bool]:=λx=>some (Amy x)
theorem Bc2:FO 247 [.str] [.bool] Azu :=.fin0 A6y λx _ _ hx=>(A3i x).trans hx
theorem Bbu(s:Str):Amy s=Lp.wordF s:=A1b wordsL s
end Go.Proofs.YtbkinkalnmbpjaaGreatDoor
