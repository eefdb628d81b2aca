/- Texts of the proof,one behind the other: Yc,Yd,Qn,Qo,Qp,Qq,Qr,Qs,Qt,Qu,Qv,Pi,Qw,Vc,Da,Rw,Rx,Kp,Rv,Db. -/
import Derived.Test.YthndhaolemgbdaaGreatDoorW6
set_option linter.all false
namespace Go.Proofs.YthndhaolemgbdaaGreatDoor
open Go.Ax
open Lp (Ef Sc clsF)
theorem Bka{k:Int}(hk : 2<=k/\k<=5):Rd Kh dlm C2 C2 (at' .str kindsL k) k:=by
 have:k=2\/k=3\/k=4\/k=5:=by omega
 rcases this with rfl|rfl|rfl|rfl
 ·exact(Lx.word (w:=Ao8) (by decide +kernel)).mono (λ_ h=>h) λts q vs _=>⟨trivial,by simp only[Kh,Dt q,Dk q]⟩
 ·exact(Lx.word (w:=Baw) (by decide +kernel)).mono (λ_ h=>h) λts q vs _=>⟨trivial,by simp only[Kh,Acb q (show ¬Ao8=Baw by decide),Dt q,Dk q]⟩
 ·exact(Lx.word (w:=Apz) (by decide +kernel)).mono (λ_ h=>h) λts q vs _=>⟨trivial,by simp only[Kh,Acb q (show ¬Ao8=Apz by decide),Acb q (show ¬Baw=Apz by decide),Dt q,Dk q]⟩
 ·exact(Lx.word (w:=Acg) (by decide +kernel)).mono (λ_ h=>h) λts q vs _=>⟨trivial,by simp only[Kh,Acb q (show ¬Ao8=Acg by decide),Acb q (show ¬Baw=Acg by decide),Acb q (show ¬Apz=Acg by decide),Dt q,Dk q]⟩
theorem Bhs{w a:Str}{ss V:List Str}(hw:¬w∈V)(h:Lx dlm a λts=>∃t1 t2,ts=t1++t2/\IsW w t1/\∀vs,A4 ss (t2++vs) = .ok ((),vs))(b:Bool):Rd (Mb w ss) dlm (No (w::V)) (No V) (cond b a []) b:=by cases b with|false=>exact Lx.nil λvs hv=>⟨V4 (λx hx=>Zu1 _ hx) hv,by simp only[Mb,Zf2,hv w Zr1]⟩|true =>refine h.mono (λ_ h=>h) λts q vs hv =>?_;obtain⟨t1,t2,rfl,q1,q2⟩:=q;rw[Zj1];exact⟨Ae2 hw (Dt q1 _),by simp only[Mb,Dt q1,Dk q1,q2]⟩
theorem Bm2{c:Col}(hc:c.ref=[]\/Be c.ref=true){V:List Str}(hw:¬A1b∈V):Rd Agl dlm (No (A1b::V)) (No V) (Bac c) c.ref:=by
 unfold Bac;by_cases h:c.ref=[]
 ·rw[Ze1 h,Ae,h];exact Lx.nil λvs hv=>⟨V4 (λx hx=>Zu1 _ hx) hv,by simp only[Agl,Zf2,hv A1b Zr1]⟩
 ·rw[Zd1 h,Ah];have hn:=hc.resolve_left h;refine(Lx.app (Lx.sp (Lx.spb (D:=Dj) (Lx.word (w:=A1b) (by decide +kernel)))) (F9 hn) (λr _=>trivial)).mono (λ_ h=>h) λts q vs hv =>?_;obtain⟨t1,t2,rfl,q1,q2⟩:=q;rw[Zj1];exact⟨Ae2 hw (Dt q1 _),by simp only[Agl,Dt q1,Dk q1,(q2 vs trivial).2]⟩
theorem Ol{b:Bool}{x r:Str}(h:dlm r):dlm (cond b (32::x) []++r):=by cases b with|false=>exact h|true=>exact Abh _
theorem Arz{c:Col}{r:Str}(h:dlm r):dlm (Bac c++r):=by unfold Bac;cases decide (c.ref=[]) with|true=>exact h|false=>exact Abh _
theorem Bir(c:Col):T6 c=c.name++((32::at' .str kindsL c.kind)++(cond c.notNull (32::(Eg++32::B5)) []++(cond c.unique (32::F6) []++Bac c))):=by simp only[T6,Bac,Zj1,Zb2,Zf2];rfl
theorem Bnd{c:Col}(hc:CX c):Rd A85 dlm (No [A1b,F6,Eg]) noW (T6 c) c:=by
 obtain⟨c1,c2⟩:=hc;simp only[Td,Zb1,Zd2,Zg1] at c1;have r5:=Bm2 (c:=c) c1.2 (V:=[F6,Eg]) (by decide);have r4:Rd (Mb F6 []) dlm (No [F6,Eg]) (No [Eg]) (cond c.unique (32::F6) []) c.unique:=Bhs (V:=[Eg]) (by decide) ((Lx.sp (Lx.word (w:=F6) (by decide +kernel))).mono (λ_ h=>h) λts q=>⟨ts,[],by simp,q,λ_=>rfl⟩) c.unique;have r3:Rd (Mb Eg [B5]) dlm (No [Eg]) C2 (cond c.notNull (32::(Eg++32::B5)) []) c.notNull:=(Bhs (V:=[]) (by decide) ((Lx.sp (Lx.app (Lx.word (w:=Eg) Awm) (Lx.sp (Lx.word (w:=B5) (by decide +kernel))) (λr _=>Abh _))).mono (λ_ h=>h) λts ⟨t1,t2,e,q1,q2⟩=>⟨t1,t2,e,q1,λvs=>by simp only[A4,Dt q2,Dk q2]⟩) c.notNull).mono (λ_ h=>h) (λ_ h=>h) B1;have r2:Rd Kh dlm C2 C2 (32::at' .str kindsL c.kind) c.kind:=Lx.sp (Bka c1.1);rw[Bir];refine(F9 c2).bind (D2:=dlm) (T2:=C2) (r2.bind (T2:=C2) (r3.bind (T2:=No [Eg]) (r4.bind (T2:=No [F6,Eg]) r5.map ?_ (λ_ h=>h)) ?_ (λ_ h=>h)) ?_ B1) ?_ B1
 ·exactλr hr=>Arz hr
 ·exactλr hr=>by rw[Zj1];exact Ol (Arz hr)
 ·exactλr hr=>by rw[Zj1,Zj1];exact Ol (Ol (Arz hr))
 ·exactλr _=>Abh _
theorem Bpa:Lx Dj [44,32] (IsW [44]):=Lx.spb (a:=[44]) (lx44.mono Eh λ_ h=>h)
def At9(c:Col):Str:=T6 c++[44,32]
theorem A34{c:Col}(hc:CX c):Rd Om Dj C2 noW (At9 c) c :=(Bnd hc).bind (T2:=hdW [44]) ((Ec Bpa).map) (λr _=>Azb _) (λl h=>Ae2 (by decide) h)
theorem An8:∀l:List Col,(∀c,c∈l->CX c)->Lx dlm ((l.map At9).flatten++Dq) λts=>∀vs k acc,(ts++vs).length<k->Cr k acc (ts++vs) = .ok (acc++l,vs)
 |[],_=>(Lx.word (w:=Dq) (by decide +kernel)).mono (λ_ h=>h) λts q vs k acc hk=>by obtain⟨k,rfl⟩:∃k',k=k'+1:=⟨k-1,by omega⟩;simp only[Cr,Dt q,Dk q,List.append_nil]
 |c::l,h=>by
  have ih:=An8 l λx hx=>h x (Zu1 _ hx);rw[Zw1,Zz1,Zj1];refine(Lx.app (A34 (h c Zr1)) ih (λ_ _=>trivial)).mono (λ_ h=>h) λts q vs k acc hk =>?_;obtain⟨t1,t2,rfl,q1,q2⟩:=q;obtain⟨n1,p1⟩:=q1 (t2++vs) trivial;obtain⟨k,rfl⟩:∃k',k=k'+1:=⟨k-1,by omega⟩;have hne:t1≠[]:=λe=>by subst e;have h1:=Wi _ _ _ p1;simp at h1
  have hcl:=List.length_pos_iff.2 hne;simp only[Zh1] at hk;rw[Zj1];simp only[Cr,n1 Dq,p1];rw[q2 vs k (acc++[c]) (by simp only[Zh1];omega)];simp
theorem Bk9{l:List Col}(hl:l≠[])(h:∀c,c∈l->CX c):Rd Xb dlm C2 noW ((l.map At9).flatten++Dq) l:=by cases l with|nil=>exact absurd rfl hl|cons c l =>have ih:=An8 l λx hx=>h x (Zu1 _ hx);rw[Zw1,Zz1,Zj1];refine(Lx.app (A34 (h c Zr1)) ih (λ_ _=>trivial)).mono (λ_ h=>h) λts q vs _ =>?_;obtain⟨t1,t2,rfl,q1,q2⟩:=q;obtain⟨n1,p1⟩:=q1 (t2++vs) trivial;rw[Zj1];refine⟨n1,?_⟩;simp only[Xb,p1];rw[q2 vs _ [c] (by omega)];rfl
theorem Bqd{e:Xpr}(h:RX e):Lx dlm (ckT e) λts=>A0b ts e:=by
 have he:=A0g (Bf e) e 30 (Zn1 _) h.1 h.2;unfold ckT;by_cases hk:e.kind=1\/e.kind=2
 ·rw[Ze1 (Bbt.2 hk),Ae];refine(Lx.app lx40 (Lx.app he Auy (λr _=>dm41 _)) (λ_ _=>trivial)).mono Eh λts q =>?_;obtain⟨o,t1,rfl,ho,ti,c,rfl,hi,hc⟩:=q;exact⟨o,ti,c,rfl,ho,hc,λus hs=>by rw[<-Nq];exact Uo hi.1 (by omega) (by omega) hs⟩
 ·rw[Zd1 (λq=>hk (Bbt.1 q)),Ah];exact he.mono (λ_ h=>h) λts q=>by
   rcases q.2 with q|q|q
   ·exact absurd (.inl q) hk
   ·exact absurd (.inr q) hk
   ·exact q
def Bo2(e:Xpr):Str:=Ahs++32::ckT e
theorem Bng{e:Xpr}(h:RX e):Rd Aki dlm C2 (hdW Ahs) (Bo2 e) e:=by refine(Lx.app (Lx.word (w:=Ahs) (by decide +kernel)) (Lx.sp (Bqd h)) (λr _=>Abh _)).mono (λ_ h=>h) λts q vs _ =>?_;obtain⟨w,t1,rfl,hw,o,ti,c,rfl,ho,hc,hi⟩:=q;simp only[Zj1];refine⟨Dt hw _,?_⟩;have h1:=hi (c++vs) (Azu hc (by decide) (by decide) vs);simp only[Aki,bP,A4,Dt hw,Dk hw,Dt ho,Dk ho,h1,Dt hc,Dk hc];rfl
theorem A25:∀l:List Xpr,(l.map Ai2).flatten=Fa Bo2 l
 |[]=>rfl
 |e::l=>by rw[Zw1,Zz1,A25 l];simp only[Fa,Bo2];have h1:Ai2 e=[44,32]++(Ahs++32::ckT e):=rfl;rw[h1]
theorem Bjp{l:List Xpr}(h:∀x,x∈l->RX x):Rd (λl=>A5 Aki (l.length+1) [] l) dlm (λl=>isT [44] l=false) C2 (l.map Ai2).flatten l:=by rw[A25];exact(Asb (D:=dlm) (S:=C2) (λ_=>Azb _) (λ_ _=>trivial) l λx hx=>Bng (h x hx)).mono (λ_ h=>h) λts q vs hv=>⟨trivial,by have:=(q vs ⟨trivial,hv⟩).2 ((ts++vs).length+1) [] (by omega);exact this⟩
theorem Blj:∀{l:List Col},l≠[]->Br T6 l++[44,32]=(l.map At9).flatten:=λ{l} hl=>by
 have ht:∀l:List Col,Fa T6 l++[44,32]=[44,32]++(l.map At9).flatten:=λl=>by induction l with|nil=>rfl|cons c l ih =>simp only[Fa,Zj1,ih,Zw1,Zz1,At9]
 cases l with|nil=>exact absurd rfl hl|cons c l =>simp only[Br,Zj1,ht,Zw1,Zz1,At9]
def Bb3(s:Stm):Str:=s.name++((32::[40])++(((s.cols.map At9).flatten++Dq)++((32::(Asu++[32]))++(nmT s.names++((s.l.map Ai2).flatten++[41])))))
theorem Bgj{s:Stm}(hn:Be s.name=true)(hc:∀c,c∈s.cols->CX c)(hc0:s.cols≠[])(hm0:s.names≠[])(hm:∀x,x∈s.names->Be x=true)(hl:∀x,x∈s.l->RX x):Rd P9 Dj C2 noW (Bb3 s) { zS with kind:=1,name:=s.name,cols:=s.cols,names:=s.names,l:=s.l }:=by
 have r7:=Ec (w:=[41]) Auy;have r6:=Bjp hl;have r5:=Auz hm0 hm;have r4:Rd (A4 [Asu]) Dj C2 (hdW Asu) (32::(Asu++[32])) ():=Ec (Lx.sp (Lx.spb (Lx.word (w:=Asu) (by decide +kernel))));have r3:=Bk9 hc0 hc;have r2:Rd (A4 [[40]]) Dj C2 (hdW [40]) (32::[40]) ():=Ec (Lx.sp lx40);have r1:=F9 hn;unfold Bb3;refine r1.bind (D2:=Dj) (T2:=hdW [40]) (r2.bind (D2:=Dj) (T2:=noW) (r3.bind (D2:=Dj) (T2:=hdW Asu) (r4.bind (D2:=Dj) (T2:=hdW [40]) (r5.bind (D2:=Dj) (T2:=C2) (r6.bind (D2:=Dj) (T2:=hdW [41]) r7.map ?_ ?_) ?_ B1) ?_ B1) ?_ B1) ?_ B1) ?_ B1
 ·exactλr _=>dm41 _
 ·exactλl h=>Bqw (by decide) h
 ·exactλr _=>trivial
 ·exactλr _=>trivial
 ·exactλr _=>Abh _
 ·exactλr _=>trivial
 ·exactλr _=>Abh _
theorem Yq{α:Type}{p:TL->PR α}{D:Str->Prop}{S T:TL->Prop}{a:Str}{x y : α}(h:Rd p D S T a x)(e:x=y):Rd p D S T a y:=e▸h
def NxQ(V:List Str)(l:TL):Prop:=Stop l/\No V l
theorem A5v{w:Str}{V:List Str}(h1:bindS w=(0,0))(h2:¬sIS=w)(h3:¬w∈V){l:TL}(h:hdW w l):NxQ V l:=⟨Ag6 h1 h2 h,Ae2 h3 h⟩
theorem Akg{s:Stm}(h:WX s){V:List Str}(hw:¬Hu∈V):Rd Fo dlm (NxQ (Hu::V)) (NxQ V) (whT s) (s.has,s.whr):=by unfold whT;cases hs:s.has with|false =>have e:s.whr=zX:=Bqb h hs;rw[e];exact Lx.nil λvs hv=>⟨⟨hv.1,V4 (λx hx=>Zu1 _ hx) hv.2⟩,by simp only[Fo,Zf2,hv.2 Hu Zr1]⟩|true =>refine(Lx.app (Lx.sp (Lx.spb (D:=Dj) (Lx.word (w:=Hu) (by decide +kernel)))) (Bhg (Bea h hs)) Eh).mono (λ_ h=>h) λts q vs hv =>?_;obtain⟨t1,t2,rfl,q1,q2⟩:=q;rw[Zj1];exact⟨A5v (by decide) (by decide) hw (Dt q1 _),by simp only[Fo,Dt q1,Dk q1,(q2 vs hv.1).2]⟩
theorem A1z(s:Stm){r:Str}(h:dlm r):dlm (whT s++r):=by unfold whT;exact Ol h
def Fin(l:TL):Prop:=l=[]\/hdW [59] l
theorem Ast{V:List Str}(hV:¬ [59]∈V){l:TL}(h:Fin l):NxQ V l:=by
 rcases h with rfl|h
 ·exact⟨Be3,Bm5 V⟩
 ·exact A5v (by decide) (by decide) hV h
theorem X6{w:Str}(h:Lp.wordF w=true):Lx Dj (w++[32]) (IsW w):=Lx.spb (Lx.word h)
theorem Apr{w:Str}(h:Lp.wordF w=true):Lx Dj (32::(w++[32])) (IsW w):=Lx.sp (X6 h)
theorem Bnk{x:SetE}(hx:RX x.e)(hn:Be x.name=true):Rd A1j dlm Stop noW (Aiz x) x:=by
 have e:Aiz x=x.name++((32::([61]++[32]))++etx x.e):=by simp[Aiz]
 rw[e];have r2:Rd (A4 [[61]]) Dj C2 (hdW [61]) (32::([61]++[32])) ():=Ec (Lx.sp (Lx.spb (lx61.mono Eh λ_ h=>h)));exact(F9 hn).bind (D2:=dlm) (T2:=hdW [61]) (r2.bind (T2:=λl=>isT [42] l=false) ((Bhg hx).map (g:=λe=>(⟨x.name,e⟩:SetE))) (λ_ _=>trivial) B1) (λr _=>Abh _) B1
theorem Bay{s:Stm}(hn:Be s.name=true)(h0:s.sets≠[])(hs:∀x,x∈s.sets->RX x.e/\Be x.name=true)(hw:WX s):Rd Gx dlm Fin noW (s.name++((32::(Axg++[32]))++(Br Aiz s.sets++whT s))) { zS with kind:=6,name:=s.name,sets:=s.sets,has:=s.has,whr:=s.whr }:=by
 have r4:=(Akg hw (V:=[[44]]) (by decide)).mono (λ_ h=>h) (λl h=>Ast (by decide) h) (λ_ h=>h);have r3:=Ze (D:=dlm) (λ_=>Azb _) (λ_ h=>Bbb h) h0 λx hx=>Bnk (hs x hx).1 (hs x hx).2;have r2:Rd (A4 [Axg]) Dj C2 (hdW Axg) (32::(Axg++[32])) ():=Ec (Apr (by decide +kernel));refine(F9 hn).bind (D2:=dlm) (T2:=hdW Axg) (r2.bind (D2:=dlm) (T2:=noW) (r3.bind (D2:=dlm) (T2:=NxQ [[44]]) (r4.map (g:=λw:Bool×Xpr=>{ zS with kind:=6,name:=s.name,sets:=s.sets,has:=w.1,whr:=w.2 })) ?_ ?_) Eh B1) (λr _=>Abh _) B1
 ·exactλr hr=>A1z s hr
 ·exactλl h=>⟨h.1,h.2 _ (by simp)⟩
theorem A76{s:Stm}(hn:Be s.name=true)(hw:WX s):Rd Jp dlm Fin (hdW H4) ((H4++[32])++(s.name++whT s)) { zS with kind:=7,name:=s.name,has:=s.has,whr:=s.whr }:=by have r3:=(Akg hw (V:=[]) (by decide)).mono (λ_ h=>h) (λl h=>Ast (by decide) h) (λ_ h=>h);have r1:Rd (A4 [H4]) Dj C2 (hdW H4) (H4++[32]) ():=Ec (X6 (by decide +kernel));have r2:=Rd.bind (f:=λn=>bP Fo λw=>Bd { zS with kind:=7,name:=n,has:=w.1,whr:=w.2 }) (F9 hn) (D2:=dlm) (T2:=NxQ []) (r3.map (g:=λw:Bool×Xpr=>{ zS with kind:=7,name:=s.name,has:=w.1,whr:=w.2 })) (λr hr=>A1z s hr) B1;exact Rd.bind (f:=λ_=>bP Bj λn=>bP Fo λw=>Bd { zS with kind:=7,name:=n,has:=w.1,whr:=w.2 }) r1 r2 Eh B1
theorem A60{s:Stm}(hn:Be s.name=true)(h0:s.rows≠[])(hr:∀r,r∈s.rows->r≠[]/\∀x,x∈r->RX x):Rd Gr dlm Fin (hdW Wy) ((Wy++[32])++(s.name++((32::(Kj++[32]))++Br Agm s.rows))) { zS with kind:=5,name:=s.name,rows:=s.rows }:=by have r4:=Ze (D:=dlm) (S:=C2) (T:=hdW [40]) (λ_=>Azb _) B1 h0 λx hx=>(Boi (hr x hx).1 (hr x hx).2).mono Eh (λ_ h=>h) (λ_ h=>h);have r3:Rd (A4 [Kj]) Dj C2 (hdW Kj) (32::(Kj++[32])) ():=Ec (Apr (by decide +kernel));have r1:Rd (A4 [Wy]) Dj C2 (hdW Wy) (Wy++[32]) ():=Ec (X6 (by decide +kernel));have r:Rd Gr dlm (λl=>C2 l/\isT [44] l=false) (hdW Wy) ((Wy++[32])++(s.name++((32::(Kj++[32]))++Br Agm s.rows))) { zS with kind:=5,name:=s.name,rows:=s.rows }:=r1.bind (D2:=dlm) (T2:=noW) ((F9 hn).bind (D2:=dlm) (T2:=hdW Kj) (r3.bind (D2:=dlm) (T2:=hdW [40]) (r4.map (g:=λrs:List (List Xpr)=>{ zS with kind:=5,name:=s.name,rows:=rs })) Eh B1) (λr _=>Abh _) B1) Eh B1;exact r.mono (λ_ h=>h) (λl h=>⟨trivial,(Ast (V:=[[44]]) (by decide) h).2 _ (by simp)⟩) (λ_ h=>h)
theorem Bcp{s:Stm}(hn:Be s.name=true)(ho:Be s.on=true)(hm0:s.names≠[])(hm:∀x,x∈s.names->Be x=true):Rd Rh Dj C2 (hdW Fw) ((Fw++[32])++(s.name++((32::(wON++[32]))++(s.on++(32::nmT s.names))))) { zS with kind:=3,name:=s.name,on:=s.on,names:=s.names }:=by have r5:Rd Ns Dj C2 (hdW [40]) (32::nmT s.names) s.names:=Lx.sp (Auz hm0 hm);have r3:Rd (A4 [wON]) Dj C2 (hdW wON) (32::(wON++[32])) ():=Ec (Apr (by decide +kernel));have r1:Rd (A4 [Fw]) Dj C2 (hdW Fw) (Fw++[32]) ():=Ec (X6 (by decide +kernel));exact r1.bind (D2:=Dj) (T2:=noW) ((F9 hn).bind (D2:=Dj) (T2:=hdW wON) (r3.bind (D2:=Dj) (T2:=noW) ((F9 ho).bind (D2:=Dj) (T2:=hdW [40]) r5.map (λr _=>Abh _) B1) Eh B1) (λr _=>Abh _) B1) Eh B1
theorem Ed{w v:Str}(h:¬v=w):∀l,hdW w l->isT v l=false:=λl hl=>Ae2 (W:=[v]) (by simpa using λe=>h e.symm) hl v (by simp)
theorem Bin{s:Stm}(hn:Be s.name=true)(hk:s.kind=2\/s.kind=4):Rd Sa dlm C2 C2 (if s.kind=2 then(Ir++[32])++s.name else(Fw++[32])++s.name) { zS with kind:=s.kind,name:=s.name }:=by
 rcases hk with hk|hk
 ·rw[if_pos hk,hk];exact(Kl (p:=bP Bj (λn=>Bd { zS with kind:=2,name:=n })) (q:=bP (A4 [Fw]) (λ_=>bP Bj λn=>Bd { zS with kind:=4,name:=n })) (X6 (w:=Ir) (by decide +kernel)) (F9 hn).map Eh).mono (λ_ h=>h) (λ_ h=>h) B1
 ·rw[if_neg (by omega),hk];have r1:Rd (A4 [Fw]) Dj C2 (hdW Fw) (Fw++[32]) ():=Ec (X6 (by decide +kernel));exact(D9 (w:=Ir) (p:=bP Bj (λn=>Bd { zS with kind:=2,name:=n })) (q:=bP (A4 [Fw]) (λ_=>bP Bj λn=>Bd { zS with kind:=4,name:=n })) (r1.bind (T2:=noW) (F9 hn).map Eh B1) (Ed (by decide))).mono (λ_ h=>h) (λ_ h=>h) B1
theorem Azz{s:Stm}(hn:Be s.name=true)(hc:∀c,c∈s.cols->CX c)(hc0:s.cols≠[])(hm0:s.names≠[])(hm:∀x,x∈s.names->Be x=true)(hl:∀x,x∈s.l->RX x):Rd E0 Dj C2 C2 ((Ir++[32])++Bb3 s) { zS with kind:=1,name:=s.name,cols:=s.cols,names:=s.names,l:=s.l } :=(Kl (p:=P9) (q:=Rh) (X6 (w:=Ir) (by decide +kernel)) (Bgj hn hc hc0 hm0 hm hl) Eh).mono (λ_ h=>h) (λ_ h=>h) B1
theorem A1u{s:Stm}(hn:Be s.name=true)(ho:Be s.on=true)(hm0:s.names≠[])(hm:∀x,x∈s.names->Be x=true):Rd E0 Dj C2 C2 ((Fw++[32])++(s.name++((32::(wON++[32]))++(s.on++(32::nmT s.names))))) { zS with kind:=3,name:=s.name,on:=s.on,names:=s.names } :=(D9 (w:=Ir) (p:=P9) (q:=Rh) (Bcp hn ho hm0 hm) (Ed (by decide))).mono (λ_ h=>h) (λ_ h=>h) B1
theorem Bja{l:List Xpr}(h:∀x,x∈l->RX x):Rd Wx dlm (λl=>Stop l/\isT [44] l=false) C2 (cond (decide ((l.length:Int)=0)) [42] []++Br etx l) l:=by
 cases l with
 |nil =>refine(lx42.mono Eh λ_ h=>h).mono (λ_ h=>h) λts q vs _=>⟨trivial,?_⟩;simp only[Wx,Dt q,Dk q]
 |cons x l =>
  have e:cond (decide (((x::l).length:Int)=0)) [42] []++Br etx (x::l)=Br etx (x::l):=by rw[Zd1 (by simp only[Zf1];omega)];rfl
  rw[e];exact(D9 (w:=[42]) (p:=Bd []) (q:=P5) (At6 (List.cons_ne_nil x l) h) (λ_ h=>h)).mono (λ_ h=>h) (λ_ h=>h) B1
theorem Bol{x:Str×Bool}(h:Be x.1=true):Rd Lb dlm (No [Dn,Hl]) noW (Ul x) x:=by
 have r2:Rd N3 dlm (No [Dn,Hl]) C2 (cond x.2 (32::Dn) []) x.2:=by cases x.2 with|false=>exact Lx.nil λvs hv=>⟨trivial,by simp only[N3,Zf2,hv Dn (by simp),hv Hl (by simp)]⟩|true=>exact(Lx.sp (Lx.word (w:=Dn) (by decide +kernel))).mono (λ_ h=>h) λts q vs _=>⟨trivial,by simp only[N3,Dt q,Dk q]⟩
 exact(F9 h).bind (D2:=dlm) (T2:=C2) (r2.map (g:=λd=>(x.1,d))) (λr hr=>Ol hr) B1
theorem Box{n:Int}(h : -1<=n/\n<=9223372036854775807){V:List Str}(hw:¬Y1∈V):Rd Ei dlm (NxQ (Y1::V)) (NxQ V) (cond (decide (0<=n)) ((32::(Y1++[32]))++Bo ⟨3,n,[]⟩) []) n:=by
 by_cases h0 : 0<=n
 ·rw[Ze1 h0,Ae];have hv:Bo ⟨3,n,[]⟩=Nh n.natAbs:=by rw[<-Au1 h0];rfl
  rw[hv];refine(Lx.app (Apr (w:=Y1) (by decide +kernel)) (Lx.one (D:=dlm) (w:=Nh n.natAbs) (k:=3) (s:=Nh n.natAbs) (n:=n) λr hr =>?_) Eh).mono (λ_ h=>h) λts q vs hv =>?_
  ·rw[Aua hr,if_pos (by omega),show((n.natAbs:Nat):Int)=n by omega]
  ·obtain⟨t1,t2,rfl,q1,t,rfl,a1,a2,a3⟩:=q;rw[Zj1];refine⟨A5v (by decide) (by decide) hw (Dt q1 _),?_⟩;simp only[Ei,Dt q1,Dk q1];show Aap (t::vs)=_;simp only[Aap,a1,a3,decide_true]
 ·have e:n = -1:=by omega
  subst e;exact Lx.nil λvs hv=>⟨⟨hv.1,V4 (λx hx=>Zu1 _ hx) hv.2⟩,by simp only[Ei,Zf2,hv.2 Y1 Zr1]⟩
theorem Be9{s:Stm}(h:∀x,x∈s.order->Be x=true)(hd:s.desc.length=s.order.length){V:List Str}(hw:¬J9∈V)(hV:∀w,w∈[Dn,Hl,[44]]->w∈V):Rd Dw dlm (NxQ (J9::V)) (NxQ V) (obT s++Br Ul (s.order.zip s.desc)) (s.order.zip s.desc):=by
 unfold obT;by_cases h0:s.order=[]
 ·rw[h0];exact Lx.nil λvs hv=>⟨⟨hv.1,V4 (λx hx=>Zu1 _ hx) hv.2⟩,by simp only[Dw,Zf2,hv.2 J9 Zr1];rfl⟩
 ·have hp : 0<s.order.length:=List.length_pos_iff.2 h0;rw[Ze1 (by omega),Ae];have hz:s.order.zip s.desc≠[]:=λe=>by have:=congrArg List.length e;rw[List.length_zip,Zi1] at this;omega
  have r2:Rd (A4 [wBY]) Dj C2 (hdW wBY) (wBY++[32]) ():=Ec (X6 (by decide +kernel));have r3:=Ze (D:=dlm) (S:=No [Dn,Hl]) (λ_=>Azb _) (λl hl=>Ae2 (by decide) hl) hz λp hp=>Bol (h p.1 (List.of_mem_zip hp).1);have r:=Rd.bind (f:=λ_=>F8 Lb) r2 r3 Eh B1;have e:[32,79,82,68,69,82,32,66,89,32]++Br Ul (s.order.zip s.desc)=(32::(J9++[32]))++((wBY++[32])++Br Ul (s.order.zip s.desc)):=by simp[J9,wBY]
  rw[e];refine(Lx.app (Apr (w:=J9) (by decide +kernel)) r Eh).mono (λ_ h=>h) λts q vs hv =>?_;obtain⟨t1,t2,rfl,q1,q2⟩:=q;rw[Zj1];refine⟨A5v (by decide) (by decide) hw (Dt q1 _),?_⟩;simp only[Dw,Dt q1,Dk q1];exact(q2 vs ⟨V4 (λw hw=>Zu1 _ (hV w (by simp only[List.mem_cons,List.not_mem_nil,or_false] at hw ⊢;exact hw.imp_right λq =>.inl q))) hv.2,hv.2 _ (Zu1 _ (hV _ (by simp)))⟩).2
theorem Bd9(s:Stm){r:Str}(h:dlm r):dlm ((obT s++Br Ul (s.order.zip s.desc))++r):=by
 unfold obT;by_cases h0:s.order=[]
 ·rw[h0];exact h
 ·have hp : 0<s.order.length:=List.length_pos_iff.2 h0;rw[Ze1 (by omega)];exact Abh _
theorem A6y{s:Stm}(hn:Be s.name=true)(hl:∀x,x∈s.l->RX x)(hw:WX s)(ho:∀x,x∈s.order->Be x=true)(hd:s.desc.length=s.order.length)(hm : -1<=s.most/\s.most<=9223372036854775807):Rd Fh dlm Fin C2 ((cond (decide ((s.l.length:Int)=0)) [42] []++Br etx s.l)++((32::(H4++[32]))++(s.name++(whT s++((obT s++Br Ul (s.order.zip s.desc))++Adj s))))) { zS with kind:=8,name:=s.name,l:=s.l,has:=s.has,whr:=s.whr,order:=s.order,desc:=s.desc,most:=s.most }:=by
 have r6:=(Box hm (V:=[J9,Hu,Dn,Hl,[44]]) (by decide)).mono (λ_ h=>h) (λl h=>Ast (by decide) h) (λ_ h=>h);have r5:=Be9 ho hd (V:=[Hu,Dn,Hl,[44]]) (by decide) (λw hw=>Zu1 _ hw);have r4:=Akg hw (V:=[Dn,Hl,[44]]) (by decide);have r2:Rd (A4 [H4]) Dj C2 (hdW H4) (32::(H4++[32])) ():=Ec (Apr (by decide +kernel));have e1:(s.order.zip s.desc).map (·.1)=s.order:=List.map_fst_zip (by omega);have e2:(s.order.zip s.desc).map (·.2)=s.desc:=List.map_snd_zip (by omega);have hlim:∀r,dlm r->dlm (Adj s++r):=λr hr=>by unfold Adj;exact Ol hr
 have r:Rd Fh dlm Fin C2 ((cond (decide ((s.l.length:Int)=0)) [42] []++Br etx s.l)++((32::(H4++[32]))++(s.name++(whT s++((obT s++Br Ul (s.order.zip s.desc))++Adj s))))) { zS with kind:=8,name:=s.name,l:=s.l,has:=s.has,whr:=s.whr,order:=(s.order.zip s.desc).map (·.1),desc:=(s.order.zip s.desc).map (·.2),most:=s.most }:=(Bja hl).bind (D2:=dlm) (T2:=hdW H4) (r2.bind (D2:=dlm) (T2:=noW) ((F9 hn).bind (D2:=dlm) (T2:=NxQ [Dn,Hl,[44]]) (r4.bind (D2:=dlm) (T2:=NxQ [Hu,Dn,Hl,[44]]) (r5.bind (D2:=dlm) (T2:=NxQ [J9,Hu,Dn,Hl,[44]]) (r6.map (g:=λm=>({ zS with kind:=8,name:=s.name,l:=s.l,has:=s.has,whr:=s.whr,order:=(s.order.zip s.desc).map (·.1),desc:=(s.order.zip s.desc).map (·.2),most:=m }:Stm))) hlim (λ_ h=>h)) (λr hr=>by rw[Zj1];exact Bd9 s (hlim r hr)) (λ_ h=>h)) (λr hr=>by rw[Zj1,Zj1];exact A1z s (Bd9 s (hlim r hr))) B1) Eh B1) (by exactλr _=>Abh _) (λl h=>⟨Ag6 (by decide) (by decide) h,Ed (by decide) l h⟩);rw[e1,e2] at r;exact r
def Bnj(l:TL):PR Stm:=match isT P4 l with|true=>Fh l.tail|false =>.error l
def Blr(l:TL):PR Stm:=match isT Mw l with|true=>Jp l.tail|false=>Bnj l
def Bdq(l:TL):PR Stm:=match isT Kn l with|true=>Gx l.tail|false=>Blr l
def A7m(l:TL):PR Stm:=match isT Ij l with|true=>Gr l.tail|false=>Bdq l
def Aut(l:TL):PR Stm:=match isT R4 l with|true=>Sa l.tail|false=>A7m l
theorem Bmt:G0=λl=>match isT Fi l with|true=>E0 l.tail|false=>Aut l:=rfl
theorem Bkp{s:Stm}(h:G3 s=true)(hb:BdStm s):Rd G0 dlm Fin C2 (B2 s) s:=by
 obtain⟨⟨hn,hr⟩,hk⟩:=Alq h;rw[Bmt];rcases hk with ⟨k,c1,c2,c3,c4,c5⟩|k|⟨k,c1,c2,c3⟩|⟨k,c1,c2⟩|⟨k,c1,c2,c3⟩|⟨k,c1⟩|⟨k,c1,c2,c3,c4,c5⟩
 ·have hs:=Bq2 hr k;have ht:B2 s=(Fi++[32])++((Ir++[32])++Bb3 s):=by rw[B2,if_pos k,Nr,Bb3,<-Blj c2];simp[Fi,Ir,Dq,Asu]
  rw[ht];have r:=Kl (p:=E0) (q:=Aut) (X6 (w:=Fi) (by decide +kernel)) (Azz hn c1 c2 c3 c4 (Adc c5 hb.l)) Eh;have r:=r.mono (D2:=dlm) Eh (S2:=Fin) B1 (T2:=C2) B1;exact Yq r hs.symm
 ·have hs:=Boe hr k;have ht:B2 s=(R4++[32])++(if s.kind=2 then(Ir++[32])++s.name else(Fw++[32])++s.name):=by rw[B2];rcases k with k|k<;>rw[k]<;>simp[R4,Ir,Fw]
  rw[ht];have r:=D9 (w:=Fi) (p:=E0) (q:=Aut) (Kl (w:=R4) (p:=Sa) (q:=A7m) (X6 (by decide +kernel)) (Bin hn k) Eh) (Ed (by decide));have r:=r.mono (D2:=dlm) (λ_ h=>h) (S2:=Fin) B1 (T2:=C2) B1;exact Yq r hs.symm
 ·have hs:=Bp6 hr k;have ht:B2 s=(Fi++[32])++((Fw++[32])++(s.name++((32::(wON++[32]))++(s.on++(32::nmT s.names))))):=by rw[B2,if_neg (by omega),if_neg (by omega),if_pos k];simp[Fi,Fw,wON]
  rw[ht];have r:=Kl (p:=E0) (q:=Aut) (X6 (w:=Fi) (by decide +kernel)) (A1u hn c1 c2 c3) Eh;have r:=r.mono (D2:=dlm) Eh (S2:=Fin) B1 (T2:=C2) B1;exact Yq r hs.symm
 ·have hs:=Bq0 hr k;have ht:B2 s=(Ij++[32])++((Wy++[32])++(s.name++((32::(Kj++[32]))++Br Agm s.rows))):=by rw[B2,if_neg (by omega),if_neg (by omega),if_neg (by omega),if_neg (by omega),if_pos k];simp[Ij,Wy,Kj]
  rw[ht];have r:=D9 (w:=Fi) (p:=E0) (q:=Aut) (D9 (w:=R4) (p:=Sa) (q:=A7m) (Kl (w:=Ij) (p:=Gr) (q:=Bdq) (X6 (by decide +kernel)) (A60 hn c1 λr hr=>⟨(c2 r hr).1,Adc (c2 r hr).2 (hb.rows.2 r hr)⟩) Eh) (Ed (by decide))) (Ed (by decide));have r:=r.mono (D2:=dlm) (λ_ h=>h) (S2:=Fin) (λ_ h=>h) (T2:=C2) B1;exact Yq r hs.symm
 ·have hs:=Bqp hr k;have ht:B2 s=(Kn++[32])++(s.name++((32::(Axg++[32]))++(Br Aiz s.sets++whT s))):=by rw[B2,if_neg (by omega),if_neg (by omega),if_neg (by omega),if_neg (by omega),if_neg (by omega),if_pos k];simp[Kn,Axg]
  rw[ht];have r:=D9 (w:=Fi) (p:=E0) (q:=Aut) (D9 (w:=R4) (p:=Sa) (q:=A7m) (D9 (w:=Ij) (p:=Gr) (q:=Bdq) (Kl (w:=Kn) (p:=Gx) (q:=Blr) (X6 (by decide +kernel)) (Bay hn c1 (λx hx=>⟨⟨(c2 x hx).1,(hb.sets.2 x hx).2⟩,(c2 x hx).2⟩) ⟨c3,hb.whr⟩) Eh) (Ed (by decide))) (Ed (by decide))) (Ed (by decide));have r:=r.mono (D2:=dlm) (λ_ h=>h) (S2:=Fin) (λ_ h=>h) (T2:=C2) B1;exact Yq r hs.symm
 ·have hs:=Bpw hr k;have ht:B2 s=(Mw++[32])++((H4++[32])++(s.name++whT s)):=by rw[B2,if_neg (by omega),if_neg (by omega),if_neg (by omega),if_neg (by omega),if_neg (by omega),if_neg (by omega),if_pos k];simp[Mw,H4]
  rw[ht];have r:=D9 (w:=Fi) (p:=E0) (q:=Aut) (D9 (w:=R4) (p:=Sa) (q:=A7m) (D9 (w:=Ij) (p:=Gr) (q:=Bdq) (D9 (w:=Kn) (p:=Gx) (q:=Blr) (Kl (w:=Mw) (p:=Jp) (q:=Bnj) (X6 (by decide +kernel)) (A76 hn ⟨c1,hb.whr⟩) Eh) (Ed (by decide))) (Ed (by decide))) (Ed (by decide))) (Ed (by decide));have r:=r.mono (D2:=dlm) (λ_ h=>h) (S2:=Fin) (λ_ h=>h) (T2:=C2) B1;exact Yq r hs.symm
 ·have hs:=Bp1 hr k;have ht:B2 s=(P4++[32])++((cond (decide ((s.l.length:Int)=0)) [42] []++Br etx s.l)++((32::(H4++[32]))++(s.name++(whT s++((obT s++Br Ul (s.order.zip s.desc))++Adj s))))):=by rw[B2,if_neg (by omega),if_neg (by omega),if_neg (by omega),if_neg (by omega),if_neg (by omega),if_neg (by omega),if_neg (by omega)];simp[Arb,P4,H4]
  rw[ht];have hm : -1<=s.most/\s.most<=9223372036854775807:=⟨c5,by have:=hb.most;simp only[inI] at this;exact this.2⟩
  have r:=D9 (w:=Fi) (p:=E0) (q:=Aut) (D9 (w:=R4) (p:=Sa) (q:=A7m) (D9 (w:=Ij) (p:=Gr) (q:=Bdq) (D9 (w:=Kn) (p:=Gx) (q:=Blr) (D9 (w:=Mw) (p:=Jp) (q:=Bnj) (Kl (w:=P4) (p:=Fh) (q:=λl =>.error l) (X6 (by decide +kernel)) (A6y hn (Adc c1 hb.l) ⟨c2,hb.whr⟩ c3 c4 hm) Eh) (Ed (by decide))) (Ed (by decide))) (Ed (by decide))) (Ed (by decide))) (Ed (by decide));have r:=r.mono (D2:=dlm) (λ_ h=>h) (S2:=Fin) (λ_ h=>h) (T2:=C2) B1;exact Yq r hs.symm
end Go.Proofs.YthndhaolemgbdaaGreatDoor
namespace Go.Proofs.YthndhaolemgbdaaGreatDoor
open Go.Ax
abbrev t0V(nm:Str)(l:TL)(n:Int)(b:Bool)(a:Int)(acc:List Col):D7:=(l,n,b,a,1,nm,[],acc,[],[],[],[],false,0,0,0,[],[],[],[],[],0)
abbrev t1V(nm:Str)(cs:List Col)(ns:List Str)(l:TL)(n:Int)(b:Bool)(a:Int)(acc:List Xpr):D4:=(l,n,b,a,1,nm,[],cs,ns,acc,[],[],false,0,0,0,[],[],[],[],[],0)
def tK1(e:Ex)(v:D4):Option L5:=match e with|.exit 2=>(Ai ([[41]],v.1,v.2.1,v.2.2.1,v.2.2.2.1)).bind λy=>some (y.1,y.2.1,y.2.2.1,y.2.2.2,v.2.2.2.2)|_=>none
def tK0(K:Nat)(e:Ex)(v:D7):Option L5:=match e with|.exit 0=>(Ai ([[75,69,89]],v.1,v.2.1,v.2.2.1,v.2.2.2.1)).bind λy=>(D8 y).bind λz=>Al (λrec=>Cy rec tK1) K (z.2.1,z.2.2.1,z.2.2.2.1,z.2.2.2.2,v.2.2.2.2.1,v.2.2.2.2.2.1,v.2.2.2.2.2.2.1,v.2.2.2.2.2.2.2.1,z.1,v.2.2.2.2.2.2.2.2.2)|_=>none
theorem Bjz(l:TL)(n:Int)(b:Bool)(a:Int):I1 (l,n,b,a,z0)=(Av (l,n,b,a)).bind λx=>(Ai ([[40]],x.2)).bind λy=>(Xc y).bind λz=>Al (λrec=>Et rec (tK0 (l.length+3))) (l.length+3) (t0V x.1 z.2.1 z.2.2.1 z.2.2.2.1 z.2.2.2.2 [z.1]):=by
 have hm:decide (([]:List Col).length+1<=Am)=true:=Ze1 (by simp only[Am,Zi1];omega);unfold I1;show(Av (l,n,b,a)).bind _=_;cases Av (l,n,b,a) with
 |none=>rfl
 |some x =>
  show(Ai ([[40]],x.2)).bind _=(Ai ([[40]],x.2)).bind _;cases Ai ([[40]],x.2) with
  |none=>rfl
  |some y =>
   show(Kg y).bind _=(Xc y).bind _;unfold Xc;cases Kg y with
   |none=>rfl
   |some c =>
    obtain⟨c,c1,c2,c3,c4⟩:=c;simp only[Zc1];rw[hm];show(Ai ([[44]],c1,c2,c3,c4)).bind _=Option.bind ((Ai ([[44]],c1,c2,c3,c4)).bind _) _;cases Ai ([[44]],c1,c2,c3,c4) with
    |none=>rfl
    |some w =>
     obtain⟨w1,w2,w3,w4⟩:=w;simp only[Zc1];refine congrFun (congrArg (λkx=>Al (λrec=>Et rec kx) (l.length+3)) ?_) _;funext e v;match e with
     |.exit 0 =>
      obtain⟨v0,v1,v2,v3,v4,v5,v6,v7,v8,v9⟩:=v;show(Ai ([[75,69,89]],v0,v1,v2,v3)).bind _=(Ai ([[75,69,89]],v0,v1,v2,v3)).bind _;cases Ai ([[75,69,89]],v0,v1,v2,v3) with
      |none=>rfl
      |some y =>
       show(D8 y).bind _=(D8 y).bind _;cases D8 y with
       |none=>rfl
       |some z =>obtain⟨z0,z1,z2,z3,z4⟩:=z;simp only[Zc1];refine congrFun (congrArg (λkx=>Al (λrec=>Cy rec kx) (l.length+3)) ?_) _;funext e v;match e with|.exit 2=>rfl|.exit 0=>rfl|.exit 1=>rfl|.exit (_+3)=>rfl|.ret=>rfl|.normal=>rfl
     |.exit (_+1)=>rfl
     |.ret=>rfl
     |.normal=>rfl
section
variable {R:Type}{n:Int}{nm:Str}{cs:List Col}{ns:List Str}
theorem Brh{kx:Ex->D7->Option R}(rec:D7->Option R)(l:TL)(a:Int)(acc:List Col)(ha:acc.length<=1000000000)(hi:isT Dq l=false):Et rec kx (t0V nm l n false a acc)=(Xc (l,n,false,a)).bind λz=>rec (t0V nm z.2.1 z.2.2.1 z.2.2.2.1 z.2.2.2.2 (acc++[z.1])):=by
 have hm:decide (acc.length+1<=Am)=true:=Ze1 (by simp only[Am];omega);simp only[Et,Zs1,Ae,Ew (s:=[80,82,73,77,65,82,89]) hi,Zc1,Xc];cases Kg (l,n,false,a) with
 |none=>rfl
 |some x =>simp only[Zc1,hm,chk,Ae];cases Ai ([[44]],x.2) with|none=>rfl|some y=>rfl
theorem Brn{kx:Ex->D7->Option R}(rec:D7->Option R)(l:TL)(a:Int)(acc:List Col)(hi:isT Dq l=true):Et rec kx (t0V nm l n false a acc)=kx (.exit 0) (t0V nm l.tail n false a acc):=by simp only[Et,Zs1,Ae,Fg (s:=[80,82,73,77,65,82,89]) hi,Zc1,Zt1,Ah]
theorem Bp5{kx:Ex->D7->Option R}(rec:D7->Option R)(l:TL)(a:Int)(acc:List Col):Et rec kx (t0V nm l n true a acc)=kx (.exit 0) (t0V nm l n true a acc):=by simp only[Et,Zt1,Ah]
theorem Bqv{kx:Ex->D4->Option R}(rec:D4->Option R)(l:TL)(a:Int)(acc:List Xpr)(ha:acc.length<=1000000000)(hi:isT [44] l=true):Cy rec kx (t1V nm cs ns l n false a acc)=(Ap0 (l.tail,n,false,a)).bind λz=>rec (t1V nm cs ns z.2.1 z.2.2.1 z.2.2.2.1 z.2.2.2.2 (acc++[z.1])):=by
 have hm:decide (acc.length+1<=Am)=true:=Ze1 (by simp only[Am];omega);simp only[Cy,Zs1,Ae,Fg hi,Zc1,Ap0];cases Ai ([[67,72,69,67,75],[40]],l.tail,n,false,a) with
 |none=>rfl
 |some y =>
  simp only[Zc1];cases Fz y with
  |none=>rfl
  |some x =>simp only[Zc1,hm,decide_true,Bool.and_self,chk,Ae];cases Ai ([[41]],x.2) with|none=>rfl|some y=>rfl
theorem Bqo{kx:Ex->D4->Option R}(rec:D4->Option R)(l:TL)(a:Int)(acc:List Xpr)(hi:isT [44] l=false):Cy rec kx (t1V nm cs ns l n false a acc)=kx (.exit 2) (t1V nm cs ns l n false a acc):=by simp only[Cy,Zs1,Ae,Ew hi,Zc1,Ah]
theorem Bih{kx:Ex->D4->Option R}(rec:D4->Option R)(l:TL)(a:Int)(acc:List Xpr):Cy rec kx (t1V nm cs ns l n true a acc)=kx (.exit 2) (t1V nm cs ns l n true a acc):=by simp only[Cy,Zt1,Ah]
end
theorem Bhj(nm:Str)(cs:List Col)(ns:List Str)(l:TL)(n b:Int)(acc:List Xpr):Bt (ES n) b (tK1 (.exit 2) (t1V nm cs ns l n true b acc)):=by show Bt (ES n) b ((Ai ([[41]],l,n,true,b)).bind λy=>some (y.1,y.2.1,y.2.2.1,y.2.2.2,1,nm,[],cs,ns,acc,[],[],false,0,0,0,[],[],[],[],[],0));exact Bt.must ⟨_,rfl,rfl,rfl,rfl⟩
theorem Bl9(K:Nat)(nm:Str)(l:TL)(n b:Int)(acc:List Col):Bt (ES n) b (tK0 (K+1) (.exit 0) (t0V nm l n true b acc)):=by show Bt (ES n) b ((Ai ([[75,69,89]],l,n,true,b)).bind λy=>(D8 y).bind λz=>Al (λrec=>Cy rec tK1) (K+1) (t1V nm acc z.1 z.2.1 z.2.2.1 z.2.2.2.1 z.2.2.2.2 []));refine Bt.must (Bt.bindS Jh λns =>?_);show Bt (ES n) b (Al (λrec=>Cy rec tK1) (K+1) (t1V nm acc ns l n true b []));rw[A3,Bih];exact Bhj nm acc ns l n b []
theorem A2k(K:Nat)(nm:Str)(l:TL)(n b:Int)(acc:List Col):Bt (ES n) b (Al (λrec=>Et rec (tK0 (K+1))) (K+1) (t0V nm l n true b acc)):=by rw[A3,Bp5];exact Bl9 K nm l n b acc
theorem Ard{α:Type}{part:TL->PR α}(he:Co part){l l':TL}{x:List α}(h:F8 part l = .ok (x,l')):l'.length<l.length:=by simp only[F8] at h;cases hq:part l with|error q=>rw[hq] at h;cases h|ok y =>obtain⟨y,l1⟩:=y;rw[hq] at h;have h1:=he _ _ _ hq;have h2:=Ad4 he h;omega
theorem Be5{l l':TL}{x:List Str}(h:Ns l = .ok (x,l')):l'.length<l.length:=by obtain⟨_,l1,h1,h⟩:=Ha h;obtain⟨y,l2,h2,h⟩:=Ha h;obtain⟨_,l3,h3,h⟩:=Ha h;have q1:=B6 h1;have q2:=Ard Gu h2;have q3:=B6 h3;cases h;omega
theorem Baf{L:Nat}(hL:L<=1000000000){l:TL}(hl:l.length<L)(n a:Int):Out (gS n a) (ES n) n (I1 (l,n,false,a,z0)) (P9 l):=by
 rw[Bjz];unfold P9;refine Out.bindS (Cu L) hl (λnm l1 h1 =>?_) (λnm l1 b=>Bt.must (Bt.bindS Aiq λx=>A2k _ nm l1 n b [x]));have q1:=Ig h1;refine Out.must (by decide) (λl2 h2 =>?_) (λl2 b=>Bt.bindS Aiq λx=>A2k _ nm l2 n b [x]);have q2:=B6 h2;have e1:∀(f:List Col->TL->PR Stm),bP Xb f l2=bP Om (λx l'=>bP (Cr (l'.length+1) [x]) f l') l2:=λf=>by unfold bP Xb;cases Om l2 with|error q=>rfl|ok x=>rfl
 rw[e1];refine Out.bindS Ak6 (show l2.length<L by omega) (λx l3 h3 =>?_) (λx l3 b=>A2k _ nm l3 n b [x]);have q3:l3.length<l2.length:=Wi _ _ _ h3;have q4:[x].length+l3.length<=1000000000:=by simp only[Zf1,Zi1];omega
 have hc:=Amq (L:=L) (step:=λrec=>Et rec (tK0 (l.length+3))) (st:=t0V nm) (n:=n) (c:=λacc l' b a=>tK0 (l.length+3) (.exit 0) (t0V nm l' n b a acc)) (λrec l a acc ha hi=>Brh rec l a acc ha hi) (λrec l a acc hi=>Brn rec l a acc hi) (λrec l a acc=>Bp5 rec l a acc) a (l.length+3) (l3.length+1) [x] l3 (by omega) (by omega) (by omega) q4;show Out _ _ _ (Al (λrec=>Et rec (tK0 (l.length+3))) (l.length+3) (t0V nm l3 n false a [x])) _;have ht1:∀(cs:List Col) (ns:List Str) (l':TL) (b:Int),Bt (ES n) b (Al (λrec=>Cy rec tK1) (l.length+3) (t1V nm cs ns l' n true b [])):=λcs ns l' b=>by rw[A3,Bih];exact Bhj nm cs ns l' n b []
 unfold bP;cases hq:Cr (l3.length+1) [x] l3 with
 |error q =>rw[hq] at hc;obtain⟨e,l',h⟩:=hc;rw[h];exact Bl9 _ nm l' n (Hd n q) e
 |ok y =>
  obtain⟨cs,l4⟩:=y;rw[hq] at hc;simp only at hc;rw[hc];have q5:=Amk hq;show Out _ _ _ ((Ai ([[75,69,89]],l4,n,false,a)).bind λy=>(D8 y).bind λz=>Al (λrec=>Cy rec tK1) (l.length+3) (t1V nm cs z.1 z.2.1 z.2.2.1 z.2.2.2.1 z.2.2.2.2 [])) (bP (A4 [Asu]) (λ_=>bP Ns λns=>bP (λl=>A5 Aki (l.length+1) [] l) λes=>bP (A4 [[41]]) λ_=>Bd { zS with kind:=1,name:=nm,cols:=cs,names:=ns,l:=es }) l4);refine Out.must (by decide) (λl5 h5 =>?_) (λl5 b=>Bt.bindS Jh λns=>ht1 cs ns l5 b);have q6:=B6 h5;refine Out.bindS (Ao7 hL) (show l5.length<L by omega) (λns l6 h6 =>?_) (λns l6 b=>ht1 cs ns l6 b);have q7:=Be5 h6;have q8:([]:List Xpr).length+l6.length<=1000000000:=by simp only[Zi1];omega
  show Out _ _ _ (Al (λrec=>Cy rec tK1) (l.length+3) (t1V nm cs ns l6 n false a [])) (bP (A5 Aki (l6.length+1) []) _ l6);refine Out.loop (a:=a) (λacc l b a=>tK1 (.exit 2) (t1V nm cs ns l n b a acc))
   (As1 (step:=λrec=>Cy rec tK1) (st:=t1V nm cs ns) (n:=n) (c:=λacc l b a=>tK1 (.exit 2) (t1V nm cs ns l n b a acc)) (Avd hL) Au7 (λrec l a acc ha hi=>Bqv rec l a acc ha hi) (λrec l a acc hi=>Bqo rec l a acc hi) (λrec l a acc=>Bih rec l a acc) (a:=a) (k:=l.length+3) (m:=l6.length+1) (acc:=[]) (l:=l6) (by omega) (by omega) (by omega) q8)
   (As9 (step:=λrec=>Cy rec tK1) (st:=t1V nm cs ns) (n:=n) (c:=λacc l b a=>tK1 (.exit 2) (t1V nm cs ns l n b a acc)) (Avd hL) Au7 (λrec l a acc ha hi=>Bqv rec l a acc ha hi) (λrec l a acc hi=>Bqo rec l a acc hi) (λrec l a acc=>Bih rec l a acc) (a:=a) (k:=l.length+3) (m:=l6.length+1) (acc:=[]) (l:=l6) (by omega) (by omega) (by omega) q8) (λes l7 h7 =>?_) (λes l7 b=>Bhj nm cs ns l7 n b es)
  show Out _ _ _ ((Ai ([[41]],l7,n,false,a)).bind λy=>some (y.1,y.2.1,y.2.2.1,y.2.2.2,1,nm,[],cs,ns,es,[],[],false,0,0,0,[],[],[],[],[],0)) _;exact Out.must (by decide) (λl8 _=>rfl) (λl8 b=>⟨_,rfl,rfl,rfl,rfl⟩)
theorem Bqg(x:Option L5):(x.bind λ(x5,x6,x7,x8,x9,a,b,c,d,e,f,g,h,i,j,k,l,m,n,o,p,q)=>some (x5,x6,x7,x8,x9,a,b,c,d,e,f,g,h,i,j,k,l,m,n,o,p,q))=x:=by cases x<;>rfl
theorem A1f{L:Nat}(hL:L<=1000000000){l:TL}(hl:l.length<L)(n a:Int):Out (gS n a) (ES n) n (N5 (l,n,false,a,z0)) (E0 l):=by unfold N5 E0;have ht:=A2 l;cases hi:isT Ir l with|true =>show Out _ _ _ ((Ao ([84,65,66,76,69],l,n,false,a)).bind _) _;rw[Fg (s:=[84,65,66,76,69]) hi];show Out _ _ _ ((I1 (l.tail,n,false,a,z0)).bind _) _;rw[show((I1 (l.tail,n,false,a,z0)).bind _)=I1 (l.tail,n,false,a,z0) from Bqg _];exact Baf hL (by omega) n a|false =>show Out _ _ _ ((Ao ([84,65,66,76,69],l,n,false,a)).bind _) _;rw[Ew (s:=[84,65,66,76,69]) hi];show Out _ _ _ ((Ai ([[73,78,68,69,88]],l,n,false,a)).bind _) (Rh l);unfold Rh;refine Out.must (by decide) (λl1 h1 =>?_) (λl1 b=>Bt.bindS Ez λx=>Bt.must (Bt.bindS Ez λy=>Bt.bindS Jh λz=>⟨_,rfl,rfl,rfl,rfl⟩));have q1:=B6 h1;refine Out.bindS (Cu L) (show l1.length<L by omega) (λx l2 h2 =>?_) (λx l2 b=>Bt.must (Bt.bindS Ez λy=>Bt.bindS Jh λz=>⟨_,rfl,rfl,rfl,rfl⟩));have q2:=Ig h2;refine Out.must (by decide) (λl3 h3 =>?_) (λl3 b=>Bt.bindS Ez λy=>Bt.bindS Jh λz=>⟨_,rfl,rfl,rfl,rfl⟩);have q3:=B6 h3;refine Out.bindS (Cu L) (show l3.length<L by omega) (λy l4 h4 =>?_) (λy l4 b=>Bt.bindS Jh λz=>⟨_,rfl,rfl,rfl,rfl⟩);have q4:=Ig h4;exact Out.bindS (Ao7 hL) (show l4.length<L by omega) (λz l5 h5=>rfl) (λz l5 b=>⟨_,rfl,rfl,rfl,rfl⟩)
def Apc(x:Str×RS):Option ((Str×Bool)×RS):=cond (!x.2.2.2.1) ((Ao ([68,69,83,67],x.2)).bind λz=>cond (!z.2.2.2.1) (cond (!z.1) ((Ao ([65,83,67],z.2)).bind λy=>some ((x.1,z.1),y.2)) (some ((x.1,z.1),z.2))) (some ((x.1,z.1),z.2))) (cond (!x.2.2.2.1) ((Ao ([65,83,67],x.2)).bind λy=>some ((x.1,false),y.2)) (some ((x.1,false),x.2)))
def Agk(s:RS):Option ((Str×Bool)×RS):=(Av s).bind Apc
theorem A6j(nm:Str)(l:TL)(n a:Int):Apc (nm,l,n,true,a)=some ((nm,false),l,n,true,a):=rfl
theorem A40(nm:Str)(l:TL)(n a:Int):∃d l',N3 l = .ok (d,l')/\l'.length<=l.length/\Apc (nm,l,n,false,a)=some ((nm,d),l',n,false,a):=by
 have ht:=A2 l;unfold Apc N3;simp only[Zs1,Ae];cases hd:isT Dn l with
 |true =>rw[Fg (s:=[68,69,83,67]) hd];exact⟨true,l.tail,rfl,ht,rfl⟩
 |false =>rw[Ew (s:=[68,69,83,67]) hd];simp only[Zc1,Zs1,Ae];cases ha:isT Hl l with|true =>rw[Fg (s:=[65,83,67]) ha];exact⟨false,l.tail,rfl,ht,rfl⟩|false =>rw[Ew (s:=[65,83,67]) ha];exact⟨false,l,rfl,Zn1 _,rfl⟩
theorem A6n:I3 Agk:=λl n a=>by obtain⟨e1,h1⟩:=Ez l n a;simp only[Agk,h1,Zc1,A6j];exact⟨_,rfl⟩
theorem Arc{L:Nat}:SimP Agk Lb L :=.of (λl n a hl=>by unfold Agk Lb;refine Out.bindS (Cu L) hl (λnm l1 h1 =>?_) (λnm l1 b=>⟨_,A6j nm l1 n b,rfl,rfl,rfl⟩);obtain⟨d,l2,h2,_,h3⟩:=A40 nm l1 n a;rw[h3];unfold bP;rw[h2];exact rfl) A6n
theorem Aj3:Co Lb:=λl e l' h=>by obtain⟨nm,l1,h1,h⟩:=Ha h;obtain⟨d,l2,h2,h⟩:=Ha h;have q1:=Ig h1;obtain⟨d',l3,h3,q3,_⟩:=A40 nm l1 0 0;rw[h2] at h3;cases h3;cases h;omega
def Jn(c:Cl)(m:Int):Cl:=(c.1,c.2.1,c.2.2.1,c.2.2.2.1,c.2.2.2.2.1,c.2.2.2.2.2.1,c.2.2.2.2.2.2.1,c.2.2.2.2.2.2.2.1,c.2.2.2.2.2.2.2.2.1,c.2.2.2.2.2.2.2.2.2.1,c.2.2.2.2.2.2.2.2.2.2.1,c.2.2.2.2.2.2.2.2.2.2.2.1,c.2.2.2.2.2.2.2.2.2.2.2.2.1,c.2.2.2.2.2.2.2.2.2.2.2.2.2.1,c.2.2.2.2.2.2.2.2.2.2.2.2.2.2.1,c.2.2.2.2.2.2.2.2.2.2.2.2.2.2.2.1,c.2.2.2.2.2.2.2.2.2.2.2.2.2.2.2.2.1,m)
def Al6(s:RS)(c:Cl):Option E8:=cond (!s.2.2.1) ((Ao ([76,73,77,73,84],s)).bind λz=>cond z.1 ((Ev z.2).bind λt=>cond (!decide (t.1.kind=3)) ((Cm t.2).bind λy=>(Ch y).bind λu=>some (u.2.1,u.2.2.1,u.2.2.2.1,u.2.2.2.2,Jn c u.1.n)) ((Ch t.2).bind λu=>some (u.2.1,u.2.2.1,u.2.2.2.1,u.2.2.2.2,Jn c u.1.n))) (some (z.2.1,z.2.2.1,z.2.2.2.1,z.2.2.2.2,c))) (some (s.1,s.2.1,s.2.2.1,s.2.2.2,c))
theorem Ay0(l:TL)(n b:Int)(c:Cl):Bt (ES n) b (Al6 (l,n,true,b) c):=⟨_,rfl,rfl,rfl,rfl⟩
theorem Bhc(l:TL)(n a:Int)(c:Cl)(hc:Jn c (-1)=c):Out (λ(m:Int) l'=>((l',n,false,a,Jn c m):TL×Int×Bool×Int×Cl)) (ES n) n (Al6 (l,n,false,a) c) (Ei l):=by
 unfold Al6 Ei;simp only[Zs1,Ae];cases hi:isT Y1 l with
 |false =>rw[Ew (s:=[76,73,77,73,84]) hi];show some (l,n,false,a,c)=some (l,n,false,a,Jn c (-1));rw[hc]
 |true =>
  rw[Fg (s:=[76,73,77,73,84]) hi];simp only[Zc1,Ae];cases hl:l.tail with
  |nil=>exact⟨_,rfl,rfl,rfl,rfl⟩
  |cons t r =>rw[Aqy];simp only[Zc1,Aap];cases hk:decide (t.kind=3) with|true =>simp only[Zt1,Ah,Arf,Zc1];exact rfl|false =>simp only[Zs1,Ae,Vm,Arf,Zc1];exact⟨_,rfl,rfl,rfl,rfl⟩
def Of(c:Cl)(o:List Str)(d:List Bool):Cl:=(c.1,c.2.1,c.2.2.1,c.2.2.2.1,c.2.2.2.2.1,c.2.2.2.2.2.1,c.2.2.2.2.2.2.1,c.2.2.2.2.2.2.2.1,c.2.2.2.2.2.2.2.2.1,c.2.2.2.2.2.2.2.2.2.1,c.2.2.2.2.2.2.2.2.2.2.1,c.2.2.2.2.2.2.2.2.2.2.2.1,c.2.2.2.2.2.2.2.2.2.2.2.2.1,c.2.2.2.2.2.2.2.2.2.2.2.2.2.1,c.2.2.2.2.2.2.2.2.2.2.2.2.2.2.1,o,d,c.2.2.2.2.2.2.2.2.2.2.2.2.2.2.2.2.2)
def sKx(e:Ex)(v:Ci):Option E8:=match e with|.exit 0=>Al6 (v.1,v.2.1,v.2.2.1,v.2.2.2.1) v.2.2.2.2|_=>none
def Afn(K:Nat)(s:RS)(c:Cl):Option E8:=match s,c with
 |(a6,a7,h,a8),(i,j,k,l,m,n,p,q,r,t,u,v,w,x,y,b,a,z) =>
  let j1:=λ(ad:List Tok) (ae:Int) (af:Bool) (ag:Int) (ah:List Bool) (o:List Str)=>Al (λrec=>Bp rec sKx) K (ad,ae,af,ag,i,j,k,l,m,n,p,q,r,t,u,v,w,x,y,o,ah,z)
  cond (!h) (
    (Ao ([79,82,68,69,82],a6,a7,h,a8)).bind λ(ai,a9,aa,ab,ac) =>
    cond (ai) (
     (Ai ([[66,89]],a9,aa,ab,ac)).bind λ(aj,ak,al,am) =>
     (Av (aj,ak,al,am)).bind λ(d,a0,a1,e,a2) =>
      chk (decide (b.length+1<=Am)) (
      cond (!e) (
       (Ao ([68,69,83,67],a0,a1,e,a2)).bind λ(f,a3,a4,g,a5) =>
       cond (!g) (
        cond (!f) (
        (Ao ([65,83,67],a3,a4,g,a5)).bind λ(_,an,ao,ap,aq) =>
         chk (decide (a.length+1<=Am)) (
         j1 an ao ap aq (a++[f]) (b++[d]))) (
        chk (decide (a.length+1<=Am)) (
         j1 a3 a4 g a5 (a++[f]) (b++[d])))) (
        chk (decide (a.length+1<=Am)) (
        j1 a3 a4 g a5 (a++[f]) (b++[d])))) (
       cond (!e) (
       (Ao ([65,83,67],a0,a1,e,a2)).bind λ(_,ar,au,av,aw) =>
        chk (decide (a.length+1<=Am)) (
        j1 ar au av aw (a++[false]) (b++[d]))) (
       chk (decide (a.length+1<=Am)) (
        j1 a0 a1 e a2 (a++[false]) (b++[d])))))) (
     Al6 (a9,aa,ab,ac) (i,j,k,l,m,n,p,q,r,t,u,v,w,x,y,b,a,z))) (
    Al6 (a6,a7,h,a8) (i,j,k,l,m,n,p,q,r,t,u,v,w,x,y,b,a,z))
def Ayz(K:Nat)(s:RS)(es:List Xpr):Option E8:=(Ai ([[70,82,79,77]],s)).bind λy=>(Av y).bind λx=>(Cf (x.2.1,x.2.2.1,x.2.2.2.1,x.2.2.2.2,8,x.1,[],[],[],es,[],[],false,0,0,0,[],[],[],[],[],(-1))).bind λr=>Afn K (r.1,r.2.1,r.2.2.1,r.2.2.2.1) r.2.2.2.2
theorem Bjx(l:TL)(n:Int)(b:Bool)(a:Int):Hs (l,n,b,a,z0)=(Ao ([42],l,n,b,a)).bind λx=>cond (!x.1) ((C9 x.2).bind λe=>Ayz (l.length+3) e.2 e.1) (Ayz (l.length+3) x.2 []):=by
 have hk:∀(e:Ex) (v:Ci),(match v with|(c,d,f,g,h,i,j,k,m,o,p,q,r,s,t,u,w,y,z,a0,a1,a2)=>match e with
   |.exit 0=>Al6 (c,d,f,g) (h,i,j,k,m,o,p,q,r,s,t,u,w,y,z,a0,a1,a2)
   |_=>none:Option E8)=sKx e v:=λe v=>by
  match e with|.exit 0=>rfl|.exit (_+1)=>rfl|.ret=>rfl|.normal=>rfl
 have hk2:=funext λe=>funext λv=>hk e v;unfold Hs Ayz Afn;rw[<-hk2];rfl
abbrev stO(c:Cl)(l:TL)(n:Int)(b:Bool)(a:Int)(acc:List (Str×Bool)):Ci:=(l,n,b,a,Of c (acc.map (·.1)) (acc.map (·.2)))
section
variable {R:Type}{kx:Ex->Ci->Option R}{n:Int}{c:Cl}
theorem Bp8(rec:Ci->Option R)(l:TL)(a:Int)(o:List Str)(d:List Bool)(ho:o.length<=1000000000)(hd:d.length<=1000000000)(hi:isT [44] l=true):Bp rec kx (l,n,false,a,Of c o d)=(Agk (l.tail,n,false,a)).bind λz=>rec (z.2.1,z.2.2.1,z.2.2.2.1,z.2.2.2.2,Of c (o++[z.1.1]) (d++[z.1.2])):=by
 have hm1:decide (o.length+1<=Am)=true:=Ze1 (by simp only[Am];omega);have hm2:decide (d.length+1<=Am)=true:=Ze1 (by simp only[Am];omega);obtain⟨c1,c2,c3,c4,c5,c6,c7,c8,c9,c10,c11,c12,c13,c14,c15,c16,c17,c18⟩:=c;show Bp rec kx (l,n,false,a,c1,c2,c3,c4,c5,c6,c7,c8,c9,c10,c11,c12,c13,c14,c15,o,d,c18)=(Agk (l.tail,n,false,a)).bind λz=>rec (z.2.1,z.2.2.1,z.2.2.2.1,z.2.2.2.2,c1,c2,c3,c4,c5,c6,c7,c8,c9,c10,c11,c12,c13,c14,c15,o++[z.1.1],d++[z.1.2],c18);simp only[Bp,Zs1,Ae,Fg hi,Zc1,Agk,hm1,hm2,chk];cases Av (l.tail,n,false,a) with
 |none=>rfl
 |some x =>
  obtain⟨x1,x2,x3,x4,x5⟩:=x;simp only[Zc1,Apc];cases x4 with
  |true=>rfl
  |false =>
   simp only[Zs1,Ae];cases Ao ([68,69,83,67],x2,x3,false,x5) with
   |none=>rfl
   |some z =>
    obtain⟨z1,z2,z3,z4,z5⟩:=z;simp only[Zc1];cases z4 with
    |true=>rfl
    |false =>simp only[Zs1,Ae];cases z1 with|true=>rfl|false =>simp only[Zs1,Ae];cases Ao ([65,83,67],z2,z3,false,z5)<;>rfl
theorem o_g(rec:Ci->Option R)(l:TL)(a:Int)(acc:List (Str×Bool))(ha:acc.length<=1000000000)(hi:isT [44] l=true):Bp rec kx (stO c l n false a acc)=(Agk (l.tail,n,false,a)).bind λz=>rec (stO c z.2.1 z.2.2.1 z.2.2.2.1 z.2.2.2.2 (acc++[z.1])):=by
 have e1:∀x:Str×Bool,(acc++[x]).map (·.1)=acc.map (·.1)++[x.1]:=λx=>by simp
 have e2:∀x:Str×Bool,(acc++[x]).map (·.2)=acc.map (·.2)++[x.2]:=λx=>by simp
 have h:=Bp8 (kx:=kx) (n:=n) (c:=c) rec l a (acc.map (·.1)) (acc.map (·.2)) (by rw[List.length_map];exact ha) (by rw[List.length_map];exact ha) hi;simp only[stO,e1,e2];exact h
theorem o_f(rec:Ci->Option R)(l:TL)(a:Int)(acc:List (Str×Bool))(hi:isT [44] l=false):Bp rec kx (stO c l n false a acc)=kx (.exit 0) (stO c l n false a acc):=by simp only[Bp,Of,Zs1,Ae,Ew hi,Zc1,Ah];rfl
theorem o_b(rec:Ci->Option R)(l:TL)(a:Int)(acc:List (Str×Bool)):Bp rec kx (stO c l n true a acc)=kx (.exit 0) (stO c l n true a acc):=by simp only[Bp,Of,Zt1,Ah];rfl
end
theorem A8u(K:Nat)(l:TL)(n a:Int)(c:Cl):Afn K (l,n,false,a) (Of c [] [])=(Ao ([79,82,68,69,82],l,n,false,a)).bind λz=>cond z.1 ((Ai ([[66,89]],z.2)).bind λy=>(Agk y).bind λx=>Al (λrec=>Bp rec sKx) K (stO c x.2.1 x.2.2.1 x.2.2.2.1 x.2.2.2.2 [x.1])) (Al6 z.2 (Of c [] [])):=by
 have hm1:decide (([]:List Str).length+1<=Am)=true:=Ze1 (by simp only[Am,Zi1];omega);have hm2:decide (([]:List Bool).length+1<=Am)=true:=Ze1 (by simp only[Am,Zi1];omega);obtain⟨c1,c2,c3,c4,c5,c6,c7,c8,c9,c10,c11,c12,c13,c14,c15,c16,c17,c18⟩:=c;show Afn K (l,n,false,a) (c1,c2,c3,c4,c5,c6,c7,c8,c9,c10,c11,c12,c13,c14,c15,[],[],c18)=(Ao ([79,82,68,69,82],l,n,false,a)).bind λz=>cond z.1 ((Ai ([[66,89]],z.2)).bind λy=>(Agk y).bind λx=>Al (λrec=>Bp rec sKx) K (x.2.1,x.2.2.1,x.2.2.2.1,x.2.2.2.2,c1,c2,c3,c4,c5,c6,c7,c8,c9,c10,c11,c12,c13,c14,c15,[x.1.1],[x.1.2],c18)) (Al6 z.2 (c1,c2,c3,c4,c5,c6,c7,c8,c9,c10,c11,c12,c13,c14,c15,[],[],c18));simp only[Afn,Zs1,Ae,hm1,hm2,chk];cases Ao ([79,82,68,69,82],l,n,false,a) with
 |none=>rfl
 |some q =>
  obtain⟨q1,q2,q3,q4,q5⟩:=q;simp only[Zc1];cases q1 with
  |false=>rfl
  |true =>
   simp only[Ae];cases Ai ([[66,89]],q2,q3,q4,q5) with
   |none=>rfl
   |some y =>
    obtain⟨y1,y2,y3,y4⟩:=y;simp only[Zc1,Agk];cases Av (y1,y2,y3,y4) with
    |none=>rfl
    |some x =>
     obtain⟨x1,x2,x3,x4,x5⟩:=x;simp only[Zc1,Apc];cases x4 with
     |true=>rfl
     |false =>
      simp only[Zs1,Ae];cases Ao ([68,69,83,67],x2,x3,false,x5) with
      |none=>rfl
      |some z =>
       obtain⟨z1,z2,z3,z4,z5⟩:=z;simp only[Zc1];cases z4 with
       |true=>rfl
       |false =>simp only[Zs1,Ae];cases z1 with|true=>rfl|false =>simp only[Zs1,Ae];cases Ao ([65,83,67],z2,z3,false,z5)<;>rfl
theorem A3y(K:Nat)(l:TL)(n b:Int)(c:Cl):Bt (ES n) b (Afn K (l,n,true,b) c):=by obtain⟨c1,c2,c3,c4,c5,c6,c7,c8,c9,c10,c11,c12,c13,c14,c15,c16,c17,c18⟩:=c;exact Ay0 l n b _
theorem Ali(K:Nat)(c:Cl)(l:TL)(n b:Int)(acc:List (Str×Bool)):Bt (ES n) b (Al (λrec=>Bp rec sKx) (K+1) (stO c l n true b acc)):=by rw[A3,o_b];exact Ay0 l n b _
theorem A01(c:Cl)(o:List Str)(d:List Bool)(h:Jn c (-1)=c):Jn (Of c o d) (-1)=Of c o d:=by obtain⟨c1,c2,c3,c4,c5,c6,c7,c8,c9,c10,c11,c12,c13,c14,c15,c16,c17,c18⟩:=c;have h18:(-1:Int)=c18:=congrArg (λz:Cl=>z.2.2.2.2.2.2.2.2.2.2.2.2.2.2.2.2.2) h;show(c1,c2,c3,c4,c5,c6,c7,c8,c9,c10,c11,c12,c13,c14,c15,o,d,(-1:Int))=(c1,c2,c3,c4,c5,c6,c7,c8,c9,c10,c11,c12,c13,c14,c15,o,d,c18);rw[<-h18]
theorem Bbv{L:Nat}(hL:L<=1000000000){K:Nat}{l:TL}(hl:l.length<L)(hK:l.length<K)(n a:Int)(c:Cl)(hm:Jn c (-1)=c):Out (λ(r:List (Str×Bool)×Int) l'=>((l',n,false,a,Jn (Of c (r.1.map (·.1)) (r.1.map (·.2))) r.2):TL×Int×Bool×Int×Cl)) (ES n) n (Afn (K+1) (l,n,false,a) (Of c [] [])) (bP Dw (λo=>bP Ei λm=>Bd (o,m)) l):=by
 rw[A8u];have ht:=A2 l;have hlim:∀(o:List (Str×Bool)) (l':TL) (a:Int),Out (λ(r:List (Str×Bool)×Int) l'=>((l',n,false,a,Jn (Of c (r.1.map (·.1)) (r.1.map (·.2))) r.2):TL×Int×Bool×Int×Cl)) (ES n) n (Al6 (l',n,false,a) (Of c (o.map (·.1)) (o.map (·.2)))) (bP Ei (λm=>Bd (o,m)) l'):=λo l' a =>Out.map (Bhc l' n a _ (A01 c _ _ hm)) (λm l2=>rfl)
 cases hi:isT J9 l with
 |false =>
  rw[Ew (s:=[79,82,68,69,82]) hi];have e:bP Dw (λo=>bP Ei λm=>Bd (o,m)) l=bP Ei (λm=>Bd ([],m)) l:=by unfold bP Dw;simp only[hi]
  rw[e];exact hlim [] l a
 |true =>
  rw[Fg (s:=[79,82,68,69,82]) hi];have e:bP Dw (λo=>bP Ei λm=>Bd (o,m)) l=bP (A4 [wBY]) (λ_=>bP (F8 Lb) λo=>bP Ei λm=>Bd (o,m)) l.tail:=by unfold bP Dw;simp only[hi];unfold bP;cases A4 [wBY] l.tail<;>rfl
  rw[e];show Out _ _ _ ((Ai ([[66,89]],l.tail,n,false,a)).bind λy=>(Agk y).bind λx=>Al (λrec=>Bp rec sKx) (K+1) (stO c x.2.1 x.2.2.1 x.2.2.2.1 x.2.2.2.2 [x.1])) _;refine Out.must (by decide) (λl1 h1 =>?_) (λl1 b=>Bt.bindS A6n λx=>Ali K c l1 n b [x]);have q1:=B6 h1;rw[Uv];refine Out.bindS (Arc (L:=L)) (show l1.length<L by omega) (λx l2 h2 =>?_) (λx l2 b=>Ali K c l2 n b [x]);have q2:l2.length<l1.length:=Aj3 _ _ _ h2;have q3:[x].length+l2.length<=1000000000:=by simp only[Zf1,Zi1];omega
  refine Out.loop (a:=a) (λacc l b a=>sKx (.exit 0) (stO c l n b a acc))
   (As1 (step:=λrec=>Bp rec sKx) (st:=stO c) (n:=n) (c:=λacc l b a=>sKx (.exit 0) (stO c l n b a acc)) (Arc (L:=L)) Aj3 (λrec l a acc ha hi=>o_g rec l a acc ha hi) (λrec l a acc hi=>o_f rec l a acc hi) (λrec l a acc=>o_b rec l a acc) (a:=a) (k:=K+1) (m:=l2.length+1) (acc:=[x]) (l:=l2) (by omega) (by omega) (by omega) q3)
   (As9 (step:=λrec=>Bp rec sKx) (st:=stO c) (n:=n) (c:=λacc l b a=>sKx (.exit 0) (stO c l n b a acc)) (Arc (L:=L)) Aj3 (λrec l a acc ha hi=>o_g rec l a acc ha hi) (λrec l a acc hi=>o_f rec l a acc hi) (λrec l a acc=>o_b rec l a acc) (a:=a) (k:=K+1) (m:=l2.length+1) (acc:=[x]) (l:=l2) (by omega) (by omega) (by omega) q3) (λo l3 h3 =>?_) (λo l3 b=>Ay0 l3 n b _)
  exact hlim o l3 a
theorem Out.bindO{α β γ δ:Type}{g : α->TL->γ}{E:Int->γ->Prop}{g' : β->TL->δ}{E':Int->δ->Prop}{n:Int}{x:Option γ}{p:TL->PR α}{l:TL}(ho:Out g E n x (p l)){G : γ->Option δ}{f : α->TL->PR β}(h1:∀r l',p l = .ok (r,l')->Out g' E' n (G (g r l')) (f r l'))(h2:∀b z,E b z->Bt E' b (G z)):Out g' E' n (x.bind G) (bP p f l):=by unfold bP;cases hq:p l with|error q =>rw[hq] at ho;obtain⟨z,hz,he⟩:=ho;rw[hz];exact h2 _ z he|ok y =>obtain⟨r,l'⟩:=y;rw[hq] at ho;have ho:x=some (g r l'):=ho;rw[ho];exact h1 r l' hq
theorem Bhf{l l':TL}{w:Bool×Xpr}(h:Fo l = .ok (w,l')):l'.length<=l.length:=by
 unfold Fo at h;have ht:=A2 l;cases hi:isT Hu l with
 |false=>rw[hi] at h;cases h;exact Zn1 _
 |true =>rw[hi] at h;simp only at h;cases hq:orW l.tail with|error q=>rw[hq] at h;cases h|ok x =>obtain⟨x,l1⟩:=x;rw[hq] at h;cases h;have:=Hb _ _ _ hq;omega
theorem Ary(K:Nat)(es:List Xpr)(nm:Str)(l:TL)(n b:Int):Bt (ES n) b ((Cf (l,n,true,b,8,nm,[],[],[],es,[],[],false,0,0,0,[],[],[],[],[],(-1))).bind λr=>Afn K (r.1,r.2.1,r.2.2.1,r.2.2.2.1) r.2.2.2.2):=by rw[Ago];exact A3y K l n b (8,nm,[],[],[],es,[],[],false,0,0,0,[],[],[],[],[],(-1))
theorem Bnp(K:Nat)(es:List Xpr)(l:TL)(n b:Int):Bt (ES n) b (Ayz K (l,n,true,b) es):=Bt.must (Bt.bindS Ez λnm=>Ary K es nm l n b)
def Bkh(es:List Xpr)(nm:Str)(w:Bool×Xpr)(o:List (Str×Bool))(m:Int):Stm:={ zS with kind:=8,name:=nm,l:=es,has:=w.1,whr:=w.2,order:=o.map (·.1),desc:=o.map (·.2),most:=m }
theorem Axy{L:Nat}(hL:L<=1000000000){K:Nat}{l:TL}(hl:l.length<L)(hK:l.length<K)(n a:Int)(es:List Xpr):Out (gS n a) (ES n) n (Ayz (K+1) (l,n,false,a) es) (bP (A4 [H4]) (λ_=>bP Bj λnm=>bP Fo λw=>bP Dw λo=>bP Ei λm=>Bd (Bkh es nm w o m)) l):=by
 unfold Ayz;refine Out.must (by decide) (λl1 h1 =>?_) (λl1 b=>Bt.bindS Ez λnm=>Ary (K+1) es nm l1 n b);have q1:=B6 h1;refine Out.bindS (Cu L) (show l1.length<L by omega) (λnm l2 h2 =>?_) (λnm l2 b=>Ary (K+1) es nm l2 n b);have q2:=Ig h2;refine Out.bindO (Ac2 hL n a 8 nm [] [] [] es [] [] [] [] (-1) (show l2.length<L by omega)) (λw l3 h3 =>?_) (λb z hz =>?_)
 ·have q3:=Bhf h3;have h:=Bbv hL (K:=K) (l:=l3) (by omega) (by omega) n a (8,nm,[],[],[],es,[],[],w.1,w.2.kind,w.2.v.kind,w.2.v.n,w.2.v.s,w.2.name,w.2.l,[],[], -1) rfl;have e:bP Dw (λo=>bP Ei λm=>Bd (Bkh es nm w o m)) l3=bP (bP Dw λo=>bP Ei λm=>Bd (o,m)) (λr=>Bd (Bkh es nm w r.1 r.2)) l3:=by unfold bP;cases Dw l3 with|error q=>rfl|ok x =>obtain⟨o,l4⟩:=x;simp only;cases Ei l4<;>rfl
  rw[e];exact Out.map (g':=gS n a) h (λr l'=>rfl)
 ·obtain⟨l',n',b',a',c⟩:=z;obtain⟨h1,h2,h3⟩:=hz;simp only at h1 h2 h3;subst h1 h2 h3;exact A3y (K+1) l' n' a' c
theorem Aws{L:Nat}(hL:L<=1000000000){l:TL}(hl:l.length<L)(n a:Int):Out (gS n a) (ES n) n (Hs (l,n,false,a,z0)) (Fh l):=by
 rw[Bjx];have ht:=A2 l;have e:Fh l=bP Wx (λes=>bP (A4 [H4]) λ_=>bP Bj λnm=>bP Fo λw=>bP Dw λo=>bP Ei λm=>Bd (Bkh es nm w o m)) l:=rfl;rw[e];cases hi:isT [42] l with
 |true =>
  rw[Fg hi];have e2:∀f:List Xpr->TL->PR Stm,bP Wx f l=f [] l.tail:=λf=>by unfold bP Wx;simp only[hi]
  rw[e2];exact Axy hL (K:=l.length+2) (by omega) (by omega) n a []
 |false =>
  rw[Ew hi];have e2:∀f:List Xpr->TL->PR Stm,bP Wx f l=bP P5 f l:=λf=>by unfold bP Wx;simp only[hi]
  rw[e2];show Out _ _ _ ((C9 (l,n,false,a)).bind λe=>Ayz (l.length+3) e.2 e.1) _;refine Out.bindS (Ap7 hL) hl (λes l1 h1 =>?_) (λes l1 b=>Bnp (l.length+3) es l1 n b);have q1:l1.length<l.length:=Ard Hb h1;exact Axy hL (K:=l.length+2) (by omega) (by omega) n a es
abbrev gF(n a:Int)(s:Stm)(l:TL):Stm×RS:=(s,Al1 l,n,false,a)
theorem Ay8{α:Type}(p:TL->PR α)(l:TL):bP p Bd l=p l:=by unfold bP Bd;cases p l<;>rfl
theorem Bed(s:Stm)(l:TL)(n a:Int):((Ao ([59],l,n,false,a)).bind λz=>some (s,z.2))=some (s,Al1 l,n,false,a):=by unfold Al1;cases hi:isT [59] l with|true=>rw[Fg hi];rfl|false=>rw[Ew hi];rfl
theorem A44(s:Stm):Stm.mk s.kind s.name s.on s.cols s.names s.l s.rows s.sets s.has (Xpr.mk s.whr.kind ⟨s.whr.v.kind,s.whr.v.n,s.whr.v.s⟩ s.whr.name s.whr.l) s.order s.desc s.most=s:=by obtain⟨k,nm,on,cs,ns,l,rs,ss,h,w,o,d,m⟩:=s;cases w;rfl
def Atf(s:RS):Option (List Xpr×RS):=(Ai ([[40]],s)).bind λy=>(C9 y).bind λe=>(Ai ([[41]],e.2)).bind λw=>some (e.1,w)
theorem Ag1:I3 Atf:=λl n a=>by obtain⟨e1,h1⟩:=Ady l n a;simp only[Atf,Pz,h1,Zc1];exact⟨_,rfl⟩
theorem Bef{l l':TL}{x:List Xpr}(h:P5 l = .ok (x,l')):l'.length<l.length:=Ard Hb h
theorem As0{L:Nat}(hL:L<=1000000000):SimP Atf Az0 L :=.of (λl n a hl=>by unfold Atf Az0;refine Out.must (by decide) (λl1 h1 =>?_) (λl1 b=>Bt.bindS Ady λe=>Bt.must ⟨_,rfl,rfl,rfl,rfl⟩);have q1:=B6 h1;refine Out.bindS (Ap7 hL) (show l1.length<L by omega) (λe l2 h2 =>?_) (λe l2 b=>Bt.must ⟨_,rfl,rfl,rfl,rfl⟩);exact Out.must (by decide) (λl3 h3=>rfl) (λl3 b=>⟨_,rfl,rfl,rfl,rfl⟩)) Ag1
theorem Aji:Co Az0:=λl e l' h=>by obtain⟨_,l1,h1,h⟩:=Ha h;obtain⟨x,l2,h2,h⟩:=Ha h;obtain⟨_,l3,h3,h⟩:=Ha h;have q1:=B6 h1;have q2:=Bef h2;have q3:=B6 h3;cases h;omega
abbrev rV(nm:Str)(l:TL)(n:Int)(b:Bool)(a:Int)(acc:List (List Xpr)):Gw:=(l,n,b,a,zS,5,nm,[],[],[],[],acc,[],false,0,0,0,[],[],[],[],[],0)
section
variable {R:Type}{kx:Ex->Gw->Option R}{n:Int}{nm:Str}
theorem r_g(rec:Gw->Option R)(l:TL)(a:Int)(acc:List (List Xpr))(ha:acc.length<=1000000000)(hi:isT [44] l=true):F7 rec kx (rV nm l n false a acc)=(Atf (l.tail,n,false,a)).bind λz=>rec (rV nm z.2.1 z.2.2.1 z.2.2.2.1 z.2.2.2.2 (acc++[z.1])):=by
 have hm:decide (acc.length+1<=Am)=true:=Ze1 (by simp only[Am];omega);simp only[F7,Zs1,Ae,Fg hi,Zc1,Atf];cases Ai ([[40]],l.tail,n,false,a) with
 |none=>rfl
 |some y =>
  simp only[Zc1];cases C9 y with
  |none=>rfl
  |some x =>simp only[Zc1,hm,chk,Ae];cases Ai ([[41]],x.2) with|none=>rfl|some y=>rfl
theorem r_f(rec:Gw->Option R)(l:TL)(a:Int)(acc:List (List Xpr))(hi:isT [44] l=false):F7 rec kx (rV nm l n false a acc)=kx (.exit 0) (rV nm l n false a acc):=by simp only[F7,Zs1,Ae,Ew hi,Zc1,Ah]
theorem r_b(rec:Gw->Option R)(l:TL)(a:Int)(acc:List (List Xpr)):F7 rec kx (rV nm l n true a acc)=kx (.exit 0) (rV nm l n true a acc):=by simp only[F7,Zt1,Ah]
end
def Bbk(c:Cl):Stm:=Stm.mk c.1 c.2.1 c.2.2.1 c.2.2.2.1 c.2.2.2.2.1 c.2.2.2.2.2.1 c.2.2.2.2.2.2.1 c.2.2.2.2.2.2.2.1 c.2.2.2.2.2.2.2.2.1 (Xpr.mk c.2.2.2.2.2.2.2.2.2.1 ⟨c.2.2.2.2.2.2.2.2.2.2.1,c.2.2.2.2.2.2.2.2.2.2.2.1,c.2.2.2.2.2.2.2.2.2.2.2.2.1⟩ c.2.2.2.2.2.2.2.2.2.2.2.2.2.1 c.2.2.2.2.2.2.2.2.2.2.2.2.2.2.1) c.2.2.2.2.2.2.2.2.2.2.2.2.2.2.2.1 c.2.2.2.2.2.2.2.2.2.2.2.2.2.2.2.2.1 c.2.2.2.2.2.2.2.2.2.2.2.2.2.2.2.2.2
def Bkc(s:RS)(c:Cl):Option Ko:=cond (!s.2.2.1) ((Ao ([59],s)).bind λz=>some (Bbk c,z.2)) (some (Bbk c,s))
theorem Awj(s:Stm):Bbk (Ay7 s)=s:=A44 s
theorem Bo5(s:Stm)(l:TL)(n a:Int):Bkc (l,n,false,a) (Ay7 s)=some (gF n a s l):=by unfold Bkc;simp only[Zs1,Ae,Awj];exact Bed s l n a
theorem Bfo(l:TL)(n b:Int)(c:Cl):Bt (EV n) b (Bkc (l,n,true,b) c):=⟨_,rfl,rfl,rfl,rfl⟩
def rK(e:Ex)(v:Gw):Option Ko:=match e with|.exit 0=>Bkc (v.1,v.2.1,v.2.2.1,v.2.2.2.1) v.2.2.2.2.2|_=>none
def Bi0(K:Nat)(s:RS):Option Ko:=(Ai ([[73,78,84,79]],s)).bind λy=>(Av y).bind λx=>(Ai ([[86,65,76,85,69,83]],x.2)).bind λy=>(Atf y).bind λz=>Al (λrec=>F7 rec rK) K (rV x.1 z.2.1 z.2.2.1 z.2.2.2.1 z.2.2.2.2 [z.1])
theorem A4j(K:Nat)(nm:Str)(l:TL)(n b:Int)(acc:List (List Xpr)):Bt (EV n) b (Al (λrec=>F7 rec rK) (K+1) (rV nm l n true b acc)):=by rw[A3,r_b];exact Bfo l n b (5,nm,[],[],[],[],acc,[],false,0,0,0,[],[],[],[],[],0)
theorem Bjl{L:Nat}(hL:L<=1000000000){K:Nat}{l:TL}(hl:l.length<L)(hK:l.length<K)(n a:Int):Out (gF n a) (EV n) n (Bi0 (K+1) (l,n,false,a)) (Gr l):=by
 unfold Bi0 Gr;refine Out.must (by decide) (λl1 h1 =>?_) (λl1 b=>Bt.bindS Ez λnm=>Bt.must (Bt.bindS Ag1 λx=>A4j K nm l1 n b [x]));have q1:=B6 h1;refine Out.bindS (Cu L) (show l1.length<L by omega) (λnm l2 h2 =>?_) (λnm l2 b=>Bt.must (Bt.bindS Ag1 λx=>A4j K nm l2 n b [x]));have q2:=Ig h2;refine Out.must (by decide) (λl3 h3 =>?_) (λl3 b=>Bt.bindS Ag1 λx=>A4j K nm l3 n b [x]);have q3:=B6 h3;rw[Uv];refine Out.bindS (As0 hL) (show l3.length<L by omega) (λx l4 h4 =>?_) (λx l4 b=>A4j K nm l4 n b [x]);have q4:l4.length<l3.length:=Aji _ _ _ h4;have q5:[x].length+l4.length<=1000000000:=by simp only[Zf1,Zi1];omega
 refine Out.loop (a:=a) (λacc l b a=>rK (.exit 0) (rV nm l n b a acc))
  (As1 (step:=λrec=>F7 rec rK) (st:=rV nm) (n:=n) (c:=λacc l b a=>rK (.exit 0) (rV nm l n b a acc)) (As0 hL) Aji (λrec l a acc ha hi=>r_g rec l a acc ha hi) (λrec l a acc hi=>r_f rec l a acc hi) (λrec l a acc=>r_b rec l a acc) (a:=a) (k:=K+1) (m:=l4.length+1) (acc:=[x]) (l:=l4) (by omega) (by omega) (by omega) q5)
  (As9 (step:=λrec=>F7 rec rK) (st:=rV nm) (n:=n) (c:=λacc l b a=>rK (.exit 0) (rV nm l n b a acc)) (As0 hL) Aji (λrec l a acc ha hi=>r_g rec l a acc ha hi) (λrec l a acc hi=>r_f rec l a acc hi) (λrec l a acc=>r_b rec l a acc) (a:=a) (k:=K+1) (m:=l4.length+1) (acc:=[x]) (l:=l4) (by omega) (by omega) (by omega) q5) (λrs l5 h5 =>?_) (λrs l5 b=>Bfo l5 n b _)
 exact Bo5 { zS with kind:=5,name:=nm,rows:=rs } l5 n a
theorem Bkr{l:TL}(h1:isT Fi l=false)(h2:isT R4 l=false)(h3:isT Ij l=true)(n a:Int):Jl (l,n,false,a)=Bi0 (l.length+3) (l.tail,n,false,a):=by
 unfold Jl Bi0;show(Ao ([67,82,69,65,84,69],l,n,false,a)).bind _=_;rw[Ew (s:=[67,82,69,65,84,69]) h1];show(Ao ([68,82,79,80],l,n,false,a)).bind _=_;rw[Ew (s:=[68,82,79,80]) h2];show(Ao ([73,78,83,69,82,84],l,n,false,a)).bind _=_;rw[Fg (s:=[73,78,83,69,82,84]) h3];show(Ai ([[73,78,84,79]],l.tail,n,false,a)).bind _=_;cases Ai ([[73,78,84,79]],l.tail,n,false,a) with
 |none=>rfl
 |some y =>
  show(Av y).bind _=(Av y).bind _;cases Av y with
  |none=>rfl
  |some x =>
   show(Ai ([[86,65,76,85,69,83]],x.2)).bind _=(Ai ([[86,65,76,85,69,83]],x.2)).bind _;cases Ai ([[86,65,76,85,69,83]],x.2) with
   |none=>rfl
   |some y =>
    show(Ai ([[40]],y)).bind _=(Atf y).bind _;unfold Atf;cases Ai ([[40]],y) with
    |none=>rfl
    |some y =>
     show(C9 y).bind _=Option.bind ((C9 y).bind _) _;cases C9 y with
     |none=>rfl
     |some e =>
      show(Ai ([[41]],e.2)).bind _=Option.bind ((Ai ([[41]],e.2)).bind _) _;cases Ai ([[41]],e.2) with
      |none=>rfl
      |some w =>obtain⟨w1,w2,w3,w4⟩:=w;simp only[Zc1];refine congrFun (congrArg (λkx=>Al (λrec=>F7 rec kx) (l.length+3)) ?_) _;funext e v;match e with|.exit 0=>rfl|.exit (_+1)=>rfl|.ret=>rfl|.normal=>rfl
theorem Bn2(s:Stm)(l:TL)(n a:Int):((Ao ([59],l,n,false,a)).bind λ(_,x1,x2,x3,x4)=>some (s,x1,x2,x3,x4))=some (gF n a s l):=by unfold gF Al1;cases hi:isT [59] l with|true=>rw[Fg hi];rfl|false=>rw[Ew hi];rfl
theorem Bkw(s:Stm)(l:TL)(n a:Int):((Ao ([59],l,n,false,a)).bind λ(_,x1,x2,x3,x4)=>some (Stm.mk s.kind s.name s.on s.cols s.names s.l s.rows s.sets s.has (Xpr.mk s.whr.kind ⟨s.whr.v.kind,s.whr.v.n,s.whr.v.s⟩ s.whr.name s.whr.l) s.order s.desc s.most,x1,x2,x3,x4))=some (gF n a s l):=by rw[A44];exact Bn2 s l n a
theorem Bba{L:Nat}(hL:L<=1000000000){l:TL}(hl:l.length<L)(n a:Int):Out (gF n a) (EV n) n (Jl (l,n,false,a)) (G0 l):=by
 have ht:=A2 l;have ht2:=A2 l.tail;unfold G0;cases h1:isT Fi l with
 |true =>unfold Jl;show Out _ _ _ ((Ao ([67,82,69,65,84,69],l,n,false,a)).bind _) (E0 l.tail);rw[Fg (s:=[67,82,69,65,84,69]) h1,<-Ay8 E0];refine Out.bindO (A1f hL (l:=l.tail) (by omega) n a) (λs l' _=>Bkw s l' n a) (λb z hz =>?_);obtain⟨l',n',b',a',c1,c2,c3,c4,c5,c6,c7,c8,c9,c10,c11,c12,c13,c14,c15,c16,c17,c18⟩:=z;obtain⟨e1,e2,e3⟩:=hz;simp only at e1 e2 e3;subst e1 e2 e3;exact⟨_,rfl,rfl,rfl,rfl⟩
 |false =>
  cases h2:isT R4 l with
  |true =>
   unfold Jl Sa;show Out _ _ _ ((Ao ([67,82,69,65,84,69],l,n,false,a)).bind _) _;rw[Ew (s:=[67,82,69,65,84,69]) h1];show Out _ _ _ ((Ao ([68,82,79,80],l,n,false,a)).bind _) _;rw[Fg (s:=[68,82,79,80]) h2];show Out _ _ _ ((Ao ([84,65,66,76,69],l.tail,n,false,a)).bind _) _;cases h3:isT Ir l.tail with
   |true =>rw[Fg (s:=[84,65,66,76,69]) h3];have q:=A2 l.tail;show Out _ _ _ ((Av (l.tail.tail,n,false,a)).bind _) (bP Bj (λn=>Bd { zS with kind:=2,name:=n }) l.tail.tail);exact Out.bindS (Cu L) (by omega) (λnm l' h=>Bn2 { zS with kind:=2,name:=nm } l' n a) (λnm l' b=>⟨_,rfl,rfl,rfl,rfl⟩)
   |false =>rw[Ew (s:=[84,65,66,76,69]) h3];show Out _ _ _ ((Ai ([[73,78,68,69,88]],l.tail,n,false,a)).bind _) (bP (A4 [Fw]) (λ_=>bP Bj λn=>Bd { zS with kind:=4,name:=n }) l.tail);refine Out.must (by decide) (λl1 q1 =>?_) (λl1 b=>Bt.bindS Ez λnm=>⟨_,rfl,rfl,rfl,rfl⟩);have q2:=B6 q1;exact Out.bindS (Cu L) (show l1.length<L by omega) (λnm l' h=>Bn2 { zS with kind:=4,name:=nm } l' n a) (λnm l' b=>⟨_,rfl,rfl,rfl,rfl⟩)
  |false =>
   cases h3:isT Ij l with
   |true =>rw[Bkr h1 h2 h3];exact Bjl hL (K:=l.length+2) (by omega) (by omega) n a
   |false =>
    unfold Jl;show Out _ _ _ ((Ao ([67,82,69,65,84,69],l,n,false,a)).bind _) _;rw[Ew (s:=[67,82,69,65,84,69]) h1];show Out _ _ _ ((Ao ([68,82,79,80],l,n,false,a)).bind _) _;rw[Ew (s:=[68,82,79,80]) h2];show Out _ _ _ ((Ao ([73,78,83,69,82,84],l,n,false,a)).bind _) _;rw[Ew (s:=[73,78,83,69,82,84]) h3];show Out _ _ _ ((Ao ([85,80,68,65,84,69],l,n,false,a)).bind _) _;cases h4:isT Kn l with
    |true =>rw[Fg (s:=[85,80,68,65,84,69]) h4];show Out _ _ _ ((I5 (l.tail,n,false,a,z0)).bind _) (Gx l.tail);rw[<-Ay8 Gx];refine Out.bindO (A0d hL (l:=l.tail) (by omega) n a) (λs l' _=>Bkw s l' n a) (λb z hz =>?_);obtain⟨l',n',b',a',c1,c2,c3,c4,c5,c6,c7,c8,c9,c10,c11,c12,c13,c14,c15,c16,c17,c18⟩:=z;obtain⟨e1,e2,e3⟩:=hz;simp only at e1 e2 e3;subst e1 e2 e3;exact⟨_,rfl,rfl,rfl,rfl⟩
    |false =>
     rw[Ew (s:=[85,80,68,65,84,69]) h4];show Out _ _ _ ((Ao ([68,69,76,69,84,69],l,n,false,a)).bind _) _;cases h5:isT Mw l with
     |true =>
      rw[Fg (s:=[68,69,76,69,84,69]) h5];show Out _ _ _ ((Ai ([[70,82,79,77]],l.tail,n,false,a)).bind _) (Jp l.tail);unfold Jp;have hb:∀(nm:Str) (l':TL) (b:Int) (G:L5->Option Ko) (hG:∀(z:Cl),Bt (EV n) b (G (l',n,true,b,z))),Bt (EV n) b ((Cf (l',n,true,b,7,nm,[],[],[],[],[],[],false,0,0,0,[],[],[],[],[],0)).bind G):=λnm l' b G hG=>by rw[Ago];exact hG _
      refine Out.must (by decide) (λl1 q1 =>?_) (λl1 b=>Bt.bindS Ez λnm=>hb nm l1 b _ λz=>⟨_,rfl,rfl,rfl,rfl⟩);have q2:=B6 q1;refine Out.bindS (Cu L) (show l1.length<L by omega) (λnm l2 q3 =>?_) (λnm l2 b=>hb nm l2 b _ λz=>⟨_,rfl,rfl,rfl,rfl⟩);have q4:=Ig q3;refine Out.bindO (Ac2 hL n a 7 nm [] [] [] [] [] [] [] [] 0 (show l2.length<L by omega)) (λw l' _=>Bkw { zS with kind:=7,name:=nm,has:=w.1,whr:=w.2 } l' n a) (λb z hz =>?_);obtain⟨l',n',b',a',c1,c2,c3,c4,c5,c6,c7,c8,c9,c10,c11,c12,c13,c14,c15,c16,c17,c18⟩:=z;obtain⟨e1,e2,e3⟩:=hz;simp only at e1 e2 e3;subst e1 e2 e3;exact⟨_,rfl,rfl,rfl,rfl⟩
     |false =>rw[Ew (s:=[68,69,76,69,84,69]) h5];show Out _ _ _ ((Ao ([83,69,76,69,67,84],l,n,false,a)).bind _) _;cases h6:isT P4 l with|true =>rw[Fg (s:=[83,69,76,69,67,84]) h6];show Out _ _ _ ((Hs (l.tail,n,false,a,z0)).bind _) (Fh l.tail);rw[<-Ay8 Fh];refine Out.bindO (Aws hL (l:=l.tail) (by omega) n a) (λs l' _=>Bkw s l' n a) (λb z hz =>?_);obtain⟨l',n',b',a',c1,c2,c3,c4,c5,c6,c7,c8,c9,c10,c11,c12,c13,c14,c15,c16,c17,c18⟩:=z;obtain⟨e1,e2,e3⟩:=hz;simp only at e1 e2 e3;subst e1 e2 e3;exact⟨_,rfl,rfl,rfl,rfl⟩|false =>rw[Ew (s:=[83,69,76,69,67,84]) h6];show Out _ _ _ ((Cm (l,n,false,a)).bind _) (.error l);rw[Vm];exact⟨_,rfl,rfl,rfl,rfl⟩
def Alw(R:Type):Px R:=pxO [(116,cA Aq8)] [] [] []
noncomputable def Axt(R:Type):Px R:=pxO [(85,Aj Zf Aby Jl),(86,Aj Abj Aa3 Jk),(25,cA Aa2),(84,Az 40 200 (Alw R) Tryz.f84)] [] [] []
def Yn(x:HV [.str]):Option (HV [.sv .stmt,.int .i64,.int .i64]):=match x with
 |s =>
 cond (!decide ((Jt s).2.2=0)) (
  some ((Stm.mk 0 [] [] [] [] [] [] [] false (Xpr.mk 0 ⟨0,0,[]⟩ [] []) [] [] 0),(Jt s).2.1,(Jt s).2.2)) (
  (Jl ((Jt s).1,(s.length:Int),false,0)).bind λ(x,x1,x2,x3,x4) =>
  (Jk (x1,x2,x3,x4)).bind λ(x5,_,_,_,x9) =>
   cond (!x5) (
   some ((Stm.mk 0 [] [] [] [] [] [] [] false (Xpr.mk 0 ⟨0,0,[]⟩ [] []) [] [] 0),x9,11)) (
   (Nn x).bind λa =>
    cond (!decide (a=0)) (
    some ((Stm.mk 0 [] [] [] [] [] [] [] false (Xpr.mk 0 ⟨0,0,[]⟩ [] []) [] [] 0),0,a)) (
    some (x,0,0))))
theorem Baz:FO 30 [.str] [.sv .stmt,.int .i64,.int .i64] (Yn):=fR (px:=Axt _) (n:=0) Tryz.func30 rfl (λcx H=>by have h1:Lv cx (Alw (HV [.sv .stmt,.int .i64,.int .i64])):=lv H (c1 H A3a Af) Ab Aa;have h0:Lv cx (Axt (HV [.sv .stmt,.int .i64,.int .i64])):=lv H (l1 H Bgc (l1 H Awf (c1 H Amu (Au (cR H h1 Tryz.func84 rfl (n:=0) (Ak)) Af)))) Ab Aa;exact⟨h0,Ak⟩) λ_=>by kernel_rfl
def Ml(s:Str):Option (Stm×Int×Int):=Yn s
def Ags:FT [.str] [.sv .stmt,.int .i64,.int .i64]:=λx=>Ml x
theorem Air:FO 30 [.str] [.sv .stmt,.int .i64,.int .i64] Ags :=.fin0 Baz λ_ _ _ hx=>hx
def Ajn(R:Type):Px R:=pxO [(116,cA Aq8)] [] [] []
noncomputable def Atu(R:Type):Px R:=pxO [(90,Aj C3 C4 Fz),(86,Aj Abj Aa3 Jk),(18,cA A4o),(84,Az 40 200 (Ajn R) Tryz.f84)] [] [] []
def Alc(x:HV [.str]):Option (HV [.sv .expr,.int .i64,.int .i64]):=match x with
 |s =>
 cond (!decide ((Jt s).2.2=0)) (
  some ((Xpr.mk 0 ⟨0,0,[]⟩ [] []),(Jt s).2.1,(Jt s).2.2)) (
  (Fz ((Jt s).1,(s.length:Int),false,0)).bind λ(x,x1,x2,x3,x4) =>
  (Jk (x1,x2,x3,x4)).bind λ(x5,_,_,_,x9) =>
   cond (!x5) (
   some ((Xpr.mk 0 ⟨0,0,[]⟩ [] []),x9,11)) (
   cond (!decide ((Axi x)=0)) (
    some ((Xpr.mk 0 ⟨0,0,[]⟩ [] []),0,(Axi x))) (
    some (x,0,0))))
theorem A89:FO 32 [.str] [.sv .expr,.int .i64,.int .i64] (Alc):=fR (px:=Atu _) (n:=0) Tryz.func32 rfl (λcx H=>by have h1:Lv cx (Ajn (HV [.sv .expr,.int .i64,.int .i64])):=lv H (c1 H A3a Af) Ab Aa;have h0:Lv cx (Atu (HV [.sv .expr,.int .i64,.int .i64])):=lv H (l1 H Aiv (l1 H Awf (c1 H Bgt (Au (cR H h1 Tryz.func84 rfl (n:=0) (Ak)) Af)))) Ab Aa;exact⟨h0,Ak⟩) λ_=>by kernel_rfl
def Bma(s:Str):Option (Xpr×Int×Int):=Alc s
def A35:FT [.str] [.sv .expr,.int .i64,.int .i64]:=λx=>Bma x
theorem Bcs:FO 32 [.str] [.sv .expr,.int .i64,.int .i64] A35 :=.fin0 A89 λ_ _ _ hx=>hx
def A90(R:Type):Px R:=pxO [(30,cA Ags),(23,cA Ale)] [] [] []
def Ae8(x:HV [.str]):Option (HV [.str,.int .i64,.int .i64]):=match x with
 |s =>
 (Ml s).bind λ(x,x1,x2) =>
  cond (!decide (x2=0)) (
  some ([],x1,x2)) (
  (Rf x).bind λ(x3,x4) =>some (x3,0,x4))
theorem A1t:FO 34 [.str] [.str,.int .i64,.int .i64] (Ae8):=fR (px:=A90 _) (n:=0) Tryz.func34 rfl (λ_ H=>⟨lv H (c1 H Air (c1 H Ap8 Af)) Ab Aa,Ak⟩) λ_=>by kernel_rfl
def Bgy(s:Str):Option (Str×Int×Int):=Ae8 s
def Ax4:FT [.str] [.str,.int .i64,.int .i64]:=λx=>Bgy x
theorem A9d:FO 34 [.str] [.str,.int .i64,.int .i64] Ax4 :=.fin0 A1t λ_ _ _ hx=>hx
def A2j(R:Type):Px R:=pxO [(34,cA Ax4),(30,cA Ags),(32,cA A35),(14,cA A31)] [] [] []
def Z9(x:HV []):Option (HV [.bool]):=match x with
 |() =>
 (Bgy [83,69,76,69,67,84,32,97,43,98,42,50,32,70,82,79,77,32,116,32,87,72,69,82,69,32,78,79,84,32,97,61,49,32,79,82,32,98,32,73,83,32,78,79,84,32,78,85,76,76]).bind λ(x,x1,x2) =>
  (Ml [83,69,76,69,67,84,32,97,32,70,82,79,77]).bind λ(_,x4,x5) =>
  (Bma [97,45,98,45,49]).bind λ(x6,_,x8) =>
   (Av0 x6).bind λ(x9,_) =>
   let j3:=λ(p:Bool) =>
    let j2:=λ(p1:Bool) =>
    let j1:=λ(p2:Bool) =>
     let j:=λ(p3:Bool) =>
     cond (p3) (
      cond (decide (x8=0)) (
      some (decide (x9=[40,40,97,32,45,32,98,41,32,45,32,49,41]))) (
      some false)) (
      some false)
     cond (p2) (
     j (decide (x5=11))) (
     j false)
    cond (p1) (
     j1 (decide (x4=13))) (
     j1 false)
    cond (p) (
    j2 (decide (x2=0))) (
    j2 false)
   cond (decide (x=[83,69,76,69,67,84,32,40,97,32,43,32,40,98,32,42,32,50,41,41,32,70,82,79,77,32,116,32,87,72,69,82,69,32,40,40,78,79,84,32,40,97,32,61,32,49,41,41,32,79,82,32,40,78,79,84,32,40,98,32,73,83,32,78,85,76,76,41,41,41])) (
    j3 (decide (x1=0))) (
    j3 false)
theorem Awd:FO 29 [] [.bool] (Z9):=fR (px:=A2j _) (n:=0) Tryz.func29 rfl (λ_ H=>⟨lv H (c1 H A9d (c1 H Air (c1 H Bcs (c1 H Bhk Af)))) Ab Aa,Ak⟩) λ()=>by kernel_rfl
def P6:Option Bool:=Z9 ()
def Aod:FT [] [.bool]:=λ_=>P6
theorem Azx:FO 29 [] [.bool] Aod :=.fin0 Awd λ_ _ _ hx=>hx
theorem Bg6(n a:Int):Jk ([],n,false,a)=some (true,[],n,false,a):=rfl
theorem A97(t:Tok)(r:TL)(n a:Int):Jk (t::r,n,false,a)=some (false,t::r,n,true,t.pos):=by have e:decide (0<((t::r).length:Int))=true:=Ze1 (by simp only[Zf1];omega);simp only[Jk,Rj,e,Ae,Vm,Zc1];rfl
theorem Bf3(l:TL)(n a:Int):Jk (l,n,true,a)=some (false,l,n,true,a):=by simp only[Jk,Rj,Zw,Zc1];cases decide (0<(l.length:Int))<;>rfl
def xS(s:Str):Option (Stm×Int×Int):=if(Jt s).2.2=0 then match Kf (Jt s).1 with|.error q=>some (zS,Hd s.length q,11)|.ok x=>(Nn x).bind λe=>if e=0 then some (x,0,0) else some (zS,0,e)
 else some (zS,(Jt s).2.1,(Jt s).2.2)
theorem Axx(s:Str)(hs:(Jt s).1.length<1000000000):Ml s=xS s:=by
 unfold xS Ml;simp only[Yn];by_cases h0:(Jt s).2.2=0
 ·rw[Ze1 h0,if_pos h0];simp only[Zt1,Ah];have ho:=Bba (L:=1000000000) (Zn1 _) hs (s.length:Int) 0;unfold Kf;cases hq:G0 (Jt s).1 with
  |error q =>rw[hq] at ho;obtain⟨⟨x,l',n',b',a'⟩,h1,e1,e2,e3⟩:=ho;simp only at e1 e2 e3;subst e1 e2 e3;simp only[h1,Zc1,Bf3,Zs1,Ae];rfl
  |ok y =>
   obtain⟨x,l'⟩:=y;rw[hq] at ho;have ho:Jl ((Jt s).1,(s.length:Int),false,0)=some (x,Al1 l',(s.length:Int),false,0):=ho;simp only[ho,Zc1];cases hs2:Al1 l' with
   |nil =>
    simp only[Bg6,Zc1,Zt1,Ah];cases Nn x with
    |none=>rfl
    |some e =>
     simp only[Zc1];by_cases he:e=0
     ·rw[Ze1 he,if_pos he];rfl
     ·rw[Zd1 he,if_neg he];rfl
   |cons t r =>simp only[A97,Zc1,Zs1,Ae];rfl
 ·rw[Zd1 h0,if_neg h0];rfl
def Ad5:Sig:=⟨88,[(2,.int .i64),(5,.int .i64)],[(1,.ptr 0 0)],[(0,.one (.sv .val))],1,0,0,[],[]⟩
abbrev Le:=Int×Int×Val
def Ie{R:Type}(rec:Le->Option R)(kx:Ex->Le->Option R)(v:Le):Option R:=match v with
 |(v1,v2,w) =>
 cond (decide (v2<(w.s.length:Int))) (
  cond (decide (w.kind=4)) (
  chk (inb v2 w.s.length) (
   cond (decide ((bat w.s v2)<32)) (
   kx .ret (2,v2,w)) (
   chk (inb v2 w.s.length) (
    cond (decide (127<=(bat w.s v2))) (
    kx .ret (2,v2,w)) (
    rec (v1,(wr .i64 (v2+1)),w)))))) (
  kx (.exit 0) (v1,v2,w))) (
  kx (.exit 0) (v1,v2,w))
def Amy(R:Type)(k:Nat):Px R:=pxO [] [] [(6,Aq k Ad5 (Ie))] []
def Afv(k:Nat)(x:HV [.sv .val]):Option (HV [.int .i64]):=match x with
 |v =>
 let j4:=λ(p4:Bool) =>
  let j3:=λ(p6:Bool) =>
  let j2:=λ(_:Unit) =>
   Al (λrec=>Ie rec (λe vz=>match vz with|(v3,_,_)=>match e with
   |.ret =>some v3
   |.exit 0 =>some 0
   |_=>none)) k (0,0,v)
  let j1:=λ(p7:Bool) =>
   let j:=λ(p9:Bool) =>
   cond (p9) (
    some 2) (
    cond (!p6) (
    cond (!decide (v.s=[])) (
     some 2) (
     cond (decide (1000<(v.s.length:Int))) (
     some 2) (
     j2 ()))) (
    cond (decide (1000<(v.s.length:Int))) (
     some 2) (
     j2 ())))
   cond (p7) (
   j true) (
   cond (!p4) (
    j (!decide (v.n=0))) (
    j false))
  cond (decide (v.kind<1)) (
   j1 true) (
   j1 (decide (5<v.kind)))
  cond (decide (v.kind=4)) (
  j3 true) (
  j3 (decide (v.kind=5)))
 cond (decide (v.kind=2)) (
  cond (decide (v.n=0)) (
  j4 true) (
  cond (decide (v.n=1)) (
   j4 true) (
   j4 (decide (v.kind=3))))) (
  j4 (decide (v.kind=3)))
theorem Ayf(k:Nat):FO 101 [.sv .val] [.int .i64] (Afv k):=fR (px:=Amy _ k) (n:=1) Tryz.func101 rfl (λcx H=>by have h0:Lv cx (Amy (HV [.int .i64]) k):=lv H Af Ab Aa;have hlrcheck_0:=lO H h0 (b:=lp Tryz.f101 0) (k:=k) (n:=0) (s:=Ad5) (step:=Ie) (λ_ _ _ (_,_,_)=>by kernel_rfl) Ak;exact⟨h0,(Bq Ak hlrcheck_0)⟩) λ_=>by kernel_rfl
abbrev A16(v:Val):Int:=Jf v
def Akf:FT [.sv .val] [.int .i64]:=λx=>some (A16 x)
theorem Af3{R:Type}{kx:Ex->Le->Option R}{v:Val}{a b:Option R}(hn:ln v.s.length)(h4:v.kind=4)(h1:∀j,kx .ret (2,j,v)=a)(h2:∀q j,kx (.exit 0) (q,j,v)=b):∀(k i:Nat) q,i<=v.s.length->v.s.length-i<k->Al (λrec=>Ie rec kx) k (q,(i:Int),v)=cond ((v.s.drop i).all vis) b a
 |0,i,q,_,h=>by omega
 |k+1,i,q,hi,h=>by
  rw[A3];by_cases hl:i<v.s.length
  ·have ih:=Af3 hn h4 h1 h2 k (i+1) q (by omega) (by omega);simp only[Ie,A0 hl hn,ih,h1,As hl,Cg hl,A7 hl,Zv1,chk,Ae,Bool.cond_decide];rw[if_pos (by omega),if_pos h4];simp only[vis];split
   ·rw[Zd1 (by omega)];rfl
   ·split
    ·rw[Ze1 (by omega),Zd1 (by omega)];rfl
    ·rw[Ze1 (by omega),Ze1 (by omega)];rfl
  ·simp only[Ie,h2,Bool.cond_decide];rw[if_neg (by omega),Zk1 (by omega)];rfl
theorem Bat{R:Type}{kx:Ex->Le->Option R}{v:Val}{b:Option R}(h4:¬v.kind=4)(h2:kx (.exit 0) (0,0,v)=b)(k:Nat):Al (λrec=>Ie rec kx) (k+1) (0,0,v)=b:=by rw[A3];simp only[Ie,h2,Bool.cond_decide,if_neg h4];split<;>rfl
theorem A81:FO 101 [.sv .val] [.int .i64] Akf :=.fin 0 Ayf λv r hb hx=>⟨v.s.length+1,by
 simp only[Akf,Za1] at hx;subst hx;have e0:((0:Nat):Int)=0:=rfl;have hloop:Al (λrec=>Ie rec (λe v=>match v with|(v2,_,_)=>match e with
   |.ret=>some v2
   |.exit 0=>some 0
   |_=>none)) (v.s.length+1) (0,0,v)=cond (decide (v.kind=4) && !Gt v.s) (some (2:Int)) (some 0):=by
  by_cases h4:v.kind=4
  ·have:=Af3 (a:=some (2:Int)) (b:=some 0) hb.2.2 h4 (kx:=λe v=>match v with|(v2,_,_)=>match e with
    |.ret=>some v2
    |.exit 0=>some 0
    |_=>none) (λ_=>rfl) (λ_ _=>rfl) (v.s.length+1) 0 0 (Nat.zero_le _) (by omega)
   rw[e0] at this;rw[this,Ze1 h4,Zq1,Gt];cases v.s.all vis<;>rfl
  ·rw[Bat (b:=some 0) h4 rfl,Zd1 h4];rfl
 simp only[Afv] at hloop ⊢;rw[hloop];have hlen:v.s=[]->¬(1000<(v.s.length:Int)):=λh=>by rw[h];simp
 have hle:decide ((v.s.length:Int)<=1000) = !decide (1000<(v.s.length:Int)):=by
  by_cases h : 1000<(v.s.length:Int)
  ·rw[Ze1 h,Zd1 (by omega)];rfl
  ·rw[Zd1 h,Ze1 (by omega)];rfl
 have hs:decide (v.s=[])=true->decide (1000<(v.s.length:Int))=false:=λh=>Zd1 (hlen (of_decide_eq_true h));simp only[Jf,B7,hle];generalize decide (1000<(v.s.length:Int))=q at *;generalize decide (v.s=[])=s at *;generalize Gt v.s=w at *;by_cases hk:v.kind=1
 ·simp only[hk];cases decide (v.n=0)<;>cases s<;>simp_all
 by_cases hk2:v.kind=2
 ·simp only[hk2];cases decide (v.n=0)<;>cases decide (v.n=1)<;>cases s<;>simp_all
 by_cases hk3:v.kind=3
 ·simp only[hk3];cases decide (v.n=0)<;>cases decide (v.n=1)<;>cases s<;>simp_all
 by_cases hk4:v.kind=4
 ·simp only[hk4];cases decide (v.n=0)<;>cases w<;>cases q<;>simp_all
 by_cases hk5:v.kind=5
 ·simp only[hk5];cases decide (v.n=0)<;>cases q<;>simp_all
 rw[Zd1 hk,Zd1 hk2,Zd1 hk3,Zd1 hk4,Zd1 hk5];by_cases hl:v.kind<1
 ·rw[Ze1 hl];rfl
 ·rw[Zd1 hl,Ze1 (show 5<v.kind by omega)];rfl⟩
def Aep:Sig:=⟨58,[(0,.int .u8),(2,.int .i64),(3,.str),(4,.int .i64)],[],[],0,0,0,[],[]⟩
abbrev Yj:=Int×Int×Str×Int
def Al0{R:Type}(rec:Yj->Option R)(kx:Ex->Yj->Option R)(v:Yj):Option R:=match v with
 |(v,v1,v2,v3) =>
 cond (decide (v3<(v2.length:Int))) (
  chk (inb v3 v2.length) (
  cond (decide ((bat v2 v3)=v)) (
   kx .ret (v,7,v2,v3)) (
   rec (v,v1,v2,(wr .i64 (v3+1)))))) (
  kx (.exit 1) (v,v1,v2,v3))
def Aqf(R:Type)(k:Nat):Px R:=pxO [] [] [(15,Aq k Aep (Al0))] []
def Afq(k:Nat)(x:HV [.int .u8]):Option (HV [.int .i64]):=match x with
 |c =>
 let j3:Bool->Option (HV [.int .i64]):=λ(p1:Bool) =>
  cond (p1) (
  some 1) (
  let j2:Bool->Option (HV [.int .i64]):=λ(p3:Bool) =>
   cond (p3) (
   some 2) (
   let j1:Bool->Option (HV [.int .i64]):=λ(p5:Bool) =>
    cond (p5) (
    some 3) (
    cond (decide (c=95)) (
     some 4) (
     cond (decide (c=39)) (
     some 5) (
     let j:Bool->Option (HV [.int .i64]):=λ(p6:Bool) =>
      cond (p6) (
      some 6) (
      cond (decide (c=10)) (
       some 6) (
       cond (decide (c=13)) (
       some 6) (
       Al (λrec=>Al0 rec (λe vz=>match vz with|(_,v5,_,_)=>match e with
        |.ret =>
        some v5
        |.exit 1 =>
        some 0
        |_=>none)) k (c,0,[40,41,44,42,61,60,62,43,45,59],0))))
     cond (decide (c=32)) (
      j true) (
      j (decide (c=9))))))
   cond (decide (48<=c)) (
    j1 (decide (c<=57))) (
    j1 false))
  cond (decide (97<=c)) (
   j2 (decide (c<=122))) (
   j2 false))
 cond (decide (65<=c)) (
  j3 (decide (c<=90))) (
  j3 false)
theorem A0v(k:Nat):FO 92 [.int .u8] [.int .i64] (Afq k):=fR (px:=Aqf _ k) (n:=1) Tryz.func92 rfl (λcx H=>by have h0:Lv cx (Aqf (HV [.int .i64]) k):=lv H Af Ab Aa;have hlrclass_0:=lO H h0 (b:=lp Tryz.f92 0) (k:=k) (n:=0) (s:=Aep) (step:=Al0) (λ_ _ _ (_,_,_,_)=>by kernel_rfl) Ak;exact⟨h0,(Bq Ak hlrclass_0)⟩) λ_=>by kernel_rfl
def B3(c:Int):Int:=Lp.clsF c
def Ls:FT [.int .u8] [.int .i64]:=λx=>some (B3 x)
theorem A1n:((List.range 256).all λn=>decide (Afq 11 (n:Int)=some (Lp.clsF (n:Int))))=true:=by kernel_rfl
theorem N6:FO 92 [.int .u8] [.int .i64] Ls :=.fin 0 A0v λ(c:Int) r hb hx=>⟨11,by
 simp only[Ls,Za1] at hx;have h : 0<=c/\c<=255:=by have h0:inK .u8 c:=hb;simp only[inK,IntKind.min,IntKind.max] at h0;exact⟨h0.1,h0.2⟩
 obtain⟨n,rfl⟩:∃n:Nat,c=(n:Int):=⟨c.toNat,by omega⟩;have h2:=Zg2.1 A1n n (List.mem_range.2 (by omega));exact(of_decide_eq_true h2).trans (congrArg some hx)⟩
def Ai3:Sig:=⟨37,[(0,.str),(2,.bool),(3,.int .i64)],[],[],0,0,0,[],[]⟩
abbrev Vp:=Str×Bool×Int
def U6{R:Type}(rec:Vp->Option R)(kx:Ex->Vp->Option R)(v:Vp):Option R:=match v with
 |(v,v1,v2) =>
 cond (decide (v2<(v.length:Int))) (
  chk (inb v2 v.length) (
  cond (!decide ((B3 (bat v v2))=2)) (
   cond (decide (v2=0)) (
   kx .ret (v,false,v2)) (
   cond (!decide ((B3 (bat v v2))=3)) (
    cond (!decide ((B3 (bat v v2))=4)) (
    kx .ret (v,false,v2)) (
    rec (v,v1,(wr .i64 (v2+1))))) (
    rec (v,v1,(wr .i64 (v2+1)))))) (
   rec (v,v1,(wr .i64 (v2+1)))))) (
  kx (.exit 0) (v,v1,v2))
def Awx(R:Type)(k:Nat):Px R:=pxO [(92,cA Ls)] [] [(2,Aq k Ai3 (U6))] []
def Ai0(k:Nat)(x:HV [.str]):Option (HV [.bool]):=match x with
 |s =>
 Al (λrec=>U6 rec (λe vz=>match vz with|(v3,v4,_)=>match e with
  |.ret =>
  some v4
  |.exit 0 =>
  cond (decide (1<=(v3.length:Int))) (
   some (decide ((v3.length:Int)<=30))) (
   some false)
  |_=>none)) k (s,false,0)
theorem A82(k:Nat):FO 72 [.str] [.bool] (Ai0 k):=fR (px:=Awx _ k) (n:=1) Tryz.func72 rfl (λcx H=>by have h0:Lv cx (Awx (HV [.bool]) k):=lv H (c1 H N6 Af) Ab Aa;have hlrname_0:=lO H h0 (b:=lp Tryz.f72 0) (k:=k) (n:=0) (s:=Ai3) (step:=U6) (λ_ _ _ (_,_,_)=>by kernel_rfl) Ak;exact⟨h0,(Bq Ak hlrname_0)⟩) λ_=>by kernel_rfl
def A43(s:Str):Bool:=Lp.rnameF s
def Ar1:FT [.str] [.bool]:=λx=>some (A43 x)
theorem Ajt{R:Type}{kx:Ex->Vp->Option R}{s:Str}{c:Bool->Option R}(hn:ln s.length)(h1:∀j,kx .ret (s,false,j)=c false)(h2:∀q j,kx (.exit 0) (s,q,j)=c true):∀(k i:Nat) q,i<=s.length->s.length-i<k->Al (λrec=>U6 rec kx) k (s,q,(i:Int))=c (Lp.okGo (s.drop i) i)
 |0,i,q,_,h=>absurd h (Zm1 _)
 |k+1,i,q,hi,h=>by
  rw[A3];by_cases hl:i<s.length
  ·have ih:=Ajt hn h1 h2 k (i+1) q (by omega) (by omega);have en:((i+1:Nat):Int)=(i:Int)+1:=by omega
   simp only[U6,A0 hl hn,ih,h1,As hl,Cg hl,A7 hl,chk,Ae,B3,Lp.okGo,Lp.nmOk];rw[Ze1 (show(i:Int)<(s.length:Int) by omega),en];cases decide (Lp.clsF (s[i].toNat:Int)=2)<;>cases decide ((i:Int)=0)<;>cases decide (Lp.clsF (s[i].toNat:Int)=3)<;>cases decide (Lp.clsF (s[i].toNat:Int)=4)<;>rfl
  ·simp only[U6,h2];rw[Zd1 (by omega),Zk1 (by omega)];rfl
theorem Bd6:FO 72 [.str] [.bool] Ar1 :=.fin 0 A82 λs r hb hx=>⟨s.length+1,by simp only[Ar1,Za1] at hx;subst hx;simp only[Ai0];refine(Ajt (s:=s) (c:=λb=>cond b (cond (decide (1<=(s.length:Int))) (some (decide ((s.length:Int)<=30))) (some false)) (some false)) hb (λ_=>rfl) (λ_ _=>rfl) (s.length+1) 0 false (Nat.zero_le _) (by omega)).trans ?_;rw[Zq1,A43,Lp.rnameF];show cond (Lp.okGo s 0) _ _=_;cases Lp.okGo s 0<;>cases decide (1<=(s.length:Int))<;>rfl⟩
theorem Bb1(s:Str):Zh s=decide (s∈wordsL):=by have e:Zh s=wordsL.contains s:=Aj5 s;rw[e,Bool.eq_iff_iff];simp
def A7w(R:Type):Px R:=pxO [] [] [] []
def Sk(x:HV []):Option (HV [.sl .str true]):=match x with
 |() =>
 some [[65,68,68],[65,78,68],[65,83,67],[66,79,79,76],[66,89],[66,89,84,69,83],[67,72,69,67,75],[67,82,69,65,84,69],[68,69,76,69,84,69],[68,69,83,67],[68,82,79,80],[70,65,76,83,69],[70,82,79,77],[73,78,68,69,88],[73,78,83,69,82,84],[73,78,84],[73,78,84,79],[73,83],[75,69,89],[76,73,77,73,84],[78,79,84],[78,85,76,76],[79,78],[79,82],[79,82,68,69,82],[80,82,73,77,65,82,89],[82,69,70,69,82,69,78,67,69,83],[83,69,76,69,67,84],[83,69,84],[84,65,66,76,69],[84,69,88,84],[84,82,85,69],[85,78,73,81,85,69],[85,80,68,65,84,69],[86,65,76,85,69,83],[87,72,69,82,69]]
theorem Azv:FO 168 [] [.sl .str true] (Sk):=fR (px:=A7w _) (n:=0) Tryz.func168 rfl (λ_ H=>⟨lv H Af Ab Aa,Ak⟩) λ()=>by kernel_rfl
def Al2:List Str :=[[65,68,68],[65,78,68],[65,83,67],[66,79,79,76],[66,89],[66,89,84,69,83],[67,72,69,67,75],[67,82,69,65,84,69],[68,69,76,69,84,69],[68,69,83,67],[68,82,79,80],[70,65,76,83,69],[70,82,79,77],[73,78,68,69,88],[73,78,83,69,82,84],[73,78,84],[73,78,84,79],[73,83],[75,69,89],[76,73,77,73,84],[78,79,84],[78,85,76,76],[79,78],[79,82],[79,82,68,69,82],[80,82,73,77,65,82,89],[82,69,70,69,82,69,78,67,69,83],[83,69,76,69,67,84],[83,69,84],[84,65,66,76,69],[84,69,88,84],[84,82,85,69],[85,78,73,81,85,69],[85,80,68,65,84,69],[86,65,76,85,69,83],[87,72,69,82,69]]
theorem A0z(x:HV []):Sk x=some (Al2):=by
 first
  |exact rfl
  |simp only[Sk,Al2,Bm]
def Avp:FT [] [.sl .str true]:=λ_=>some (Al2)
theorem A99:FO 168 [] [.sl .str true] Avp :=.fin0 Azv λx _ _ hx=>(A0z x).trans hx
theorem A7e:Al2=wordsL:=rfl
def Ai9:Sig:=⟨18,[(0,.str),(2,.bool),(3,.sl .str true),(4,.int .i64)],[],[],0,0,0,[],[]⟩
abbrev Wn:=Str×Bool×List Str×Int
def V0{R:Type}(rec:Wn->Option R)(kx:Ex->Wn->Option R)(v:Wn):Option R:=match v with
 |(v,v1,v2,v3) =>
 cond (decide (v3<(v2.length:Int))) (
  chk (inb v3 v2.length) (
  cond (decide ((at' .str v2 v3)=v)) (
   kx .ret (v,true,v2,v3)) (
   rec (v,v1,v2,(wr .i64 (v3+1)))))) (
  kx (.exit 0) (v,v1,v2,v3))
def Awb(R:Type)(k:Nat):Px R:=pxO [(168,cA Avp)] [] [(3,Aq k Ai9 (V0))] []
def Ais(k:Nat)(x:HV [.str]):Option (HV [.bool]):=match x with
 |s =>
 Al (λrec=>V0 rec (λe vz=>match vz with|(_,v5,_,_)=>match e with
  |.ret =>
  some v5
  |.exit 0 =>
  some false
  |_=>none)) k (s,false,Al2,0)
theorem A7s(k:Nat):FO 144 [.str] [.bool] (Ais k):=fR (px:=Awb _ k) (n:=1) Tryz.func144 rfl (λcx H=>by have h0:Lv cx (Awb (HV [.bool]) k):=lv H (c1 H A99 Af) Ab Aa;have hlrword_0:=lO H h0 (b:=lp Tryz.f144 0) (k:=k) (n:=0) (s:=Ai9) (step:=V0) (λ_ _ _ (_,_,_,_)=>by kernel_rfl) Ak;exact⟨h0,(Bq Ak hlrword_0)⟩) λ_=>by kernel_rfl
abbrev A3q(s:Str):Bool:=Zh s
def As5:FT [.str] [.bool]:=λx=>some (A3q x)
theorem Ai1{R:Type}{kx:Ex->Wn->Option R}{l:List Str}{s:Str}{c:Bool->Option R}(hl:ln l.length)(h1:∀i,kx .ret (s,true,l,i)=c true)(h2:∀q i,kx (.exit 0) (s,q,l,i)=c false) :
  ∀(k i:Nat) (q:Bool),i<=l.length->l.length-i<k->Al (λrec=>V0 rec kx) k (s,q,l,(i:Int))=c (decide (s∈l.drop i))
 |0,i,_,_,h=>by omega
 |k+1,i,q,hi,h=>by
  rw[A3];by_cases hlt:i<l.length
  ·have ih:=Ai1 hl h1 h2 k (i+1) q (by omega) (by omega);have e1:decide ((i:Int)<(l.length:Int))=true:=Ze1 (by omega);simp only[V0,e1,Ae,A7 hlt,chk,Bb (c :=.str) hlt,A0 hlt hl,ih,h1];rw[As hlt];by_cases hx:l[i]=s
   ·rw[Ze1 hx];simp[hx]
   ·have hx2:¬s=l[i]:=λe=>hx e.symm;have hm:(s∈l[i]::l.drop (i+1))↔s∈l.drop (i+1):=⟨λq=>(List.mem_cons.1 q).resolve_left hx2,λq=>Zu1 _ q⟩;rw[Zd1 hx,Ah,Zy1.2 hm]
  ·simp only[V0,Zd1 (show ¬(i:Int)<(l.length:Int) by omega),Ah,h2];rw[Zk1 (by omega)];simp
theorem Bd2:FO 144 [.str] [.bool] As5 :=.fin 0 A7s λs r hb hx=>⟨37,by simp only[As5,Za1] at hx;rw[<-hx];simp only[Ais,A7e];refine(Ai1 (c:=λq=>some q) (by simp[ln,wordsL]) (λ_=>rfl) (λ_ _=>rfl) 37 0 false (Nat.zero_le _) (by simp[wordsL])).trans ?_;rw[Zq1,A3q,Bb1]⟩
def sm1(s:Str)(i:Int):Prop:=0<=i/\i<=(s.length:Int)/\s.length<=1000000
instance (s:Str) (i:Int):Decidable (sm1 s i):=by unfold sm1;infer_instance
def Ao0:Sig:=⟨26,[(0,.str),(1,.int .i64)],[],[],0,0,0,[],[]⟩
abbrev Z4:=Str×Int
def Acj{R:Type}(rec:Z4->Option R)(kx:Ex->Z4->Option R)(v:Z4):Option R:=match v with
 |(v,v1) =>
 let j:=λ(p:Bool) =>
  cond (p) (
  chk (inb v1 v.length) (
   cond (decide ((B3 (bat v v1))<=4)) (
   rec (v,(wr .i64 (v1+1)))) (
   kx (.exit 0) (v,v1)))) (
  kx (.exit 0) (v,v1))
 cond (decide (v1<(v.length:Int))) (
  chk (inb v1 v.length) (
  j (decide (1<=(B3 (bat v v1)))))) (
  j false)
def A2x(R:Type)(k:Nat):Px R:=pxO [(92,cA Ls)] [] [(1,Aq k Ao0 (Acj))] []
def A6p(k:Nat)(x:HV [.str,.int .i64]):Option (HV [.int .i64]):=match x with
 |(s,i) =>
 Al (λrec=>Acj rec (λe vz=>match vz with|(_,v3)=>match e with
  |.exit 0 =>
  some v3
  |_=>none)) k (s,i)
theorem Be7(k:Nat):FO 142 [.str,.int .i64] [.int .i64] (A6p k):=fR (px:=A2x _ k) (n:=1) Tryz.func142 rfl (λcx H=>by have h0:Lv cx (A2x (HV [.int .i64]) k):=lv H (c1 H N6 Af) Ab Aa;have hlrend_0:=lO H h0 (b:=lp Tryz.f142 0) (k:=k) (n:=0) (s:=Ao0) (step:=Acj) (λ_ _ _ (_,_)=>by kernel_rfl) Ak;exact⟨h0,(Bq Ak hlrend_0)⟩) λ(_,_)=>by kernel_rfl
def Bjo(s:Str)(i:Int):Option Int:=if sm1 s i then some (Lp.runTo Lp.isWd s i) else none
def A0l:FT [.str,.int .i64] [.int .i64]:=λx=>Bjo x.1 x.2
theorem Anm{R:Type}{kx:Ex->Z4->Option R}{s:Str}{c:Int->Option R}(hs:s.length<=1000000)(h2:∀i,kx (.exit 0) (s,i)=c i):∀(k i:Nat),i<=s.length->s.length-i<k->Al (λrec=>Acj rec kx) k (s,(i:Int))=c (Lp.runTo Lp.isWd s i)
 |0,i,_,h=>absurd h (Zm1 _)
 |k+1,i,hi,h=>by
  rw[A3];by_cases hl:i<s.length
  ·have ih:=Anm hs h2 k (i+1) (by omega) (by omega);have ew:wr .i64 ((i:Int)+1)=((i+1:Nat):Int):=by rw[Bi (by simp only[inI];omega)];omega
   have e1:decide ((i:Int)<(s.length:Int))=true:=Ze1 (by omega);simp only[Acj,e1,Ae,A7 hl,chk,ew,ih,h2];have hy:Lp.isWd (Sx.byt s i)=(decide (1<=B3 (bat s i))&&decide (B3 (bat s i)<=4)):=rfl;have e2:((i+1:Nat):Int)=(i:Int)+1:=by omega
   cases h1:decide (1<=B3 (bat s i)) with
   |false =>rw[h1,Bool.false_and] at hy;rw[Lp.runTo_no ⟨by omega,by omega⟩ hy];rfl
   |true =>rw[h1,Bool.true_and] at hy;cases h4:decide (B3 (bat s i)<=4) with|false =>rw[h4] at hy;rw[Lp.runTo_no ⟨by omega,by omega⟩ hy];rfl|true =>rw[h4] at hy;rw[e2,Lp.runTo_yes ⟨by omega,by omega⟩ hy];rfl
  ·simp only[Acj,h2];rw[Zd1 (by omega),Lp.runTo_end (by omega)];rfl
theorem Bkg:FO 142 [.str,.int .i64] [.int .i64] A0l :=.fin 0 Be7 λ(s,i) r hb hx=>⟨s.length+1,by
 simp only[A0l,Bjo] at hx;split at hx
 ·rename_i h;obtain⟨h1,h2,h3⟩:=h;rw[<-hx];obtain⟨n,rfl⟩:=Int.eq_ofNat_of_zero_le h1;exact Anm (c:=some) h3 (λ_=>rfl) (s.length+1) n (by omega) (by omega)
 ·cases hx⟩
def Alx:Sig:=⟨47,[(0,.str),(2,.int .i64),(3,.int .i64),(4,.int .i64)],[],[],0,0,0,[],[]⟩
abbrev V3:=Str×Int×Int×Int
def Vw{R:Type}(rec:V3->Option R)(kx:Ex->V3->Option R)(v:V3):Option R:=match v with
 |(v,v1,v2,v3) =>
 cond (decide (v3<(v.length:Int))) (
  chk (inb v3 v.length) (
  chk (inb v3 v.length) (
   let j:=λ(p:Bool) =>
   cond (p) (
    kx .ret (v,(-1),v2,v3)) (
    cond (decide (v2=922337203685477580)) (
    cond (decide (7<(wr .i64 ((wr .i64 (bat v v3))-48)))) (
     kx .ret (v,(-1),v2,v3)) (
     rec (v,v1,(wr .i64 ((wr .i64 (10*v2))+(wr .i64 ((wr .i64 (bat v v3))-48)))),(wr .i64 (v3+1))))) (
    rec (v,v1,(wr .i64 ((wr .i64 (10*v2))+(wr .i64 ((wr .i64 (bat v v3))-48)))),(wr .i64 (v3+1)))))
   cond (!decide ((B3 (bat v v3))=3)) (
   j true) (
   j (decide (922337203685477580<v2)))))) (
  kx (.exit 0) (v,v1,v2,v3))
def Auu(R:Type)(k:Nat):Px R:=pxO [(92,cA Ls)] [] [(3,Aq k Alx (Vw))] []
def Ajs(k:Nat)(x:HV [.str]):Option (HV [.int .i64]):=match x with
 |s =>
 Al (λrec=>Vw rec (λe vz=>match vz with|(v4,v5,v6,_)=>match e with
  |.ret =>
  some v5
  |.exit 0 =>
  cond (decide (1<(v4.length:Int))) (
   chk (inb 0 v4.length) (
   cond (decide ((bat v4 0)=48)) (
    some (-1)) (
    some v6))) (
   some v6)
  |_=>none)) k (s,0,0,0)
theorem A7j(k:Nat):FO 145 [.str] [.int .i64] (Ajs k):=fR (px:=Auu _ k) (n:=1) Tryz.func145 rfl (λcx H=>by have h0:Lv cx (Auu (HV [.int .i64]) k):=lv H (c1 H N6 Af) Ab Aa;have hlrnumb_0:=lO H h0 (b:=lp Tryz.f145 0) (k:=k) (n:=0) (s:=Alx) (step:=Vw) (λ_ _ _ (_,_,_,_)=>by kernel_rfl) Ak;exact⟨h0,(Bq Ak hlrnumb_0)⟩) λ_=>by kernel_rfl
def A4s(s:Str):Option Int:=if s.length<=1000000 then some (Lp.rnumF s) else none
def Aq4:FT [.str] [.int .i64]:=λx=>A4s x
theorem Xs{R:Type}{kx:Ex->V3->Option R}{s:Str}{c:Option Int->Option R}(hs:s.length<=1000000)(h1:∀n j,kx .ret (s, -1,n,j)=c none)(h2:∀q n j,kx (.exit 0) (s,q,n,j)=c (some n)):∀(k i:Nat) (q n:Int),0<=n/\n<=9223372036854775807->i<=s.length->s.length-i<k->Al (λrec=>Vw rec kx) k (s,q,n,(i:Int))=c (Lp.rnumGo (s.drop i) n)
 |0,i,_,_,_,_,h=>absurd h (Zm1 _)
 |k+1,i,q,n,hn,hi,h=>by
  rw[A3];by_cases hl:i<s.length
  ·have ew:wr .i64 ((i:Int)+1)=((i+1:Nat):Int):=by rw[Bi (by simp only[inI];omega)];omega
   have e1:decide ((i:Int)<(s.length:Int))=true:=Ze1 (by omega);have hu:=Lp.u8_range s[i];have eb:wr .i64 (s[i].toNat:Int)=(s[i].toNat:Int):=Bi (by simp only[inI];omega);have ed:wr .i64 ((s[i].toNat:Int)-48)=(s[i].toNat:Int)-48:=Bi (by simp only[inI];omega);rw[As hl];simp only[Vw,e1,Ae,A7 hl,chk,ew,Cg hl,eb,ed,B3,Lp.rnumGo,h1];by_cases c3:Lp.clsF (s[i].toNat:Int)=3
   ·have hd:=Lp.cls3 c3;rw[Ze1 c3,Zt1,Ah];by_cases c4 : 922337203685477580<n
    ·rw[Ze1 c4,if_pos (.inr (.inl c4))];rfl
    ·rw[Zd1 c4,Ah];have em:wr .i64 (10*n)=10*n:=Bi (by simp only[inI];omega);by_cases c5:n=922337203685477580
     ·rw[Ze1 c5,Ae];by_cases c6 : 7<(s[i].toNat:Int)-48
      ·rw[Ze1 c6,if_pos (.inr (.inr ⟨c5,c6⟩))];rfl
      ·have ea:wr .i64 (10*n+((s[i].toNat:Int)-48))=10*n+((s[i].toNat:Int)-48):=Bi (by simp only[inI];omega);rw[Zd1 c6,Ah,if_neg (by omega),em,ea];exact Xs hs h1 h2 k (i+1) q _ (by omega) (by omega) (by omega)
     ·have ea:wr .i64 (10*n+((s[i].toNat:Int)-48))=10*n+((s[i].toNat:Int)-48):=Bi (by simp only[inI];omega);rw[Zd1 c5,Ah,if_neg (by omega),em,ea];exact Xs hs h1 h2 k (i+1) q _ (by omega) (by omega) (by omega)
   ·rw[Zd1 c3,Zs1,Ae,if_pos (.inl c3)]
  ·simp only[Vw,h2];rw[Zd1 (by omega),Zk1 (by omega)];rfl
theorem Bfx:FO 145 [.str] [.int .i64] Aq4 :=.fin 0 A7j λs r hb hx=>⟨s.length+1,by
 simp only[Aq4,A4s] at hx;split at hx
 ·rename_i h;rw[<-hx];simp only[Ajs];refine(Xs (s:=s) (c:=λo=>match o with|none=>some (-1)|some n=>some (if 1<(s.length:Int)/\Sx.byt s 0=48 then -1 else n)) h (λ_ _=>rfl) (λ_ n _ =>?_) (s.length+1) 0 0 0 (by omega) (Nat.zero_le _) (by omega)).trans ?_
  ·show cond (decide (1<(s.length:Int))) (chk (inb 0 s.length) (cond (decide (bat s 0=48)) (some (-1)) (some n))) (some n)=_;by_cases h1 : 1<(s.length:Int)
   ·rw[Ze1 h1,Ae,Tr (by omega)];show cond (decide (bat s 0=48)) (some (-1)) (some n)=some (if 1<(s.length:Int)/\Sx.byt s 0=48 then -1 else n);by_cases h2:bat s 0=48
    ·rw[Ze1 h2,if_pos ⟨h1,h2⟩];rfl
    ·rw[Zd1 h2,if_neg (λq=>h2 q.2)];rfl
   ·rw[Zd1 h1];show some n=some (if 1<(s.length:Int)/\Sx.byt s 0=48 then -1 else n);rw[if_neg (λq=>h1 q.1)]
  ·simp only[Zq1,Lp.rnumF];cases Lp.rnumGo s 0<;>rfl
 ·cases hx⟩
def Af8:Sig:=⟨46,[(0,.str),(1,.int .i64),(4,.str),(5,.int .i64),(6,.str)],[],[],0,0,0,[],[]⟩
abbrev P7:=Str×Int×Str×Int×Str
def Pn{R:Type}(rec:P7->Option R)(kx:Ex->P7->Option R)(v:P7):Option R:=match v with
 |(v,v1,v2,v3,v4) =>
 cond (decide (v1<(v.length:Int))) (
  let j:=λ(_:Unit) =>
  chk (inb v1 v.length) (
   cond (decide ((bat v v1)=39)) (
   chk (Di (wr .i64 (v1+1)) (wr .i64 ((wr .i64 (v1+1))+1)) v.length) (
    chk (decide (v4.length+(cut v (wr .i64 (v1+1)) (wr .i64 ((wr .i64 (v1+1))+1))).length<=C0)) (
    rec (v,(wr .i64 ((wr .i64 (v1+1))+1)),v2,v3,(v4++(cut v (wr .i64 (v1+1)) (wr .i64 ((wr .i64 (v1+1))+1)))))))) (
   chk (Di v1 (wr .i64 (v1+1)) v.length) (
    chk (decide (v4.length+(cut v v1 (wr .i64 (v1+1))).length<=C0)) (
    rec (v,(wr .i64 (v1+1)),v2,v3,(v4++(cut v v1 (wr .i64 (v1+1)))))))))
  chk (inb v1 v.length) (
  cond (decide ((bat v v1)=39)) (
   cond (decide ((wr .i64 (v1+1))=(v.length:Int))) (
   kx .ret (v,v1,v4,v1,v4)) (
   chk (inb (wr .i64 (v1+1)) v.length) (
    cond (!decide ((bat v (wr .i64 (v1+1)))=39)) (
    kx .ret (v,v1,v4,v1,v4)) (
    j ())))) (
   j ()))) (
  kx (.exit 0) (v,v1,v2,v3,v4))
def An0(R:Type)(k:Nat):Px R:=pxO [] [] [(2,Aq k Af8 (Pn))] []
def Aet(k:Nat)(x:HV [.str,.int .i64]):Option (HV [.str,.int .i64]):=match x with
 |(s,i) =>
 Al (λrec=>Pn rec (λe vz=>match vz with|(_,_,v7,v8,_)=>match e with
  |.ret =>
  some (v7,v8)
  |.exit 0 =>
  some ([],(-1))
  |_=>none)) k (s,i,[],0,[])
theorem Ayq(k:Nat):FO 146 [.str,.int .i64] [.str,.int .i64] (Aet k):=fR (px:=An0 _ k) (n:=1) Tryz.func146 rfl (λcx H=>by have h0:Lv cx (An0 (HV [.str,.int .i64]) k):=lv H Af Ab Aa;have hlrclose_0:=lO H h0 (b:=lp Tryz.f146 0) (k:=k) (n:=0) (s:=Af8) (step:=Pn) (λ_ _ _ (_,_,_,_,_)=>by kernel_rfl) Ak;exact⟨h0,(Bq Ak hlrclose_0)⟩) λ(_,_)=>by kernel_rfl
def A2h(q:Str×Int):Str×Int:=if q.2 = -1 then([], -1) else(q.1,q.2-1)
def Adb(s:Str)(i:Int):Option (Str×Int):=if sm1 s i then some (A2h (Lp.qGo (s.drop i.toNat) [] i)) else none
def Ahz:FT [.str,.int .i64] [.str,.int .i64]:=λx=>Adb x.1 x.2
theorem Tj{R:Type}{kx:Ex->P7->Option R}{s:Str}{c:Str×Int->Option R}(hs:s.length<=1000000)(h1:∀(a:Str) (j:Int),0<=j->kx .ret (s,j,a,j,a)=c (a,j+1))(h2:∀q r a j,kx (.exit 0) (s,j,q,r,a)=c ([], -1)):∀(k i:Nat) (q:Str) (r:Int) (a:Str),a.length<=i->i<=s.length->s.length-i<k->Al (λrec=>Pn rec kx) k (s,(i:Int),q,r,a)=c (Lp.qGo (s.drop (i:Int).toNat) a i)
 |0,i,_,_,_,_,_,h=>absurd h (Zm1 _)
 |k+1,i,q,r,a,ha,hi,h=>by
  rw[A3];by_cases hl:i<s.length
  ·have ew:wr .i64 ((i:Int)+1)=((i+1:Nat):Int):=by rw[Bi (by simp only[inI];omega)];omega
   have ew2:wr .i64 (((i+1:Nat):Int)+1)=((i+2:Nat):Int):=by rw[Bi (by simp only[inI];omega)];omega
   have e1:decide ((i:Int)<(s.length:Int))=true:=Ze1 (by omega);have c1:cut s (i:Int) ((i+1:Nat):Int)=[s.getD (i:Int).toNat 0]:=by have:=Lp.cut_one s (i:Int) ⟨by omega,by omega⟩;rw[show((i+1:Nat):Int)=(i:Int)+1 by omega];exact this
   have u1:Di (i:Int) ((i+1:Nat):Int) s.length=true:=Ge (by omega);have m1:decide (a.length+[s.getD (i:Int).toNat 0].length<=C0)=true:=Ze1 (by simp only[C0,Zf1,Zi1];omega);have e2:((i+1:Nat):Int)=(i:Int)+1:=by omega
   have e3:((i+2:Nat):Int)=(i:Int)+1+1:=by omega
   simp only[Pn,e1,Ae,A7 hl,chk,ew,ew2,c1,u1,m1,h1 _ _ (show(0:Int)<=(i:Int) by omega)];by_cases hq:bat s i=39
   ·rw[Ze1 hq,Ae,Ae];by_cases he:((i+1:Nat):Int)=(s.length:Int)
    ·rw[Ze1 he,Ae,Lp.q_last (by omega) (by omega) hq]
    ·have hl2:i+1<s.length:=by omega
     have c2:cut s ((i+1:Nat):Int) ((i+2:Nat):Int)=[s.getD ((i+1:Nat):Int).toNat 0]:=by have:=Lp.cut_one s ((i+1:Nat):Int) ⟨by omega,by omega⟩;rw[show((i+2:Nat):Int)=((i+1:Nat):Int)+1 by omega];exact this
     have u2:Di ((i+1:Nat):Int) ((i+2:Nat):Int) s.length=true:=Ge (by omega);have m2:decide (a.length+[s.getD ((i+1:Nat):Int).toNat 0].length<=C0)=true:=Ze1 (by simp only[C0,Zf1,Zi1];omega);rw[Zd1 he,Ah,A7 hl2,Ae,c2,u2,m2];by_cases hq2:bat s ((i+1:Nat):Int)=39
     ·rw[Ze1 hq2,Zt1,Ah,Ae,Ae];have hx:s.getD ((i+1:Nat):Int).toNat 0=39:=(Lp.byt_lit (c:=39)).1 hq2;rw[hx,Lp.q_two (by omega) (by omega) hq (by rw[<-e2];exact hq2),<-e3];exact Tj hs h1 h2 k (i+2) q r (a++[39]) (by simp only[Zh1,Zf1,Zi1];omega) (by omega) (by omega)
     ·rw[Zd1 hq2,Zs1,Ae,Lp.q_close (by omega) (by omega) hq (by rw[<-e2];exact hq2)]
   ·rw[Zd1 hq,Ah,Ah,Lp.q_other (by omega) (by omega) hq,<-e2];exact Tj hs h1 h2 k (i+1) q r (a++[s.getD (i:Int).toNat 0]) (by simp only[Zh1,Zf1,Zi1];omega) (by omega) (by omega)
  ·simp only[Pn,h2];rw[Zd1 (by omega),Lp.q_end (by omega)];rfl
theorem A87:FO 146 [.str,.int .i64] [.str,.int .i64] Ahz :=.fin 0 Ayq λ(s,i) r hb hx=>⟨s.length+1,by
 simp only[Ahz,Adb] at hx;split at hx
 ·rename_i h;obtain⟨h1,h2,h3⟩:=h;rw[<-hx];obtain⟨n,rfl⟩:=Int.eq_ofNat_of_zero_le h1;simp only[Aet];refine(Tj (c:=λq=>some (A2h q)) h3 (λa j hj =>?_) (λ_ _ _ _=>rfl) (s.length+1) n [] 0 [] (by simp) (by omega) (by omega));show some (a,j)=some (A2h (a,j+1));simp only[A2h];rw[if_neg (by omega),show j+1-1=j by omega]
 ·cases hx⟩
def Aeg:Sig:=⟨69,[(0,.str),(2,.sl .byte true),(3,.int .i64),(4,.sl .byte true),(5,.int .i64),(6,.int .i64),(7,.int .i64)],[],[],0,0,0,[],[]⟩
abbrev Ld:=Str×List UInt8×Int×List UInt8×Int×Int×Int
def Nv{R:Type}(rec:Ld->Option R)(kx:Ex->Ld->Option R)(v:Ld):Option R:=match v with
 |(v5,v6,v7,v8,v9,b,a) =>
 cond (decide (a<(wr .i64 (v9+2)))) (
  let j2:=λ(p2:Int) =>
  let j1:=λ(p4:Bool) =>
   cond (p4) (
   chk (inb a v5.length) (
    cond (decide ((wr .i64 ((wr .i64 (bat v5 a))-87))<0)) (
    kx .ret (v5,[],11,v8,v9,b,a)) (
    rec (v5,v6,v7,v8,v9,(wr .i64 ((wr .i64 (16*b))+(wr .i64 ((wr .i64 (bat v5 a))-87)))),(wr .i64 (a+1)))))) (
   cond (decide (p2<0)) (
    kx .ret (v5,[],11,v8,v9,b,a)) (
    rec (v5,v6,v7,v8,v9,(wr .i64 ((wr .i64 (16*b))+p2)),(wr .i64 (a+1)))))
  chk (inb a v5.length) (
   cond (decide (97<=(bat v5 a))) (
   chk (inb a v5.length) (
    j1 (decide ((bat v5 a)<=102)))) (
   j1 false))
  let j:=λ(p1:Bool) =>
  cond (p1) (
   chk (inb a v5.length) (
   j2 (wr .i64 ((wr .i64 (bat v5 a))-48)))) (
   j2 (-1))
  chk (inb a v5.length) (
  cond (decide (48<=(bat v5 a))) (
   chk (inb a v5.length) (
   j (decide ((bat v5 a)<=57)))) (
   j false))) (
  kx (.exit 2) (v5,v6,v7,v8,v9,b,a))
def Afe:Sig:=⟨69,[(0,.str),(2,.sl .byte true),(3,.int .i64),(4,.sl .byte true),(5,.int .i64)],[],[],0,0,0,[],[]⟩
abbrev Q9:=Str×List UInt8×Int×List UInt8×Int
def O4{R:Type}(k:Nat)(rec:Q9->Option R)(kx:Ex->Q9->Option R)(v:Q9):Option R:=match v with
 |(v,v1,v2,v3,v4) =>
 cond (decide ((wr .i64 (v4+1))<(v.length:Int))) (
  Al (λrc=>Nv rc (λe vz=>match vz with|(b,c,d,a,f,g,_)=>match e with
  |.ret =>kx .ret (b,c,d,a,f)
  |.exit 2 =>
   chk (decide (a.length+1<=Am)) (
   rec (b,c,d,(a++[(UInt8.ofNat ((wr .u8 g):Int).toNat)]),(wr .i64 (f+2))))
  |_=>none)) k (v,v1,v2,v3,v4,0,v4)) (
  kx (.exit 0) (v,v1,v2,v3,v4))
def Ao4(R:Type)(k:Nat):Px R:=pxO [] [] [(7,Aq k Aeg (Nv)),(3,Aq k Afe (O4 k))] []
def Agc(k:Nat)(x:HV [.str]):Option (HV [.sl .byte true,.int .i64]):=match x with
 |s =>
 Al (λrec=>O4 k rec (λe vz=>match vz with|(a,b,c,d,_)=>match e with
  |.ret =>
  some (b,c)
  |.exit 0 =>
  cond (decide ((Int.tmod (a.length:Int) 2)=1)) (
   some ([],11)) (
   some (d,0))
  |_=>none)) k (s,[],0,[],0)
theorem A2s(k:Nat):FO 143 [.str] [.sl .byte true,.int .i64] (Agc k):=fR (px:=Ao4 _ k) (n:=2) Tryz.func143 rfl (λcx H=>by have h0:Lv cx (Ao4 (HV [.sl .byte true,.int .i64]) k):=lv H Af Ab Aa;have hlrunhex_1:=lO H h0 (b:=lpC (lp Tryz.f143 0) 0) (k:=k) (n:=0) (s:=Aeg) (step:=Nv) (λ_ _ _ (_,_,_,_,_,_,_)=>by kernel_rfl) Ak;have hlrunhex_0:=lO H h0 (b:=lp Tryz.f143 0) (k:=k) (n:=1) (s:=Afe) (step:=O4 k) (λ_ _ _ (_,_,_,_,_)=>by kernel_rfl) (Bq Ak hlrunhex_1);exact⟨h0,(Bq (Bq Ak hlrunhex_0) hlrunhex_1)⟩) λ_=>by kernel_rfl
def A3m(s:Str):Str×Int:=match(if s.length % 2=0 then Lp.unGo s [] else none) with|none=>([],11)|some b=>(b,0)
def Adi(s:Str):Option (Str×Int):=if s.length<=1000000 then some (A3m s) else none
def Ajg:FT [.str] [.sl .byte true,.int .i64]:=λx=>Adi x
theorem W7{R:Type}{kx:Ex->Ld->Option R}{rec:Ld->Option R}{s b:Str}{n x:Int}{b2:Str}{i0:Int}{i:Nat}(hs:s.length<=1000000)(hl:i<s.length)(hx : 0<=x/\x<=255)(h:(i:Int)<wr .i64 (i0+2)):Nv rec kx (s,b,n,b2,i0,x,(i:Int))=match Lp.hexD (bat s i) with
  |some d=>rec (s,b,n,b2,i0,16*x+d,((i+1:Nat):Int))
  |none=>kx .ret (s,[],11,b2,i0,x,(i:Int)):=by
 have hu:=Lp.u8_range s[i];have eb:wr .i64 (s[i].toNat:Int)=(s[i].toNat:Int):=Bi (by simp only[inI];omega);have e48:wr .i64 ((s[i].toNat:Int)-48)=(s[i].toNat:Int)-48:=Bi (by simp only[inI];omega);have e87:wr .i64 ((s[i].toNat:Int)-87)=(s[i].toNat:Int)-87:=Bi (by simp only[inI];omega);have ex:wr .i64 (16*x)=16*x:=Bi (by simp only[inI];omega);have ea:wr .i64 (16*x+((s[i].toNat:Int)-48))=16*x+((s[i].toNat:Int)-48):=Bi (by simp only[inI];omega);have ec:wr .i64 (16*x+((s[i].toNat:Int)-87))=16*x+((s[i].toNat:Int)-87):=Bi (by simp only[inI];omega);have ew:wr .i64 ((i:Int)+1)=((i+1:Nat):Int):=by rw[Bi (by simp only[inI];omega)];omega
 simp only[Nv,A7 hl,chk,Ae,Cg hl,eb,e48,e87,ex,ea,ec,ew,Ze1 h,Lp.hexD];generalize (s[i].toNat:Int)=y at *;by_cases h1 : 48<=y/\y<=57
 ·rw[Ze1 h1.1,Ze1 h1.2,Zd1 (show ¬ 97<=y by omega),if_pos h1];simp only[Ae,Ah];rw[Zd1 (show ¬y-48<0 by omega)];rfl
 ·rw[if_neg h1];have hf:cond (decide (48<=y)) (decide (y<=57)) false=false:=by
   by_cases q : 48<=y
   ·rw[Ze1 q,Zd1 (by omega)];rfl
   ·rw[Zd1 q];rfl
  by_cases h2 : 97<=y/\y<=102
  ·rw[if_pos h2,Ze1 h2.1,Ze1 h2.2,Ze1 (show 48<=y by omega),Zd1 (show ¬y<=57 by omega)];simp only[Ae,Ah];rw[Zd1 (show ¬y-87<0 by omega)];rfl
  ·rw[if_neg h2];have n1:decide ((-1:Int)<0)=true:=rfl;by_cases q : 48<=y
   ·rw[Ze1 q,Zd1 (show ¬y<=57 by omega)];simp only[Ae,Ah,n1];by_cases q2 : 97<=y
    ·rw[Ze1 q2,Zd1 (show ¬y<=102 by omega)];rfl
    ·rw[Zd1 q2];rfl
   ·rw[Zd1 q,Zd1 (show ¬ 97<=y by omega)];rfl
theorem Aez{R:Type}{kx:Ex->Q9->Option R}{s b:Str}{n:Int}{c:Option Str->Option R}(kk:Nat)(hkk : 3<=kk)(hs:s.length<=1000000)(h1:∀a i,kx .ret (s,[],11,a,i)=c none)(h2:∀a (i:Nat),s.length<=i+1->kx (.exit 0) (s,b,n,a,(i:Int))=c (if s.length % 2=1 then none else some a)):∀(k i:Nat) (a:Str),i % 2=0->i<=s.length->a.length<=i->s.length-i<k->Al (λrec=>O4 kk rec kx) k (s,b,n,a,(i:Int))=c (if s.length % 2=1 then none else Lp.unGo (s.drop i) a)
 |0,i,_,_,_,_,h=>absurd h (Zm1 _)
 |k+1,i,a,he,hi,ha,h=>by
  have ew:wr .i64 ((i:Int)+1)=((i+1:Nat):Int):=by rw[Bi (by simp only[inI];omega)];omega
  have ew2:wr .i64 ((i:Int)+2)=((i+2:Nat):Int):=by rw[Bi (by simp only[inI];omega)];omega
  rw[A3];by_cases hl:i+1<s.length
  ·simp only[O4,ew];rw[Ze1 (show((i+1:Nat):Int)<(s.length:Int) by omega),Ae];obtain⟨kk,rfl⟩:∃q,kk=q+3:=⟨kk-3,by omega⟩;have hu:=Lp.un_step (l:=s) (acc:=a) (j:=(i:Int)) (by omega) (by omega);have e2:((i:Int)+2).toNat=i+2:=by omega
   have e0:(i:Int).toNat=i:=by omega
   have e1:(i:Int)+1=((i+1:Nat):Int):=by omega
   rw[e0,e2,e1] at hu;rw[A3,W7 hs (show i<s.length by omega) (by omega) (by rw[ew2];omega)];have hx:Lp.hexD (bat s i)=Lp.hexD (Sx.byt s i):=rfl;have hy:Lp.hexD (bat s ((i+1:Nat):Int))=Lp.hexD (Sx.byt s ((i+1:Nat):Int)):=rfl;cases q1:Lp.hexD (Sx.byt s i) with
   |none =>
    rw[hx,q1];rw[q1] at hu;simp only[h1];congr 1;split
    ·rfl
    ·exact hu.symm
   |some x =>
    have b1:=Lp.hexD_lt q1;rw[hx,q1];simp only;rw[A3,W7 hs hl (by omega) (by rw[ew2];omega)];cases q2:Lp.hexD (Sx.byt s ((i+1:Nat):Int)) with
    |none =>
     rw[hy,q2];rw[q1,q2] at hu;simp only[h1];congr 1;split
     ·rfl
     ·exact hu.symm
    |some y =>
     have b2:=Lp.hexD_lt q2;rw[hy,q2];rw[q1,q2] at hu;simp only at hu ⊢;rw[A3];have e3:((i+1+1:Nat):Int)=((i+2:Nat):Int):=rfl;have ed : 16*(16*0+x)+y=x*16+y:=by omega
     have eu:wr .u8 (x*16+y)=x*16+y:=by have:IntKind.u8.wrap (x*16+y)=x*16+y:=IntWalk.u8_in _ (by omega);exact this
     simp only[Nv,ew2];rw[Zd1 (show ¬((i+1+1:Nat):Int)<((i+2:Nat):Int) by omega),Ah];simp only[ed,eu];rw[Ze1 (show a.length+1<=Am by simp only[Am];omega)];simp only[chk,Ae];rw[Aez kk.succ.succ.succ (by omega) hs h1 h2 k (i+2) _ (by omega) (by omega) (by simp only[Zh1,Zf1,Zi1];omega) (by omega),hu]
  ·simp only[O4,ew];rw[Zd1 (show ¬((i+1:Nat):Int)<(s.length:Int) by omega),Ah,h2 a i (by omega)];congr 1;by_cases hm:s.length % 2=1
   ·rw[if_pos hm,if_pos hm]
   ·rw[if_neg hm,if_neg hm,Zk1 (by omega)];rfl
theorem A9n:FO 143 [.str] [.sl .byte true,.int .i64] Ajg :=.fin 0 A2s λs r hb hx=>⟨s.length+3,by
 simp only[Ajg,Adi] at hx;split at hx
 ·rename_i h;rw[<-hx];simp only[Agc];refine Eq.trans (Aez (s:=s) (R:=Str×Int) (c:=λo=>match o with|none=>some (([]:Str),(11:Int))|some b=>some (b,0)) (s.length+3) (by omega) h (λ_ _=>rfl) (λa i _ =>?_) (s.length+3) 0 [] rfl (Nat.zero_le _) (by simp) (by omega)) ?_
  ·show cond (decide (Int.tmod (s.length:Int) 2=1)) (some ([],11)) (some (a,0))=_;have ht:Int.tmod (s.length:Int) 2=((s.length % 2:Nat):Int):=rfl;rw[ht];by_cases hm:s.length % 2=1
   ·rw[Ze1 (by omega),if_pos hm];rfl
   ·rw[Zd1 (by omega),if_neg hm];rfl
  ·simp only[Zq1,A3m];by_cases hm:s.length % 2=1
   ·rw[if_pos hm,if_neg (by omega)]
   ·rw[if_neg hm,if_pos (by omega)];cases Lp.unGo s []<;>rfl
 ·cases hx⟩
def Ans:Sig:=⟨178,[(0,.str),(1,.int .i64),(7,.int .i64),(9,.int .i64)],[(4,.ptr 0 0)],[(0,.one (.sv .tok))],1,0,0,[],[]⟩
abbrev Z7:=Str×Int×Int×Int×Tok
def Adq{R:Type}(rec:Z7->Option R)(kx:Ex->Z7->Option R)(v:Z7):Option R:=match v with
 |(v,v1,v2,v3,w) =>
 cond (decide (v3<(v.length:Int))) (
  chk (inb v3 v.length) (
  cond (!decide ((bat v v3)=39)) (
   rec (v,v1,v2,(wr .i64 (v3+1)),w)) (
   kx (.exit 0) (v,v1,v2,v3,w)))) (
  kx (.exit 0) (v,v1,v2,v3,w))
def A49(R:Type)(k:Nat):Px R:=pxO [(92,cA Ls),(142,cA A0l),(143,cA Ajg),(144,cA As5),(72,cA Ar1),(145,cA Aq4),(146,cA Ahz),(101,cA Akf)] [] [(6,Aq k Ans (Adq))] []
def Acl(k:Nat)(x:HV [.str,.int .i64]):Option (HV [.sv .tok,.int .i64]):=match x with
 |(s,i) =>
 chk (inb i s.length) (
  (Bjo s i).bind λx =>
  chk (Di i x s.length) (
   let j1:Bool->Option (HV [.sv .tok,.int .i64]):=λ(p2:Bool) =>
   cond (p2) (
    Al (λrec=>Adq rec (λe vz=>match vz with|(v4,v5,v6,v7,_)=>match e with
    |.exit 0 =>
     cond (decide (v7=(v4.length:Int))) (
     some ((Tok.mk 0 0 [] 0),(-1))) (
     chk (Di (wr .i64 (v6+1)) v7 v4.length) (
      (Adi (cut v4 (wr .i64 (v6+1)) v7)).bind λ(x1,x2) =>
      cond (!decide (x2=0)) (
       some ((Tok.mk 0 0 [] 0),(-1))) (
       cond (decide (1000<(x1.length:Int))) (
       some ((Tok.mk 0 0 [] 0),(-1))) (
       some ((Tok.mk 5 v5 x1 0),(wr .i64 (v7+1)))))))
    |_=>none)) k (s,i,x,(wr .i64 (x+1)),(Tok.mk 0 0 [] 0))) (
    cond (decide ((B3 (bat s i))=1)) (
    cond ((A3q (cut s i x))) (
     some ((Tok.mk 1 i (cut s i x) 0),x)) (
     some ((Tok.mk 0 0 [] 0),(-1)))) (
    cond (decide ((B3 (bat s i))=2)) (
     cond ((A43 (cut s i x))) (
     some ((Tok.mk 2 i (cut s i x) 0),x)) (
     some ((Tok.mk 0 0 [] 0),(-1)))) (
     cond (decide ((B3 (bat s i))=3)) (
     (A4s (cut s i x)).bind λx3 =>
      cond (decide (0<=x3)) (
      some ((Tok.mk 3 i (cut s i x) x3),x)) (
      some ((Tok.mk 0 0 [] 0),(-1)))) (
     cond (decide ((B3 (bat s i))=5)) (
      (Adb s (wr .i64 (i+1))).bind λ(x4,x5) =>
      cond (decide (0<=x5)) (
       cond (decide ((A16 (Val.mk 4 0 x4))=0)) (
       some ((Tok.mk 4 i x4 0),(wr .i64 (x5+1)))) (
       some ((Tok.mk 0 0 [] 0),(-1)))) (
       some ((Tok.mk 0 0 [] 0),(-1)))) (
      cond (decide ((B3 (bat s i))=7)) (
      cond (decide ((wr .i64 (i+1))<(s.length:Int))) (
       chk (Di i (wr .i64 (i+2)) s.length) (
       let j2:Bool->Option (HV [.sv .tok,.int .i64]):=λ(p9:Bool) =>
        cond (p9) (
        chk (Di i (wr .i64 (i+2)) s.length) (
         some ((Tok.mk 6 i (cut s i (wr .i64 (i+2))) 0),(wr .i64 (i+2))))) (
        chk (Di i (wr .i64 (i+2)) s.length) (
         cond (decide ((cut s i (wr .i64 (i+2)))=[62,61])) (
         chk (Di i (wr .i64 (i+2)) s.length) (
          some ((Tok.mk 6 i (cut s i (wr .i64 (i+2))) 0),(wr .i64 (i+2))))) (
         chk (Di i (wr .i64 (i+1)) s.length) (
          some ((Tok.mk 6 i (cut s i (wr .i64 (i+1))) 0),(wr .i64 (i+1)))))))
       cond (decide ((cut s i (wr .i64 (i+2)))=[60,62])) (
        j2 true) (
        chk (Di i (wr .i64 (i+2)) s.length) (
        j2 (decide ((cut s i (wr .i64 (i+2)))=[60,61])))))) (
       chk (Di i (wr .i64 (i+1)) s.length) (
       some ((Tok.mk 6 i (cut s i (wr .i64 (i+1))) 0),(wr .i64 (i+1)))))) (
      some ((Tok.mk 0 0 [] 0),(-1))))))))
   let j:Bool->Option (HV [.sv .tok,.int .i64]):=λ(p:Bool) =>
   cond (p) (
    chk (inb x s.length) (
    j1 (decide ((bat s x)=39)))) (
    j1 false)
   cond (decide ((cut s i x)=[120])) (
   j (decide (x<(s.length:Int)))) (
   j false)))
theorem Bcf(k:Nat):FO 93 [.str,.int .i64] [.sv .tok,.int .i64] (Acl k):=fR (px:=A49 _ k) (n:=1) Tryz.func93 rfl (λcx H=>by have h0:Lv cx (A49 (HV [.sv .tok,.int .i64]) k):=lv H (c1 H N6 (c1 H Bkg (c1 H A9n (c1 H Bd2 (c1 H Bd6 (c1 H Bfx (c1 H A87 (c1 H A81 Af)))))))) Ab Aa;have hlrone_0:=lO H h0 (b:=lp Tryz.f93 0) (k:=k) (n:=0) (s:=Ans) (step:=Adq) (λ_ _ _ (_,_,_,_,_)=>by kernel_rfl) Ak;exact⟨h0,(Bq Ak hlrone_0)⟩) λ(_,_)=>by kernel_rfl
def tkR(i:Int):Option (Int×Str×Int×Int)->Tok×Int
 |none=>(⟨0,0,[],0⟩, -1)
 |some (k,x,n,e)=>(⟨k,i,x,n⟩,e)
def A79(s:Str)(i:Int):Option (Tok×Int):=if 0<=i/\i<(s.length:Int)/\s.length<=1000000 then some (tkR i (Lp.tokR s i)) else none
def Aya:FT [.str,.int .i64] [.sv .tok,.int .i64]:=λx=>A79 x.1 x.2
theorem Anj{R:Type}{kx:Ex->Z7->Option R}{s:Str}{i t:Int}{w:Tok}{c:Int->Option R}(hs:s.length<=1000000)(h2:∀q,kx (.exit 0) (s,i,t,q,w)=c q):∀(k n:Nat),n<=s.length->s.length-n<k->Al (λrec=>Adq rec kx) k (s,i,t,(n:Int),w)=c (Lp.runTo (λc => !decide (c=39)) s n)
 |0,_,_,h=>absurd h (Zm1 _)
 |k+1,n,hn,h=>by
  rw[A3];by_cases hl:n<s.length
  ·have ih:=Anj hs h2 k (n+1) (by omega) (by omega);have ew:wr .i64 ((n:Int)+1)=((n+1:Nat):Int):=by rw[Bi (by simp only[inI];omega)];omega
   have e1:decide ((n:Int)<(s.length:Int))=true:=Ze1 (by omega);have e2:((n+1:Nat):Int)=(n:Int)+1:=by omega
   simp only[Adq,e1,Ae,A7 hl,chk,ew,ih,h2];by_cases hq:bat s n=39
   ·have hr:=Lp.runTo_no (p:=λc => !decide (c=39)) (l:=s) (j:=(n:Int)) ⟨by omega,by omega⟩ (by show(!decide (bat s n=39))=false;rw[Ze1 hq];rfl);rw[Ze1 hq,hr];rfl
   ·have hr:=Lp.runTo_yes (p:=λc => !decide (c=39)) (l:=s) (j:=(n:Int)) ⟨by omega,by omega⟩ (by show(!decide (bat s n=39))=true;rw[Zd1 hq];rfl);rw[Zd1 hq,e2,hr];rfl
  ·simp only[Adq,h2];rw[Zd1 (by omega),Lp.runTo_end (by omega)];rfl
theorem A20{s:Str}(a b:Int):(cut s a b).length<=s.length:=by have h:(cut s a b).length=((s.drop a.toNat).take (b.toNat-a.toNat)).length:=rfl;rw[h,List.length_take,Za2];omega
theorem Bn4(s:Str)(i:Int)(h : 0<=i/\i<(s.length:Int)/\s.length<=1000000):Acl (s.length+1) (s,i)=some (tkR i (Lp.tokR s i)):=by
 obtain⟨h0,h1,h2⟩:=h;have ht:=Lp.runTo_range Lp.isWd s i ⟨h0,by omega⟩;have he:Bjo s i=some (Lp.runTo Lp.isWd s i):=if_pos ⟨h0,by omega,h2⟩;have ew1:wr .i64 (i+1)=i+1:=Bi (by simp only[inI];omega);have ew2:wr .i64 (i+2)=i+2:=Bi (by simp only[inI];omega);simp -zeta only [Acl,he,Zc1,ew1,ew2];unfold Lp.tokR;by_cases hx:Lp.HexAt s i
 ·rw[if_pos hx];simp only[Lp.HexAt] at hx;generalize Lp.runTo Lp.isWd s i=t at ht hx ⊢;have ewt:wr .i64 (t+1)=t+1:=Bi (by simp only[inI];omega);rw[Tr ⟨h0,h1⟩,Ge (by omega),ewt];simp -zeta only [chk,Ae];extract_lets j2 j1 j t2 q;have hj:cond (decide (cut s i t=[120])) (j (decide (t<(s.length:Int)))) (j false)=j1 true:=by rw[Ze1 (show cut s i t=[120] from hx.1),Ze1 hx.2.1];show cond (inb t s.length) (j1 (decide (bat s t=39))) none=j1 true;rw[Tr ⟨by omega,hx.2.1⟩,Ze1 (show bat s t=39 from hx.2.2)];rfl
  rw[hj];obtain⟨n,hn⟩:=Int.eq_ofNat_of_zero_le (show 0<=t+1 by omega);show Al _ _ (s,i,t,t+1,_)=_;rw[hn];refine(Anj (c:=λq=>cond (decide (q=(s.length:Int))) (some (⟨0,0,[],0⟩, -1)) (cond (Di (t+1) q s.length) ((Adi (cut s (t+1) q)).bind λ(x1,x2)=>cond (!decide (x2=0)) (some (⟨0,0,[],0⟩, -1)) (cond (decide (1000<(x1.length:Int))) (some (⟨0,0,[],0⟩, -1)) (some (⟨5,i,x1,0⟩,wr .i64 (q+1))))) none)) h2 (λq=>by show cond _ _ (cond (Di (wr .i64 (t+1)) q s.length) ((Adi (cut s (wr .i64 (t+1)) q)).bind _) none)=_;rw[ewt]) (s.length+1) n (by omega) (by omega)).trans ?_;rw[<-hn];have hq:=Lp.runTo_range (λc => !decide (c=39)) s (t+1) ⟨by omega,by omega⟩;have eq1:Lp.runTo (λc => !decide (c=39)) s (t+1)=q:=rfl;rw[eq1] at hq ⊢;clear_value q;by_cases hqe:q=(s.length:Int)
  ·rw[Ze1 hqe,if_pos hqe];rfl
  ·have hc:Adi (cut s (t+1) q)=some (A3m (cut s (t+1) q)):=if_pos (by have:=A20 (s:=s) (t+1) q;omega);have ewq:wr .i64 (q+1)=q+1:=Bi (by simp only[inI];omega);rw[Zd1 hqe,if_neg hqe,Ah,Ge (by omega),Ae,hc,ewq];have hcc:(Sx.cut s (t+1) q)=cut s (t+1) q:=rfl;rw[hcc];simp only[Zc1,A3m];cases (if(cut s (t+1) q).length % 2=0 then Lp.unGo (cut s (t+1) q) [] else none) with
   |none=>rfl
   |some b =>
    simp only[decide_true,Zt1,Ah];by_cases hb : 1000<(b.length:Int)
    ·rw[Ze1 hb,if_pos hb];rfl
    ·rw[Zd1 hb,if_neg hb];rfl
 ·rw[if_neg hx];simp only[Lp.HexAt] at hx;generalize Lp.runTo Lp.isWd s i=t at ht hx ⊢;have ewt:wr .i64 (t+1)=t+1:=Bi (by simp only[inI];omega);rw[Tr ⟨h0,h1⟩,Ge (by omega),ewt];simp -zeta only [chk,Ae];extract_lets j2 j1 j q;have hj:cond (decide (cut s i t=[120])) (j (decide (t<(s.length:Int)))) (j false)=j1 false:=by
   by_cases c1:cut s i t=[120]
   ·rw[Ze1 c1];by_cases c2:t<(s.length:Int)
    ·rw[Ze1 c2];show cond (inb t s.length) (j1 (decide (bat s t=39))) none=j1 false;rw[Tr ⟨by omega,c2⟩,Zd1 (show ¬bat s t=39 fromλq=>hx ⟨c1,c2,q⟩)];rfl
    ·rw[Zd1 c2];rfl
   ·rw[Zd1 c1];rfl
  rw[hj];clear hj;have hb:Sx.byt s i=bat s i:=rfl;have hcw:Sx.cut s i t=cut s i t:=rfl;rw[hb,hcw];simp only[j1,j2,Ah];by_cases k1:Lp.clsF (bat s i)=1
  ·rw[Ze1 (show B3 (bat s i)=1 from k1),if_pos k1,Ae];have hw:A3q (cut s i t)=Lp.wordF (cut s i t):=Aj5 _;rw[hw];cases Lp.wordF (cut s i t)<;>rfl
  rw[Zd1 (show ¬B3 (bat s i)=1 from k1),if_neg k1,Ah];by_cases k2:Lp.clsF (bat s i)=2
  ·rw[Ze1 (show B3 (bat s i)=2 from k2),if_pos k2,Ae,A43];cases Lp.rnameF (cut s i t)<;>rfl
  rw[Zd1 (show ¬B3 (bat s i)=2 from k2),if_neg k2,Ah];by_cases k3:Lp.clsF (bat s i)=3
  ·have hc:A4s (cut s i t)=some (Lp.rnumF (cut s i t)):=if_pos (by have:=A20 (s:=s) i t;omega);rw[Ze1 (show B3 (bat s i)=3 from k3),if_pos k3,Ae,hc,Zc1];by_cases hn : 0<=Lp.rnumF (cut s i t)
   ·rw[Ze1 hn,if_pos hn];rfl
   ·rw[Zd1 hn,if_neg hn];rfl
  rw[Zd1 (show ¬B3 (bat s i)=3 from k3),if_neg k3,Ah];by_cases k5:Lp.clsF (bat s i)=5
  ·have hc:Adb s (i+1)=some (A2h (Lp.qGo (s.drop (i+1).toNat) [] (i+1))):=if_pos ⟨by omega,by omega,h2⟩;have hqi:=Lp.qGo_in _ (s.drop (i+1).toNat) [] (i+1) (Zn1 _) (by omega);have hdl:(s.drop (i+1).toNat).length=s.length-(i+1).toNat:=Za2;have eq1:Lp.qGo (s.drop (i+1).toNat) [] (i+1)=q:=rfl;rw[eq1] at hc hqi;rw[Ze1 (show B3 (bat s i)=5 from k5),if_pos k5,Ae];clear_value q;by_cases hq:q.2 = -1
   ·have hc2:Adb s (i+1)=some ([], -1):=by rw[hc,A2h,if_pos hq]
    rw[hc2,if_neg (λc=>c.1 hq)];rfl
   ·have hc2:Adb s (i+1)=some (q.1,q.2-1):=by rw[hc,A2h,if_neg hq]
    have e9:wr .i64 (q.2-1+1)=q.2:=by rw[Bi (by simp only[inI];omega)];omega
    rw[hc2];simp only[Zc1,e9];rw[Ze1 (show 0<=q.2-1 by omega),Ae];have hk:A16 (Val.mk 4 0 q.1)=Lp.checkF 4 0 q.1:=by show Jf (Val.mk 4 0 q.1)=_;simp only[Jf,Lp.checkF,Av4];cases Lp.rightF 4 0 q.1<;>rfl
    by_cases hc2:Lp.checkF 4 0 q.1=0
    ·rw[Ze1 (hk.trans hc2),if_pos ⟨hq,hc2⟩];rfl
    ·rw[Zd1 (λe=>hc2 (hk.symm.trans e)),if_neg (λc=>hc2 c.2)];rfl
  rw[Zd1 (show ¬B3 (bat s i)=5 from k5),if_neg k5,Ah];by_cases k7:Lp.clsF (bat s i)=7
  ·rw[Ze1 (show B3 (bat s i)=7 from k7),if_pos k7,Ae];have hcc:Sx.cut s i (i+2)=cut s i (i+2):=rfl;have hcd:Sx.cut s i (i+1)=cut s i (i+1):=rfl;simp only[Lp.twoR,hcc,hcd];by_cases hl:i+1<(s.length:Int)
   ·rw[Ze1 hl,Ge (show 0<=i/\i<=i+2/\i+2<=(s.length:Int) by omega),Ge (show 0<=i/\i<=i+1/\i+1<=(s.length:Int) by omega)];simp only[Ae];generalize cut s i (i+2)=y;by_cases y1:y=[60,62]
    ·rw[Ze1 y1,if_pos ⟨hl,.inl y1⟩];rfl
    ·by_cases y2:y=[60,61]
     ·rw[Zd1 y1,Ze1 y2,if_pos ⟨hl,.inr (.inl y2)⟩];rfl
     ·by_cases y3:y=[62,61]
      ·rw[Zd1 y1,Zd1 y2,Ze1 y3,if_pos ⟨hl,.inr (.inr y3)⟩];rfl
      ·rw[Zd1 y1,Zd1 y2,Zd1 y3,if_neg (λc=>by rcases c.2 with c|c|c<;>contradiction)];rfl
   ·rw[Zd1 hl,Ah,Ge (by omega),if_neg (λc=>hl c.1)];rfl
  rw[Zd1 (show ¬B3 (bat s i)=7 from k7),if_neg k7,Ah];rfl
theorem Blm:FO 93 [.str,.int .i64] [.sv .tok,.int .i64] Aya :=.fin 0 Bcf λ(s,i) r hb hx=>⟨s.length+1,by
 simp only[Aya,A79] at hx;split at hx
 ·rename_i h;exact(Bn4 s i h).trans hx
 ·cases hx⟩
def Ad9:Sig:=⟨38,[(0,.str),(2,.sl .tok true),(3,.int .i64),(4,.int .i64),(5,.sl .tok true),(6,.int .i64)],[],[],0,0,0,[],[]⟩
abbrev Rk:=Str×List Tok×Int×Int×List Tok×Int
def Tn{R:Type}(rec:Rk->Option R)(kx:Ex->Rk->Option R)(v:Rk):Option R:=match v with
 |(v,v1,v2,v3,v4,v5) =>
 cond (decide (v5<(v.length:Int))) (
  chk (inb v5 v.length) (
  cond (decide ((B3 (bat v v5))=6)) (
   rec (v,v1,v2,v3,v4,(wr .i64 (v5+1)))) (
   (A79 v v5).bind λ(x,x1) =>
   cond (decide (x1<0)) (
    kx .ret (v,[],v5,11,v4,v5)) (
    chk (decide (v4.length+1<=Am)) (
    rec (v,v1,v2,v3,(v4++[x]),x1)))))) (
  kx (.exit 0) (v,v1,v2,v3,v4,v5))
def Apj(R:Type)(k:Nat):Px R:=pxO [(92,cA Ls),(93,cA Aya)] [] [(5,Aq k Ad9 (Tn))] []
def Af4(k:Nat)(x:HV [.str]):Option (HV [.sl .tok true,.int .i64,.int .i64]):=match x with
 |s =>
 cond (decide (20000<(s.length:Int))) (
  some ([],0,3)) (
  Al (λrec=>Tn rec (λe vz=>match vz with|(_,v7,v8,v9,a,_)=>match e with
  |.ret =>some (v7,v8,v9)
  |.exit 0 =>some (a,0,0)
  |_=>none)) k (s,[],0,0,[],0))
theorem Ayg(k:Nat):FO 35 [.str] [.sl .tok true,.int .i64,.int .i64] (Af4 k):=fR (px:=Apj _ k) (n:=1) Tryz.func35 rfl (λcx H=>by have h0:Lv cx (Apj (HV [.sl .tok true,.int .i64,.int .i64]) k):=lv H (c1 H N6 (c1 H Blm Af)) Ab Aa;have hlrall12_0:=lO H h0 (b:=lp Tryz.f35 0) (k:=k) (n:=0) (s:=Ad9) (step:=Tn) (λ_ _ _ (_,_,_,_,_,_)=>by kernel_rfl) Ak;exact⟨h0,(Bq Ak hlrall12_0)⟩) λ_=>by kernel_rfl
abbrev Ce(s:Str):List Tok×Int×Int:=A11 s
def Akw:FT [.str] [.sl .tok true,.int .i64,.int .i64]:=λx=>some (Ce x)
theorem Sm{R:Type}{kx:Ex->Rk->Option R}{s:Str}{c:Except Int (List Tok)->Option R}(hs:s.length<=20000)(h1:∀a i,kx .ret (s,[],i,11,a,i)=c (.error i))(h2:∀a i,kx (.exit 0) (s,[],0,0,a,i)=c (.ok a)):∀(k:Nat) (i:Int) (f:Nat) (a:List Tok),(a.length:Int)<=i->0<=i->i<=s.length->(s.length:Int)-i<k->(s.length:Int)-i<f->Al (λrec=>Tn rec kx) k (s,[],0,0,a,i)=c (Lp.rallGo f s i a)
 |0,i,f,a,_,_,_,h,_=>by omega
 |_,i,0,a,_,_,_,_,h=>by omega
 |k+1,i,f+1,a,ha,h0,hi,hk,hf=>by
  rw[A3];simp only[Tn,Lp.rallGo];by_cases hl:i<(s.length:Int)
  ·rw[Ze1 hl,Ae,if_neg (by omega),Tr ⟨h0,hl⟩];have ew:wr .i64 (i+1)=i+1:=Bi (by simp only[inI];omega);show cond (decide (B3 (bat s i)=6)) _ _=_;by_cases h6:Lp.clsF (Sx.byt s i)=6
   ·rw[Ze1 (show B3 (bat s i)=6 from h6),if_pos h6,Ae,ew];exact Sm hs h1 h2 k (i+1) f a (by omega) (by omega) (by omega) (by omega) (by omega)
   ·have hc:A79 s i=some (tkR i (Lp.tokR s i)):=if_pos ⟨h0,hl,by omega⟩;rw[Zd1 (show ¬B3 (bat s i)=6 from h6),if_neg h6,Ah];cases ht:Lp.tokR s i with
    |none =>
     have hc2:A79 s i=some (⟨0,0,[],0⟩, -1):=by rw[hc,ht];rfl
     rw[hc2];simp only[Zc1];rw[Ze1 (show(-1:Int)<0 by decide),Ae,h1]
    |some x =>
     obtain⟨y1,y2,y3,e⟩:=x;have he:=Lp.tokR_end ⟨h0,hl⟩ ht;have hc2:A79 s i=some (⟨y1,i,y2,y3⟩,e):=by rw[hc,ht];rfl
     rw[hc2];simp only[Zc1];rw[Zd1 (show ¬e<0 by omega),Ah,Ze1 (show a.length+1<=Am by simp only[Am];omega)];simp only[chk,Ae];exact Sm hs h1 h2 k e f (a++[⟨y1,i,y2,y3⟩]) (by simp only[Zh1,Zf1,Zi1];omega) (by omega) (by omega) (by omega) (by omega)
  ·rw[Zd1 hl,Ah,h2,if_pos (by omega)]
theorem A8f:FO 35 [.str] [.sl .tok true,.int .i64,.int .i64] Akw :=.fin 0 Ayg λs r hb hx=>⟨20001,by
 simp only[Akw,Za1] at hx;rw[<-hx];simp only[Af4,Ce,A11];by_cases hl : 20000<(s.length:Int)
 ·rw[Ze1 hl,if_pos hl];rfl
 ·rw[Zd1 hl,if_neg hl,Ah];refine(Sm (s:=s) (c:=λo=>match o with|.error i=>some (([]:List Tok),i,(11:Int))|.ok ts=>some (ts,(0:Int),(0:Int))) (by omega) (λ_ _=>rfl) (λ_ _=>rfl) 20001 0 (s.length+1) [] (by simp) (by omega) (by omega) (by omega) (by omega)).trans ?_;rw[Lp.allF_eq];simp only[Lp.rallF];cases Lp.rallGo (s.length+1) s 0 []<;>rfl⟩
theorem Ar7:P6=some true:=by kernel_rfl
def hd(q:List Int)(i:Nat):Int:=q.getD i 0
end Go.Proofs.YthndhaolemgbdaaGreatDoor
