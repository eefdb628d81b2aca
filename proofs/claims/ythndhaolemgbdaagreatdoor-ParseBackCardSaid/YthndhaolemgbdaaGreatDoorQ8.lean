/- Texts of the proof,one behind the other: Yc,Yd,Qn,Qo,Qp,Qq,Qr,Qs,Qt,Qu,Qv,Pi,Qw,Vc,Kp,Rv,Da,Db. -/
import Derived.Test.YthndhaolemgbdaaGreatDoorQ7
set_option linter.all false
namespace Go.Proofs.YthndhaolemgbdaaGreatDoor
open Go.Ax
open Lp (E5 Sc Bi)
theorem Bkm{k:Int}(hk : 2≤k∧k≤5):Rd Xo dlm Di Di (at' .str kindsL k) k:=by
 have:k=2∨k=3∨k=4∨k=5:=by omega
 rcases this with rfl|rfl|rfl|rfl
 ·exact(Lx.word (w:=Apx) (by decide +kernel)).mono (fun _ h=>h) fun ts q vs _=>⟨trivial,by simp only [Xo,D5 q,D3 q]⟩
 ·exact(Lx.word (w:=A64) (by decide +kernel)).mono (fun _ h=>h) fun ts q vs _=>⟨trivial,by simp only [Xo,Aik q (show ¬Apx=A64 by decide),D5 q,D3 q]⟩
 ·exact(Lx.word (w:=Aqv) (by decide +kernel)).mono (fun _ h=>h) fun ts q vs _=>⟨trivial,by simp only [Xo,Aik q (show ¬Apx=Aqv by decide),Aik q (show ¬A64=Aqv by decide),D5 q,D3 q]⟩
 ·exact(Lx.word (w:=Agy) (by decide +kernel)).mono (fun _ h=>h) fun ts q vs _=>⟨trivial,by simp only [Xo,Aik q (show ¬Apx=Agy by decide),Aik q (show ¬A64=Agy by decide),Aik q (show ¬Aqv=Agy by decide),D5 q,D3 q]⟩
theorem Bhn{w a:Str}{ss V:List Str}(hw:¬w∈V) (h:Lx dlm a fun ts=>∃t1 t2,ts=t1++t2∧IsW w t1∧∀vs,Bo ss (t2++vs) = .ok ((),vs)) (b:Bool):Rd (Afp w ss) dlm (No (w::V)) (No V) (cond b a []) b:=by
 cases b with
 |false=>exact Lx.nil fun vs hv=>⟨Abf (fun x hx=>Zu1 _ hx) hv,by simp only [Afp,Zf2,hv w Zr1]⟩
 |true =>
  refine h.mono (fun _ h=>h) fun ts q vs hv =>?_
  obtain⟨t1,t2,rfl,q1,q2⟩:=q
  rw [Zj1]
  exact⟨Aje hw (D5 q1 _),by simp only [Afp,D5 q1,D3 q1,q2]⟩
theorem Bn6{c:Col}(hc:c.ref=[]∨B1 c.ref=true) {V:List Str}(hw:¬Aza∈V):Rd Aug dlm (No (Aza::V)) (No V) (Bbc c) c.ref:=by
 unfold Bbc
 by_cases h:c.ref=[]
 ·rw [Ze1 h,Ai,h]
  exact Lx.nil fun vs hv=>⟨Abf (fun x hx=>Zu1 _ hx) hv,by simp only [Aug,Zf2,hv Aza Zr1]⟩
 ·rw [Zd1 h,Ak]
  have hn:=hc.resolve_left h
  refine(Lx.app (Lx.sp (Lx.spb (D:=D0) (Lx.word (w:=Aza) (by decide +kernel)))) (G0 hn) (fun r _=>trivial)).mono (fun _ h=>h) fun ts q vs hv =>?_
  obtain⟨t1,t2,rfl,q1,q2⟩:=q
  rw [Zj1]
  exact⟨Aje hw (D5 q1 _),by simp only [Aug,D5 q1,D3 q1,(q2 vs trivial).2]⟩
theorem Tf{b:Bool}{x r:Str}(h:dlm r):dlm (cond b (32::x) []++r):=by
 cases b with
 |false=>exact h
 |true=>exact Ad4 _
theorem Ary{c:Col}{r:Str}(h:dlm r):dlm (Bbc c++r):=by
 unfold Bbc
 cases decide (c.ref=[]) with
 |true=>exact h
 |false=>exact Ad4 _
theorem Bk0(c:Col):Zx c=c.name++((32::at' .str kindsL c.kind)++(cond c.notNull (32::(Gx++32::Ej)) []++(cond c.unique (32::H8) []++Bbc c))):=by
 simp only [Zx,Bbc,Zj1,Zb2,Zf2]
 rfl
theorem Bmc{c:Col}(hc:CX c):Rd Bf5 dlm (No [Aza,H8,Gx]) noW (Zx c) c:=by
 obtain⟨c1,c2⟩:=hc
 simp only [Xy,Zb1,Zd2,Zg1] at c1
 have r5:=Bn6 (c:=c) c1.2 (V:=[H8,Gx]) (by decide)
 have r4:Rd (Afp H8 []) dlm (No [H8,Gx]) (No [Gx]) (cond c.unique (32::H8) []) c.unique:=Bhn (V:=[Gx]) (by decide) ((Lx.sp (Lx.word (w:=H8) (by decide +kernel))).mono (fun _ h=>h) fun ts q=>⟨ts,[],by simp,q,fun _=>rfl⟩) c.unique
 have r3:Rd (Afp Gx [Ej]) dlm (No [Gx]) Di (cond c.notNull (32::(Gx++32::Ej)) []) c.notNull:=(Bhn (V:=[]) (by decide) ((Lx.sp (Lx.app (Lx.word (w:=Gx) Axj) (Lx.sp (Lx.word (w:=Ej) (by decide +kernel))) (fun r _=>Ad4 _))).mono (fun _ h=>h) fun ts ⟨t1,t2,e,q1,q2⟩=>⟨t1,t2,e,q1,fun vs=>by simp only [Bo,D5 q2,D3 q2]⟩) c.notNull).mono (fun _ h=>h) (fun _ h=>h) Ci
 have r2:Rd Xo dlm Di Di (32::at' .str kindsL c.kind) c.kind:=Lx.sp (Bkm c1.1)
 rw [Bk0]
 refine(G0 c2).bind (D2:=dlm) (T2:=Di) (r2.bind (T2:=Di) (r3.bind (T2:=No [Gx]) (r4.bind (T2:=No [H8,Gx]) r5.map ?_ (fun _ h=>h)) ?_ (fun _ h=>h)) ?_ Ci) ?_ Ci
 ·exact fun r hr=>Ary hr
 ·exact fun r hr=>by rw [Zj1];exact Tf (Ary hr)
 ·exact fun r hr=>by rw [Zj1,Zj1];exact Tf (Tf (Ary hr))
 ·exact fun r _=>Ad4 _
theorem Bo9:Lx D0 [44,32] (IsW [44]):=Lx.spb (a:=[44]) (lx44.mono E6 fun _ h=>h)
def Au2(c:Col):Str:=Zx c++[44,32]
theorem A57{c:Col}(hc:CX c):Rd Aou D0 Di noW (Au2 c) c :=
 (Bmc hc).bind (T2:=hdW [44]) ((E3 Bo9).map) (fun r _=>A3i _) (fun l h=>Aje (by decide) h)
theorem Aqc:∀l:List Col,(∀c,c∈l→CX c)→Lx dlm ((l.map Au2).flatten++F3) fun ts=>∀vs k acc,(ts++vs).length<k→Py k acc (ts++vs) = .ok (acc++l,vs)
 |[],_=>(Lx.word (w:=F3) (by decide +kernel)).mono (fun _ h=>h) fun ts q vs k acc hk=>by
  obtain⟨k,rfl⟩:∃k',k=k'+1:=⟨k-1,by omega⟩
  simp only [Py,D5 q,D3 q,List.append_nil]
 |c::l,h=>by
  have ih:=Aqc l fun x hx=>h x (Zu1 _ hx)
  rw [Zw1,Zz1,Zj1]
  refine(Lx.app (A57 (h c Zr1)) ih (fun _ _=>trivial)).mono (fun _ h=>h) fun ts q vs k acc hk =>?_
  obtain⟨t1,t2,rfl,q1,q2⟩:=q
  obtain⟨n1,p1⟩:=q1 (t2++vs) trivial
  obtain⟨k,rfl⟩:∃k',k=k'+1:=⟨k-1,by omega⟩
  have hne:t1≠[]:=fun e=>by
   subst e
   have h1:=Acd _ _ _ p1
   simp at h1
  have hcl:=List.length_pos_iff.2 hne
  simp only [Zh1] at hk
  rw [Zj1]
  simp only [Py,n1 F3,p1]
  rw [q2 vs k (acc++[c]) (by simp only [Zh1];omega)]
  simp
theorem Bkn{l:List Col}(hl:l≠[]) (h:∀c,c∈l→CX c):Rd Av1 dlm Di noW ((l.map Au2).flatten++F3) l:=by
 cases l with
 |nil=>exact absurd rfl hl
 |cons c l =>
  have ih:=Aqc l fun x hx=>h x (Zu1 _ hx)
  rw [Zw1,Zz1,Zj1]
  refine(Lx.app (A57 (h c Zr1)) ih (fun _ _=>trivial)).mono (fun _ h=>h) fun ts q vs _ =>?_
  obtain⟨t1,t2,rfl,q1,q2⟩:=q
  obtain⟨n1,p1⟩:=q1 (t2++vs) trivial
  rw [Zj1]
  refine⟨n1,?_⟩
  simp only [Av1,p1]
  rw [q2 vs _ [c] (by omega)]
  rfl
theorem Bpd{e:Xpr}(h:RX e):Lx dlm (ckT e) fun ts=>A1o ts e:=by
 have he:=A0z (Bx e) e 30 (Zn1 _) h.1 h.2
 unfold ckT
 by_cases hk:e.kind=1∨e.kind=2
 ·rw [Ze1 (Bbx.2 hk),Ai]
  refine(Lx.app lx40 (Lx.app he Awz (fun r _=>dm41 _)) (fun _ _=>trivial)).mono E6 fun ts q =>?_
  obtain⟨o,t1,rfl,ho,ti,c,rfl,hi,hc⟩:=q
  exact⟨o,ti,c,rfl,ho,hc,fun us hs=>by rw [←S0];exact Yl hi.1 (by omega) (by omega) hs⟩
 ·rw [Zd1 (fun q=>hk (Bbx.1 q)),Ak]
  exact he.mono (fun _ h=>h) fun ts q=>by
   rcases q.2 with q|q|q
   ·exact absurd (.inl q) hk
   ·exact absurd (.inr q) hk
   ·exact q
def Bn0(e:Xpr):Str:=Aky++32::ckT e
theorem Boc{e:Xpr}(h:RX e):Rd At0 dlm Di (hdW Aky) (Bn0 e) e:=by
 refine(Lx.app (Lx.word (w:=Aky) (by decide +kernel)) (Lx.sp (Bpd h)) (fun r _=>Ad4 _)).mono (fun _ h=>h) fun ts q vs _ =>?_
 obtain⟨w,t1,rfl,hw,o,ti,c,rfl,ho,hc,hi⟩:=q
 simp only [Zj1]
 refine⟨D5 hw _,?_⟩
 have h1:=hi (c++vs) (A08 hc (by decide) (by decide) vs)
 simp only [At0,bP,Bo,D5 hw,D3 hw,D5 ho,D3 ho,h1,D5 hc,D3 hc]
 rfl
theorem A5t:∀l:List Xpr,(l.map Ak5).flatten=Fq Bn0 l
 |[]=>rfl
 |e::l=>by
  rw [Zw1,Zz1,A5t l]
  simp only [Fq,Bn0]
  have h1:Ak5 e=[44,32]++(Aky++32::ckT e):=rfl
  rw [h1]
theorem Bj8{l:List Xpr}(h:∀x,x∈l→RX x):Rd (fun l=>Bz At0 (l.length+1) [] l) dlm (fun l=>isT [44] l=false) Di (l.map Ak5).flatten l:=by
 rw [A5t]
 exact(Asi (D:=dlm) (S:=Di) (fun _=>A3i _) (fun _ _=>trivial) l fun x hx=>Boc (h x hx)).mono (fun _ h=>h) fun ts q vs hv=>⟨trivial,by
  have:=(q vs ⟨trivial,hv⟩).2 ((ts++vs).length+1) [] (by omega)
  exact this⟩
theorem Bh7:∀{l:List Col},l≠[]→Cc Zx l++[44,32]=(l.map Au2).flatten:=fun {l} hl=>by
 have ht:∀l:List Col,Fq Zx l++[44,32]=[44,32]++(l.map Au2).flatten:=fun l=>by
  induction l with
  |nil=>rfl
  |cons c l ih =>
   simp only [Fq,Zj1,ih,Zw1,Zz1,Au2]
 cases l with
 |nil=>exact absurd rfl hl
 |cons c l =>
  simp only [Cc,Zj1,ht,Zw1,Zz1,Au2]
def Bdk(s:Stm):Str:=s.name++((32::[40])++(((s.cols.map Au2).flatten++F3)++((32::(Atm++[32]))++(nmT s.names++((s.l.map Ak5).flatten++[41])))))
theorem Bb7{s:Stm}(hn:B1 s.name=true) (hc:∀c,c∈s.cols→CX c) (hc0:s.cols≠[]) (hm0:s.names≠[]) (hm:∀x,x∈s.names→B1 x=true) (hl:∀x,x∈s.l→RX x):Rd Ahg D0 Di noW (Bdk s) { zS with kind:=1,name:=s.name,cols:=s.cols,names:=s.names,l:=s.l }:=by
 have r7:=E3 (w:=[41]) Awz
 have r6:=Bj8 hl
 have r5:=Aw7 hm0 hm
 have r4:Rd (Bo [Atm]) D0 Di (hdW Atm) (32::(Atm++[32])) ():=E3 (Lx.sp (Lx.spb (Lx.word (w:=Atm) (by decide +kernel))))
 have r3:=Bkn hc0 hc
 have r2:Rd (Bo [[40]]) D0 Di (hdW [40]) (32::[40]) ():=E3 (Lx.sp lx40)
 have r1:=G0 hn
 unfold Bdk
 refine r1.bind (D2:=D0) (T2:=hdW [40]) (r2.bind (D2:=D0) (T2:=noW) (r3.bind (D2:=D0) (T2:=hdW Atm) (r4.bind (D2:=D0) (T2:=hdW [40]) (r5.bind (D2:=D0) (T2:=Di) (r6.bind (D2:=D0) (T2:=hdW [41]) r7.map ?_ ?_) ?_ Ci) ?_ Ci) ?_ Ci) ?_ Ci) ?_ Ci
 ·exact fun r _=>dm41 _
 ·exact fun l h=>Bpq (by decide) h
 ·exact fun r _=>trivial
 ·exact fun r _=>trivial
 ·exact fun r _=>Ad4 _
 ·exact fun r _=>trivial
 ·exact fun r _=>Ad4 _
end Go.Proofs.YthndhaolemgbdaaGreatDoor
namespace Go.Proofs.YthndhaolemgbdaaGreatDoor
open Go.Ax
open Lp (E5 Sc Bi)
theorem Acx{α:Type}{p:TL→PR α}{D:Str→Prop}{S T:TL→Prop}{a:Str}{x y : α}(h:Rd p D S T a x) (e:x=y):Rd p D S T a y:=e▸h
def Nx(V:List Str) (l:TL):Prop:=Stop l∧No V l
theorem A5g{w:Str}{V:List Str}(h1:bindS w=(0,0)) (h2:¬sIS=w) (h3:¬w∈V) {l:TL}(h:hdW w l):Nx V l:=⟨Akg h1 h2 h,Aje h3 h⟩
theorem Am5{s:Stm}(h:WX s) {V:List Str}(hw:¬Q0∈V):Rd Ki dlm (Nx (Q0::V)) (Nx V) (whT s) (s.has,s.whr):=by
 unfold whT
 cases hs:s.has with
 |false =>
  have e:s.whr=zX:=Bqo h hs
  rw [e]
  exact Lx.nil fun vs hv=>⟨⟨hv.1,Abf (fun x hx=>Zu1 _ hx) hv.2⟩,by simp only [Ki,Zf2,hv.2 Q0 Zr1]⟩
 |true =>
  refine(Lx.app (Lx.sp (Lx.spb (D:=D0) (Lx.word (w:=Q0) (by decide +kernel)))) (A4d (Bd8 h hs)) E6).mono (fun _ h=>h) fun ts q vs hv =>?_
  obtain⟨t1,t2,rfl,q1,q2⟩:=q
  rw [Zj1]
  exact⟨A5g (by decide) (by decide) hw (D5 q1 _),by simp only [Ki,D5 q1,D3 q1,(q2 vs hv.1).2]⟩
theorem A25(s:Stm) {r:Str}(h:dlm r):dlm (whT s++r):=by
 unfold whT
 exact Tf h
def Fin(l:TL):Prop:=l=[]∨hdW [59] l
theorem Atp{V:List Str}(hV:¬ [59]∈V) {l:TL}(h:Fin l):Nx V l:=by
 rcases h with rfl|h
 ·exact⟨Awh,Boq V⟩
 ·exact A5g (by decide) (by decide) hV h
theorem Adj{w:Str}(h:Lp.wordF w=true):Lx D0 (w++[32]) (IsW w):=Lx.spb (Lx.word h)
theorem Ap4{w:Str}(h:Lp.wordF w=true):Lx D0 (32::(w++[32])) (IsW w):=Lx.sp (Adj h)
theorem Bnq{x:SetE}(hx:RX x.e) (hn:B1 x.name=true):Rd Bhx dlm Stop noW (Al0 x) x:=by
 have e:Al0 x=x.name++((32::([61]++[32]))++etx x.e):=by simp [Al0]
 rw [e]
 have r2:Rd (Bo [[61]]) D0 Di (hdW [61]) (32::([61]++[32])) ():=E3 (Lx.sp (Lx.spb (lx61.mono E6 fun _ h=>h)))
 exact(G0 hn).bind (D2:=dlm) (T2:=hdW [61]) (r2.bind (T2:=fun l=>isT [42] l=false) ((A4d hx).map (g:=fun e=>(⟨x.name,e⟩:SetE))) (fun _ _=>trivial) Ci) (fun r _=>Ad4 _) Ci
theorem A8o{s:Stm}(hn:B1 s.name=true) (h0:s.sets≠[]) (hs:∀x,x∈s.sets→RX x.e∧B1 x.name=true) (hw:WX s):Rd M4 dlm Fin noW (s.name++((32::(Avy++[32]))++(Cc Al0 s.sets++whT s))) { zS with kind:=6,name:=s.name,sets:=s.sets,has:=s.has,whr:=s.whr }:=by
 have r4:=(Am5 hw (V:=[[44]]) (by decide)).mono (fun _ h=>h) (fun l h=>Atp (by decide) h) (fun _ h=>h)
 have r3:=Agp (D:=dlm) (fun _=>A3i _) (fun _ h=>Bfw h) h0 fun x hx=>Bnq (hs x hx).1 (hs x hx).2
 have r2:Rd (Bo [Avy]) D0 Di (hdW Avy) (32::(Avy++[32])) ():=E3 (Ap4 (by decide +kernel))
 refine(G0 hn).bind (D2:=dlm) (T2:=hdW Avy) (r2.bind (D2:=dlm) (T2:=noW) (r3.bind (D2:=dlm) (T2:=Nx [[44]]) (r4.map (g:=fun w:Bool×Xpr=>{ zS with kind:=6,name:=s.name,sets:=s.sets,has:=w.1,whr:=w.2 })) ?_ ?_) E6 Ci) (fun r _=>Ad4 _) Ci
 ·exact fun r hr=>A25 s hr
 ·exact fun l h=>⟨h.1,h.2 _ (by simp)⟩
theorem Ba5{s:Stm}(hn:B1 s.name=true) (hw:WX s):Rd Xn dlm Fin (hdW Kr) ((Kr++[32])++(s.name++whT s)) { zS with kind:=7,name:=s.name,has:=s.has,whr:=s.whr }:=by
 have r3:=(Am5 hw (V:=[]) (by decide)).mono (fun _ h=>h) (fun l h=>Atp (by decide) h) (fun _ h=>h)
 have r1:Rd (Bo [Kr]) D0 Di (hdW Kr) (Kr++[32]) ():=E3 (Adj (by decide +kernel))
 have r2:=Rd.bind (f:=fun n=>bP Ki fun w=>Ey { zS with kind:=7,name:=n,has:=w.1,whr:=w.2 }) (G0 hn) (D2:=dlm) (T2:=Nx []) (r3.map (g:=fun w:Bool×Xpr=>{ zS with kind:=7,name:=s.name,has:=w.1,whr:=w.2 })) (fun r hr=>A25 s hr) Ci
 exact Rd.bind (f:=fun _=>bP Cq fun n=>bP Ki fun w=>Ey { zS with kind:=7,name:=n,has:=w.1,whr:=w.2 }) r1 r2 E6 Ci
theorem A98{s:Stm}(hn:B1 s.name=true) (h0:s.rows≠[]) (hr:∀r,r∈s.rows→r≠[]∧∀x,x∈r→RX x):Rd M0 dlm Fin (hdW Acn) ((Acn++[32])++(s.name++((32::(N7++[32]))++Cc Aju s.rows))) { zS with kind:=5,name:=s.name,rows:=s.rows }:=by
 have r4:=Agp (D:=dlm) (S:=Di) (T:=hdW [40]) (fun _=>A3i _) Ci h0 fun x hx=>(Bm2 (hr x hx).1 (hr x hx).2).mono E6 (fun _ h=>h) (fun _ h=>h)
 have r3:Rd (Bo [N7]) D0 Di (hdW N7) (32::(N7++[32])) ():=E3 (Ap4 (by decide +kernel))
 have r1:Rd (Bo [Acn]) D0 Di (hdW Acn) (Acn++[32]) ():=E3 (Adj (by decide +kernel))
 have r:Rd M0 dlm (fun l=>Di l∧isT [44] l=false) (hdW Acn) ((Acn++[32])++(s.name++((32::(N7++[32]))++Cc Aju s.rows))) { zS with kind:=5,name:=s.name,rows:=s.rows }:=r1.bind (D2:=dlm) (T2:=noW) ((G0 hn).bind (D2:=dlm) (T2:=hdW N7) (r3.bind (D2:=dlm) (T2:=hdW [40]) (r4.map (g:=fun rs:List (List Xpr)=>{ zS with kind:=5,name:=s.name,rows:=rs })) E6 Ci) (fun r _=>Ad4 _) Ci) E6 Ci
 exact r.mono (fun _ h=>h) (fun l h=>⟨trivial,(Atp (V:=[[44]]) (by decide) h).2 _ (by simp)⟩) (fun _ h=>h)
theorem Bfa{s:Stm}(hn:B1 s.name=true) (ho:B1 s.on=true) (hm0:s.names≠[]) (hm:∀x,x∈s.names→B1 x=true):Rd Ahn D0 Di (hdW Ga) ((Ga++[32])++(s.name++((32::(wON++[32]))++(s.on++(32::nmT s.names))))) { zS with kind:=3,name:=s.name,on:=s.on,names:=s.names }:=by
 have r5:Rd X0 D0 Di (hdW [40]) (32::nmT s.names) s.names:=Lx.sp (Aw7 hm0 hm)
 have r3:Rd (Bo [wON]) D0 Di (hdW wON) (32::(wON++[32])) ():=E3 (Ap4 (by decide +kernel))
 have r1:Rd (Bo [Ga]) D0 Di (hdW Ga) (Ga++[32]) ():=E3 (Adj (by decide +kernel))
 exact r1.bind (D2:=D0) (T2:=noW) ((G0 hn).bind (D2:=D0) (T2:=hdW wON) (r3.bind (D2:=D0) (T2:=noW) ((G0 ho).bind (D2:=D0) (T2:=hdW [40]) r5.map (fun r _=>Ad4 _) Ci) E6 Ci) (fun r _=>Ad4 _) Ci) E6 Ci
theorem Ez{w v:Str}(h:¬v=w):∀l,hdW w l→isT v l=false:=fun l hl=>Aje (W:=[v]) (by simpa using fun e=>h e.symm) hl v (by simp)
theorem Biy{s:Stm}(hn:B1 s.name=true) (hk:s.kind=2∨s.kind=4):Rd Afg dlm Di Di (if s.kind=2 then(J4++[32])++s.name else(Ga++[32])++s.name) { zS with kind:=s.kind,name:=s.name }:=by
 rcases hk with hk|hk
 ·rw [if_pos hk,hk]
  exact(N6 (p:=bP Cq (fun n=>Ey { zS with kind:=2,name:=n })) (q:=bP (Bo [Ga]) (fun _=>bP Cq fun n=>Ey { zS with kind:=4,name:=n })) (Adj (w:=J4) (by decide +kernel)) (G0 hn).map E6).mono (fun _ h=>h) (fun _ h=>h) Ci
 ·rw [if_neg (by omega),hk]
  have r1:Rd (Bo [Ga]) D0 Di (hdW Ga) (Ga++[32]) ():=E3 (Adj (by decide +kernel))
  exact(E4 (w:=J4) (p:=bP Cq (fun n=>Ey { zS with kind:=2,name:=n })) (q:=bP (Bo [Ga]) (fun _=>bP Cq fun n=>Ey { zS with kind:=4,name:=n })) (r1.bind (T2:=noW) (G0 hn).map E6 Ci) (Ez (by decide))).mono (fun _ h=>h) (fun _ h=>h) Ci
theorem A3c{s:Stm}(hn:B1 s.name=true) (hc:∀c,c∈s.cols→CX c) (hc0:s.cols≠[]) (hm0:s.names≠[]) (hm:∀x,x∈s.names→B1 x=true) (hl:∀x,x∈s.l→RX x):Rd F9 D0 Di Di ((J4++[32])++Bdk s) { zS with kind:=1,name:=s.name,cols:=s.cols,names:=s.names,l:=s.l } :=
 (N6 (p:=Ahg) (q:=Ahn) (Adj (w:=J4) (by decide +kernel)) (Bb7 hn hc hc0 hm0 hm hl) E6).mono (fun _ h=>h) (fun _ h=>h) Ci
theorem A26{s:Stm}(hn:B1 s.name=true) (ho:B1 s.on=true) (hm0:s.names≠[]) (hm:∀x,x∈s.names→B1 x=true):Rd F9 D0 Di Di ((Ga++[32])++(s.name++((32::(wON++[32]))++(s.on++(32::nmT s.names))))) { zS with kind:=3,name:=s.name,on:=s.on,names:=s.names } :=
 (E4 (w:=J4) (p:=Ahg) (q:=Ahn) (Bfa hn ho hm0 hm) (Ez (by decide))).mono (fun _ h=>h) (fun _ h=>h) Ci
theorem Bkc{l:List Xpr}(h:∀x,x∈l→RX x):Rd Aiz dlm (fun l=>Stop l∧isT [44] l=false) Di (cond (decide ((l.length:Int)=0)) [42] []++Cc etx l) l:=by
 cases l with
 |nil =>
  refine(lx42.mono E6 fun _ h=>h).mono (fun _ h=>h) fun ts q vs _=>⟨trivial,?_⟩
  simp only [Aiz,D5 q,D3 q]
 |cons x l =>
  have e:cond (decide (((x::l).length:Int)=0)) [42] []++Cc etx (x::l)=Cc etx (x::l):=by
   rw [Zd1 (by simp only [Zf1];omega)]
   rfl
  rw [e]
  exact(E4 (w:=[42]) (p:=Ey []) (q:=Aak) (Axg (List.cons_ne_nil x l) h) (fun _ h=>h)).mono (fun _ h=>h) (fun _ h=>h) Ci
theorem Bnc{x:Str×Bool}(h:B1 x.1=true):Rd A1w dlm (No [Q6,Aim]) noW (Z4 x) x:=by
 have r2:Rd Are dlm (No [Q6,Aim]) Di (cond x.2 (32::Q6) []) x.2:=by
  cases x.2 with
  |false=>exact Lx.nil fun vs hv=>⟨trivial,by simp only [Are,Zf2,hv Q6 (by simp),hv Aim (by simp)]⟩
  |true=>exact(Lx.sp (Lx.word (w:=Q6) (by decide +kernel))).mono (fun _ h=>h) fun ts q vs _=>⟨trivial,by simp only [Are,D5 q,D3 q]⟩
 exact(G0 h).bind (D2:=dlm) (T2:=Di) (r2.map (g:=fun d=>(x.1,d))) (fun r hr=>Tf hr) Ci
theorem Boh{n:Int}(h : -1≤n∧n≤9223372036854775807) {V:List Str}(hw:¬Adl∈V):Rd Hj dlm (Nx (Adl::V)) (Nx V) (cond (decide (0≤n)) ((32::(Adl++[32]))++B8 ⟨3,n,[]⟩) []) n:=by
 by_cases h0 : 0≤n
 ·rw [Ze1 h0,Ai]
  have hv:B8 ⟨3,n,[]⟩=Sq n.natAbs:=by rw [←Axq h0];rfl
  rw [hv]
  refine(Lx.app (Ap4 (w:=Adl) (by decide +kernel)) (Lx.one (D:=dlm) (w:=Sq n.natAbs) (k:=3) (s:=Sq n.natAbs) (n:=n) fun r hr =>?_) E6).mono (fun _ h=>h) fun ts q vs hv =>?_
  ·rw [Awj hr,if_pos (by omega),show((n.natAbs:Nat):Int)=n by omega]
  ·obtain⟨t1,t2,rfl,q1,t,rfl,a1,a2,a3⟩:=q
   rw [Zj1]
   refine⟨A5g (by decide) (by decide) hw (D5 q1 _),?_⟩
   simp only [Hj,D5 q1,D3 q1]
   show A5j (t::vs)=_
   simp only [A5j,a1,a3,decide_true]
 ·have e:n = -1:=by omega
  subst e
  exact Lx.nil fun vs hv=>⟨⟨hv.1,Abf (fun x hx=>Zu1 _ hx) hv.2⟩,by simp only [Hj,Zf2,hv.2 Adl Zr1]⟩
theorem Bb6{s:Stm}(h:∀x,x∈s.order→B1 x=true) (hd:s.desc.length=s.order.length) {V:List Str}(hw:¬Sk∈V) (hV:∀w,w∈[Q6,Aim,[44]]→w∈V):Rd Kd dlm (Nx (Sk::V)) (Nx V) (obT s++Cc Z4 (s.order.zip s.desc)) (s.order.zip s.desc):=by
 unfold obT
 by_cases h0:s.order=[]
 ·rw [h0]
  exact Lx.nil fun vs hv=>⟨⟨hv.1,Abf (fun x hx=>Zu1 _ hx) hv.2⟩,by simp only [Kd,Zf2,hv.2 Sk Zr1];rfl⟩
 ·have hp : 0<s.order.length:=List.length_pos_iff.2 h0
  rw [Ze1 (by omega),Ai]
  have hz:s.order.zip s.desc≠[]:=fun e=>by
   have:=congrArg List.length e
   rw [List.length_zip,Zi1] at this
   omega
  have r2:Rd (Bo [wBY]) D0 Di (hdW wBY) (wBY++[32]) ():=E3 (Adj (by decide +kernel))
  have r3:=Agp (D:=dlm) (S:=No [Q6,Aim]) (fun _=>A3i _) (fun l hl=>Aje (by decide) hl) hz fun p hp=>Bnc (h p.1 (List.of_mem_zip hp).1)
  have r:=Rd.bind (f:=fun _=>Ni A1w) r2 r3 E6 Ci
  have e:[32,79,82,68,69,82,32,66,89,32]++Cc Z4 (s.order.zip s.desc)=(32::(Sk++[32]))++((wBY++[32])++Cc Z4 (s.order.zip s.desc)):=by simp [Sk,wBY]
  rw [e]
  refine(Lx.app (Ap4 (w:=Sk) (by decide +kernel)) r E6).mono (fun _ h=>h) fun ts q vs hv =>?_
  obtain⟨t1,t2,rfl,q1,q2⟩:=q
  rw [Zj1]
  refine⟨A5g (by decide) (by decide) hw (D5 q1 _),?_⟩
  simp only [Kd,D5 q1,D3 q1]
  exact(q2 vs ⟨Abf (fun w hw=>Zu1 _ (hV w (by simp only [List.mem_cons,List.not_mem_nil,or_false] at hw ⊢;exact hw.imp_right fun q =>.inl q))) hv.2,hv.2 _ (Zu1 _ (hV _ (by simp)))⟩).2
theorem Bf4(s:Stm) {r:Str}(h:dlm r):dlm ((obT s++Cc Z4 (s.order.zip s.desc))++r):=by
 unfold obT
 by_cases h0:s.order=[]
 ·rw [h0];exact h
 ·have hp : 0<s.order.length:=List.length_pos_iff.2 h0
  rw [Ze1 (by omega)]
  exact Ad4 _
theorem A9z{s:Stm}(hn:B1 s.name=true) (hl:∀x,x∈s.l→RX x) (hw:WX s) (ho:∀x,x∈s.order→B1 x=true) (hd:s.desc.length=s.order.length) (hm : -1≤s.most∧s.most≤9223372036854775807):Rd N9 dlm Fin Di ((cond (decide ((s.l.length:Int)=0)) [42] []++Cc etx s.l)++((32::(Kr++[32]))++(s.name++(whT s++((obT s++Cc Z4 (s.order.zip s.desc))++Agt s))))) { zS with kind:=8,name:=s.name,l:=s.l,has:=s.has,whr:=s.whr,order:=s.order,desc:=s.desc,most:=s.most }:=by
 have r6:=(Boh hm (V:=[Sk,Q0,Q6,Aim,[44]]) (by decide)).mono (fun _ h=>h) (fun l h=>Atp (by decide) h) (fun _ h=>h)
 have r5:=Bb6 ho hd (V:=[Q0,Q6,Aim,[44]]) (by decide) (fun w hw=>Zu1 _ hw)
 have r4:=Am5 hw (V:=[Q6,Aim,[44]]) (by decide)
 have r2:Rd (Bo [Kr]) D0 Di (hdW Kr) (32::(Kr++[32])) ():=E3 (Ap4 (by decide +kernel))
 have e1:(s.order.zip s.desc).map (·.1)=s.order:=List.map_fst_zip (by omega)
 have e2:(s.order.zip s.desc).map (·.2)=s.desc:=List.map_snd_zip (by omega)
 have hlim:∀r,dlm r→dlm (Agt s++r):=fun r hr=>by unfold Agt;exact Tf hr
 have r:Rd N9 dlm Fin Di ((cond (decide ((s.l.length:Int)=0)) [42] []++Cc etx s.l)++((32::(Kr++[32]))++(s.name++(whT s++((obT s++Cc Z4 (s.order.zip s.desc))++Agt s))))) { zS with kind:=8,name:=s.name,l:=s.l,has:=s.has,whr:=s.whr,order:=(s.order.zip s.desc).map (·.1),desc:=(s.order.zip s.desc).map (·.2),most:=s.most }:=(Bkc hl).bind (D2:=dlm) (T2:=hdW Kr) (r2.bind (D2:=dlm) (T2:=noW) ((G0 hn).bind (D2:=dlm) (T2:=Nx [Q6,Aim,[44]]) (r4.bind (D2:=dlm) (T2:=Nx [Q0,Q6,Aim,[44]]) (r5.bind (D2:=dlm) (T2:=Nx [Sk,Q0,Q6,Aim,[44]]) (r6.map (g:=fun m=>({ zS with kind:=8,name:=s.name,l:=s.l,has:=s.has,whr:=s.whr,order:=(s.order.zip s.desc).map (·.1),desc:=(s.order.zip s.desc).map (·.2),most:=m }:Stm))) hlim (fun _ h=>h)) (fun r hr=>by rw [Zj1];exact Bf4 s (hlim r hr)) (fun _ h=>h)) (fun r hr=>by rw [Zj1,Zj1];exact A25 s (Bf4 s (hlim r hr))) Ci) E6 Ci) (by exact fun r _=>Ad4 _) (fun l h=>⟨Akg (by decide) (by decide) h,Ez (by decide) l h⟩)
 rw [e1,e2] at r
 exact r
def Bn9(l:TL):PR Stm:=match isT Aa1 l with
 |true=>N9 l.tail
 |false =>.error l
def Bj9(l:TL):PR Stm:=match isT Xg l with
 |true=>Xn l.tail
 |false=>Bn9 l
def Bg5(l:TL):PR Stm:=match isT Rl l with
 |true=>M4 l.tail
 |false=>Bj9 l
def A85(l:TL):PR Stm:=match isT M5 l with
 |true=>M0 l.tail
 |false=>Bg5 l
def Awx(l:TL):PR Stm:=match isT Yt l with
 |true=>Afg l.tail
 |false=>A85 l
theorem Bnk:Aqe=fun l=>match isT F5 l with
 |true=>F9 l.tail
 |false=>Awx l:=rfl
theorem A5d{s:Stm}(h:Ko s=true) (hb:BdStm s):Rd Aqe dlm Fin Di (B2 s) s:=by
 obtain⟨⟨hn,hr⟩,hk⟩:=Al7 h
 rw [Bnk]
 rcases hk with ⟨k,c1,c2,c3,c4,c5⟩|k|⟨k,c1,c2,c3⟩|⟨k,c1,c2⟩|⟨k,c1,c2,c3⟩|⟨k,c1⟩|⟨k,c1,c2,c3,c4,c5⟩
 ·have hs:=Bpk hr k
  have ht:B2 s=(F5++[32])++((J4++[32])++Bdk s):=by
   rw [B2,if_pos k,Sn,Bdk,←Bh7 c2]
   simp [F5,J4,F3,Atm]
  rw [ht]
  have r:=N6 (p:=F9) (q:=Awx) (Adj (w:=F5) (by decide +kernel)) (A3c hn c1 c2 c3 c4 (Ah7 c5 hb.l)) E6
  have r:=r.mono (D2:=dlm) E6 (S2:=Fin) Ci (T2:=Di) Ci
  exact Acx r hs.symm
 ·have hs:=Bni hr k
  have ht:B2 s=(Yt++[32])++(if s.kind=2 then(J4++[32])++s.name else(Ga++[32])++s.name):=by
   rw [B2]
   rcases k with k|k<;>rw [k]<;>simp [Yt,J4,Ga]
  rw [ht]
  have r:=E4 (w:=F5) (p:=F9) (q:=Awx) (N6 (w:=Yt) (p:=Afg) (q:=A85) (Adj (by decide +kernel)) (Biy hn k) E6) (Ez (by decide))
  have r:=r.mono (D2:=dlm) (fun _ h=>h) (S2:=Fin) Ci (T2:=Di) Ci
  exact Acx r hs.symm
 ·have hs:=Bo1 hr k
  have ht:B2 s=(F5++[32])++((Ga++[32])++(s.name++((32::(wON++[32]))++(s.on++(32::nmT s.names))))):=by
   rw [B2,if_neg (by omega),if_neg (by omega),if_pos k]
   simp [F5,Ga,wON]
  rw [ht]
  have r:=N6 (p:=F9) (q:=Awx) (Adj (w:=F5) (by decide +kernel)) (A26 hn c1 c2 c3) E6
  have r:=r.mono (D2:=dlm) E6 (S2:=Fin) Ci (T2:=Di) Ci
  exact Acx r hs.symm
 ·have hs:=Bpr hr k
  have ht:B2 s=(M5++[32])++((Acn++[32])++(s.name++((32::(N7++[32]))++Cc Aju s.rows))):=by
   rw [B2,if_neg (by omega),if_neg (by omega),if_neg (by omega),if_neg (by omega),if_pos k]
   simp [M5,Acn,N7]
  rw [ht]
  have r:=E4 (w:=F5) (p:=F9) (q:=Awx) (E4 (w:=Yt) (p:=Afg) (q:=A85) (N6 (w:=M5) (p:=M0) (q:=Bg5) (Adj (by decide +kernel)) (A98 hn c1 fun r hr=>⟨(c2 r hr).1,Ah7 (c2 r hr).2 (hb.rows.2 r hr)⟩) E6) (Ez (by decide))) (Ez (by decide))
  have r:=r.mono (D2:=dlm) (fun _ h=>h) (S2:=Fin) (fun _ h=>h) (T2:=Di) Ci
  exact Acx r hs.symm
 ·have hs:=Bql hr k
  have ht:B2 s=(Rl++[32])++(s.name++((32::(Avy++[32]))++(Cc Al0 s.sets++whT s))):=by
   rw [B2,if_neg (by omega),if_neg (by omega),if_neg (by omega),if_neg (by omega),if_neg (by omega),if_pos k]
   simp [Rl,Avy]
  rw [ht]
  have r:=E4 (w:=F5) (p:=F9) (q:=Awx) (E4 (w:=Yt) (p:=Afg) (q:=A85) (E4 (w:=M5) (p:=M0) (q:=Bg5) (N6 (w:=Rl) (p:=M4) (q:=Bj9) (Adj (by decide +kernel)) (A8o hn c1 (fun x hx=>⟨⟨(c2 x hx).1,(hb.sets.2 x hx).2⟩,(c2 x hx).2⟩) ⟨c3,hb.whr⟩) E6) (Ez (by decide))) (Ez (by decide))) (Ez (by decide))
  have r:=r.mono (D2:=dlm) (fun _ h=>h) (S2:=Fin) (fun _ h=>h) (T2:=Di) Ci
  exact Acx r hs.symm
 ·have hs:=Bpt hr k
  have ht:B2 s=(Xg++[32])++((Kr++[32])++(s.name++whT s)):=by
   rw [B2,if_neg (by omega),if_neg (by omega),if_neg (by omega),if_neg (by omega),if_neg (by omega),if_neg (by omega),if_pos k]
   simp [Xg,Kr]
  rw [ht]
  have r:=E4 (w:=F5) (p:=F9) (q:=Awx) (E4 (w:=Yt) (p:=Afg) (q:=A85) (E4 (w:=M5) (p:=M0) (q:=Bg5) (E4 (w:=Rl) (p:=M4) (q:=Bj9) (N6 (w:=Xg) (p:=Xn) (q:=Bn9) (Adj (by decide +kernel)) (Ba5 hn ⟨c1,hb.whr⟩) E6) (Ez (by decide))) (Ez (by decide))) (Ez (by decide))) (Ez (by decide))
  have r:=r.mono (D2:=dlm) (fun _ h=>h) (S2:=Fin) (fun _ h=>h) (T2:=Di) Ci
  exact Acx r hs.symm
 ·have hs:=Bo8 hr k
  have ht:B2 s=(Aa1++[32])++((cond (decide ((s.l.length:Int)=0)) [42] []++Cc etx s.l)++((32::(Kr++[32]))++(s.name++(whT s++((obT s++Cc Z4 (s.order.zip s.desc))++Agt s))))):=by
   rw [B2,if_neg (by omega),if_neg (by omega),if_neg (by omega),if_neg (by omega),if_neg (by omega),if_neg (by omega),if_neg (by omega)]
   simp [Ar0,Aa1,Kr]
  rw [ht]
  have hm : -1≤s.most∧s.most≤9223372036854775807:=⟨c5,by
   have:=hb.most
   simp only [inI] at this
   exact this.2⟩
  have r:=E4 (w:=F5) (p:=F9) (q:=Awx) (E4 (w:=Yt) (p:=Afg) (q:=A85) (E4 (w:=M5) (p:=M0) (q:=Bg5) (E4 (w:=Rl) (p:=M4) (q:=Bj9) (E4 (w:=Xg) (p:=Xn) (q:=Bn9) (N6 (w:=Aa1) (p:=N9) (q:=fun l =>.error l) (Adj (by decide +kernel)) (A9z hn (Ah7 c1 hb.l) ⟨c2,hb.whr⟩ c3 c4 hm) E6) (Ez (by decide))) (Ez (by decide))) (Ez (by decide))) (Ez (by decide))) (Ez (by decide))
  have r:=r.mono (D2:=dlm) (fun _ h=>h) (S2:=Fin) (fun _ h=>h) (T2:=Di) Ci
  exact Acx r hs.symm
end Go.Proofs.YthndhaolemgbdaaGreatDoor
namespace Go.Proofs.YthndhaolemgbdaaGreatDoor
open Go.Ax
abbrev t0V (nm:Str) (l:TL) (n:Int) (b:Bool) (a:Int) (acc:List Col):C3:=(l,n,b,a,1,nm,[],acc,[],[],[],[],false,0,0,0,[],[],[],[],[],0)
abbrev t1V (nm:Str) (cs:List Col) (ns:List Str) (l:TL) (n:Int) (b:Bool) (a:Int) (acc:List Xpr):C6:=(l,n,b,a,1,nm,[],cs,ns,acc,[],[],false,0,0,0,[],[],[],[],[],0)
def tK1(e:Ex) (v:C6):Option G8:=match e with
 |.exit 2=>(Ao ([[41]],v.1,v.2.1,v.2.2.1,v.2.2.2.1)).bind fun y=>some (y.1,y.2.1,y.2.2.1,y.2.2.2,v.2.2.2.2)
 |_=>none
def tK0(K:Nat) (e:Ex) (v:C3):Option G8:=match e with
 |.exit 0=>(Ao ([[75,69,89]],v.1,v.2.1,v.2.2.1,v.2.2.2.1)).bind fun y=>(Et y).bind fun z=>A0 (fun rec=>C5 rec tK1) K (z.2.1,z.2.2.1,z.2.2.2.1,z.2.2.2.2,v.2.2.2.2.1,v.2.2.2.2.2.1,v.2.2.2.2.2.2.1,v.2.2.2.2.2.2.2.1,z.1,v.2.2.2.2.2.2.2.2.2)
 |_=>none
theorem Bju(l:TL) (n:Int) (b:Bool) (a:Int):Kh (l,n,b,a,z0)=(Bc (l,n,b,a)).bind fun x=>(Ao ([[40]],x.2)).bind fun y=>(Acq y).bind fun z=>A0 (fun rec=>Ei rec (tK0 (l.length+3))) (l.length+3) (t0V x.1 z.2.1 z.2.2.1 z.2.2.2.1 z.2.2.2.2 [z.1]):=by
 have hm:decide (([]:List Col).length+1≤A1)=true:=Ze1 (by simp only [A1,Zi1];omega)
 unfold Kh
 show(Bc (l,n,b,a)).bind _=_
 cases Bc (l,n,b,a) with
 |none=>rfl
 |some x =>
  show(Ao ([[40]],x.2)).bind _=(Ao ([[40]],x.2)).bind _
  cases Ao ([[40]],x.2) with
  |none=>rfl
  |some y =>
   show(N2 y).bind _=(Acq y).bind _
   unfold Acq
   cases N2 y with
   |none=>rfl
   |some c =>
    obtain⟨c,c1,c2,c3,c4⟩:=c
    simp only [Zc1]
    rw [hm]
    show(Ao ([[44]],c1,c2,c3,c4)).bind _=Option.bind ((Ao ([[44]],c1,c2,c3,c4)).bind _) _
    cases Ao ([[44]],c1,c2,c3,c4) with
    |none=>rfl
    |some w =>
     obtain⟨w1,w2,w3,w4⟩:=w
     simp only [Zc1]
     refine congrFun (congrArg (fun kx=>A0 (fun rec=>Ei rec kx) (l.length+3)) ?_) _
     funext e v
     match e with
     |.exit 0 =>
      obtain⟨v0,v1,v2,v3,v4,v5,v6,v7,v8,v9⟩:=v
      show(Ao ([[75,69,89]],v0,v1,v2,v3)).bind _=(Ao ([[75,69,89]],v0,v1,v2,v3)).bind _
      cases Ao ([[75,69,89]],v0,v1,v2,v3) with
      |none=>rfl
      |some y =>
       show(Et y).bind _=(Et y).bind _
       cases Et y with
       |none=>rfl
       |some z =>
        obtain⟨z0,z1,z2,z3,z4⟩:=z
        simp only [Zc1]
        refine congrFun (congrArg (fun kx=>A0 (fun rec=>C5 rec kx) (l.length+3)) ?_) _
        funext e v
        match e with
        |.exit 2=>rfl
        |.exit 0=>rfl
        |.exit 1=>rfl
        |.exit (_+3)=>rfl
        |.ret=>rfl
        |.normal=>rfl
     |.exit (_+1)=>rfl
     |.ret=>rfl
     |.normal=>rfl
section
variable {R:Type}{n:Int}{nm:Str}{cs:List Col}{ns:List Str}
theorem Bqt{kx:Ex→C3→Option R}(rec:C3→Option R) (l:TL) (a:Int) (acc:List Col) (ha:acc.length≤1000000000) (hi:isT F3 l=false):Ei rec kx (t0V nm l n false a acc)=(Acq (l,n,false,a)).bind fun z=>rec (t0V nm z.2.1 z.2.2.1 z.2.2.2.1 z.2.2.2.2 (acc++[z.1])):=by
 have hm:decide (acc.length+1≤A1)=true:=Ze1 (by simp only [A1];omega)
 simp only [Ei,Zs1,Ai,Fg (s:=[80,82,73,77,65,82,89]) hi,Zc1,Acq]
 cases N2 (l,n,false,a) with
 |none=>rfl
 |some x =>
  simp only [Zc1,hm,chk,Ai]
  cases Ao ([[44]],x.2) with
  |none=>rfl
  |some y=>rfl
theorem Bqz{kx:Ex→C3→Option R}(rec:C3→Option R) (l:TL) (a:Int) (acc:List Col) (hi:isT F3 l=true):Ei rec kx (t0V nm l n false a acc)=kx (.exit 0) (t0V nm l.tail n false a acc):=by
 simp only [Ei,Zs1,Ai,Fv (s:=[80,82,73,77,65,82,89]) hi,Zc1,Zt1,Ak]
theorem Bp6{kx:Ex→C3→Option R}(rec:C3→Option R) (l:TL) (a:Int) (acc:List Col):Ei rec kx (t0V nm l n true a acc)=kx (.exit 0) (t0V nm l n true a acc):=by
 simp only [Ei,Zt1,Ak]
theorem Bpw{kx:Ex→C6→Option R}(rec:C6→Option R) (l:TL) (a:Int) (acc:List Xpr) (ha:acc.length≤1000000000) (hi:isT [44] l=true):C5 rec kx (t1V nm cs ns l n false a acc)=(Apl (l.tail,n,false,a)).bind fun z=>rec (t1V nm cs ns z.2.1 z.2.2.1 z.2.2.2.1 z.2.2.2.2 (acc++[z.1])):=by
 have hm:decide (acc.length+1≤A1)=true:=Ze1 (by simp only [A1];omega)
 simp only [C5,Zs1,Ai,Fv hi,Zc1,Apl]
 cases Ao ([[67,72,69,67,75],[40]],l.tail,n,false,a) with
 |none=>rfl
 |some y =>
  simp only [Zc1]
  cases Gk y with
  |none=>rfl
  |some x =>
   simp only [Zc1,hm,decide_true,Bool.and_self,chk,Ai]
   cases Ao ([[41]],x.2) with
   |none=>rfl
   |some y=>rfl
theorem Bo0{kx:Ex→C6→Option R}(rec:C6→Option R) (l:TL) (a:Int) (acc:List Xpr) (hi:isT [44] l=false):C5 rec kx (t1V nm cs ns l n false a acc)=kx (.exit 2) (t1V nm cs ns l n false a acc):=by
 simp only [C5,Zs1,Ai,Fg hi,Zc1,Ak]
theorem Bim{kx:Ex→C6→Option R}(rec:C6→Option R) (l:TL) (a:Int) (acc:List Xpr):C5 rec kx (t1V nm cs ns l n true a acc)=kx (.exit 2) (t1V nm cs ns l n true a acc):=by
 simp only [C5,Zt1,Ak]
end
theorem Bef(nm:Str) (cs:List Col) (ns:List Str) (l:TL) (n b:Int) (acc:List Xpr):Ca (ES n) b (tK1 (.exit 2) (t1V nm cs ns l n true b acc)):=by
 show Ca (ES n) b ((Ao ([[41]],l,n,true,b)).bind fun y=>some (y.1,y.2.1,y.2.2.1,y.2.2.2,1,nm,[],cs,ns,acc,[],[],false,0,0,0,[],[],[],[],[],0))
 exact Ca.must ⟨_,rfl,rfl,rfl,rfl⟩
theorem Blq(K:Nat) (nm:Str) (l:TL) (n b:Int) (acc:List Col):Ca (ES n) b (tK0 (K+1) (.exit 0) (t0V nm l n true b acc)):=by
 show Ca (ES n) b ((Ao ([[75,69,89]],l,n,true,b)).bind fun y=>(Et y).bind fun z=>A0 (fun rec=>C5 rec tK1) (K+1) (t1V nm acc z.1 z.2.1 z.2.2.1 z.2.2.2.1 z.2.2.2.2 []))
 refine Ca.must (Ca.bindS L5 fun ns =>?_)
 show Ca (ES n) b (A0 (fun rec=>C5 rec tK1) (K+1) (t1V nm acc ns l n true b []))
 rw [Br,Bim]
 exact Bef nm acc ns l n b []
theorem A1u(K:Nat) (nm:Str) (l:TL) (n b:Int) (acc:List Col):Ca (ES n) b (A0 (fun rec=>Ei rec (tK0 (K+1))) (K+1) (t0V nm l n true b acc)):=by
 rw [Br,Bp6]
 exact Blq K nm l n b acc
theorem Aum{α:Type}{part:TL→PR α}(he:C7 part) {l l':TL}{x:List α}(h:Ni part l = .ok (x,l')):l'.length<l.length:=by
 simp only [Ni] at h
 cases hq:part l with
 |error q=>rw [hq] at h;cases h
 |ok y =>
  obtain⟨y,l1⟩:=y
  rw [hq] at h
  have h1:=he _ _ _ hq
  have h2:=Ag1 he h
  omega
theorem Bd3{l l':TL}{x:List Str}(h:X0 l = .ok (x,l')):l'.length<l.length:=by
 obtain⟨_,l1,h1,h⟩:=H2 h
 obtain⟨y,l2,h2,h⟩:=H2 h
 obtain⟨_,l3,h3,h⟩:=H2 h
 have q1:=Cr h1
 have q2:=Aum Hn h2
 have q3:=Cr h3
 cases h
 omega
theorem A7b{L:Nat}(hL:L≤1000000000) {l:TL}(hl:l.length<L) (n a:Int):Out (gS n a) (ES n) n (Kh (l,n,false,a,z0)) (Ahg l):=by
 rw [Bju]
 unfold Ahg
 refine Out.bindS (Dd L) hl (fun nm l1 h1 =>?_) (fun nm l1 b=>Ca.must (Ca.bindS Ann fun x=>A1u _ nm l1 n b [x]))
 have q1:=Ka h1
 refine Out.must (by decide) (fun l2 h2 =>?_) (fun l2 b=>Ca.bindS Ann fun x=>A1u _ nm l2 n b [x])
 have q2:=Cr h2
 have e1:∀(f:List Col→TL→PR Stm),bP Av1 f l2=bP Aou (fun x l'=>bP (Py (l'.length+1) [x]) f l') l2:=fun f=>by
  unfold bP Av1
  cases Aou l2 with
  |error q=>rfl
  |ok x=>rfl
 rw [e1]
 refine Out.bindS Alr (show l2.length<L by omega) (fun x l3 h3 =>?_) (fun x l3 b=>A1u _ nm l3 n b [x])
 have q3:l3.length<l2.length:=Acd _ _ _ h3
 have q4:[x].length+l3.length≤1000000000:=by simp only [Zf1,Zi1];omega
 have hc:=Ap0 (L:=L) (step:=fun rec=>Ei rec (tK0 (l.length+3))) (st:=t0V nm) (n:=n) (c:=fun acc l' b a=>tK0 (l.length+3) (.exit 0) (t0V nm l' n b a acc)) (fun rec l a acc ha hi=>Bqt rec l a acc ha hi) (fun rec l a acc hi=>Bqz rec l a acc hi) (fun rec l a acc=>Bp6 rec l a acc) a (l.length+3) (l3.length+1) [x] l3 (by omega) (by omega) (by omega) q4
 show Out _ _ _ (A0 (fun rec=>Ei rec (tK0 (l.length+3))) (l.length+3) (t0V nm l3 n false a [x])) _
 have ht1:∀(cs:List Col) (ns:List Str) (l':TL) (b:Int),Ca (ES n) b (A0 (fun rec=>C5 rec tK1) (l.length+3) (t1V nm cs ns l' n true b [])):=fun cs ns l' b=>by
  rw [Br,Bim]
  exact Bef nm cs ns l' n b []
 unfold bP
 cases hq:Py (l3.length+1) [x] l3 with
 |error q =>
  rw [hq] at hc
  obtain⟨e,l',h⟩:=hc
  rw [h]
  exact Blq _ nm l' n (Jz n q) e
 |ok y =>
  obtain⟨cs,l4⟩:=y
  rw [hq] at hc
  simp only at hc
  rw [hc]
  have q5:=Arn hq
  show Out _ _ _ ((Ao ([[75,69,89]],l4,n,false,a)).bind fun y=>(Et y).bind fun z=>A0 (fun rec=>C5 rec tK1) (l.length+3) (t1V nm cs z.1 z.2.1 z.2.2.1 z.2.2.2.1 z.2.2.2.2 [])) (bP (Bo [Atm]) (fun _=>bP X0 fun ns=>bP (fun l=>Bz At0 (l.length+1) [] l) fun es=>bP (Bo [[41]]) fun _=>Ey { zS with kind:=1,name:=nm,cols:=cs,names:=ns,l:=es }) l4)
  refine Out.must (by decide) (fun l5 h5 =>?_) (fun l5 b=>Ca.bindS L5 fun ns=>ht1 cs ns l5 b)
  have q6:=Cr h5
  refine Out.bindS (Apv hL) (show l5.length<L by omega) (fun ns l6 h6 =>?_) (fun ns l6 b=>ht1 cs ns l6 b)
  have q7:=Bd3 h6
  have q8:([]:List Xpr).length+l6.length≤1000000000:=by simp only [Zi1];omega
  show Out _ _ _ (A0 (fun rec=>C5 rec tK1) (l.length+3) (t1V nm cs ns l6 n false a [])) (bP (Bz At0 (l6.length+1) []) _ l6)
  refine Out.loop (a:=a) (fun acc l b a=>tK1 (.exit 2) (t1V nm cs ns l n b a acc))
   (Aua (step:=fun rec=>C5 rec tK1) (st:=t1V nm cs ns) (n:=n) (c:=fun acc l b a=>tK1 (.exit 2) (t1V nm cs ns l n b a acc)) (Axn hL) Auw (fun rec l a acc ha hi=>Bpw rec l a acc ha hi) (fun rec l a acc hi=>Bo0 rec l a acc hi) (fun rec l a acc=>Bim rec l a acc) (a:=a) (k:=l.length+3) (m:=l6.length+1) (acc:=[]) (l:=l6) (by omega) (by omega) (by omega) q8)
   (Atg (step:=fun rec=>C5 rec tK1) (st:=t1V nm cs ns) (n:=n) (c:=fun acc l b a=>tK1 (.exit 2) (t1V nm cs ns l n b a acc)) (Axn hL) Auw (fun rec l a acc ha hi=>Bpw rec l a acc ha hi) (fun rec l a acc hi=>Bo0 rec l a acc hi) (fun rec l a acc=>Bim rec l a acc) (a:=a) (k:=l.length+3) (m:=l6.length+1) (acc:=[]) (l:=l6) (by omega) (by omega) (by omega) q8) (fun es l7 h7 =>?_) (fun es l7 b=>Bef nm cs ns l7 n b es)
  show Out _ _ _ ((Ao ([[41]],l7,n,false,a)).bind fun y=>some (y.1,y.2.1,y.2.2.1,y.2.2.2,1,nm,[],cs,ns,es,[],[],false,0,0,0,[],[],[],[],[],0)) _
  exact Out.must (by decide) (fun l8 _=>rfl) (fun l8 b=>⟨_,rfl,rfl,rfl,rfl⟩)
end Go.Proofs.YthndhaolemgbdaaGreatDoor
namespace Go.Proofs.YthndhaolemgbdaaGreatDoor
open Go.Ax
theorem Bqc(x:Option G8):(x.bind fun(x5,x6,x7,x8,x9,x10,x11,x12,x13,x14,x15,x16,x17,x18,x19,x20,x21,x22,x23,x24,x25,x26)=>some (x5,x6,x7,x8,x9,x10,x11,x12,x13,x14,x15,x16,x17,x18,x19,x20,x21,x22,x23,x24,x25,x26))=x:=by cases x<;>rfl
theorem A2a{L:Nat}(hL:L≤1000000000) {l:TL}(hl:l.length<L) (n a:Int):Out (gS n a) (ES n) n (Ta (l,n,false,a,z0)) (F9 l):=by
 unfold Ta F9
 have ht:=Bj l
 cases hi:isT J4 l with
 |true =>
  show Out _ _ _ ((A5 ([84,65,66,76,69],l,n,false,a)).bind _) _
  rw [Fv (s:=[84,65,66,76,69]) hi]
  show Out _ _ _ ((Kh (l.tail,n,false,a,z0)).bind _) _
  rw [show((Kh (l.tail,n,false,a,z0)).bind _)=Kh (l.tail,n,false,a,z0) from Bqc _]
  exact A7b hL (by omega) n a
 |false =>
  show Out _ _ _ ((A5 ([84,65,66,76,69],l,n,false,a)).bind _) _
  rw [Fg (s:=[84,65,66,76,69]) hi]
  show Out _ _ _ ((Ao ([[73,78,68,69,88]],l,n,false,a)).bind _) (Ahn l)
  unfold Ahn
  refine Out.must (by decide) (fun l1 h1 =>?_) (fun l1 b=>Ca.bindS Fi fun x=>Ca.must (Ca.bindS Fi fun y=>Ca.bindS L5 fun z=>⟨_,rfl,rfl,rfl,rfl⟩))
  have q1:=Cr h1
  refine Out.bindS (Dd L) (show l1.length<L by omega) (fun x l2 h2 =>?_) (fun x l2 b=>Ca.must (Ca.bindS Fi fun y=>Ca.bindS L5 fun z=>⟨_,rfl,rfl,rfl,rfl⟩))
  have q2:=Ka h2
  refine Out.must (by decide) (fun l3 h3 =>?_) (fun l3 b=>Ca.bindS Fi fun y=>Ca.bindS L5 fun z=>⟨_,rfl,rfl,rfl,rfl⟩)
  have q3:=Cr h3
  refine Out.bindS (Dd L) (show l3.length<L by omega) (fun y l4 h4 =>?_) (fun y l4 b=>Ca.bindS L5 fun z=>⟨_,rfl,rfl,rfl,rfl⟩)
  have q4:=Ka h4
  exact Out.bindS (Apv hL) (show l4.length<L by omega) (fun z l5 h5=>rfl) (fun z l5 b=>⟨_,rfl,rfl,rfl,rfl⟩)
end Go.Proofs.YthndhaolemgbdaaGreatDoor
namespace Go.Proofs.YthndhaolemgbdaaGreatDoor
open Go.Ax
def Aqh(x:Str×RS):Option ((Str×Bool)×RS):=cond (!x.2.2.2.1) ((A5 ([68,69,83,67],x.2)).bind fun z=>cond (!z.2.2.2.1) (cond (!z.1) ((A5 ([65,83,67],z.2)).bind fun y=>some ((x.1,z.1),y.2)) (some ((x.1,z.1),z.2))) (some ((x.1,z.1),z.2))) (cond (!x.2.2.2.1) ((A5 ([65,83,67],x.2)).bind fun y=>some ((x.1,false),y.2)) (some ((x.1,false),x.2)))
def Ajs(s:RS):Option ((Str×Bool)×RS):=(Bc s).bind Aqh
theorem A4q(nm:Str) (l:TL) (n a:Int):Aqh (nm,l,n,true,a)=some ((nm,false),l,n,true,a):=rfl
theorem A5l(nm:Str) (l:TL) (n a:Int):∃d l',Are l = .ok (d,l')∧l'.length≤l.length∧Aqh (nm,l,n,false,a)=some ((nm,d),l',n,false,a):=by
 have ht:=Bj l
 unfold Aqh Are
 simp only [Zs1,Ai]
 cases hd:isT Q6 l with
 |true =>
  rw [Fv (s:=[68,69,83,67]) hd]
  exact⟨true,l.tail,rfl,ht,rfl⟩
 |false =>
  rw [Fg (s:=[68,69,83,67]) hd]
  simp only [Zc1,Zs1,Ai]
  cases ha:isT Aim l with
  |true =>
   rw [Fv (s:=[65,83,67]) ha]
   exact⟨false,l.tail,rfl,ht,rfl⟩
  |false =>
   rw [Fg (s:=[65,83,67]) ha]
   exact⟨false,l,rfl,Zn1 _,rfl⟩
theorem A51:Kw Ajs:=fun l n a=>by
 obtain⟨e1,h1⟩:=Fi l n a
 simp only [Ajs,h1,Zc1,A4q]
 exact⟨_,rfl⟩
theorem Atx{L:Nat}:SimP Ajs A1w L :=.of (fun l n a hl=>by
 unfold Ajs A1w
 refine Out.bindS (Dd L) hl (fun nm l1 h1 =>?_) (fun nm l1 b=>⟨_,A4q nm l1 n b,rfl,rfl,rfl⟩)
 obtain⟨d,l2,h2,_,h3⟩:=A5l nm l1 n a
 rw [h3]
 unfold bP
 rw [h2]
 exact rfl) A51
theorem Amp:C7 A1w:=fun l e l' h=>by
 obtain⟨nm,l1,h1,h⟩:=H2 h
 obtain⟨d,l2,h2,h⟩:=H2 h
 have q1:=Ka h1
 obtain⟨d',l3,h3,q3,_⟩:=A5l nm l1 0 0
 rw [h2] at h3
 cases h3
 cases h
 omega
def M1(c:Cl) (m:Int):Cl:=(c.1,c.2.1,c.2.2.1,c.2.2.2.1,c.2.2.2.2.1,c.2.2.2.2.2.1,c.2.2.2.2.2.2.1,c.2.2.2.2.2.2.2.1,c.2.2.2.2.2.2.2.2.1,c.2.2.2.2.2.2.2.2.2.1,c.2.2.2.2.2.2.2.2.2.2.1,c.2.2.2.2.2.2.2.2.2.2.2.1,c.2.2.2.2.2.2.2.2.2.2.2.2.1,c.2.2.2.2.2.2.2.2.2.2.2.2.2.1,c.2.2.2.2.2.2.2.2.2.2.2.2.2.2.1,c.2.2.2.2.2.2.2.2.2.2.2.2.2.2.2.1,c.2.2.2.2.2.2.2.2.2.2.2.2.2.2.2.2.1,m)
def Aov(s:RS) (c:Cl):Option Cf:=cond (!s.2.2.1) ((A5 ([76,73,77,73,84],s)).bind fun z=>cond z.1 ((Fe z.2).bind fun t=>cond (!decide (t.1.kind=3)) ((C2 t.2).bind fun y=>(C0 y).bind fun u=>some (u.2.1,u.2.2.1,u.2.2.2.1,u.2.2.2.2,M1 c u.1.n)) ((C0 t.2).bind fun u=>some (u.2.1,u.2.2.1,u.2.2.2.1,u.2.2.2.2,M1 c u.1.n))) (some (z.2.1,z.2.2.1,z.2.2.2.1,z.2.2.2.2,c))) (some (s.1,s.2.1,s.2.2.1,s.2.2.2,c))
theorem A2r(l:TL) (n b:Int) (c:Cl):Ca (ES n) b (Aov (l,n,true,b) c):=⟨_,rfl,rfl,rfl,rfl⟩
theorem Bcz(l:TL) (n a:Int) (c:Cl) (hc:M1 c (-1)=c):Out (fun(m:Int) l'=>((l',n,false,a,M1 c m):TL×Int×Bool×Int×Cl)) (ES n) n (Aov (l,n,false,a) c) (Hj l):=by
 unfold Aov Hj
 simp only [Zs1,Ai]
 cases hi:isT Adl l with
 |false =>
  rw [Fg (s:=[76,73,77,73,84]) hi]
  show some (l,n,false,a,c)=some (l,n,false,a,M1 c (-1))
  rw [hc]
 |true =>
  rw [Fv (s:=[76,73,77,73,84]) hi]
  simp only [Zc1,Ai]
  cases hl:l.tail with
  |nil=>exact⟨_,rfl,rfl,rfl,rfl⟩
  |cons t r =>
   rw [Asm]
   simp only [Zc1,A5j]
   cases hk:decide (t.kind=3) with
   |true =>
    simp only [Zt1,Ak,As8,Zc1]
    exact rfl
   |false =>
    simp only [Zs1,Ai,Ab1,As8,Zc1]
    exact⟨_,rfl,rfl,rfl,rfl⟩
end Go.Proofs.YthndhaolemgbdaaGreatDoor
namespace Go.Proofs.YthndhaolemgbdaaGreatDoor
open Go.Ax
def Uw(c:Cl) (o:List Str) (d:List Bool):Cl:=(c.1,c.2.1,c.2.2.1,c.2.2.2.1,c.2.2.2.2.1,c.2.2.2.2.2.1,c.2.2.2.2.2.2.1,c.2.2.2.2.2.2.2.1,c.2.2.2.2.2.2.2.2.1,c.2.2.2.2.2.2.2.2.2.1,c.2.2.2.2.2.2.2.2.2.2.1,c.2.2.2.2.2.2.2.2.2.2.2.1,c.2.2.2.2.2.2.2.2.2.2.2.2.1,c.2.2.2.2.2.2.2.2.2.2.2.2.2.1,c.2.2.2.2.2.2.2.2.2.2.2.2.2.2.1,o,d,c.2.2.2.2.2.2.2.2.2.2.2.2.2.2.2.2.2)
def sKx(e:Ex) (v:Cb):Option Cf:=match e with
 |.exit 0=>Aov (v.1,v.2.1,v.2.2.1,v.2.2.2.1) v.2.2.2.2
 |_=>none
def Ai6(K:Nat) (s:RS) (c:Cl):Option Cf:=match s,c with
 |(x19,x20,x21,x22),(x23,x24,x25,x26,x27,x28,x29,x30,x31,x32,x33,x34,x35,x36,x37,x38,x39,x40) =>
  let j1:=fun(q156:List Tok) (q157:Int) (q158:Bool) (q159:Int) (q160:List Bool) (o:List Str)=>A0 (fun rec=>B4 rec sKx) K (q156,q157,q158,q159,x23,x24,x25,x26,x27,x28,x29,x30,x31,x32,x33,x34,x35,x36,x37,o,q160,x40)
  cond (!x21) (
    (A5 ([79,82,68,69,82],x19,x20,x21,x22)).bind fun(x41,x42,x43,x44,x45) =>
    cond (x41) (
     (Ao ([[66,89]],x42,x43,x44,x45)).bind fun(x135,x136,x137,x138) =>
     (Bc (x135,x136,x137,x138)).bind fun(x139,x140,x141,x142,x143) =>
      chk (decide (x38.length+1≤A1)) (
      cond (!x142) (
       (A5 ([68,69,83,67],x140,x141,x142,x143)).bind fun(x144,x145,x146,x147,x148) =>
       cond (!x147) (
        cond (!x144) (
        (A5 ([65,83,67],x145,x146,x147,x148)).bind fun(_,x165,x166,x167,x168) =>
         chk (decide (x39.length+1≤A1)) (
         j1 x165 x166 x167 x168 (x39++[x144]) (x38++[x139]))) (
        chk (decide (x39.length+1≤A1)) (
         j1 x145 x146 x147 x148 (x39++[x144]) (x38++[x139])))) (
        chk (decide (x39.length+1≤A1)) (
        j1 x145 x146 x147 x148 (x39++[x144]) (x38++[x139])))) (
       cond (!x142) (
       (A5 ([65,83,67],x140,x141,x142,x143)).bind fun(_,x175,x176,x177,x178) =>
        chk (decide (x39.length+1≤A1)) (
        j1 x175 x176 x177 x178 (x39++[false]) (x38++[x139]))) (
       chk (decide (x39.length+1≤A1)) (
        j1 x140 x141 x142 x143 (x39++[false]) (x38++[x139])))))) (
     Aov (x42,x43,x44,x45) (x23,x24,x25,x26,x27,x28,x29,x30,x31,x32,x33,x34,x35,x36,x37,x38,x39,x40))) (
    Aov (x19,x20,x21,x22) (x23,x24,x25,x26,x27,x28,x29,x30,x31,x32,x33,x34,x35,x36,x37,x38,x39,x40))
def A2u(K:Nat) (s:RS) (es:List Xpr):Option Cf:=(Ao ([[70,82,79,77]],s)).bind fun y=>(Bc y).bind fun x=>(C4 (x.2.1,x.2.2.1,x.2.2.2.1,x.2.2.2.2,8,x.1,[],[],[],es,[],[],false,0,0,0,[],[],[],[],[],(-1))).bind fun r=>Ai6 K (r.1,r.2.1,r.2.2.1,r.2.2.2.1) r.2.2.2.2
theorem Bkw(l:TL) (n:Int) (b:Bool) (a:Int):I5 (l,n,b,a,z0)=(A5 ([42],l,n,b,a)).bind fun x=>cond (!x.1) ((Ds x.2).bind fun e=>A2u (l.length+3) e.2 e.1) (A2u (l.length+3) x.2 []):=by
 have hk:∀(e:Ex) (v:Cb),(match v with|(v22,v23,v24,v25,v26,v27,v28,v29,v30,v31,v32,v33,v34,v35,v36,v37,v38,v39,v40,v41,v42,v43)=>match e with
   |.exit 0=>Aov (v22,v23,v24,v25) (v26,v27,v28,v29,v30,v31,v32,v33,v34,v35,v36,v37,v38,v39,v40,v41,v42,v43)
   |_=>none:Option Cf)=sKx e v:=fun e v=>by
  match e with
  |.exit 0=>rfl
  |.exit (_+1)=>rfl
  |.ret=>rfl
  |.normal=>rfl
 have hk2:=funext fun e=>funext fun v=>hk e v
 unfold I5 A2u Ai6
 rw [←hk2]
 rfl
abbrev stO (c:Cl) (l:TL) (n:Int) (b:Bool) (a:Int) (acc:List (Str×Bool)):Cb:=(l,n,b,a,Uw c (acc.map (·.1)) (acc.map (·.2)))
section
variable {R:Type}{kx:Ex→Cb→Option R}{n:Int}{c:Cl}
theorem Bpn(rec:Cb→Option R) (l:TL) (a:Int) (o:List Str) (d:List Bool) (ho:o.length≤1000000000) (hd:d.length≤1000000000) (hi:isT [44] l=true):B4 rec kx (l,n,false,a,Uw c o d)=(Ajs (l.tail,n,false,a)).bind fun z=>rec (z.2.1,z.2.2.1,z.2.2.2.1,z.2.2.2.2,Uw c (o++[z.1.1]) (d++[z.1.2])):=by
 have hm1:decide (o.length+1≤A1)=true:=Ze1 (by simp only [A1];omega)
 have hm2:decide (d.length+1≤A1)=true:=Ze1 (by simp only [A1];omega)
 obtain⟨c1,c2,c3,c4,c5,c6,c7,c8,c9,c10,c11,c12,c13,c14,c15,c16,c17,c18⟩:=c
 show B4 rec kx (l,n,false,a,c1,c2,c3,c4,c5,c6,c7,c8,c9,c10,c11,c12,c13,c14,c15,o,d,c18)=(Ajs (l.tail,n,false,a)).bind fun z=>rec (z.2.1,z.2.2.1,z.2.2.2.1,z.2.2.2.2,c1,c2,c3,c4,c5,c6,c7,c8,c9,c10,c11,c12,c13,c14,c15,o++[z.1.1],d++[z.1.2],c18)
 simp only [B4,Zs1,Ai,Fv hi,Zc1,Ajs,hm1,hm2,chk]
 cases Bc (l.tail,n,false,a) with
 |none=>rfl
 |some x =>
  obtain⟨x1,x2,x3,x4,x5⟩:=x
  simp only [Zc1,Aqh]
  cases x4 with
  |true=>rfl
  |false =>
   simp only [Zs1,Ai]
   cases A5 ([68,69,83,67],x2,x3,false,x5) with
   |none=>rfl
   |some z =>
    obtain⟨z1,z2,z3,z4,z5⟩:=z
    simp only [Zc1]
    cases z4 with
    |true=>rfl
    |false =>
     simp only [Zs1,Ai]
     cases z1 with
     |true=>rfl
     |false =>
      simp only [Zs1,Ai]
      cases A5 ([65,83,67],z2,z3,false,z5)<;>rfl
theorem o_g(rec:Cb→Option R) (l:TL) (a:Int) (acc:List (Str×Bool)) (ha:acc.length≤1000000000) (hi:isT [44] l=true):B4 rec kx (stO c l n false a acc)=(Ajs (l.tail,n,false,a)).bind fun z=>rec (stO c z.2.1 z.2.2.1 z.2.2.2.1 z.2.2.2.2 (acc++[z.1])):=by
 have e1:∀x:Str×Bool,(acc++[x]).map (·.1)=acc.map (·.1)++[x.1]:=fun x=>by simp
 have e2:∀x:Str×Bool,(acc++[x]).map (·.2)=acc.map (·.2)++[x.2]:=fun x=>by simp
 have h:=Bpn (kx:=kx) (n:=n) (c:=c) rec l a (acc.map (·.1)) (acc.map (·.2)) (by rw [List.length_map];exact ha) (by rw [List.length_map];exact ha) hi
 simp only [stO,e1,e2]
 exact h
theorem o_f(rec:Cb→Option R) (l:TL) (a:Int) (acc:List (Str×Bool)) (hi:isT [44] l=false):B4 rec kx (stO c l n false a acc)=kx (.exit 0) (stO c l n false a acc):=by
 simp only [B4,Uw,Zs1,Ai,Fg hi,Zc1,Ak]
 rfl
theorem o_b(rec:Cb→Option R) (l:TL) (a:Int) (acc:List (Str×Bool)):B4 rec kx (stO c l n true a acc)=kx (.exit 0) (stO c l n true a acc):=by
 simp only [B4,Uw,Zt1,Ak]
 rfl
end
theorem A9e(K:Nat) (l:TL) (n a:Int) (c:Cl):Ai6 K (l,n,false,a) (Uw c [] [])=(A5 ([79,82,68,69,82],l,n,false,a)).bind fun z=>cond z.1 ((Ao ([[66,89]],z.2)).bind fun y=>(Ajs y).bind fun x=>A0 (fun rec=>B4 rec sKx) K (stO c x.2.1 x.2.2.1 x.2.2.2.1 x.2.2.2.2 [x.1])) (Aov z.2 (Uw c [] [])):=by
 have hm1:decide (([]:List Str).length+1≤A1)=true:=Ze1 (by simp only [A1,Zi1];omega)
 have hm2:decide (([]:List Bool).length+1≤A1)=true:=Ze1 (by simp only [A1,Zi1];omega)
 obtain⟨c1,c2,c3,c4,c5,c6,c7,c8,c9,c10,c11,c12,c13,c14,c15,c16,c17,c18⟩:=c
 show Ai6 K (l,n,false,a) (c1,c2,c3,c4,c5,c6,c7,c8,c9,c10,c11,c12,c13,c14,c15,[],[],c18)=(A5 ([79,82,68,69,82],l,n,false,a)).bind fun z=>cond z.1 ((Ao ([[66,89]],z.2)).bind fun y=>(Ajs y).bind fun x=>A0 (fun rec=>B4 rec sKx) K (x.2.1,x.2.2.1,x.2.2.2.1,x.2.2.2.2,c1,c2,c3,c4,c5,c6,c7,c8,c9,c10,c11,c12,c13,c14,c15,[x.1.1],[x.1.2],c18)) (Aov z.2 (c1,c2,c3,c4,c5,c6,c7,c8,c9,c10,c11,c12,c13,c14,c15,[],[],c18))
 simp only [Ai6,Zs1,Ai,hm1,hm2,chk]
 cases A5 ([79,82,68,69,82],l,n,false,a) with
 |none=>rfl
 |some q =>
  obtain⟨q1,q2,q3,q4,q5⟩:=q
  simp only [Zc1]
  cases q1 with
  |false=>rfl
  |true =>
   simp only [Ai]
   cases Ao ([[66,89]],q2,q3,q4,q5) with
   |none=>rfl
   |some y =>
    obtain⟨y1,y2,y3,y4⟩:=y
    simp only [Zc1,Ajs]
    cases Bc (y1,y2,y3,y4) with
    |none=>rfl
    |some x =>
     obtain⟨x1,x2,x3,x4,x5⟩:=x
     simp only [Zc1,Aqh]
     cases x4 with
     |true=>rfl
     |false =>
      simp only [Zs1,Ai]
      cases A5 ([68,69,83,67],x2,x3,false,x5) with
      |none=>rfl
      |some z =>
       obtain⟨z1,z2,z3,z4,z5⟩:=z
       simp only [Zc1]
       cases z4 with
       |true=>rfl
       |false =>
        simp only [Zs1,Ai]
        cases z1 with
        |true=>rfl
        |false =>
         simp only [Zs1,Ai]
         cases A5 ([65,83,67],z2,z3,false,z5)<;>rfl
theorem A3u(K:Nat) (l:TL) (n b:Int) (c:Cl):Ca (ES n) b (Ai6 K (l,n,true,b) c):=by
 obtain⟨c1,c2,c3,c4,c5,c6,c7,c8,c9,c10,c11,c12,c13,c14,c15,c16,c17,c18⟩:=c
 exact A2r l n b _
end Go.Proofs.YthndhaolemgbdaaGreatDoor
namespace Go.Proofs.YthndhaolemgbdaaGreatDoor
open Go.Ax
theorem Ak1(K:Nat) (c:Cl) (l:TL) (n b:Int) (acc:List (Str×Bool)):Ca (ES n) b (A0 (fun rec=>B4 rec sKx) (K+1) (stO c l n true b acc)):=by
 rw [Br,o_b]
 exact A2r l n b _
theorem A04(c:Cl) (o:List Str) (d:List Bool) (h:M1 c (-1)=c):M1 (Uw c o d) (-1)=Uw c o d:=by
 obtain⟨c1,c2,c3,c4,c5,c6,c7,c8,c9,c10,c11,c12,c13,c14,c15,c16,c17,c18⟩:=c
 have h18:(-1:Int)=c18:=congrArg (fun z:Cl=>z.2.2.2.2.2.2.2.2.2.2.2.2.2.2.2.2.2) h
 show(c1,c2,c3,c4,c5,c6,c7,c8,c9,c10,c11,c12,c13,c14,c15,o,d,(-1:Int))=(c1,c2,c3,c4,c5,c6,c7,c8,c9,c10,c11,c12,c13,c14,c15,o,d,c18)
 rw [←h18]
theorem Bf8{L:Nat}(hL:L≤1000000000) {K:Nat}{l:TL}(hl:l.length<L) (hK:l.length<K) (n a:Int) (c:Cl) (hm:M1 c (-1)=c):Out (fun(r:List (Str×Bool)×Int) l'=>((l',n,false,a,M1 (Uw c (r.1.map (·.1)) (r.1.map (·.2))) r.2):TL×Int×Bool×Int×Cl)) (ES n) n (Ai6 (K+1) (l,n,false,a) (Uw c [] [])) (bP Kd (fun o=>bP Hj fun m=>Ey (o,m)) l):=by
 rw [A9e]
 have ht:=Bj l
 have hlim:∀(o:List (Str×Bool)) (l':TL) (a:Int),Out (fun(r:List (Str×Bool)×Int) l'=>((l',n,false,a,M1 (Uw c (r.1.map (·.1)) (r.1.map (·.2))) r.2):TL×Int×Bool×Int×Cl)) (ES n) n (Aov (l',n,false,a) (Uw c (o.map (·.1)) (o.map (·.2)))) (bP Hj (fun m=>Ey (o,m)) l'):=fun o l' a =>
  Out.map (Bcz l' n a _ (A04 c _ _ hm)) (fun m l2=>rfl)
 cases hi:isT Sk l with
 |false =>
  rw [Fg (s:=[79,82,68,69,82]) hi]
  have e:bP Kd (fun o=>bP Hj fun m=>Ey (o,m)) l=bP Hj (fun m=>Ey ([],m)) l:=by
   unfold bP Kd
   simp only [hi]
  rw [e]
  exact hlim [] l a
 |true =>
  rw [Fv (s:=[79,82,68,69,82]) hi]
  have e:bP Kd (fun o=>bP Hj fun m=>Ey (o,m)) l=bP (Bo [wBY]) (fun _=>bP (Ni A1w) fun o=>bP Hj fun m=>Ey (o,m)) l.tail:=by
   unfold bP Kd
   simp only [hi]
   unfold bP
   cases Bo [wBY] l.tail<;>rfl
  rw [e]
  show Out _ _ _ ((Ao ([[66,89]],l.tail,n,false,a)).bind fun y=>(Ajs y).bind fun x=>A0 (fun rec=>B4 rec sKx) (K+1) (stO c x.2.1 x.2.2.1 x.2.2.2.1 x.2.2.2.2 [x.1])) _
  refine Out.must (by decide) (fun l1 h1 =>?_) (fun l1 b=>Ca.bindS A51 fun x=>Ak1 K c l1 n b [x])
  have q1:=Cr h1
  rw [Abr]
  refine Out.bindS (Atx (L:=L)) (show l1.length<L by omega) (fun x l2 h2 =>?_) (fun x l2 b=>Ak1 K c l2 n b [x])
  have q2:l2.length<l1.length:=Amp _ _ _ h2
  have q3:[x].length+l2.length≤1000000000:=by simp only [Zf1,Zi1];omega
  refine Out.loop (a:=a) (fun acc l b a=>sKx (.exit 0) (stO c l n b a acc))
   (Aua (step:=fun rec=>B4 rec sKx) (st:=stO c) (n:=n) (c:=fun acc l b a=>sKx (.exit 0) (stO c l n b a acc)) (Atx (L:=L)) Amp (fun rec l a acc ha hi=>o_g rec l a acc ha hi) (fun rec l a acc hi=>o_f rec l a acc hi) (fun rec l a acc=>o_b rec l a acc) (a:=a) (k:=K+1) (m:=l2.length+1) (acc:=[x]) (l:=l2) (by omega) (by omega) (by omega) q3)
   (Atg (step:=fun rec=>B4 rec sKx) (st:=stO c) (n:=n) (c:=fun acc l b a=>sKx (.exit 0) (stO c l n b a acc)) (Atx (L:=L)) Amp (fun rec l a acc ha hi=>o_g rec l a acc ha hi) (fun rec l a acc hi=>o_f rec l a acc hi) (fun rec l a acc=>o_b rec l a acc) (a:=a) (k:=K+1) (m:=l2.length+1) (acc:=[x]) (l:=l2) (by omega) (by omega) (by omega) q3) (fun o l3 h3 =>?_) (fun o l3 b=>A2r l3 n b _)
  exact hlim o l3 a
end Go.Proofs.YthndhaolemgbdaaGreatDoor
namespace Go.Proofs.YthndhaolemgbdaaGreatDoor
open Go.Ax
theorem Out.bindO{α β γ δ:Type}{g : α→TL→γ}{E:Int→γ→Prop}{g' : β→TL→δ}{E':Int→δ→Prop}{n:Int}{x:Option γ}{p:TL→PR α}{l:TL}(ho:Out g E n x (p l)) {G : γ→Option δ}{f : α→TL→PR β}(h1:∀r l',p l = .ok (r,l')→Out g' E' n (G (g r l')) (f r l')) (h2:∀b z,E b z→Ca E' b (G z)):Out g' E' n (x.bind G) (bP p f l):=by
 unfold bP
 cases hq:p l with
 |error q =>
  rw [hq] at ho
  obtain⟨z,hz,he⟩:=ho
  rw [hz]
  exact h2 _ z he
 |ok y =>
  obtain⟨r,l'⟩:=y
  rw [hq] at ho
  have ho:x=some (g r l'):=ho
  rw [ho]
  exact h1 r l' hq
theorem Bby{l l':TL}{w:Bool×Xpr}(h:Ki l = .ok (w,l')):l'.length≤l.length:=by
 unfold Ki at h
 have ht:=Bj l
 cases hi:isT Q0 l with
 |false=>rw [hi] at h;cases h;exact Zn1 _
 |true =>
  rw [hi] at h
  simp only at h
  cases hq:orW l.tail with
  |error q=>rw [hq] at h;cases h
  |ok x =>
   obtain⟨x,l1⟩:=x
   rw [hq] at h
   cases h
   have:=H0 _ _ _ hq
   omega
theorem As3(K:Nat) (es:List Xpr) (nm:Str) (l:TL) (n b:Int):Ca (ES n) b ((C4 (l,n,true,b,8,nm,[],[],[],es,[],[],false,0,0,0,[],[],[],[],[],(-1))).bind fun r=>Ai6 K (r.1,r.2.1,r.2.2.1,r.2.2.2.1) r.2.2.2.2):=by
 rw [Akr]
 exact A3u K l n b (8,nm,[],[],[],es,[],[],false,0,0,0,[],[],[],[],[],(-1))
theorem Bm8(K:Nat) (es:List Xpr) (l:TL) (n b:Int):Ca (ES n) b (A2u K (l,n,true,b) es):=Ca.must (Ca.bindS Fi fun nm=>As3 K es nm l n b)
def Bki(es:List Xpr) (nm:Str) (w:Bool×Xpr) (o:List (Str×Bool)) (m:Int):Stm:={ zS with kind:=8,name:=nm,l:=es,has:=w.1,whr:=w.2,order:=o.map (·.1),desc:=o.map (·.2),most:=m }
theorem Ayj{L:Nat}(hL:L≤1000000000) {K:Nat}{l:TL}(hl:l.length<L) (hK:l.length<K) (n a:Int) (es:List Xpr):Out (gS n a) (ES n) n (A2u (K+1) (l,n,false,a) es) (bP (Bo [Kr]) (fun _=>bP Cq fun nm=>bP Ki fun w=>bP Kd fun o=>bP Hj fun m=>Ey (Bki es nm w o m)) l):=by
 unfold A2u
 refine Out.must (by decide) (fun l1 h1 =>?_) (fun l1 b=>Ca.bindS Fi fun nm=>As3 (K+1) es nm l1 n b)
 have q1:=Cr h1
 refine Out.bindS (Dd L) (show l1.length<L by omega) (fun nm l2 h2 =>?_) (fun nm l2 b=>As3 (K+1) es nm l2 n b)
 have q2:=Ka h2
 refine Out.bindO (Ahx hL n a 8 nm [] [] [] es [] [] [] [] (-1) (show l2.length<L by omega)) (fun w l3 h3 =>?_) (fun b z hz =>?_)
 ·have q3:=Bby h3
  have h:=Bf8 hL (K:=K) (l:=l3) (by omega) (by omega) n a (8,nm,[],[],[],es,[],[],w.1,w.2.kind,w.2.v.kind,w.2.v.n,w.2.v.s,w.2.name,w.2.l,[],[], -1) rfl
  have e:bP Kd (fun o=>bP Hj fun m=>Ey (Bki es nm w o m)) l3=bP (bP Kd fun o=>bP Hj fun m=>Ey (o,m)) (fun r=>Ey (Bki es nm w r.1 r.2)) l3:=by
   unfold bP
   cases Kd l3 with
   |error q=>rfl
   |ok x =>
    obtain⟨o,l4⟩:=x
    simp only
    cases Hj l4<;>rfl
  rw [e]
  exact Out.map (g':=gS n a) h (fun r l'=>rfl)
 ·obtain⟨l',n',b',a',c⟩:=z
  obtain⟨h1,h2,h3⟩:=hz
  simp only at h1 h2 h3
  subst h1 h2 h3
  exact A3u (K+1) l' n' a' c
theorem Ax4{L:Nat}(hL:L≤1000000000) {l:TL}(hl:l.length<L) (n a:Int):Out (gS n a) (ES n) n (I5 (l,n,false,a,z0)) (N9 l):=by
 rw [Bkw]
 have ht:=Bj l
 have e:N9 l=bP Aiz (fun es=>bP (Bo [Kr]) fun _=>bP Cq fun nm=>bP Ki fun w=>bP Kd fun o=>bP Hj fun m=>Ey (Bki es nm w o m)) l:=rfl
 rw [e]
 cases hi:isT [42] l with
 |true =>
  rw [Fv hi]
  have e2:∀f:List Xpr→TL→PR Stm,bP Aiz f l=f [] l.tail:=fun f=>by
   unfold bP Aiz
   simp only [hi]
  rw [e2]
  exact Ayj hL (K:=l.length+2) (by omega) (by omega) n a []
 |false =>
  rw [Fg hi]
  have e2:∀f:List Xpr→TL→PR Stm,bP Aiz f l=bP Aak f l:=fun f=>by
   unfold bP Aiz
   simp only [hi]
  rw [e2]
  show Out _ _ _ ((Ds (l,n,false,a)).bind fun e=>A2u (l.length+3) e.2 e.1) _
  refine Out.bindS (Aps hL) hl (fun es l1 h1 =>?_) (fun es l1 b=>Bm8 (l.length+3) es l1 n b)
  have q1:l1.length<l.length:=Aum H0 h1
  exact Ayj hL (K:=l.length+2) (by omega) (by omega) n a es
end Go.Proofs.YthndhaolemgbdaaGreatDoor
namespace Go.Proofs.YthndhaolemgbdaaGreatDoor
open Go.Ax
abbrev gF (n a:Int) (s:Stm) (l:TL):Stm×RS:=(s,An1 l,n,false,a)
theorem A19{α:Type}(p:TL→PR α) (l:TL):bP p Ey l=p l:=by
 unfold bP Ey
 cases p l<;>rfl
theorem Bcv(s:Stm) (l:TL) (n a:Int):((A5 ([59],l,n,false,a)).bind fun z=>some (s,z.2))=some (s,An1 l,n,false,a):=by
 unfold An1
 cases hi:isT [59] l with
 |true=>rw [Fv hi];rfl
 |false=>rw [Fg hi];rfl
theorem A4a(s:Stm):Stm.mk s.kind s.name s.on s.cols s.names s.l s.rows s.sets s.has (Xpr.mk s.whr.kind ⟨s.whr.v.kind,s.whr.v.n,s.whr.v.s⟩ s.whr.name s.whr.l) s.order s.desc s.most=s:=by
 obtain⟨k,nm,on,cs,ns,l,rs,ss,h,w,o,d,m⟩:=s
 cases w
 rfl
def Asv(s:RS):Option (List Xpr×RS):=(Ao ([[40]],s)).bind fun y=>(Ds y).bind fun e=>(Ao ([[41]],e.2)).bind fun w=>some (e.1,w)
theorem Akl:Kw Asv:=fun l n a=>by
 obtain⟨e1,h1⟩:=Ahz l n a
 simp only [Asv,W8,h1,Zc1]
 exact⟨_,rfl⟩
theorem Bfv{l l':TL}{x:List Xpr}(h:Aak l = .ok (x,l')):l'.length<l.length:=Aum H0 h
theorem Aub{L:Nat}(hL:L≤1000000000):SimP Asv Be8 L :=.of (fun l n a hl=>by
 unfold Asv Be8
 refine Out.must (by decide) (fun l1 h1 =>?_) (fun l1 b=>Ca.bindS Ahz fun e=>Ca.must ⟨_,rfl,rfl,rfl,rfl⟩)
 have q1:=Cr h1
 refine Out.bindS (Aps hL) (show l1.length<L by omega) (fun e l2 h2 =>?_) (fun e l2 b=>Ca.must ⟨_,rfl,rfl,rfl,rfl⟩)
 exact Out.must (by decide) (fun l3 h3=>rfl) (fun l3 b=>⟨_,rfl,rfl,rfl,rfl⟩)) Akl
theorem Amu:C7 Be8:=fun l e l' h=>by
 obtain⟨_,l1,h1,h⟩:=H2 h
 obtain⟨x,l2,h2,h⟩:=H2 h
 obtain⟨_,l3,h3,h⟩:=H2 h
 have q1:=Cr h1
 have q2:=Bfv h2
 have q3:=Cr h3
 cases h
 omega
abbrev rV (nm:Str) (l:TL) (n:Int) (b:Bool) (a:Int) (acc:List (List Xpr)):E9:=(l,n,b,a,zS,5,nm,[],[],[],[],acc,[],false,0,0,0,[],[],[],[],[],0)
section
variable {R:Type}{kx:Ex→E9→Option R}{n:Int}{nm:Str}
theorem r_g(rec:E9→Option R) (l:TL) (a:Int) (acc:List (List Xpr)) (ha:acc.length≤1000000000) (hi:isT [44] l=true):Gb rec kx (rV nm l n false a acc)=(Asv (l.tail,n,false,a)).bind fun z=>rec (rV nm z.2.1 z.2.2.1 z.2.2.2.1 z.2.2.2.2 (acc++[z.1])):=by
 have hm:decide (acc.length+1≤A1)=true:=Ze1 (by simp only [A1];omega)
 simp only [Gb,Zs1,Ai,Fv hi,Zc1,Asv]
 cases Ao ([[40]],l.tail,n,false,a) with
 |none=>rfl
 |some y =>
  simp only [Zc1]
  cases Ds y with
  |none=>rfl
  |some x =>
   simp only [Zc1,hm,chk,Ai]
   cases Ao ([[41]],x.2) with
   |none=>rfl
   |some y=>rfl
theorem r_f(rec:E9→Option R) (l:TL) (a:Int) (acc:List (List Xpr)) (hi:isT [44] l=false):Gb rec kx (rV nm l n false a acc)=kx (.exit 0) (rV nm l n false a acc):=by
 simp only [Gb,Zs1,Ai,Fg hi,Zc1,Ak]
theorem r_b(rec:E9→Option R) (l:TL) (a:Int) (acc:List (List Xpr)):Gb rec kx (rV nm l n true a acc)=kx (.exit 0) (rV nm l n true a acc):=by
 simp only [Gb,Zt1,Ak]
end
end Go.Proofs.YthndhaolemgbdaaGreatDoor
namespace Go.Proofs.YthndhaolemgbdaaGreatDoor
open Go.Ax
def Bbs(c:Cl):Stm:=Stm.mk c.1 c.2.1 c.2.2.1 c.2.2.2.1 c.2.2.2.2.1 c.2.2.2.2.2.1 c.2.2.2.2.2.2.1 c.2.2.2.2.2.2.2.1 c.2.2.2.2.2.2.2.2.1 (Xpr.mk c.2.2.2.2.2.2.2.2.2.1 ⟨c.2.2.2.2.2.2.2.2.2.2.1,c.2.2.2.2.2.2.2.2.2.2.2.1,c.2.2.2.2.2.2.2.2.2.2.2.2.1⟩ c.2.2.2.2.2.2.2.2.2.2.2.2.2.1 c.2.2.2.2.2.2.2.2.2.2.2.2.2.2.1) c.2.2.2.2.2.2.2.2.2.2.2.2.2.2.2.1 c.2.2.2.2.2.2.2.2.2.2.2.2.2.2.2.2.1 c.2.2.2.2.2.2.2.2.2.2.2.2.2.2.2.2.2
def Bij(s:RS) (c:Cl):Option Fx:=cond (!s.2.2.1) ((A5 ([59],s)).bind fun z=>some (Bbs c,z.2)) (some (Bbs c,s))
theorem Aw4(s:Stm):Bbs (Az2 s)=s:=A4a s
theorem Bnv(s:Stm) (l:TL) (n a:Int):Bij (l,n,false,a) (Az2 s)=some (gF n a s l):=by
 unfold Bij
 simp only [Zs1,Ai,Aw4]
 exact Bcv s l n a
theorem Bgd(l:TL) (n b:Int) (c:Cl):Ca (EV n) b (Bij (l,n,true,b) c):=⟨_,rfl,rfl,rfl,rfl⟩
def rK(e:Ex) (v:E9):Option Fx:=match e with
 |.exit 0=>Bij (v.1,v.2.1,v.2.2.1,v.2.2.2.1) v.2.2.2.2.2
 |_=>none
def Bie(K:Nat) (s:RS):Option Fx:=(Ao ([[73,78,84,79]],s)).bind fun y=>(Bc y).bind fun x=>(Ao ([[86,65,76,85,69,83]],x.2)).bind fun y=>(Asv y).bind fun z=>A0 (fun rec=>Gb rec rK) K (rV x.1 z.2.1 z.2.2.1 z.2.2.2.1 z.2.2.2.2 [z.1])
theorem A6g(K:Nat) (nm:Str) (l:TL) (n b:Int) (acc:List (List Xpr)):Ca (EV n) b (A0 (fun rec=>Gb rec rK) (K+1) (rV nm l n true b acc)):=by
 rw [Br,r_b]
 exact Bgd l n b (5,nm,[],[],[],[],acc,[],false,0,0,0,[],[],[],[],[],0)
theorem Bih{L:Nat}(hL:L≤1000000000) {K:Nat}{l:TL}(hl:l.length<L) (hK:l.length<K) (n a:Int):Out (gF n a) (EV n) n (Bie (K+1) (l,n,false,a)) (M0 l):=by
 unfold Bie M0
 refine Out.must (by decide) (fun l1 h1 =>?_) (fun l1 b=>Ca.bindS Fi fun nm=>Ca.must (Ca.bindS Akl fun x=>A6g K nm l1 n b [x]))
 have q1:=Cr h1
 refine Out.bindS (Dd L) (show l1.length<L by omega) (fun nm l2 h2 =>?_) (fun nm l2 b=>Ca.must (Ca.bindS Akl fun x=>A6g K nm l2 n b [x]))
 have q2:=Ka h2
 refine Out.must (by decide) (fun l3 h3 =>?_) (fun l3 b=>Ca.bindS Akl fun x=>A6g K nm l3 n b [x])
 have q3:=Cr h3
 rw [Abr]
 refine Out.bindS (Aub hL) (show l3.length<L by omega) (fun x l4 h4 =>?_) (fun x l4 b=>A6g K nm l4 n b [x])
 have q4:l4.length<l3.length:=Amu _ _ _ h4
 have q5:[x].length+l4.length≤1000000000:=by simp only [Zf1,Zi1];omega
 refine Out.loop (a:=a) (fun acc l b a=>rK (.exit 0) (rV nm l n b a acc))
  (Aua (step:=fun rec=>Gb rec rK) (st:=rV nm) (n:=n) (c:=fun acc l b a=>rK (.exit 0) (rV nm l n b a acc)) (Aub hL) Amu (fun rec l a acc ha hi=>r_g rec l a acc ha hi) (fun rec l a acc hi=>r_f rec l a acc hi) (fun rec l a acc=>r_b rec l a acc) (a:=a) (k:=K+1) (m:=l4.length+1) (acc:=[x]) (l:=l4) (by omega) (by omega) (by omega) q5)
  (Atg (step:=fun rec=>Gb rec rK) (st:=rV nm) (n:=n) (c:=fun acc l b a=>rK (.exit 0) (rV nm l n b a acc)) (Aub hL) Amu (fun rec l a acc ha hi=>r_g rec l a acc ha hi) (fun rec l a acc hi=>r_f rec l a acc hi) (fun rec l a acc=>r_b rec l a acc) (a:=a) (k:=K+1) (m:=l4.length+1) (acc:=[x]) (l:=l4) (by omega) (by omega) (by omega) q5) (fun rs l5 h5 =>?_) (fun rs l5 b=>Bgd l5 n b _)
 exact Bnv { zS with kind:=5,name:=nm,rows:=rs } l5 n a
theorem Bk5{l:TL}(h1:isT F5 l=false) (h2:isT Yt l=false) (h3:isT M5 l=true) (n a:Int):My (l,n,false,a)=Bie (l.length+3) (l.tail,n,false,a):=by
 unfold My Bie
 show(A5 ([67,82,69,65,84,69],l,n,false,a)).bind _=_
 rw [Fg (s:=[67,82,69,65,84,69]) h1]
 show(A5 ([68,82,79,80],l,n,false,a)).bind _=_
 rw [Fg (s:=[68,82,79,80]) h2]
 show(A5 ([73,78,83,69,82,84],l,n,false,a)).bind _=_
 rw [Fv (s:=[73,78,83,69,82,84]) h3]
 show(Ao ([[73,78,84,79]],l.tail,n,false,a)).bind _=_
 cases Ao ([[73,78,84,79]],l.tail,n,false,a) with
 |none=>rfl
 |some y =>
  show(Bc y).bind _=(Bc y).bind _
  cases Bc y with
  |none=>rfl
  |some x =>
   show(Ao ([[86,65,76,85,69,83]],x.2)).bind _=(Ao ([[86,65,76,85,69,83]],x.2)).bind _
   cases Ao ([[86,65,76,85,69,83]],x.2) with
   |none=>rfl
   |some y =>
    show(Ao ([[40]],y)).bind _=(Asv y).bind _
    unfold Asv
    cases Ao ([[40]],y) with
    |none=>rfl
    |some y =>
     show(Ds y).bind _=Option.bind ((Ds y).bind _) _
     cases Ds y with
     |none=>rfl
     |some e =>
      show(Ao ([[41]],e.2)).bind _=Option.bind ((Ao ([[41]],e.2)).bind _) _
      cases Ao ([[41]],e.2) with
      |none=>rfl
      |some w =>
       obtain⟨w1,w2,w3,w4⟩:=w
       simp only [Zc1]
       refine congrFun (congrArg (fun kx=>A0 (fun rec=>Gb rec kx) (l.length+3)) ?_) _
       funext e v
       match e with
       |.exit 0=>rfl
       |.exit (_+1)=>rfl
       |.ret=>rfl
       |.normal=>rfl
end Go.Proofs.YthndhaolemgbdaaGreatDoor
namespace Go.Proofs.YthndhaolemgbdaaGreatDoor
open Go.Ax
theorem Bop(s:Stm) (l:TL) (n a:Int):((A5 ([59],l,n,false,a)).bind fun(_,x1,x2,x3,x4)=>some (s,x1,x2,x3,x4))=some (gF n a s l):=by
 unfold gF An1
 cases hi:isT [59] l with
 |true=>rw [Fv hi];rfl
 |false=>rw [Fg hi];rfl
theorem Bj2(s:Stm) (l:TL) (n a:Int):((A5 ([59],l,n,false,a)).bind fun(_,x1,x2,x3,x4)=>some (Stm.mk s.kind s.name s.on s.cols s.names s.l s.rows s.sets s.has (Xpr.mk s.whr.kind ⟨s.whr.v.kind,s.whr.v.n,s.whr.v.s⟩ s.whr.name s.whr.l) s.order s.desc s.most,x1,x2,x3,x4))=some (gF n a s l):=by
 rw [A4a]
 exact Bop s l n a
theorem Bg6{L:Nat}(hL:L≤1000000000) {l:TL}(hl:l.length<L) (n a:Int):Out (gF n a) (EV n) n (My (l,n,false,a)) (Aqe l):=by
 have ht:=Bj l
 have ht2:=Bj l.tail
 unfold Aqe
 cases h1:isT F5 l with
 |true =>
  unfold My
  show Out _ _ _ ((A5 ([67,82,69,65,84,69],l,n,false,a)).bind _) (F9 l.tail)
  rw [Fv (s:=[67,82,69,65,84,69]) h1,←A19 F9]
  refine Out.bindO (A2a hL (l:=l.tail) (by omega) n a) (fun s l' _=>Bj2 s l' n a) (fun b z hz =>?_)
  obtain⟨l',n',b',a',c1,c2,c3,c4,c5,c6,c7,c8,c9,c10,c11,c12,c13,c14,c15,c16,c17,c18⟩:=z
  obtain⟨e1,e2,e3⟩:=hz
  simp only at e1 e2 e3
  subst e1 e2 e3
  exact⟨_,rfl,rfl,rfl,rfl⟩
 |false =>
  cases h2:isT Yt l with
  |true =>
   unfold My Afg
   show Out _ _ _ ((A5 ([67,82,69,65,84,69],l,n,false,a)).bind _) _
   rw [Fg (s:=[67,82,69,65,84,69]) h1]
   show Out _ _ _ ((A5 ([68,82,79,80],l,n,false,a)).bind _) _
   rw [Fv (s:=[68,82,79,80]) h2]
   show Out _ _ _ ((A5 ([84,65,66,76,69],l.tail,n,false,a)).bind _) _
   cases h3:isT J4 l.tail with
   |true =>
    rw [Fv (s:=[84,65,66,76,69]) h3]
    have q:=Bj l.tail
    show Out _ _ _ ((Bc (l.tail.tail,n,false,a)).bind _) (bP Cq (fun n=>Ey { zS with kind:=2,name:=n }) l.tail.tail)
    exact Out.bindS (Dd L) (by omega) (fun nm l' h=>Bop { zS with kind:=2,name:=nm } l' n a) (fun nm l' b=>⟨_,rfl,rfl,rfl,rfl⟩)
   |false =>
    rw [Fg (s:=[84,65,66,76,69]) h3]
    show Out _ _ _ ((Ao ([[73,78,68,69,88]],l.tail,n,false,a)).bind _) (bP (Bo [Ga]) (fun _=>bP Cq fun n=>Ey { zS with kind:=4,name:=n }) l.tail)
    refine Out.must (by decide) (fun l1 q1 =>?_) (fun l1 b=>Ca.bindS Fi fun nm=>⟨_,rfl,rfl,rfl,rfl⟩)
    have q2:=Cr q1
    exact Out.bindS (Dd L) (show l1.length<L by omega) (fun nm l' h=>Bop { zS with kind:=4,name:=nm } l' n a) (fun nm l' b=>⟨_,rfl,rfl,rfl,rfl⟩)
  |false =>
   cases h3:isT M5 l with
   |true =>
    rw [Bk5 h1 h2 h3]
    exact Bih hL (K:=l.length+2) (by omega) (by omega) n a
   |false =>
    unfold My
    show Out _ _ _ ((A5 ([67,82,69,65,84,69],l,n,false,a)).bind _) _
    rw [Fg (s:=[67,82,69,65,84,69]) h1]
    show Out _ _ _ ((A5 ([68,82,79,80],l,n,false,a)).bind _) _
    rw [Fg (s:=[68,82,79,80]) h2]
    show Out _ _ _ ((A5 ([73,78,83,69,82,84],l,n,false,a)).bind _) _
    rw [Fg (s:=[73,78,83,69,82,84]) h3]
    show Out _ _ _ ((A5 ([85,80,68,65,84,69],l,n,false,a)).bind _) _
    cases h4:isT Rl l with
    |true =>
     rw [Fv (s:=[85,80,68,65,84,69]) h4]
     show Out _ _ _ ((Kx (l.tail,n,false,a,z0)).bind _) (M4 l.tail)
     rw [←A19 M4]
     refine Out.bindO (A03 hL (l:=l.tail) (by omega) n a) (fun s l' _=>Bj2 s l' n a) (fun b z hz =>?_)
     obtain⟨l',n',b',a',c1,c2,c3,c4,c5,c6,c7,c8,c9,c10,c11,c12,c13,c14,c15,c16,c17,c18⟩:=z
     obtain⟨e1,e2,e3⟩:=hz
     simp only at e1 e2 e3
     subst e1 e2 e3
     exact⟨_,rfl,rfl,rfl,rfl⟩
    |false =>
     rw [Fg (s:=[85,80,68,65,84,69]) h4]
     show Out _ _ _ ((A5 ([68,69,76,69,84,69],l,n,false,a)).bind _) _
     cases h5:isT Xg l with
     |true =>
      rw [Fv (s:=[68,69,76,69,84,69]) h5]
      show Out _ _ _ ((Ao ([[70,82,79,77]],l.tail,n,false,a)).bind _) (Xn l.tail)
      unfold Xn
      have hb:∀(nm:Str) (l':TL) (b:Int) (G:G8→Option Fx) (hG:∀(z:Cl),Ca (EV n) b (G (l',n,true,b,z))),Ca (EV n) b ((C4 (l',n,true,b,7,nm,[],[],[],[],[],[],false,0,0,0,[],[],[],[],[],0)).bind G):=fun nm l' b G hG=>by
       rw [Akr]
       exact hG _
      refine Out.must (by decide) (fun l1 q1 =>?_) (fun l1 b=>Ca.bindS Fi fun nm=>hb nm l1 b _ fun z=>⟨_,rfl,rfl,rfl,rfl⟩)
      have q2:=Cr q1
      refine Out.bindS (Dd L) (show l1.length<L by omega) (fun nm l2 q3 =>?_) (fun nm l2 b=>hb nm l2 b _ fun z=>⟨_,rfl,rfl,rfl,rfl⟩)
      have q4:=Ka q3
      refine Out.bindO (Ahx hL n a 7 nm [] [] [] [] [] [] [] [] 0 (show l2.length<L by omega)) (fun w l' _=>Bj2 { zS with kind:=7,name:=nm,has:=w.1,whr:=w.2 } l' n a) (fun b z hz =>?_)
      obtain⟨l',n',b',a',c1,c2,c3,c4,c5,c6,c7,c8,c9,c10,c11,c12,c13,c14,c15,c16,c17,c18⟩:=z
      obtain⟨e1,e2,e3⟩:=hz
      simp only at e1 e2 e3
      subst e1 e2 e3
      exact⟨_,rfl,rfl,rfl,rfl⟩
     |false =>
      rw [Fg (s:=[68,69,76,69,84,69]) h5]
      show Out _ _ _ ((A5 ([83,69,76,69,67,84],l,n,false,a)).bind _) _
      cases h6:isT Aa1 l with
      |true =>
       rw [Fv (s:=[83,69,76,69,67,84]) h6]
       show Out _ _ _ ((I5 (l.tail,n,false,a,z0)).bind _) (N9 l.tail)
       rw [←A19 N9]
       refine Out.bindO (Ax4 hL (l:=l.tail) (by omega) n a) (fun s l' _=>Bj2 s l' n a) (fun b z hz =>?_)
       obtain⟨l',n',b',a',c1,c2,c3,c4,c5,c6,c7,c8,c9,c10,c11,c12,c13,c14,c15,c16,c17,c18⟩:=z
       obtain⟨e1,e2,e3⟩:=hz
       simp only at e1 e2 e3
       subst e1 e2 e3
       exact⟨_,rfl,rfl,rfl,rfl⟩
      |false =>
       rw [Fg (s:=[83,69,76,69,67,84]) h6]
       show Out _ _ _ ((C2 (l,n,false,a)).bind _) (.error l)
       rw [Ab1]
       exact⟨_,rfl,rfl,rfl,rfl⟩
end Go.Proofs.YthndhaolemgbdaaGreatDoor
namespace Go.Proofs.YthndhaolemgbdaaGreatDoor
open Go.Ax
def Wz(R:Type):Px R:=⟨Bd ttL,glT,Au [(116,As [.str] [.sl .tok true,.int .i64,.int .i64] Atf)],Am [],Aw [],tbl []⟩
noncomputable def Ze (R:Type):Px R:=⟨Bd ttL,glT,Au [(85,Aq Zu X3 My),(86,Aq Yu Y3 Mq),(25,As [.sv .stmt] [.int .i64] Aff),(84,Bg 40 200 (Wz R) Tryz.f84)],Am [],Aw [],tbl []⟩
def Wj(x:HV [.str]):Option (HV [.sv .stmt,.int .i64,.int .i64]):=match x with
 |s =>
 cond (!decide ((Hb s).2.2=0)) (
  some ((Stm.mk 0 [] [] [] [] [] [] [] false (Xpr.mk 0 ⟨0,0,[]⟩ [] []) [] [] 0),(Hb s).2.1,(Hb s).2.2)) (
  (My ((Hb s).1,(s.length:Int),false,0)).bind fun(x,x1,x2,x3,x4) =>
  (Mq (x1,x2,x3,x4)).bind fun(x5,_,_,_,x9) =>
   cond (!x5) (
   some ((Stm.mk 0 [] [] [] [] [] [] [] false (Xpr.mk 0 ⟨0,0,[]⟩ [] []) [] [] 0),x9,11)) (
   (Sz x).bind fun x10 =>
    cond (!decide (x10=0)) (
    some ((Stm.mk 0 [] [] [] [] [] [] [] false (Xpr.mk 0 ⟨0,0,[]⟩ [] []) [] [] 0),0,x10)) (
    some (x,0,0))))
theorem Bct:∀(x:HV [.str]),Cs (Ze _) Tryz.f30 [.str] [.sv .stmt,.int .i64,.int .i64] x some=Wj x
 |s=>by kernel_rfl
theorem A9x:FnOk Tryz.prog elT glT 30 [.str] [.sv .stmt,.int .i64,.int .i64] (Wj):=by
 refine A3 Tryz.func30 rfl (by kernel_rfl) follows (by kernel_rfl) (n:=0) (by kernel_rfl) (px:=Ze _) (fun cx hP hel hgl =>?_) (Bct)
 have hp1:PxOk cx (Wz (HV [.sv .stmt,.int .i64,.int .i64])):=⟨fun t=>by rw [hP,hel];exact Av An t,by rw [hgl];rfl⟩
 have hc1:Al cx (Wz (HV [.sv .stmt,.int .i64,.int .i64])):=Af rfl (Aa (A7 (by rw [hP,hel,hgl];exact A46) (by kernel_rfl)) Aj)
 have hq1:CallQOk cx (Wz (HV [.sv .stmt,.int .i64,.int .i64])):=Ab rfl rfl Ah Ae
 have hp0:PxOk cx (Ze (HV [.sv .stmt,.int .i64,.int .i64])):=⟨fun t=>by rw [hP,hel];exact Av An t,by rw [hgl];rfl⟩
 have hc0:Al cx (Ze (HV [.sv .stmt,.int .i64,.int .i64])):=Af rfl (Aa (A9 (by rw [hP,hel,hgl];exact Beo) (by kernel_rfl)) (Aa (A9 (by rw [hP,hel,hgl];exact Ax7) (by kernel_rfl)) (Aa (A7 (by rw [hP,hel,hgl];exact Ari) (by kernel_rfl)) (Aa (Bv hp1 hc1 hq1 (by rw [hP];exact follows) (by rw [hP];exact Tryz.func84) rfl (by kernel_rfl) (by kernel_rfl) (n:=0) (by kernel_rfl) (Ay)) Aj))))
 have hq0:CallQOk cx (Ze (HV [.sv .stmt,.int .i64,.int .i64])):=Ab rfl rfl Ah Ae
 exact⟨hp0,hc0,hq0,Ay⟩
def Acp(s:Str):Option (Stm×Int×Int):=Wj s
def Aka:FT [.str] [.sv .stmt,.int .i64,.int .i64]:=fun x=>Acp x
theorem Anl:FnOk Tryz.prog elT glT 30 [.str] [.sv .stmt,.int .i64,.int .i64] Aka :=.fin0 A9x fun _ _ _ hx=>hx
def Wb(R:Type):Px R:=⟨Bd ttL,glT,Au [(116,As [.str] [.sl .tok true,.int .i64,.int .i64] Atf)],Am [],Aw [],tbl []⟩
noncomputable def Y5 (R:Type):Px R:=⟨Bd ttL,glT,Au [(90,Aq C8 C9 Gk),(86,Aq Yu Y3 Mq),(18,As [.sv .expr] [.int .i64] A3z),(84,Bg 40 200 (Wb R) Tryz.f84)],Am [],Aw [],tbl []⟩
def Vu(x:HV [.str]):Option (HV [.sv .expr,.int .i64,.int .i64]):=match x with
 |s =>
 cond (!decide ((Hb s).2.2=0)) (
  some ((Xpr.mk 0 ⟨0,0,[]⟩ [] []),(Hb s).2.1,(Hb s).2.2)) (
  (Gk ((Hb s).1,(s.length:Int),false,0)).bind fun(x,x1,x2,x3,x4) =>
  (Mq (x1,x2,x3,x4)).bind fun(x5,_,_,_,x9) =>
   cond (!x5) (
   some ((Xpr.mk 0 ⟨0,0,[]⟩ [] []),x9,11)) (
   cond (!decide ((Acs x)=0)) (
    some ((Xpr.mk 0 ⟨0,0,[]⟩ [] []),0,(Acs x))) (
    some (x,0,0))))
theorem Bd2:∀(x:HV [.str]),Cs (Y5 _) Tryz.f32 [.str] [.sv .expr,.int .i64,.int .i64] x some=Vu x
 |s=>by kernel_rfl
theorem A7z:FnOk Tryz.prog elT glT 32 [.str] [.sv .expr,.int .i64,.int .i64] (Vu):=by
 refine A3 Tryz.func32 rfl (by kernel_rfl) follows (by kernel_rfl) (n:=0) (by kernel_rfl) (px:=Y5 _) (fun cx hP hel hgl =>?_) (Bd2)
 have hp1:PxOk cx (Wb (HV [.sv .expr,.int .i64,.int .i64])):=⟨fun t=>by rw [hP,hel];exact Av An t,by rw [hgl];rfl⟩
 have hc1:Al cx (Wb (HV [.sv .expr,.int .i64,.int .i64])):=Af rfl (Aa (A7 (by rw [hP,hel,hgl];exact A46) (by kernel_rfl)) Aj)
 have hq1:CallQOk cx (Wb (HV [.sv .expr,.int .i64,.int .i64])):=Ab rfl rfl Ah Ae
 have hp0:PxOk cx (Y5 (HV [.sv .expr,.int .i64,.int .i64])):=⟨fun t=>by rw [hP,hel];exact Av An t,by rw [hgl];rfl⟩
 have hc0:Al cx (Y5 (HV [.sv .expr,.int .i64,.int .i64])):=Af rfl (Aa (A9 (by rw [hP,hel,hgl];exact Am2) (by kernel_rfl)) (Aa (A9 (by rw [hP,hel,hgl];exact Ax7) (by kernel_rfl)) (Aa (A7 (by rw [hP,hel,hgl];exact Bc3) (by kernel_rfl)) (Aa (Bv hp1 hc1 hq1 (by rw [hP];exact follows) (by rw [hP];exact Tryz.func84) rfl (by kernel_rfl) (by kernel_rfl) (n:=0) (by kernel_rfl) (Ay)) Aj))))
 have hq0:CallQOk cx (Y5 (HV [.sv .expr,.int .i64,.int .i64])):=Ab rfl rfl Ah Ae
 exact⟨hp0,hc0,hq0,Ay⟩
def Ais(s:Str):Option (Xpr×Int×Int):=Vu s
def Arz:FT [.str] [.sv .expr,.int .i64,.int .i64]:=fun x=>Ais x
theorem Av6:FnOk Tryz.prog elT glT 32 [.str] [.sv .expr,.int .i64,.int .i64] Arz :=.fin0 A7z fun _ _ _ hx=>hx
def T5(R:Type):Px R:=⟨Bd ttL,glT,Au [(30,As [.str] [.sv .stmt,.int .i64,.int .i64] Aka),(23,As [.sv .stmt] [.str,.int .i64] Alf)],Am [],Aw [],tbl []⟩
def Zo(x:HV [.str]):Option (HV [.str,.int .i64,.int .i64]):=match x with
 |s =>
 (Acp s).bind fun(x,x1,x2) =>
  cond (!decide (x2=0)) (
  some ([],x1,x2)) (
  (V6 x).bind fun(x3,x4) =>
   some (x3,0,x4))
theorem A65:∀(x:HV [.str]),Cs (T5 _) Tryz.f34 [.str] [.str,.int .i64,.int .i64] x some=Zo x
 |s=>by kernel_rfl
theorem A21:FnOk Tryz.prog elT glT 34 [.str] [.str,.int .i64,.int .i64] (Zo):=by
 refine A3 Tryz.func34 rfl (by kernel_rfl) follows (by kernel_rfl) (n:=0) (by kernel_rfl) (px:=T5 _) (fun cx hP hel hgl =>?_) (A65)
 have hp0:PxOk cx (T5 (HV [.str,.int .i64,.int .i64])):=⟨fun t=>by rw [hP,hel];exact Av An t,by rw [hgl];rfl⟩
 have hc0:Al cx (T5 (HV [.str,.int .i64,.int .i64])):=Af rfl (Aa (A7 (by rw [hP,hel,hgl];exact Anl) (by kernel_rfl)) (Aa (A7 (by rw [hP,hel,hgl];exact Apg) (by kernel_rfl)) Aj))
 have hq0:CallQOk cx (T5 (HV [.str,.int .i64,.int .i64])):=Ab rfl rfl Ah Ae
 exact⟨hp0,hc0,hq0,Ay⟩
def Bgi(s:Str):Option (Str×Int×Int):=Zo s
def Ayb:FT [.str] [.str,.int .i64,.int .i64]:=fun x=>Bgi x
theorem A9v:FnOk Tryz.prog elT glT 34 [.str] [.str,.int .i64,.int .i64] Ayb :=.fin0 A21 fun _ _ _ hx=>hx
def O6(R:Type):Px R:=⟨Bd ttL,glT,Au [(34,As [.str] [.str,.int .i64,.int .i64] Ayb),(30,As [.str] [.sv .stmt,.int .i64,.int .i64] Aka),(32,As [.str] [.sv .expr,.int .i64,.int .i64] Arz),(14,As [.sv .expr] [.str,.int .i64] Ars)],Am [],Aw [],tbl []⟩
def Ve(x:HV []):Option (HV [.bool]):=match x with
 |() =>
 (Bgi [83,69,76,69,67,84,32,97,43,98,42,50,32,70,82,79,77,32,116,32,87,72,69,82,69,32,78,79,84,32,97,61,49,32,79,82,32,98,32,73,83,32,78,79,84,32,78,85,76,76]).bind fun(x,x1,x2) =>
  (Acp [83,69,76,69,67,84,32,97,32,70,82,79,77]).bind fun(_,x4,x5) =>
  (Ais [97,45,98,45,49]).bind fun(x6,_,x8) =>
   (Up x6).bind fun(x9,_) =>
   let j3:=fun(p:Bool) =>
    let j2:=fun(p1:Bool) =>
    let j1:=fun(p2:Bool) =>
     let j:=fun(p3:Bool) =>
     cond (p3) (
      cond (decide (x8=0)) (
      some (decide (x9=[40,40,97,32,45,32,98,41,32,45,32,49,41]))) (
      some false)) (
      some false)
     cond (p2) (
     j (decide (x5=11))) (
     j false)
    cond (p1) (
     j1 (decide (x4=13))) (
     j1 false)
    cond (p) (
    j2 (decide (x2=0))) (
    j2 false)
   cond (decide (x=[83,69,76,69,67,84,32,40,97,32,43,32,40,98,32,42,32,50,41,41,32,70,82,79,77,32,116,32,87,72,69,82,69,32,40,40,78,79,84,32,40,97,32,61,32,49,41,41,32,79,82,32,40,78,79,84,32,40,98,32,73,83,32,78,85,76,76,41,41,41])) (
    j3 (decide (x1=0))) (
    j3 false)
theorem Azl:∀(x:HV []),Cs (O6 _) Tryz.f29 [] [.bool] x some=Ve x
 |()=>by kernel_rfl
theorem Avj:FnOk Tryz.prog elT glT 29 [] [.bool] (Ve):=by
 refine A3 Tryz.func29 rfl (by kernel_rfl) follows (by kernel_rfl) (n:=0) (by kernel_rfl) (px:=O6 _) (fun cx hP hel hgl =>?_) (Azl)
 have hp0:PxOk cx (O6 (HV [.bool])):=⟨fun t=>by rw [hP,hel];exact Av An t,by rw [hgl];rfl⟩
 have hc0:Al cx (O6 (HV [.bool])):=Af rfl (Aa (A7 (by rw [hP,hel,hgl];exact A9v) (by kernel_rfl)) (Aa (A7 (by rw [hP,hel,hgl];exact Anl) (by kernel_rfl)) (Aa (A7 (by rw [hP,hel,hgl];exact Av6) (by kernel_rfl)) (Aa (A7 (by rw [hP,hel,hgl];exact Axs) (by kernel_rfl)) Aj))))
 have hq0:CallQOk cx (O6 (HV [.bool])):=Ab rfl rfl Ah Ae
 exact⟨hp0,hc0,hq0,Ay⟩
def V7:Option Bool:=Ve ()
def Apk:FT [] [.bool]:=fun _=>V7
theorem A3g:FnOk Tryz.prog elT glT 29 [] [.bool] Apk :=.fin0 Avj fun _ _ _ hx=>hx
end Go.Proofs.YthndhaolemgbdaaGreatDoor
namespace Go.Proofs.YthndhaolemgbdaaGreatDoor
open Go.Ax
theorem Au7(n a:Int):Mq ([],n,false,a)=some (true,[],n,false,a):=rfl
theorem Ao2(t:Tok) (r:TL) (n a:Int):Mq (t::r,n,false,a)=some (false,t::r,n,true,t.pos):=by
 have e:decide (0<((t::r).length:Int))=true:=Ze1 (by simp only [Zf1];omega)
 simp only [Mq,O5,e,Ai,Ab1,Zc1]
 rfl
theorem Awm(l:TL) (n a:Int):Mq (l,n,true,a)=some (false,l,n,true,a):=by
 simp only [Mq,O5,Aey,Zc1]
 cases decide (0<(l.length:Int))<;>rfl
def xS(s:Str):Option (Stm×Int×Int):=if(Hb s).2.2=0 then match Aec (Hb s).1 with
  |.error q=>some (zS,Jz s.length q,11)
  |.ok x=>(Sz x).bind fun e=>if e=0 then some (x,0,0) else some (zS,0,e)
 else some (zS,(Hb s).2.1,(Hb s).2.2)
def xX(s:Str):Option (Xpr×Int×Int):=if(Hb s).2.2=0 then match Atu (Hb s).1 with
  |.error q=>some (zX,Jz s.length q,11)
  |.ok x=>if Acs x=0 then some (x,0,0) else some (zX,0,Acs x)
 else some (zX,(Hb s).2.1,(Hb s).2.2)
theorem Be4(s:Str) (hs:(Hb s).1.length<1000000000):Acp s=xS s:=by
 unfold xS Acp
 simp only [Wj]
 by_cases h0:(Hb s).2.2=0
 ·rw [Ze1 h0,if_pos h0]
  simp only [Zt1,Ak]
  have ho:=Bg6 (L:=1000000000) (Zn1 _) hs (s.length:Int) 0
  unfold Aec
  cases hq:Aqe (Hb s).1 with
  |error q =>
   rw [hq] at ho
   obtain⟨⟨x,l',n',b',a'⟩,h1,e1,e2,e3⟩:=ho
   simp only at e1 e2 e3
   subst e1 e2 e3
   simp only [h1,Zc1,Awm,Zs1,Ai]
   rfl
  |ok y =>
   obtain⟨x,l'⟩:=y
   rw [hq] at ho
   have ho:My ((Hb s).1,(s.length:Int),false,0)=some (x,An1 l',(s.length:Int),false,0):=ho
   simp only [ho,Zc1]
   cases hs2:An1 l' with
   |nil =>
    simp only [Au7,Zc1,Zt1,Ak]
    cases Sz x with
    |none=>rfl
    |some e =>
     simp only [Zc1]
     by_cases he:e=0
     ·rw [Ze1 he,if_pos he];rfl
     ·rw [Zd1 he,if_neg he];rfl
   |cons t r =>
    simp only [Ao2,Zc1,Zs1,Ai]
    rfl
 ·rw [Zd1 h0,if_neg h0]
  rfl
theorem Bff(s:Str) (hs:(Hb s).1.length<1000000000):Ais s=xX s:=by
 unfold xX Ais
 simp only [Vu]
 by_cases h0:(Hb s).2.2=0
 ·rw [Ze1 h0,if_pos h0]
  simp only [Zt1,Ak]
  unfold Atu
  cases hq:orW (Hb s).1 with
  |error q =>
   obtain⟨x,l',h1⟩:=(Sh (L:=1000000000) (Zn1 _)).er (Hb s).1 (s.length:Int) 0 q hs hq
   simp only [h1,Zc1,Awm,Zs1,Ai]
   rfl
  |ok y =>
   obtain⟨x,l'⟩:=y
   simp only [(Sh (L:=1000000000) (Zn1 _)).ok (Hb s).1 (s.length:Int) 0 x l' hs hq,Zc1]
   cases l' with
   |nil =>
    simp only [Au7,Zc1,Zt1,Ak]
    by_cases he:Acs x=0
    ·rw [Ze1 he,if_pos he];rfl
    ·rw [Zd1 he,if_neg he];rfl
   |cons t r =>
    simp only [Ao2,Zc1,Zs1,Ai]
    rfl
 ·rw [Zd1 h0,if_neg h0]
  rfl
end Go.Proofs.YthndhaolemgbdaaGreatDoor
namespace Go.Proofs.YthndhaolemgbdaaGreatDoor
open Go.Ax
end Go.Proofs.YthndhaolemgbdaaGreatDoor
namespace Go.Proofs.YthndhaolemgbdaaGreatDoor
open Go.Ax
theorem Ata:V7=some true:=by kernel_rfl
end Go.Proofs.YthndhaolemgbdaaGreatDoor
namespace Go.Proofs.YthndhaolemgbdaaGreatDoor
open Go.Ax
end Go.Proofs.YthndhaolemgbdaaGreatDoor
namespace Go.Proofs.YthndhaolemgbdaaGreatDoor
open Go.Ax
end Go.Proofs.YthndhaolemgbdaaGreatDoor
namespace Go.Proofs.YthndhaolemgbdaaGreatDoor
open Go.Ax
def hd(q:List Int) (i:Nat):Int:=q.getD i 0
end Go.Proofs.YthndhaolemgbdaaGreatDoor
