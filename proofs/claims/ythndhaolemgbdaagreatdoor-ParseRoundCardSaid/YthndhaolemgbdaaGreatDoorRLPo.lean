/- ParseRound: what is read,printed,and read again,is the same,and printed the same;what is wrong has no text,and its place is in it;on the condition of the row V3: that the package's tables hold what the program's text lays. -/
import Derived.Test.YthndhaolemgbdaaGreatDoorR8
set_option linter.all false
namespace Go.Proofs.YthndhaolemgbdaaGreatDoor
open Go.Ax Go.ChangeShapes Go.WideShapes Go.ChangeAt Go.RowKit Go.ChangeMaps
noncomputable section
theorem Awz{s:Stm}(h:Je s=true):A7 s≠[]:=fun e=>by
 have hl : 1≤(A7 s).length:=by
  obtain⟨_,hk⟩:=Xm h
  have:s.kind=1∨s.kind=2∨s.kind=3∨s.kind=4∨s.kind=5∨s.kind=6∨s.kind=7∨s.kind=8:=by
   rcases hk with h|h|h|h|h|h|h
   ·exact .inl h.1
   ·omega
   ·have:=h.1;omega
   ·have:=h.1;omega
   ·have:=h.1;omega
   ·have:=h.1;omega
   ·have:=h.1;omega
  rcases this with k|k|k|k|k|k|k|k<;>simp [A7,J6,Akz,k]<;>omega
 rw [e] at hl
 exact absurd hl (by simp)
def Bhx(R:Type):Px R:=pxO [(29,cA Alh),(30,cA Af1),(34,cA Ajz),(28,cA Ai5),(25,cA T5)] [] [] []
def I6(x:HV [.str]):Option (HV [.bool]):=match x with
 |s =>
 cond (decide (3000<(s.length:Int))) (
  (Z5).bind fun x =>
  some x) (
  (Ra s).bind fun(x1,x2,x3) =>
  (M9 s).bind fun(x4,x5,x6) =>
   cond (!decide (x3=x6)) (
   some false) (
   cond (!decide (x2=x5)) (
    some false) (
    cond (!decide ((decide (x4=[]))=(!decide (x3=0)))) (
    some false) (
    cond (!decide (x3=0)) (
     cond (decide (x1.kind=0)) (
     cond (decide (0≤x2)) (
      cond (decide (x2≤(s.length:Int))) (
      (Z5).bind fun x10 =>
       some x10) (
      some false)) (
      some false)) (
     some false)) (
     (Ra x4).bind fun(x11,_,x13) =>
     (M9 x4).bind fun(x14,_,x16) =>
      cond (decide (x13=0)) (
      cond (decide (x16=0)) (
       cond (decide (x14=x4)) (
       cond ((Ara x11 x1)) (
        (J8 x1).bind fun x38 =>
        cond (decide (x38=0)) (
         (Z5).bind fun x40 =>
         some x40) (
         some false)) (
        some false)) (
       some false)) (
       some false)) (
      some false))))))
set_option maxRecDepth 20000 in
theorem Beo:FO 8 [.str] [.bool] (I6):=fR (px:=Bhx _) (n:=0) Tryz.func8 rfl (fun _ H=>⟨lv H (c1 H Ayr (c1 H Aie (c1 H An4 (c1 H A46 (c1 H Aco Af))))) Ab Aa,Ak⟩) fun _=>by kernel_rfl
theorem Ar3{s:Str}{x:Stm}{n e:Int}(h:Ra s=some (x,n,e)) (he:¬e=0) (hk:x.kind=0) (hn : 0≤n∧n≤(s.length:Int)):I6 s=some true:=by
 have hr:M9 s=some ([],n,e):=by
  simp only [M9,Jp,h,Zc1,Zd1 he]
  rfl
 simp only [I6,Pk,h,hr,Zc1,decide_true,Zt1,Ah,Zd1 he,Zs1,Ae,hk,Ze1 hn.1,Ze1 hn.2]
 cases decide (3000<(s.length:Int))<;>rfl
theorem Biv{s:Str}(h : 3000<s.length):I6 s=some true:=by
 simp only [I6,Pk]
 rw [Ze1 (by omega)]
 rfl
theorem A4n(s:Str):I6 s=some true:=by
 by_cases hbig : 3000<s.length
 ·exact Biv hbig
 rcases Ahq s with ⟨ts,h0,h1,h2⟩|⟨_,j,h1,h2⟩|⟨h1,_⟩
 ·cases hw:La ts with
  |error q =>
   exact Ar3 (Bh7 h0 h1 hw) (by decide) rfl (Bln h1 (Bcl hw))
  |ok x =>
   obtain⟨b1,b2,b3⟩:=A85 (by omega) h1 hw
   have hr:=A1d h0 h1 hw b2
   cases hc:Je x with
   |false =>
    rw [hc] at hr
    exact Ar3 hr (by decide) rfl ⟨Int.le_refl _,by omega⟩
   |true =>
    rw [hc,Ae] at hr
    have hp:=Az5 hc b1 b2
    have hr2:=Bk0 hc b1 b2 (by omega)
    have q1:M9 s=some (A7 x,0,0):=by
     simp only [M9,Jp,hr,Zc1,hp,decide_true,Zt1,Ah]
    have q2:M9 (A7 x)=some (A7 x,0,0):=by
     simp only [M9,Jp,hr2,Zc1,hp,decide_true,Zt1,Ah]
    have e1:Ara x x=true:=Ze1 rfl
    have e2:J8 x=some 0:=by rw [Ack b2,hc];rfl
    simp only [I6,Pk,hr,q1,hr2,q2,e1,e2,Zc1,decide_true,Zt1,Ah,Ae]
    rw [Zd1 (show ¬ 3000<(s.length:Int) by omega),Zd1 (Awz hc)]
    rfl
 ·have hj:=Bnd h1
  have hx:Ra s=some (zS,j,11):=by
   rw [Ajf s (Aq6 s)]
   simp only [xS,h2]
   rfl
  exact Ar3 hx (by decide) rfl (by omega)
 ·omega
theorem Acd:Bjp Rows.parseRoundRow.laid:=by
 refine⟨by kernel_rfl,?_⟩
 simp [Rows.parseRoundRow]
set_option maxRecDepth 100000 in
theorem V0(H:Type) (enc:TypeId×Value→H) (W:World) (base:Nat) (args:Array Value) (ds gs:List (DataW H)) (before:List MemPlace)
  (hval:∀(j:Nat) t v,Tryz.f8.params[j]? = some t→args[j]? = some v→Value.okWide Tryz.prog W .any base t v)
  (hW:DataW.Whole enc Tryz.prog Tryz.f8.params.toList Rows.parseRoundSpec.vars false W args.toList ds gs before) (hL:laidMetH Tryz.prog Rows.parseRoundRow.laid W) (hS:W.ShapedOpen Tryz.prog)
  (hsz:(DataW.weightsEach Tryz.prog (Tryz.f8.params.toList++(OpenSpec.ofChange Rows.parseRoundSpec).bare.plain.varTypes Tryz.prog) (ds++gs)).all (·≤reachBytes)=true) :
  Calls Tryz.prog 8 args W fun e W'=>∃v,e = .returned v∧Rows.parseRoundSpec.post enc Tryz.prog Tryz.f8 false true false false W args v W' :=
 A62 (Aso _) (fn:=Tryz.f8) Beo (fun x _ _=>A4n x) (by kernel_rfl) rfl (fun ds h=>match ds,h with|[_],_=>⟨rfl,rfl,rfl⟩) (by kernel_rfl) (by kernel_rfl) hval hW (Bia Acd hL hS) (fun hl=>A95 hsz (Nat.le_of_eq hl))
theorem V1(os:Os) (args:Array Value):laidMet Tryz.prog Rows.parseRoundRow.laid ((Acu os).forCall (fun _ _=>0) ⟨#[],args,[]⟩).memory :=
 laidMet_of_run' 8 (by kernel_rfl) (by kernel_rfl)
theorem Acn(os:Os) {H:Type}(enc:TypeId×Value→H):∃places,DataW.whole enc Tryz.prog ((Acu os).forCall (fun _ _=>0) ⟨#[], #[.string ⟨#[]⟩],[]⟩).memory Tryz.f8.params.toList Rows.parseRoundSpec.vars false (#[.string ⟨#[]⟩]:Array Value).toList 8=some ([.lit (.string [])],[],places) :=
 ⟨[],by kernel_rfl⟩
set_option maxRecDepth 100000 in
theorem Yy(os:Os) (started:os.Started) (H:Type) (enc:TypeId×Value→H) (F:Stop.Interp) :
  ReturnsInHanded {} Tryz.checked os 8 .any ((OpenSpec.ofChange Rows.parseRoundSpec).preRow enc Tryz.prog Tryz.f8 Rows.parseRoundRow.domain false Rows.parseRoundRow.laid) (((OpenSpec.ofChange Rows.parseRoundSpec).at F).post enc Tryz.prog Tryz.f8 false true false false):=by
 obtain⟨places,hx⟩:=Acn os enc
 refine returnsInHanded_of_row (C:=Tryz.checked) (s:=OpenSpec.ofChange Rows.parseRoundSpec) own started (by kernel_rfl) Tryz.func8
  (witness_row_at (enc:=enc) (C:=Tryz.checked) false (Acu os) #[.string ⟨#[]⟩] rfl (by kernel_rfl) (by kernel_rfl) (by kernel_rfl)
   (OpenSpec.preRow_of_cond 8 hx (by kernel_rfl) (fun k hk=>by cases hk) (by kernel_rfl) (V1 os _))) ?_
 intro W base args ds gs before hval hW _ _ hsz hL hS _
 exact V0 H enc W base args ds gs before hval hW hL hS hsz
theorem Afp:Rows.ParseRoundSaid :=
 OpenClaim.holds_of_cond 8 Tryz.f8 rfl rfl rfl rfl rfl rfl rfl ⟨rfl,rfl,rfl,rfl,rfl⟩ rfl rfl rfl rfl rfl (by kernel_rfl) Tryz.func8 (by kernel_rfl)
  (of_decide_eq_true (by kernel_rfl)) (by unfold Func.isWrapper;first|(rw [if_pos (by decide +kernel)];kernel_rfl)|(rw [if_neg (by decide +kernel)];exact⟨rfl,rfl⟩))
  (fun os started H enc _ F=>by rw [OpenClaim.pre_eq_preRow];exact Yy os started H enc F)
theorem Ac9(f:FuncId) (fn:Func) (hf:Tryz.pinned.checked.prog.funcNamed "exchequer/exchequerlaw14.ParseRound" = some f) (hfn:Tryz.pinned.checked.prog.funcs[f]? = some fn) :
  false=Tryz.pinned.checked.prog.looks []∧∀(j:Nat) t,fn.params[j]? = some t→Tryz.pinned.checked.prog.wantsStandIn t=false:=by
 obtain rfl:f=8:=Option.some.inj ((show Tryz.prog.funcNamed "exchequer/exchequerlaw14.ParseRound" = some 8 by kernel_rfl).symm.trans hf) |>.symm
 obtain rfl:fn=Tryz.f8:=(Option.some.inj (Tryz.func8.symm.trans hfn)).symm
 refine⟨by kernel_rfl,fun j t ht =>?_⟩
 have hall:(Tryz.f8.params.all fun t => !Tryz.prog.wantsStandIn t)=true:=by kernel_rfl
 have:=Array.all_eq_true_iff_forall_mem.1 hall t (Array.mem_of_getElem? ht)
 have h2:Tryz.prog.wantsStandIn t=false:=by simpa using this
 exact h2
theorem parseRound_card:Rows.ParseRoundCardSaid :=
 Claim7.holds_tied_plain_at .later [] _ _ _ _ Afp (fun _ h=>by cases h) (by kernel_rfl) (fun _ h=>by cases h) parseRound_row_tie rfl ⟨rfl,rfl⟩ (by kernel_rfl) rfl Ac9 (by kernel_rfl)
end
#print axioms parseRound_card
end Go.Proofs.YthndhaolemgbdaaGreatDoor
