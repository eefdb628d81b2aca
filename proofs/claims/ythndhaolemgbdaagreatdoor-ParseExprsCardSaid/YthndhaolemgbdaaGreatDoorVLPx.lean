/- ParseExprs: any text is the expression that the chapter says,or wrong where,and as,it says;on the condition of the row Sn: that the package's tables hold what the program's text lays. -/
import Derived.Test.YthndhaolemgbdaaGreatDoorV7
set_option linter.all false
namespace Go.Proofs.YthndhaolemgbdaaGreatDoor
open Go.Ax Go.ChangeShapes Go.WideShapes Go.ChangeAt Go.RowKit Go.ChangeMaps
noncomputable section
def Bce(R:Type):Px R:=pxO [(29,cA Ajf),(32,cA Ani),(33,cA Bad),(21,cA Awn)] [] [] []
def H8(x:HV [.str]):Option (HV [.bool]):=match x with
 |s =>
 cond (decide (3000<(s.length:Int))) (
  (Adg).bind fun x =>
  some x) (
  (V6 s).bind fun(x1,x2,x3) =>
  (Anx s).bind fun(x4,x5,x6) =>
   cond ((Ayr x1 x4)) (
   cond (decide (x2=x5)) (
    cond (decide (x3=x6)) (
    (Adg).bind fun x10 =>
     some x10) (
    some false)) (
    some false)) (
   some false))
set_option maxRecDepth 20000 in
theorem A90:FO 6 [.str] [.bool] (H8):=fR (px:=Bce _) (n:=0) Tryz.func6 rfl (fun _ H=>⟨lv H (c1 H Atk (c1 H Aox (c1 H Bbw (c1 H A81 Ae)))) Aa Ab,Aj⟩) fun _=>by kernel_rfl
theorem Anf{s:Str}{x:Xpr}{n e:Int}(h:V6 s=some (x,n,e)) (h2:Anx s=some (x,n,e)):H8 s=some true:=by
 have e1:Ayr x x=true:=by rw [Azn];exact Ze1 rfl
 simp only [H8,Vw,h,h2,e1,Zc1,decide_true,Af]
 cases decide (3000<(s.length:Int))<;>rfl
theorem A0o{s:Str}(h : 3000<s.length):H8 s=some true:=by
 simp only [H8,Vw]
 rw [Ze1 (show 3000<(s.length:Int) by omega)]
 rfl
theorem Aso{s:Str}{n e:Int}(h:Dy s=([],n,e)) (he:¬e=0):V6 s=some (zX,n,e):=by
 rw [Afw s (An8 s)]
 simp only [xX,h]
 rw [if_neg he]
theorem A1d(s:Str):H8 s=some true:=by
 by_cases hk : 3000<s.length
 ·exact A0o hk
 rcases Af7 s with ⟨ts,h0,h1,h2⟩|⟨_,j,h1,h2⟩|⟨h1,h2⟩
 ·have ht:=(A8j h1 h0).1
  have hf:=A9g h1
  cases hw:Mf ts with
  |error q=>exact Anf (Bb1 h0 h1 hw) (Bcl h2 (by omega) hw)
  |ok x =>
   have ho:orW ts = .ok (x,[]):=by
    unfold Mf at hw
    split at hw
    ·cases hw
    ·cases hw;assumption
    ·cases hw
   obtain⟨c,hc,hd⟩:=Bi5 ts x [] ho
   have hm:=(hd (by rw [hc,List.append_nil] at ht;exact ht)).2.1
   have hlen:c.length=ts.length:=by rw [hc,Zh1];simp
   have hx:V6 s=some (cond (A8 x 30) (x,0,0) (zX,0,2)):=by
    rw [Afw s (An8 s)]
    simp only [xX,h2,if_true,hw,A4w]
    cases A8 x 30<;>rfl
   have hg:Ln x=cond (A8 x 30) 0 2:=by
    have h:A8 x 30=true↔Bm x≤30:=M3 (Bc x) x 30 (Zn1 _) (by omega) (by omega)
    simp only [Ln]
    by_cases hd:Bm x≤30
    ·rw [h.2 hd,Zd1 (show ¬ 30<Bm x by omega)];rfl
    ·have hn:A8 x 30=false:=by
      cases hq:A8 x 30 with
      |false=>rfl
      |true=>exact absurd (h.1 hq) hd
     rw [hn,Ze1 (show 30<Bm x by omega)];rfl
   have hr:=A7z h2 (by omega) hw
   rw [hg] at hr
   cases hq:A8 x 30 with
   |true=>rw [hq] at hx hr;exact Anf hx hr
   |false=>rw [hq] at hx hr;exact Anf hx hr
 ·exact Anf (Aso h2 (by decide)) (A10 h2 (by decide))
 ·omega
theorem Zy:Bdx Rows.parseExprsRow.laid:=by
 refine⟨by kernel_rfl,?_⟩
 simp [Rows.parseExprsRow]
set_option maxRecDepth 100000 in
theorem Sm(H:Type) (enc:TypeId×Value→H) (W:World) (base:Nat) (args:Array Value) (ds gs:List (DataW H)) (before:List MemPlace)
  (hval:∀(j:Nat) t v,Tryz.f6.params[j]? = some t→args[j]? = some v→Value.okWide Tryz.prog W .any base t v)
  (hW:DataW.Whole enc Tryz.prog Tryz.f6.params.toList Rows.parseExprsSpec.vars false W args.toList ds gs before) (hL:laidMetH Tryz.prog Rows.parseExprsRow.laid W) (hS:W.ShapedOpen Tryz.prog)
  (hsz:(DataW.weightsEach Tryz.prog (Tryz.f6.params.toList++(OpenSpec.ofChange Rows.parseExprsSpec).bare.plain.varTypes Tryz.prog) (ds++gs)).all (·≤reachBytes)=true) :
  Calls Tryz.prog 6 args W fun e W'=>∃v,e = .returned v∧Rows.parseExprsSpec.post enc Tryz.prog Tryz.f6 false true false false W args v W' :=
 A13 (Ar5 _) (fn:=Tryz.f6) A90 (fun x _ _=>A1d x) (by kernel_rfl) rfl (fun ds h=>match ds,h with|[_],_=>⟨rfl,rfl,rfl⟩) (by kernel_rfl) (by kernel_rfl) hval hW (Bdc Zy hL hS) (fun hl=>A41 hsz (Nat.le_of_eq hl))
theorem Sk(os:Os) (args:Array Value):laidMet Tryz.prog Rows.parseExprsRow.laid ((Aab os).forCall (fun _ _=>0) ⟨#[],args,[]⟩).memory :=
 laidMet_of_run' 8 (by kernel_rfl) (by kernel_rfl)
theorem Aai(os:Os) {H:Type}(enc:TypeId×Value→H):∃places,DataW.whole enc Tryz.prog ((Aab os).forCall (fun _ _=>0) ⟨#[], #[.string ⟨#[]⟩],[]⟩).memory Tryz.f6.params.toList Rows.parseExprsSpec.vars false (#[.string ⟨#[]⟩]:Array Value).toList 8=some ([.lit (.string [])],[],places) :=
 ⟨[],by kernel_rfl⟩
set_option maxRecDepth 100000 in
theorem Xn(os:Os) (started:os.Started) (H:Type) (enc:TypeId×Value→H) (F:Stop.Interp) :
  ReturnsInHanded {} Tryz.checked os 6 .any ((OpenSpec.ofChange Rows.parseExprsSpec).preRow enc Tryz.prog Tryz.f6 Rows.parseExprsRow.domain false Rows.parseExprsRow.laid) (((OpenSpec.ofChange Rows.parseExprsSpec).at F).post enc Tryz.prog Tryz.f6 false true false false):=by
 obtain⟨places,hx⟩:=Aai os enc
 refine returnsInHanded_of_row (C:=Tryz.checked) (s:=OpenSpec.ofChange Rows.parseExprsSpec) own started (by kernel_rfl) Tryz.func6
  (witness_row_at (enc:=enc) (C:=Tryz.checked) false (Aab os) #[.string ⟨#[]⟩] rfl (by kernel_rfl) (by kernel_rfl) (by kernel_rfl)
   (OpenSpec.preRow_of_cond 8 hx (by kernel_rfl) (fun k hk=>by cases hk) (by kernel_rfl) (Sk os _))) ?_
 intro W base args ds gs before hval hW _ _ hsz hL hS _
 exact Sm H enc W base args ds gs before hval hW hL hS hsz
theorem Acu:Rows.ParseExprsSaid :=
 OpenClaim.holds_of_cond 6 Tryz.f6 rfl rfl rfl rfl rfl rfl rfl ⟨rfl,rfl,rfl,rfl,rfl⟩ rfl rfl rfl rfl rfl (by kernel_rfl) Tryz.func6 (by kernel_rfl)
  (of_decide_eq_true (by kernel_rfl)) (by unfold Func.isWrapper;first|(rw [if_pos (by decide +kernel)];kernel_rfl)|(rw [if_neg (by decide +kernel)];exact⟨rfl,rfl⟩))
  (fun os started H enc _ F=>by rw [OpenClaim.pre_eq_preRow];exact Xn os started H enc F)
theorem Zk(f:FuncId) (fn:Func) (hf:Tryz.pinned.checked.prog.funcNamed "exchequer/exchequerlaw14.ParseExprs" = some f) (hfn:Tryz.pinned.checked.prog.funcs[f]? = some fn) :
  false=Tryz.pinned.checked.prog.looks []∧∀(j:Nat) t,fn.params[j]? = some t→Tryz.pinned.checked.prog.wantsStandIn t=false:=by
 obtain rfl:f=6:=Option.some.inj ((show Tryz.prog.funcNamed "exchequer/exchequerlaw14.ParseExprs" = some 6 by kernel_rfl).symm.trans hf) |>.symm
 obtain rfl:fn=Tryz.f6:=(Option.some.inj (Tryz.func6.symm.trans hfn)).symm
 refine⟨by kernel_rfl,fun j t ht =>?_⟩
 have hall:(Tryz.f6.params.all fun t => !Tryz.prog.wantsStandIn t)=true:=by kernel_rfl
 have:=Array.all_eq_true_iff_forall_mem.1 hall t (Array.mem_of_getElem? ht)
 have h2:Tryz.prog.wantsStandIn t=false:=by simpa using this
 exact h2
theorem parseExprs_card:Rows.ParseExprsCardSaid :=
 Claim7.holds_tied_plain_at .later [] _ _ _ _ Acu (fun _ h=>by cases h) (by kernel_rfl) (fun _ h=>by cases h) parseExprs_row_tie rfl ⟨rfl,rfl⟩ (by kernel_rfl) rfl Zk (by kernel_rfl)
end
#print axioms parseExprs_card
end Go.Proofs.YthndhaolemgbdaaGreatDoor
