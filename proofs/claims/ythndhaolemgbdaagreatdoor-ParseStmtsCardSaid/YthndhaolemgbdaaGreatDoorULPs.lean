/- ParseStmts: any text is the statement that the chapter says,or wrong where,and as,it says;on the condition of the row Ym: that the package's tables hold what the program's text lays. -/
import Derived.Test.YthndhaolemgbdaaGreatDoorU8
set_option linter.all false
namespace Go.Proofs.YthndhaolemgbdaaGreatDoor
open Go.Ax Go.ChangeShapes Go.WideShapes Go.ChangeAt Go.RowKit Go.ChangeMaps
noncomputable section
def Bp2(R:Type):Px R:=pxO [(29,cA Aqz),(30,cA Ajc),(31,cA Bki),(28,cA Acu)] [] [] []
def K4(x:HV [.str]):Option (HV [.bool]):=match x with
 |s =>
 let j:=λ(_:Unit) =>
  (X3 s).bind λ(x4,x5,x6) =>
  (At4 s).bind λ(x7,x8,x9) =>
   cond ((Re x4 x7)) (
   cond (decide (x5=x8)) (
    cond (decide (x6=x9)) (
    (Xf).bind λa =>some a) (
    some false)) (
    some false)) (
   some false)
 cond (decide (3000<(s.length:Int))) (
  cond (decide ((s.length:Int)<=20000)) (
  (Xf).bind λx1 =>some x1) (
  cond (decide (30000<(s.length:Int))) (
   (Xf).bind λx2 =>
   some x2) (
   j ()))) (
  cond (decide (30000<(s.length:Int))) (
  (Xf).bind λx3 =>some x3) (
  j ()))
set_option maxRecDepth 20000 in
theorem Bko:FO 5 [.str] [.bool] (K4):=fR (px:=Bp2 _) (n:=0) Tryz.func5 rfl (λ_ H=>⟨lv H (c1 H A4n (c1 H Aoj (c1 H Bmh (c1 H Ari Ah)))) Ae Ab,Aj⟩) λ_=>by kernel_rfl
theorem Amd{s:Str}{x:Stm}{n e:Int}(h:X3 s=some (x,n,e))(h2:At4 s=some (x,n,e)):K4 s=some true:=by have e1:Re x x=true:=Ze1 rfl;simp only[K4,Aa6,h,h2,e1,Zc1,decide_true,Aa];cases decide (3000<(s.length:Int))<;>cases decide ((s.length:Int)<=20000)<;>cases decide (30000<(s.length:Int))<;>rfl
theorem Bdo{s:Str}(h : 3000<s.length/\s.length<=20000\/30000<s.length):K4 s=some true:=by
 simp only[K4,Aa6];rcases h with h|h
 ·rw[Ze1 (show 3000<(s.length:Int) by omega),Ze1 (show(s.length:Int)<=20000 by omega)];rfl
 ·rw[Ze1 (show 3000<(s.length:Int) by omega),Zd1 (show ¬(s.length:Int)<=20000 by omega),Ze1 (show 30000<(s.length:Int) by omega)];rfl
theorem Akb{s:Str}{n e:Int}(h:Hl s=([],n,e))(he:¬e=0):X3 s=some (zS,n,e):=by rw[Aki s (Aww s)];simp only[xS,h];rw[if_neg he]
theorem Baa(s:Str):K4 s=some true:=by
 by_cases hk : 3000<s.length/\s.length<=20000\/30000<s.length
 ·exact Bdo hk
 rcases Akq s with ⟨ts,h0,h1,h2⟩|⟨_,j,h1,h2⟩|⟨h1,h2⟩
 ·have ht:=(Axz h1 h0).1;have hf:=A1s h1;cases hw:L4 ts with
  |error q=>exact Amd (Bpp h0 h1 hw) (Bmw h2 ht (by omega) hw)
  |ok x =>obtain⟨b1,b2,b3⟩:=Bjj (by omega) h1 hw;have hr:=Bmp h0 h1 hw b2;have hg:=Blm h2 ht (by omega) hw b2;cases hc:E4 x with|true=>rw[hc,Aa] at hr hg;exact Amd hr hg|false=>rw[hc,Af] at hr hg;exact Amd hr hg
 ·exact Amd (Akb h2 (by decide)) (As8 h2 (by decide))
 ·exact Amd (Akb h2 (by decide)) (As8 h2 (by decide))
theorem Ae1:Bqf Rows.parseStmtsRow.laid:=by refine⟨by kernel_rfl,?_⟩;simp[Rows.parseStmtsRow]
set_option maxRecDepth 100000 in
theorem Xo(H:Type)(enc:TypeId×Value->H)(W:World)(base:Nat)(args:Array Value)(ds gs:List (DataW H))(before:List MemPlace)
  (hval:∀(j:Nat) t v,Tryz.f5.params[j]? = some t->args[j]? = some v->Value.okWide Tryz.prog W .any base t v)
  (hW:DataW.Whole enc Tryz.prog Tryz.f5.params.toList Rows.parseStmtsSpec.vars false W args.toList ds gs before) (hL:laidMetH Tryz.prog Rows.parseStmtsRow.laid W) (hS:W.ShapedOpen Tryz.prog)
  (hsz:(DataW.weightsEach Tryz.prog (Tryz.f5.params.toList++(OpenSpec.ofChange Rows.parseStmtsSpec).bare.plain.varTypes Tryz.prog) (ds++gs)).all (·<=reachBytes)=true) :
  Calls Tryz.prog 5 args W λe W'=>∃v,e = .returned v/\Rows.parseStmtsSpec.post enc Tryz.prog Tryz.f5 false true false false W args v W' :=
 Bd7 (Ayx _) (fn:=Tryz.f5) Bko (λx _ _=>Baa x) (by kernel_rfl) rfl (λds h=>match ds,h with|[_],_=>⟨rfl,rfl,rfl⟩) (by kernel_rfl) (by kernel_rfl) hval hW (Bmi Ae1 hL hS) (λhl=>Bk6 hsz (Nat.le_of_eq hl))
theorem Xm(os:Os)(args:Array Value):laidMet Tryz.prog Rows.parseStmtsRow.laid ((Ad2 os).forCall (λ_ _=>0) ⟨#[],args,[]⟩).memory :=laidMet_of_run' 8 (by kernel_rfl) (by kernel_rfl)
theorem Af3(os:Os){H:Type}(enc:TypeId×Value->H):∃places,DataW.whole enc Tryz.prog ((Ad2 os).forCall (λ_ _=>0) ⟨#[], #[.string ⟨#[]⟩],[]⟩).memory Tryz.f5.params.toList Rows.parseStmtsSpec.vars false (#[.string ⟨#[]⟩]:Array Value).toList 8=some ([.lit (.string [])],[],places) :=⟨[],by kernel_rfl⟩
set_option maxRecDepth 100000 in
theorem Abh(os:Os)(started:os.Started)(H:Type)(enc:TypeId×Value->H)(F:Stop.Interp) :
  ReturnsInHanded {} Tryz.checked os 5 .any ((OpenSpec.ofChange Rows.parseStmtsSpec).preRow enc Tryz.prog Tryz.f5 Rows.parseStmtsRow.domain false Rows.parseStmtsRow.laid) (((OpenSpec.ofChange Rows.parseStmtsSpec).at F).post enc Tryz.prog Tryz.f5 false true false false):=by
 obtain⟨places,hx⟩:=Af3 os enc;refine returnsInHanded_of_row (C:=Tryz.checked) (s:=OpenSpec.ofChange Rows.parseStmtsSpec) own started (by kernel_rfl) Tryz.func5
  (witness_row_at (enc:=enc) (C:=Tryz.checked) false (Ad2 os) #[.string ⟨#[]⟩] rfl (by kernel_rfl) (by kernel_rfl) (by kernel_rfl)
   (OpenSpec.preRow_of_cond 8 hx (by kernel_rfl) (λk hk=>by cases hk) (by kernel_rfl) (Xm os _))) ?_
 intro W base args ds gs before hval hW _ _ hsz hL hS _;exact Xo H enc W base args ds gs before hval hW hL hS hsz
theorem Aio:Rows.ParseStmtsSaid :=
 OpenClaim.holds_of_cond 5 Tryz.f5 rfl rfl rfl rfl rfl rfl rfl ⟨rfl,rfl,rfl,rfl,rfl⟩ rfl rfl rfl rfl rfl (by kernel_rfl) Tryz.func5 (by kernel_rfl)
  (of_decide_eq_true (by kernel_rfl)) (by unfold Func.isWrapper;first|(rw[if_pos (by decide +kernel)];kernel_rfl)|(rw[if_neg (by decide +kernel)];exact⟨rfl,rfl⟩))
  (λos started H enc _ F=>by rw[OpenClaim.pre_eq_preRow];exact Abh os started H enc F)
theorem Ad6(f:FuncId)(fn:Func)(hf:Tryz.pinned.checked.prog.funcNamed "exchequer/exchequerlaw14.ParseStmts" = some f)(hfn:Tryz.pinned.checked.prog.funcs[f]? = some fn) :
  false=Tryz.pinned.checked.prog.looks []/\∀(j:Nat) t,fn.params[j]? = some t->Tryz.pinned.checked.prog.wantsStandIn t=false:=by
 obtain rfl:f=5:=Option.some.inj ((show Tryz.prog.funcNamed "exchequer/exchequerlaw14.ParseStmts" = some 5 by kernel_rfl).symm.trans hf) |>.symm;obtain rfl:fn=Tryz.f5:=(Option.some.inj (Tryz.func5.symm.trans hfn)).symm;refine⟨by kernel_rfl,λj t ht =>?_⟩;have hall:(Tryz.f5.params.all λt => !Tryz.prog.wantsStandIn t)=true:=by kernel_rfl
 have:=Array.all_eq_true_iff_forall_mem.1 hall t (Array.mem_of_getElem? ht);have h2:Tryz.prog.wantsStandIn t=false:=by simpa using this
 exact h2
theorem parseStmts_card:Rows.ParseStmtsCardSaid :=Claim7.holds_tied_plain_at .later [] _ _ _ _ Aio (λ_ h=>by cases h) (by kernel_rfl) (λ_ h=>by cases h) parseStmts_row_tie rfl ⟨rfl,rfl⟩ (by kernel_rfl) rfl Ad6 (by kernel_rfl)
end
#print axioms parseStmts_card
end Go.Proofs.YthndhaolemgbdaaGreatDoor
