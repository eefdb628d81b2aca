/- ParseBack: a statement's text is read as it;an expression's,too;and with a semicolon behind;on the condition of the row Ack: that the package's tables hold what the program's text lays. -/
import Derived.Test.YthndhaolemgbdaaGreatDoorQ9
set_option linter.all false
namespace Go.Proofs.YthndhaolemgbdaaGreatDoor
open Go.Ax Go.ChangeShapes Go.WideShapes Go.ChangeAt Go.RowKit Go.ChangeMaps
noncomputable section
def Xx(R:Type):Px R:=⟨Bd ttL,glT,Au [(22,As [.sv .stmt,.int .i64] [.int .i64] Ar6),(12,As [.sv .expr,.int .i64] [.int .i64] Ajy),(29,As [] [.bool] Apk),(23,As [.sv .stmt] [.str,.int .i64] Alf),(14,As [.sv .expr] [.str,.int .i64] Ars),(30,As [.str] [.sv .stmt,.int .i64,.int .i64] Aka),(28,As [.sv .stmt,.sv .stmt] [.bool] Amg),(32,As [.str] [.sv .expr,.int .i64,.int .i64] Arz),(21,As [.sv .expr,.sv .expr] [.bool] Aj7)],Am [],Aw [],tbl []⟩
def Wg(x:HV [.sv .stmt,.sv .expr]):Option (HV [.bool]):=match x with
 |(s,e) =>
 cond (decide (600≤(Axr s 600))) (
  (V7).bind fun x1 =>
  some x1) (
  cond (decide (600≤(Cz e 600))) (
  (V7).bind fun x2 =>
   some x2) (
  (V6 s).bind fun(x3,x4) =>
   (Up e).bind fun(x5,x6) =>
   let j:=fun(_:Unit) =>
    cond (decide (x6=0)) (
    cond (decide ((x5.length:Int)<15000)) (
     (Ais x5).bind fun(x22,x23,x24) =>
     cond (!decide (x23=0)) (
      some false) (
      cond (!decide (x24=0)) (
      some false) (
      cond (!(Ae4 x22 e)) (
       some false) (
       (V7).bind fun x26 =>
       some x26)))) (
     (V7).bind fun x27 =>
     some x27)) (
    (V7).bind fun x28 =>
     some x28)
   cond (decide (x4=0)) (
    cond (decide ((x3.length:Int)<15000)) (
    (Acp x3).bind fun(x13,x14,x15) =>
     chk (decide (x3.length+[32,59].length≤Gy)) (
     (Acp (x3++[32,59])).bind fun(x16,_,x18) =>
      cond (!decide (x14=0)) (
      some false) (
      cond (!decide (x15=0)) (
       some false) (
       cond (!decide (x18=0)) (
       some false) (
       cond (!(Al6 x13 s)) (
        some false) (
        cond (!(Al6 x16 s)) (
        some false) (
        j ()))))))) (
    j ())) (
    j ())))
set_option maxRecDepth 20000 in
theorem Bfz:∀(x:HV [.sv .stmt,.sv .expr]),Cs (Xx _) Tryz.f7 [.sv .stmt,.sv .expr] [.bool] x some=Wg x
 |(s,e)=>by kernel_rfl
theorem A7a:FnOk Tryz.prog elT glT 7 [.sv .stmt,.sv .expr] [.bool] (Wg):=by
 refine A3 Tryz.func7 rfl (by kernel_rfl) follows (by kernel_rfl) (n:=0) (by kernel_rfl) (px:=Xx _) (fun cx hP hel hgl =>?_) (Bfz)
 have hp0:PxOk cx (Xx (HV [.bool])):=⟨fun t=>by rw [hP,hel];exact Av An t,by rw [hgl];rfl⟩
 have hc0:Al cx (Xx (HV [.bool])):=Af rfl (Aa (A7 (by rw [hP,hel,hgl];exact Bc1) (by kernel_rfl)) (Aa (A7 (by rw [hP,hel,hgl];exact Amj) (by kernel_rfl)) (Aa (A7 (by rw [hP,hel,hgl];exact A3g) (by kernel_rfl)) (Aa (A7 (by rw [hP,hel,hgl];exact Apg) (by kernel_rfl)) (Aa (A7 (by rw [hP,hel,hgl];exact Axs) (by kernel_rfl)) (Aa (A7 (by rw [hP,hel,hgl];exact Anl) (by kernel_rfl)) (Aa (A7 (by rw [hP,hel,hgl];exact A7w) (by kernel_rfl)) (Aa (A7 (by rw [hP,hel,hgl];exact Av6) (by kernel_rfl)) (Aa (A7 (by rw [hP,hel,hgl];exact Ak4) (by kernel_rfl)) Aj)))))))))
 have hq0:CallQOk cx (Xx (HV [.bool])):=Ab rfl rfl Ah Ae
 exact⟨hp0,hc0,hq0,Ay⟩
set_option maxRecDepth 20000 in
theorem A1y(s:Stm) (e:Xpr) (bs:BdStm s) (be:BdExpr e) (ss:SmStm (R47,R47) s) (se:SmExpr (R47,R47) e):Wg (s,e)=some true:=by
 simp only [Wg,Ata,Zc1]
 by_cases hs : 600≤Axr s 600
 ·rw [Ze1 hs];rfl
 by_cases he : 600≤Cz e 600
 ·rw [Zd1 hs,Ze1 he];rfl
 have ze:=(Ow (Zn1 _) (Bx e) e 600 (Zn1 _) se (by omega) (by omega)).2.2 (by omega)
 have fs:=A80 ss (by omega)
 rw [Zd1 hs,Zd1 he,Ak,Ak]
 have hx:∀x:Str×Int,Up e=some x→(cond (decide (x.2=0)) (cond (decide ((x.1.length:Int)<15000)) ((Ais x.1).bind fun(x22,x23,x24)=>cond (!decide (x23=0)) (some false) (cond (!decide (x24=0)) (some false) (cond (!(Ae4 x22 e)) (some false) (some true)))) (some true)) (some true))=some true:=fun x hx=>by
  cases hr:Bp e 30 with
  |false =>
   rw [Atb hr] at hx
   cases hx
   rfl
  |true =>
   rw [Arw hr be (by omega)] at hx
   cases hx
   simp only
   by_cases hl:((etx e).length:Int)<15000
   ·have h1:Ae4 e e=true:=by rw [Ahh];exact Ze1 rfl
    rw [Ze1 hl,Bmb ⟨hr,be⟩ (by omega)]
    simp only [Zc1,h1]
    rfl
   ·rw [Zd1 hl]
    rfl
 cases hc:Ko s with
 |false =>
  rw [A9y hc fs]
  simp only [Zc1]
  cases ht:Up e with
  |none =>
   cases hr:Bp e 30 with
   |false=>rw [Atb hr] at ht;cases ht
   |true=>rw [Arw hr be (by omega)] at ht;cases ht
  |some x=>exact hx x ht
 |true =>
  rw [Azz hc bs fs]
  simp only [Zc1]
  cases ht:Up e with
  |none =>
   cases hr:Bp e 30 with
   |false=>rw [Atb hr] at ht;cases ht
   |true=>rw [Arw hr be (by omega)] at ht;cases ht
  |some x =>
   simp only [Zc1,hx x ht]
   by_cases hl:((B2 s).length:Int)<15000
   ·have h1:Al6 s s=true:=Ze1 rfl
    have hm:decide ((B2 s).length+[32,59].length≤Gy)=true:=Ze1 (by simp only [Gy,Zf1,Zi1];omega)
    rw [Ze1 hl,Bnf hc bs fs (by omega),Bax hc bs fs (by simp only [Zh1,Zf1,Zi1];omega),hm]
    simp only [Zc1,h1]
    rfl
   ·rw [Zd1 hl]
    rfl
theorem Ajr:Blw Rows.parseBackRow.laid:=by
 refine⟨by kernel_rfl,?_⟩
 simp [Rows.parseBackRow]
set_option maxRecDepth 100000 in
theorem Ad2(H:Type) (enc:TypeId×Value→H) (W:World) (base:Nat) (args:Array Value) (ds gs:List (DataW H)) (before:List MemPlace)
  (hval:∀(j:Nat) t v,Tryz.f7.params[j]? = some t→args[j]? = some v→Value.okWide Tryz.prog W .any base t v)
  (hW:DataW.Whole enc Tryz.prog Tryz.f7.params.toList Rows.parseBackSpec.vars false W args.toList ds gs before) (hL:laidMetH Tryz.prog Rows.parseBackRow.laid W) (hS:W.ShapedOpen Tryz.prog)
  (hsz:(DataW.weightsEach Tryz.prog (Tryz.f7.params.toList++(OpenSpec.ofChange Rows.parseBackSpec).bare.plain.varTypes Tryz.prog) (ds++gs)).all (·≤reachBytes)=true) :
  Calls Tryz.prog 7 args W fun e W'=>∃v,e = .returned v∧Rows.parseBackSpec.post enc Tryz.prog Tryz.f7 false true false false W args v W' :=
 A6m (Axw _) (fn:=Tryz.f7) A7a (fun x hb hs=>A1y x.1 x.2 hb.1 hb.2 hs.1 hs.2) (by kernel_rfl) rfl (fun ds h=>match ds,h with|[_,_],_=>⟨rfl,rfl,rfl⟩) (by kernel_rfl) (by kernel_rfl) hval hW (Bjf Ajr hL hS) (fun hl=>Bhy hsz (Nat.le_of_eq hl))
theorem Ac0(os:Os) (args:Array Value):laidMet Tryz.prog Rows.parseBackRow.laid ((Agw os).forCall (fun _ _=>0) ⟨#[],args,[]⟩).memory :=
 laidMet_of_run' 8 (by kernel_rfl) (by kernel_rfl)
theorem Ajv(os:Os) {H:Type}(enc:TypeId×Value→H):∃places,DataW.whole enc Tryz.prog ((Agw os).forCall (fun _ _=>0) ⟨#[], #[.agg #[.int .i64 0,.string ⟨#[]⟩,.string ⟨#[]⟩,.slice none 0 0,.slice none 0 0,.slice none 0 0,.slice none 0 0,.slice none 0 0,.bool false,.int .i64 0,.int .i64 0,.int .i64 0,.string ⟨#[]⟩,.string ⟨#[]⟩,.slice none 0 0,.slice none 0 0,.slice none 0 0,.int .i64 0],.agg #[.int .i64 0,.int .i64 0,.int .i64 0,.string ⟨#[]⟩,.string ⟨#[]⟩,.slice none 0 0]],[]⟩).memory Tryz.f7.params.toList Rows.parseBackSpec.vars false (#[.agg #[.int .i64 0,.string ⟨#[]⟩,.string ⟨#[]⟩,.slice none 0 0,.slice none 0 0,.slice none 0 0,.slice none 0 0,.slice none 0 0,.bool false,.int .i64 0,.int .i64 0,.int .i64 0,.string ⟨#[]⟩,.string ⟨#[]⟩,.slice none 0 0,.slice none 0 0,.slice none 0 0,.int .i64 0],.agg #[.int .i64 0,.int .i64 0,.int .i64 0,.string ⟨#[]⟩,.string ⟨#[]⟩,.slice none 0 0]]:Array Value).toList 8=some ([.agg [.lit (.int .i64 0),.lit (.string []),.lit (.string []),.nil,.nil,.nil,.nil,.nil,.lit (.bool false),.agg [.lit (.int .i64 0),.agg [.lit (.int .i64 0),.lit (.int .i64 0),.lit (.string [])],.lit (.string []),.nil],.nil,.nil,.lit (.int .i64 0)],.agg [.lit (.int .i64 0),.agg [.lit (.int .i64 0),.lit (.int .i64 0),.lit (.string [])],.lit (.string []),.nil]],[],places) :=
 ⟨[],by kernel_rfl⟩
set_option maxRecDepth 100000 in
theorem Ag7(os:Os) (started:os.Started) (H:Type) (enc:TypeId×Value→H) (F:Stop.Interp) :
  ReturnsInHanded {} Tryz.checked os 7 .any ((OpenSpec.ofChange Rows.parseBackSpec).preRow enc Tryz.prog Tryz.f7 Rows.parseBackRow.domain false Rows.parseBackRow.laid) (((OpenSpec.ofChange Rows.parseBackSpec).at F).post enc Tryz.prog Tryz.f7 false true false false):=by
 obtain⟨places,hx⟩:=Ajv os enc
 refine returnsInHanded_of_row (C:=Tryz.checked) (s:=OpenSpec.ofChange Rows.parseBackSpec) own started (by kernel_rfl) Tryz.func7
  (witness_row_at (enc:=enc) (C:=Tryz.checked) false (Agw os) #[.agg #[.int .i64 0,.string ⟨#[]⟩,.string ⟨#[]⟩,.slice none 0 0,.slice none 0 0,.slice none 0 0,.slice none 0 0,.slice none 0 0,.bool false,.int .i64 0,.int .i64 0,.int .i64 0,.string ⟨#[]⟩,.string ⟨#[]⟩,.slice none 0 0,.slice none 0 0,.slice none 0 0,.int .i64 0],.agg #[.int .i64 0,.int .i64 0,.int .i64 0,.string ⟨#[]⟩,.string ⟨#[]⟩,.slice none 0 0]] rfl (by kernel_rfl) (by kernel_rfl) (by kernel_rfl)
   (OpenSpec.preRow_of_cond 8 hx (by kernel_rfl) (fun k hk=>by cases hk) (by kernel_rfl) (Ac0 os _))) ?_
 intro W base args ds gs before hval hW _ _ hsz hL hS _
 exact Ad2 H enc W base args ds gs before hval hW hL hS hsz
theorem Alh:Rows.ParseBackSaid :=
 OpenClaim.holds_of_cond 7 Tryz.f7 rfl rfl rfl rfl rfl rfl rfl ⟨rfl,rfl,rfl,rfl,rfl⟩ rfl rfl rfl rfl rfl (by kernel_rfl) Tryz.func7 (by kernel_rfl)
  (of_decide_eq_true (by kernel_rfl)) (by unfold Func.isWrapper;first|(rw [if_pos (by decide +kernel)];kernel_rfl)|(rw [if_neg (by decide +kernel)];exact⟨rfl,rfl⟩))
  (fun os started H enc _ F=>by rw [OpenClaim.pre_eq_preRow];exact Ag7 os started H enc F)
theorem Ajq(f:FuncId) (fn:Func) (hf:Tryz.pinned.checked.prog.funcNamed "exchequer/exchequerlaw14.ParseBack" = some f) (hfn:Tryz.pinned.checked.prog.funcs[f]? = some fn) :
  false=Tryz.pinned.checked.prog.looks []∧∀(j:Nat) t,fn.params[j]? = some t→Tryz.pinned.checked.prog.wantsStandIn t=false:=by
 obtain rfl:f=7:=Option.some.inj ((show Tryz.prog.funcNamed "exchequer/exchequerlaw14.ParseBack" = some 7 by kernel_rfl).symm.trans hf) |>.symm
 obtain rfl:fn=Tryz.f7:=(Option.some.inj (Tryz.func7.symm.trans hfn)).symm
 refine⟨by kernel_rfl,fun j t ht =>?_⟩
 have hall:(Tryz.f7.params.all fun t => !Tryz.prog.wantsStandIn t)=true:=by kernel_rfl
 have:=Array.all_eq_true_iff_forall_mem.1 hall t (Array.mem_of_getElem? ht)
 have h2:Tryz.prog.wantsStandIn t=false:=by simpa using this
 exact h2
theorem parseBack_card:Rows.ParseBackCardSaid :=
 Claim7.holds_tied_plain_at .later [] _ _ _ _ Alh (fun _ h=>by cases h) (by kernel_rfl) (fun _ h=>by cases h) parseBack_row_tie rfl ⟨rfl,rfl⟩ (by kernel_rfl) rfl Ajq (by kernel_rfl)
end
#print axioms parseBack_card
end Go.Proofs.YthndhaolemgbdaaGreatDoor
