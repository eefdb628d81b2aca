/- TxnWrites: any outcome has the bytes that the chapter says,or none;any bytes are the outcome that it says,or none;whether two are the same,too;of arguments that hold together at most 1048576 values and letters,on the condition of the row Wj: that the package's tables hold what the program's text lays there. -/
import Derived.Test.YtblaahgjaopdnaaGreatDoorZZ9
set_option linter.all false
namespace Go.Proofs.YtblaahgjaopdnaaGreatDoor
open Go.Ax Go.ChangeShapes Go.WideShapes Go.ChangeAt Go.RowKit Go.ChangeMaps
theorem Bnd(a c:OutS)(b:Str)(sa:SmO a)(sc:SmO c)(ba:BdS (.sv .outc) a)(bc:BdS (.sv .outc) c):Aoo (a,c,b)=some true:=by
 obtain⟨r1,h1,u1⟩:=Bak sa;obtain⟨r2,h2,u2⟩:=Bak sc;simp only[Aoo,h1,h2,Zc1];cases r1 with
 |true=>rfl
 |false =>
  cases r2 with
  |true=>rfl
  |false =>
   obtain⟨a1,a2,a3⟩:=Bbb ba (u1 rfl);obtain⟨c1,c2,c3⟩:=Bbb bc (u2 rfl);rw[Af,Af];by_cases hb : 5000<(b.length:Int)
   ·rw[Ze1 hb];rfl
   ·obtain⟨o,f,d1,d2,d3⟩:=Bog (b:=b) (by omega);have od:o.l.length<=4000/\∀r,r∈o.l->Ae3 r:=by
     rcases d3 with ⟨rfl,_⟩|⟨_,d4,d5⟩
     ·exact⟨by simp,λr hr=>by cases hr⟩
     ·refine⟨d4.1,λr hr=>⟨?_,λq hq=>((d4.2.2.2 r hr).1.2 q hq).1⟩⟩;have e:=Aaf (o:=o) (by rw[d5]);have hr2:=e.2.2.1 r hr;have:=Atd hr;have hw:Bn o=b:=by rw[<-e.2.2.2.1,d5]
      have hwl:=congrArg List.length hw;simp only[Bn,Zh1] at hwl;have e2:(C6 r.rows).1=Gi (Bb r.rows):=by rw[C6,show r.rows.all okR=true from hr2];rfl
      simp only[Rw,Zh1,e2,Gi] at this;have hj:=Asv (l:=r.rows) λq hq=>Zg2.1 hr2 q hq;omega
    rw[Zd1 hb,Af];simp only[Ava a1,Anl a1,d1,d2,Akc,Jm,Zc1,decide_true,Ah,A3l od.1 od.2 od.2,Br9 a2 a3,A3l a2 a3 c3];rfl
theorem Vt:Bxf Rows.txnWritesUptoRow.laid:=by refine⟨by kernel_rfl,?_⟩;simp[Rows.txnWritesUptoRow]
set_option maxRecDepth 100000 in
theorem Pk(H:Type)(enc:TypeId×Value->H)(W:World)(base:Nat)(args:Array Value)(ds gs:List (DataW H))(before:List MemPlace)
  (hval:∀(j:Nat) t v,Tryz.f3.params[j]? = some t->args[j]? = some v->Value.okWide Tryz.prog W .any base t v)
  (hW:DataW.Whole enc Tryz.prog Tryz.f3.params.toList Rows.txnWritesSpec.vars false W args.toList ds gs before) (hL:laidMetH Tryz.prog Rows.txnWritesUptoRow.laid W) (hS:W.ShapedOpen Tryz.prog)
  (hsz:Rows.uptoSmall H (ds++gs)=true) :
  Calls Tryz.prog 3 args W λe W'=>∃v,e = .returned v/\Rows.txnWritesSpec.post enc Tryz.prog Tryz.f3 false true false false W args v W' :=
 Bgh (Bpu _ 1048576) (fn:=Tryz.f3) Bvn (λx hb hs=>Bnd x.1 x.2.1 x.2.2 hs.1 hs.2.1 hb.1 hb.2.1) (by kernel_rfl) rfl (λds h=>match ds,h with|[_,_,_],_=>⟨rfl,rfl,rfl⟩) (by kernel_rfl) (by kernel_rfl) hval hW (Bt3 Vt hL hS) (λ_ i t d _ hd=>Bts hsz (by rw[List.getElem?_append_left (Zi2.1 hd).1];exact hd))
theorem Pd(os:Os)(args:Array Value):laidMet Tryz.prog Rows.txnWritesUptoRow.laid ((Af0 os).forCall (λ_ _=>0) ⟨#[],args,[]⟩).memory :=laidMet_of_run' 8 (by kernel_rfl) (by kernel_rfl)
theorem Vz(os:Os){H:Type}(enc:TypeId×Value->H):∃places,DataW.whole enc Tryz.prog ((Af0 os).forCall (λ_ _=>0) ⟨#[], #[.agg #[.int .i64 0,.int .i64 0,.slice none 0 0],.agg #[.int .i64 0,.int .i64 0,.slice none 0 0],.slice none 0 0],[]⟩).memory Tryz.f3.params.toList Rows.txnWritesSpec.vars false (#[.agg #[.int .i64 0,.int .i64 0,.slice none 0 0],.agg #[.int .i64 0,.int .i64 0,.slice none 0 0],.slice none 0 0]:Array Value).toList 8=some ([.agg [.lit (.int .i64 0),.lit (.int .i64 0),.nil],.agg [.lit (.int .i64 0),.lit (.int .i64 0),.nil],.nil],[],places) :=⟨[],by kernel_rfl⟩
set_option maxRecDepth 100000 in
theorem Qr(os:Os)(started:os.Started)(H:Type)(enc:TypeId×Value->H)(F:Stop.Interp) :
  ReturnsInHanded {} Tryz.checked os 3 .any ((Rows.OpenSpec.upto Rows.txnWritesSpec).preRow enc Tryz.prog Tryz.f3 Rows.txnWritesUptoRow.domain false Rows.txnWritesUptoRow.laid) (((Rows.OpenSpec.upto Rows.txnWritesSpec).at F).post enc Tryz.prog Tryz.f3 false true false false):=by
 obtain⟨places,hx⟩:=Vz os enc;refine returnsInHanded_of_row (C:=Tryz.checked) (s:=Rows.OpenSpec.upto Rows.txnWritesSpec) own started (by kernel_rfl) Tryz.func3
  (witness_row_at (enc:=enc) (C:=Tryz.checked) false (Af0 os) #[.agg #[.int .i64 0,.int .i64 0,.slice none 0 0],.agg #[.int .i64 0,.int .i64 0,.slice none 0 0],.slice none 0 0] rfl (by kernel_rfl) (by kernel_rfl) (by kernel_rfl)
   (OpenSpec.preRow_of_cond 8 hx (by kernel_rfl) (λk hk=>by cases hk;kernel_rfl) (by kernel_rfl) (Pd os _))) ?_
 intro W base args ds gs before hval hW _ hc _ hL hS _;exact Pk H enc W base args ds gs before hval hW hL hS (hc _ rfl)
theorem Afo:laidOutB Tryz.pinned.checked.prog=true:=by kernel_rfl
theorem Ad7:mapsRowed Tryz.pinned.checked.prog=true:=by kernel_rfl
theorem Aem:(Rows.txnWritesUptoRow.inPlace == Tryz.pinned.checked.prog.inPlace 3)=true:=by kernel_rfl
theorem Ads:(Rows.txnWritesUptoRow.unfollowed == Tryz.pinned.checked.prog.unfollowed 3)=true:=by kernel_rfl
theorem Ad3:(Rows.txnWritesUptoRow.recurses == Tryz.pinned.checked.prog.recurses 3)=true:=by kernel_rfl
theorem Afx:(Rows.txnWritesUptoRow.named == Tryz.pinned.checked.prog.varsNamed 3)=true:=by kernel_rfl
theorem Ad4:Tryz.pinned.checked.prog.stopsHeard=true:=by kernel_rfl
theorem Adb:Tryz.pinned.checked.prog.mayEnter=true:=by kernel_rfl
theorem Adi:(Rows.txnWritesUptoRow.lifted == Tryz.pinned.checked.prog.liftsFinal)=true:=by kernel_rfl
theorem Ab4:(Rows.txnWritesUptoRow.plainKeys == Tryz.pinned.checked.prog.plainKeys)=true:=by kernel_rfl
theorem Sm:joinedFacts Tryz.pinned.checked.prog 3 Tryz.f3 (Rows.OpenSpec.upto Rows.txnWritesSpec).bare Rows.txnWritesUptoRow=true:=by rw[joinedFacts,Afo,Ad7,Aem,Ads,Ad3,Afx,Ad4,Adb,Adi,Ab4];kernel_rfl
theorem Mq:Tryz.pinned.checked.prog.funcNamed Rows.txnWritesUptoRow.func=some 3:=by kernel_rfl
theorem W2:Tryz.f3.isInstance Tryz.pinned.checked.prog Rows.txnWritesUptoRow.origin Rows.txnWritesUptoRow.targs:=of_decide_eq_true (by kernel_rfl)
theorem Y5:Tryz.f3.isWrapper Tryz.pinned.checked.prog Rows.txnWritesUptoRow.wrapper Rows.txnWritesUptoRow.mainSum:=by unfold Func.isWrapper;first|(rw[if_pos (by decide +kernel)];kernel_rfl)|(rw[if_neg (by decide +kernel)];exact⟨rfl,rfl⟩)
theorem X1:Rows.TxnWritesUptoSaid :=
 OpenClaim.holds_of_cond 3 Tryz.f3 rfl rfl rfl rfl rfl rfl rfl ⟨rfl,rfl,rfl,rfl,rfl⟩ rfl rfl rfl rfl rfl Mq Tryz.func3 Sm W2 Y5
  (λos started H enc _ F=>by rw[OpenClaim.pre_eq_preRow];exact Qr os started H enc F)
theorem V0(f:FuncId)(fn:Func)(hf:Tryz.pinned.checked.prog.funcNamed "exchequer/exchequerlaw20.TxnWrites" = some f)(hfn:Tryz.pinned.checked.prog.funcs[f]? = some fn) :
  false=Tryz.pinned.checked.prog.looks []/\∀(j:Nat) t,fn.params[j]? = some t->Tryz.pinned.checked.prog.wantsStandIn t=false:=by
 obtain rfl:f=3:=Option.some.inj ((show Tryz.prog.funcNamed "exchequer/exchequerlaw20.TxnWrites" = some 3 by kernel_rfl).symm.trans hf) |>.symm;obtain rfl:fn=Tryz.f3:=(Option.some.inj (Tryz.func3.symm.trans hfn)).symm;refine⟨by kernel_rfl,λj t ht =>?_⟩;have hall:(Tryz.f3.params.all λt => !Tryz.prog.wantsStandIn t)=true:=by kernel_rfl
 have:=Array.all_eq_true_iff_forall_mem.1 hall t (Array.mem_of_getElem? ht);have h2:Tryz.prog.wantsStandIn t=false:=by simpa using this
 exact h2
theorem Adj:Rows.txnWritesUptoRow.wfByText (Rows.OpenSpec.upto Rows.txnWritesSpec)=true:=by kernel_rfl
theorem Afk:((Tryz.pinned.checked.prog.closure 3).any λg=>(Tryz.pinned.checked.prog.funcs[g]?).any Func.goes)=false:=by kernel_rfl
theorem Aev:Tryz.pinned.checked.prog.funcs.any Func.goes=false:=by kernel_rfl
theorem Ail:Tryz.pinned.checked.prog.goes 3=false:=by rw[Program.goes,Afk,Aev,Bool.and_false];rfl
theorem W9:Tryz.pinned.checked.prog.goesFrom Rows.txnWritesUptoRow.func=false:=by rw[Program.goesFrom,Mq,Option.any_some,Ail]
theorem Aeq:Rows.txnWritesUptoRow.goesBy Tryz.pinned.checked.prog=(Tryz.pinned.checked.prog.goesFrom Rows.txnWritesUptoRow.func||false):=by kernel_rfl
theorem Zc:false=Rows.txnWritesUptoRow.goesBy Tryz.pinned.checked.prog:=by rw[Aeq,W9,Bool.or_false]
theorem txnWritesUpto_card:Rows.TxnWritesUptoCardSaid :=Claim7.holds_tied_plain_at .later [] _ _ _ _ X1 (λ_ h=>by cases h) Adj (λ_ h=>by cases h) txnWritesUpto_row_tie rfl ⟨rfl,rfl⟩ (by kernel_rfl) rfl V0 Zc
#print axioms txnWritesUpto_card
end Go.Proofs.YtblaahgjaopdnaaGreatDoor
