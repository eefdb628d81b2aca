/- RowsOrder: all rows stand in their keys' order,no two with one key;a column that is unique has no value twice;of arguments that hold together at most 1048576 values and letters,on the condition of the row alone: that the package's tables hold what the program's text lays there. -/
import Derived.Test.YtcoaaebppfbbnaaGreatDoorK18
set_option linter.all false
namespace Go.Proofs.YtcoaaebppfbbnaaGreatDoor
open Go.Ax Go.ChangeShapes Go.WideShapes Go.ChangeAt Go.RowKit Go.ChangeMaps
noncomputable section
def Bss:FT [.sv .tbl,.sl .vals false] [.bool]:=λx=>Aal 5000 x
theorem Bsu:FO 4 [.sv .tbl,.sl .vals false] [.bool] Bss :=.fin 0 Bq3 λ_ _ _ hx=>⟨5000,hx⟩
theorem Bje(t:Tbl)(l:List (List Val))(st:SmTbl RM t)(sl:l.length<=1048576)(sr:∀r,r∈l->r.length<=1048576)(hb:∀r,r∈l->∀v,v∈r->Aky v)(hz : 2*xszs t.checks<=1048576):Bss (t,l)=some true:=by
 have hx:esizes t.checks<=900000:=by rw[esizes_xszs];omega
 have hn:∀r,r∈l->G6 r:=λr hr v hv=>propext ⟨λ_=>rfl,λ_=>(hb r hr v hv).2.1⟩;exact Bwr (Bk1 st hx) sl sr hn 5000 (by omega) (by omega)
theorem Uw:Br1 Rows.rowsOrderUptoRow.laid:=by refine⟨by kernel_rfl,?_⟩;simp[Rows.rowsOrderUptoRow]
set_option maxRecDepth 100000 in
theorem Nj(H:Type)(enc:TypeId×Value->H)(W:World)(base:Nat)(args:Array Value)(ds gs:List (DataW H))(before:List MemPlace)
  (hval:∀(j:Nat) t v,Tryz.f4.params[j]? = some t->args[j]? = some v->Value.okWide Tryz.prog W .any base t v)
  (hW:DataW.Whole enc Tryz.prog Tryz.f4.params.toList Rows.rowsOrderSpec.vars false W args.toList ds gs before) (hL:laidMetH Tryz.prog Rows.rowsOrderUptoRow.laid W) (hS:W.ShapedOpen Tryz.prog)
  (hsz:Rows.uptoSmall H (ds++gs)=true) :
  Calls Tryz.prog 4 args W λe W'=>∃v,e = .returned v/\Rows.rowsOrderSpec.post enc Tryz.prog Tryz.f4 false true false false W args v W' :=
 A4h (Bix _ 1048576) (fn:=Tryz.f4) Bsu (λx hb hs hz=>Bje x.1 x.2 hs.1 hs.2.1 (λr hr=>(hs.2.2 r hr).1) (λr hr=>(hb.2.2 r hr).2) hz) (by kernel_rfl) rfl (λds h=>match ds,h with|[_,_],_=>⟨rfl,rfl,rfl⟩) (by kernel_rfl) (by kernel_rfl) hval hW (Bpt Uw hL hS) (λ_ i t d _ hd=>Bpg hsz (by rw[List.getElem?_append_left (Zi2.1 hd).1];exact hd)) (λx hx=>Nat.le_trans (hx _ Be3) (Bs3 hsz))
theorem N3(os:Os)(args:Array Value):laidMet Tryz.prog Rows.rowsOrderUptoRow.laid ((Abe os).forCall (λ_ _=>0) ⟨#[],args,[]⟩).memory :=laidMet_of_run' 8 (by kernel_rfl) (by kernel_rfl)
theorem Uz(os:Os){H:Type}(enc:TypeId×Value->H):∃places,DataW.whole enc Tryz.prog ((Abe os).forCall (λ_ _=>0) ⟨#[], #[.agg #[.string ⟨#[]⟩,.slice none 0 0,.slice none 0 0,.slice none 0 0,.slice none 0 0],.slice none 0 0],[]⟩).memory Tryz.f4.params.toList Rows.rowsOrderSpec.vars false (#[.agg #[.string ⟨#[]⟩,.slice none 0 0,.slice none 0 0,.slice none 0 0,.slice none 0 0],.slice none 0 0]:Array Value).toList 8=some ([.agg [.lit (.string []),.nil,.nil,.nil,.nil],.nil],[],places) :=⟨[],by kernel_rfl⟩
set_option maxRecDepth 100000 in
theorem Qv(os:Os)(started:os.Started)(H:Type)(enc:TypeId×Value->H)(F:Stop.Interp) :
  ReturnsInHanded {} Tryz.checked os 4 .any ((Rows.OpenSpec.upto Rows.rowsOrderSpec).preRow enc Tryz.prog Tryz.f4 Rows.rowsOrderUptoRow.domain false Rows.rowsOrderUptoRow.laid) (((Rows.OpenSpec.upto Rows.rowsOrderSpec).at F).post enc Tryz.prog Tryz.f4 false true false false):=by
 obtain⟨places,hx⟩:=Uz os enc;refine returnsInHanded_of_row (C:=Tryz.checked) (s:=Rows.OpenSpec.upto Rows.rowsOrderSpec) own started (by kernel_rfl) Tryz.func4
  (witness_row_at (enc:=enc) (C:=Tryz.checked) false (Abe os) #[.agg #[.string ⟨#[]⟩,.slice none 0 0,.slice none 0 0,.slice none 0 0,.slice none 0 0],.slice none 0 0] rfl (by kernel_rfl) (by kernel_rfl) (by kernel_rfl)
   (OpenSpec.preRow_of_cond 8 hx (by kernel_rfl) (λk hk=>by cases hk;kernel_rfl) (by kernel_rfl) (N3 os _))) ?_
 intro W base args ds gs before hval hW _ hc _ hL hS _;exact Nj H enc W base args ds gs before hval hW hL hS (hc _ rfl)
theorem Abu:laidOutB Tryz.pinned.checked.prog=true:=by kernel_rfl
theorem Ady:mapsRowed Tryz.pinned.checked.prog=true:=by kernel_rfl
theorem Adr:(Rows.rowsOrderUptoRow.inPlace == Tryz.pinned.checked.prog.inPlace 4)=true:=by kernel_rfl
theorem Acp:(Rows.rowsOrderUptoRow.unfollowed == Tryz.pinned.checked.prog.unfollowed 4)=true:=by kernel_rfl
theorem Abc:(Rows.rowsOrderUptoRow.recurses == Tryz.pinned.checked.prog.recurses 4)=true:=by kernel_rfl
theorem Adz:(Rows.rowsOrderUptoRow.named == Tryz.pinned.checked.prog.varsNamed 4)=true:=by kernel_rfl
theorem Aba:Tryz.pinned.checked.prog.stopsHeard=true:=by kernel_rfl
theorem Acr:Tryz.pinned.checked.prog.mayEnter=true:=by kernel_rfl
theorem Ade:(Rows.rowsOrderUptoRow.lifted == Tryz.pinned.checked.prog.liftsFinal)=true:=by kernel_rfl
theorem Aax:(Rows.rowsOrderUptoRow.plainKeys == Tryz.pinned.checked.prog.plainKeys)=true:=by kernel_rfl
theorem Pm:joinedFacts Tryz.pinned.checked.prog 4 Tryz.f4 (Rows.OpenSpec.upto Rows.rowsOrderSpec).bare Rows.rowsOrderUptoRow=true:=by rw[joinedFacts,Abu,Ady,Adr,Acp,Abc,Adz,Aba,Acr,Ade,Aax];kernel_rfl
theorem Md:Tryz.pinned.checked.prog.funcNamed Rows.rowsOrderUptoRow.func=some 4:=by kernel_rfl
theorem Wi:Tryz.f4.isInstance Tryz.pinned.checked.prog Rows.rowsOrderUptoRow.origin Rows.rowsOrderUptoRow.targs:=of_decide_eq_true (by kernel_rfl)
theorem Wh:Tryz.f4.isWrapper Tryz.pinned.checked.prog Rows.rowsOrderUptoRow.wrapper Rows.rowsOrderUptoRow.mainSum:=by unfold Func.isWrapper;first|(rw[if_pos (by decide +kernel)];kernel_rfl)|(rw[if_neg (by decide +kernel)];exact⟨rfl,rfl⟩)
theorem Ww:Rows.RowsOrderUptoSaid :=
 OpenClaim.holds_of_cond 4 Tryz.f4 rfl rfl rfl rfl rfl rfl rfl ⟨rfl,rfl,rfl,rfl,rfl⟩ rfl rfl rfl rfl rfl Md Tryz.func4 Pm Wi Wh
  (λos started H enc _ F=>by rw[OpenClaim.pre_eq_preRow];exact Qv os started H enc F)
theorem Ux(f:FuncId)(fn:Func)(hf:Tryz.pinned.checked.prog.funcNamed "exchequer/exchequerlaw18.RowsOrder" = some f)(hfn:Tryz.pinned.checked.prog.funcs[f]? = some fn) :
  false=Tryz.pinned.checked.prog.looks []/\∀(j:Nat) t,fn.params[j]? = some t->Tryz.pinned.checked.prog.wantsStandIn t=false:=by
 obtain rfl:f=4:=Option.some.inj ((show Tryz.prog.funcNamed "exchequer/exchequerlaw18.RowsOrder" = some 4 by kernel_rfl).symm.trans hf) |>.symm;obtain rfl:fn=Tryz.f4:=(Option.some.inj (Tryz.func4.symm.trans hfn)).symm;refine⟨by kernel_rfl,λj t ht =>?_⟩;have hall:(Tryz.f4.params.all λt => !Tryz.prog.wantsStandIn t)=true:=by kernel_rfl
 have:=Array.all_eq_true_iff_forall_mem.1 hall t (Array.mem_of_getElem? ht);have h2:Tryz.prog.wantsStandIn t=false:=by simpa using this
 exact h2
theorem Acl:Rows.rowsOrderUptoRow.wfByText (Rows.OpenSpec.upto Rows.rowsOrderSpec)=true:=by kernel_rfl
theorem Ads:((Tryz.pinned.checked.prog.closure 4).any λg=>(Tryz.pinned.checked.prog.funcs[g]?).any Func.goes)=false:=by kernel_rfl
theorem Ab5:Tryz.pinned.checked.prog.funcs.any Func.goes=false:=by kernel_rfl
theorem Afl:Tryz.pinned.checked.prog.goes 4=false:=by rw[Program.goes,Ads,Ab5,Bool.and_false];rfl
theorem Vl:Tryz.pinned.checked.prog.goesFrom Rows.rowsOrderUptoRow.func=false:=by rw[Program.goesFrom,Md,Option.any_some,Afl]
theorem Acg:Rows.rowsOrderUptoRow.goesBy Tryz.pinned.checked.prog=(Tryz.pinned.checked.prog.goesFrom Rows.rowsOrderUptoRow.func||false):=by kernel_rfl
theorem Vs:false=Rows.rowsOrderUptoRow.goesBy Tryz.pinned.checked.prog:=by rw[Acg,Vl,Bool.or_false]
theorem rowsOrderUpto_card:Rows.RowsOrderUptoCardSaid :=Claim7.holds_tied_plain_at .later [] _ _ _ _ Ww (λ_ h=>by cases h) Acl (λ_ h=>by cases h) rowsOrderUpto_row_tie rfl ⟨rfl,rfl⟩ (by kernel_rfl) rfl Ux Vs
end
#print axioms rowsOrderUpto_card
end Go.Proofs.YtcoaaebppfbbnaaGreatDoor
