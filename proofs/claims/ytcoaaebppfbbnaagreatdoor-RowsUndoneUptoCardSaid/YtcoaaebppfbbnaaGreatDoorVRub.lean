/- RowsUndone: a row that was laid in is Fb by its key,once in all rows,once by each index;Iq out again it was never there;a row laid in twice is refused;of arguments that hold together at most 1048576 values and letters,on the condition of the row alone: that the package's tables hold what the program's text lays there. -/
import Derived.Test.YtcoaaebppfbbnaaGreatDoorV20
set_option linter.all false
open List renaming length->I
open Option renaming some->J,none->ah
open Bool renaming true->ae,false->ai
open Nat renaming le_trans->e2
open Go renaming Value->aA,World->aK,TypeId->bD,Program->cx
namespace Go.Proofs.YtcoaaebppfbbnaaGreatDoor
open Go.dS Go.ChangeShapes Go.WideShapes Go.ChangeAt Go.RowKit Go.ChangeMaps
noncomputable section
def _l:bb [cu,.sl .ep ai,dA] [.bool]:=λx=>DW 5000 x
theorem alT:aN 6 [cu,.sl .ep ai,dA] [.bool] _l:=.fin 0 akt λ_ _ _ a=>⟨5000,a⟩
theorem ar0(t:bU)(l:U (U aH))(r:U aH)(st:Ht uK t)(sl:I l<=1048576)(bH:∀r,r∈l->I r<=1048576)(aj:∀r,r∈l->∀v,v∈r->rA v)(a:∀v,v∈r->rA v)(f : 2*q4 t.e9<=1048576):_l (t,l,r)=J true:=by
 have c:je t.e9<=900000:=by rw[QL];omega
 have d:∀r,r∈l->lX r:=λr e v aE=>propext ⟨λ_=>rfl,λ_=>(aj r e v aE).2.1⟩;have b:lX r:=λv aE=>propext ⟨λ_=>rfl,λ_=>(a v aE).2.1⟩;exact avS (ait st c) (apZ (ajA st c)) sl bH d b 5000 ag ag
theorem awW:Z5 Rows.rowsUndoneUptoRow.laid:=by refine⟨by kernel_rfl,?_⟩;simp[Rows.rowsUndoneUptoRow]
set_option maxRecDepth 100000 in
theorem awM(H:Type)(enc:bD×aA->H)(W:aK)(base:Nat)(args:Array aA)(av k:U (DataW H))(a:U MemPlace)
  (b:∀(j:Nat) t v,Tryz.f6.params[j]? = J t->args[j]? = J v->aA.okWide Tryz.prog W .any base t v)
  (l:DataW.Whole enc Tryz.prog Tryz.f6.params.toList Rows.rowsUndoneSpec.vars ai W args.toList av k a) (m:laidMetH Tryz.prog Rows.rowsUndoneUptoRow.laid W) (n:W.ShapedOpen Tryz.prog)
  (c:Rows.uptoSmall H (av++k)=ae) :
  Calls Tryz.prog 6 args W λe uT=>∃v,e = .returned v/\Rows.rowsUndoneSpec.post enc Tryz.prog Tryz.f6 ai ae ai ai W args v uT:=
 anQ (atA _ 1048576) (fn:=Tryz.f6) alT (λx aj f o=>ar0 x.1 x.2.1 x.2.2 f.1 f.2.1.1 (λr g=>(f.2.1.2 r g).1) (λr g=>(aj.2.1.2 r g).2) aj.2.2.2 o) b0 rfl (λav h=>match av,h with|[_,_,_],_=>⟨rfl,rfl,rfl⟩) b0 b0 b l (akd awW m n) (λ_ i t d _ ao=>aks c (by rw[List.getElem?_append_left (hG.1 ao).1];exact ao)) (λx p=>e2 (p _ ars) (al2 c))
theorem awO(os:Os)(args:Array aA):laidMet Tryz.prog Rows.rowsUndoneUptoRow.laid ((Lz os).forCall (λ_ _=>0) ⟨#[],args,[]⟩).memory:=laidMet_of_run' 8 b0 b0
theorem awX(os:Os){H:Type}(enc:bD×aA->H):∃places,DataW.whole enc Tryz.prog ((Lz os).forCall (λ_ _=>0) ⟨#[], #[.agg #[.string ⟨#[]⟩,.slice ah 0 0,.slice ah 0 0,.slice ah 0 0,.slice ah 0 0],.slice ah 0 0,.slice ah 0 0],[]⟩).memory Tryz.f6.params.toList Rows.rowsUndoneSpec.vars ai (#[.agg #[.string ⟨#[]⟩,.slice ah 0 0,.slice ah 0 0,.slice ah 0 0,.slice ah 0 0],.slice ah 0 0,.slice ah 0 0]:Array aA).toList 8=J ([.agg [.lit (.string []),.nil,.nil,.nil,.nil],.nil,.nil],[],places):=⟨[],by kernel_rfl⟩
set_option maxRecDepth 100000 in
theorem awU(os:Os)(a:os.Started)(H:Type)(enc:bD×aA->H)(F:Stop.Interp) :
  ReturnsInHanded {} Tryz.checked os 6 .any ((Rows.OpenSpec.upto Rows.rowsUndoneSpec).preRow enc Tryz.prog Tryz.f6 Rows.rowsUndoneUptoRow.domain ai Rows.rowsUndoneUptoRow.laid) (((Rows.OpenSpec.upto Rows.rowsUndoneSpec).at F).post enc Tryz.prog Tryz.f6 ai ae ai ai):=by
 obtain⟨places,d⟩:=awX os enc;refine returnsInHanded_of_row (C:=Tryz.checked) (s:=Rows.OpenSpec.upto Rows.rowsUndoneSpec) own a b0 Tryz.func6
  (witness_row_at (enc:=enc) (C:=Tryz.checked) ai (Lz os) #[.agg #[.string ⟨#[]⟩,.slice ah 0 0,.slice ah 0 0,.slice ah 0 0,.slice ah 0 0],.slice ah 0 0,.slice ah 0 0] rfl b0 b0 b0
   (OpenSpec.preRow_of_cond 8 d b0 (λk e=>by cases e;kernel_rfl) b0 (awO os _))) ?_
 intro W base args av f b c g _ an _ h i _;exact awM H enc W base args av f b c g h i (an _ rfl)
theorem ahL:laidOutB Tryz.pinned.checked.prog=true:=b0
theorem ahF:mapsRowed Tryz.pinned.checked.prog=true:=b0
theorem ahB:(Rows.rowsUndoneUptoRow.inPlace == Tryz.pinned.checked.prog.inPlace 6)=true:=b0
theorem ahI:(Rows.rowsUndoneUptoRow.unfollowed == Tryz.pinned.checked.prog.unfollowed 6)=true:=b0
theorem ahA:(Rows.rowsUndoneUptoRow.recurses == Tryz.pinned.checked.prog.recurses 6)=true:=b0
theorem ahx:(Rows.rowsUndoneUptoRow.named == Tryz.pinned.checked.prog.varsNamed 6)=true:=b0
theorem ahD:Tryz.pinned.checked.prog.stopsHeard=true:=b0
theorem ahC:Tryz.pinned.checked.prog.mayEnter=true:=b0
theorem ahK:(Rows.rowsUndoneUptoRow.lifted == Tryz.pinned.checked.prog.liftsFinal)=true:=b0
theorem ahw:(Rows.rowsUndoneUptoRow.plainKeys == Tryz.pinned.checked.prog.plainKeys)=true:=b0
theorem awV:joinedFacts Tryz.pinned.checked.prog 6 Tryz.f6 (Rows.OpenSpec.upto Rows.rowsUndoneSpec).bare Rows.rowsUndoneUptoRow=true:=by rw[joinedFacts,ahL,ahF,ahB,ahI,ahA,ahx,ahD,ahC,ahK,ahw];kernel_rfl
theorem aeK:Tryz.pinned.checked.prog.funcNamed Rows.rowsUndoneUptoRow.func=J 6:=b0
theorem aw0:Tryz.f6.isInstance Tryz.pinned.checked.prog Rows.rowsUndoneUptoRow.origin Rows.rowsUndoneUptoRow.targs:=of_decide_eq_true b0
theorem awZ:Tryz.f6.isWrapper Tryz.pinned.checked.prog Rows.rowsUndoneUptoRow.wrapper Rows.rowsUndoneUptoRow.mainSum:=by unfold Func.isWrapper;first|(rw[if_pos hA];kernel_rfl)|(rw[if_neg hA];exact⟨rfl,rfl⟩)
theorem aw2:Rows.RowsUndoneUptoSaid:=
 OpenClaim.holds_of_cond 6 Tryz.f6 rfl rfl rfl rfl rfl rfl rfl ⟨rfl,rfl,rfl,rfl,rfl⟩ rfl rfl rfl rfl rfl aeK Tryz.func6 awV aw0 awZ
  (λos a H enc _ F=>by rw[OpenClaim.pre_eq_preRow];exact awU os a H enc F)
theorem awY(f:FuncId)(fn:Func)(c:Tryz.pinned.checked.prog.funcNamed "exchequer/exchequerlaw18.RowsUndone" = J f)(b:Tryz.pinned.checked.prog.funcs[f]? = J fn) :
  ai=Tryz.pinned.checked.prog.looks []/\∀(j:Nat) t,fn.params[j]? = J t->Tryz.pinned.checked.prog.wantsStandIn t=false:=by
 obtain rfl:f=6:=Option.some.inj ((show Tryz.prog.funcNamed "exchequer/exchequerlaw18.RowsUndone" = J 6 by kernel_rfl).symm.trans c)|>.symm;obtain rfl:fn=Tryz.f6:=(Option.some.inj (Tryz.func6.symm.trans b)).symm;refine⟨by kernel_rfl,λj t d=>?_⟩;have a:(Tryz.f6.params.all λt=> !Tryz.prog.wantsStandIn t)=true:=b0
 have:=Array.all_eq_true_iff_forall_mem.1 a t (Array.mem_of_getElem? d);have h2:Tryz.prog.wantsStandIn t=false:=by simpa using this
 exact h2
theorem ahE:Rows.rowsUndoneUptoRow.wfByText (Rows.OpenSpec.upto Rows.rowsUndoneSpec)=true:=b0
theorem ahH:((Tryz.pinned.checked.prog.closure 6).any λg=>(Tryz.pinned.checked.prog.funcs[g]?).any Func.goes)=false:=b0
theorem ahy:Tryz.pinned.checked.prog.funcs.any Func.goes=false:=b0
theorem ahN:Tryz.pinned.checked.prog.goes 6=false:=by rw[cx.goes,ahH,ahy,Bool.and_false];rfl
theorem aw3:Tryz.pinned.checked.prog.goesFrom Rows.rowsUndoneUptoRow.func=false:=by rw[cx.goesFrom,aeK,Option.any_some,ahN]
theorem ahG:Rows.rowsUndoneUptoRow.goesBy Tryz.pinned.checked.prog=(Tryz.pinned.checked.prog.goesFrom Rows.rowsUndoneUptoRow.func||false):=b0
theorem aw1:ai=Rows.rowsUndoneUptoRow.goesBy Tryz.pinned.checked.prog:=by rw[ahG,aw3,Bool.or_false]
theorem rowsUndoneUpto_card:Rows.RowsUndoneUptoCardSaid:=Claim7.holds_tied_plain_at .later [] _ _ _ _ aw2 (λ_ h=>by cases h) ahE (λ_ h=>by cases h) rowsUndoneUpto_row_tie rfl ⟨rfl,rfl⟩ b0 rfl awY aw1
end
#print axioms rowsUndoneUpto_card
end Go.Proofs.YtcoaaebppfbbnaaGreatDoor
