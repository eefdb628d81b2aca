/- RowsBy: what an index tells of a value is just those of all rows whose first column of it has that value,each once;of arguments that hold together at most 1048576 values and letters,on the condition of the row alone: that the package's tables hold what the program's text lays there. -/
import Derived.Test.YtcoaaebppfbbnaaGreatDoorU19
set_option linter.all false
namespace Go.Proofs.YtcoaaebppfbbnaaGreatDoor
open Go.Ax Go.ChangeShapes Go.WideShapes Go.ChangeAt Go.RowKit Go.ChangeMaps
noncomputable section
def B18:FT [Yh1,.sl .vals false,Yc1] [.bool]:=λx=>Ace 5000 x
theorem B2n:FO 5 [Yh1,.sl .vals false,Yc1] [.bool] B18:=.fin 0 B0s λ_ _ _ a=>⟨5000,a⟩
theorem Bni(t:Tbl)(l:Yb1 (Yb1 Val))(q:Int)(st:SmTbl RM t)(sl:l.length<=1048576)(sr:∀r,r∈l->r.length<=1048576)(hb:∀r,r∈l->∀v,v∈r->Apd v)(d : 2*xszs t.checks<=1048576):B18 (t,l,q)=some true:=by
 have a:esizes t.checks<=900000:=by rw[esizes_xszs];omega
 have b:∀r,r∈l->Gr r:=λr c v hv=>propext ⟨λ_=>rfl,λ_=>(hb r c v hv).2.1⟩;exact B5q (Bt5 st a) (Bjw (Bww st a)) sl sr b 5000 (by omega) (by omega)
theorem Af0:B1i Rows.rowsByUptoRow.laid:=by refine⟨by kernel_rfl,?_⟩;simp[Rows.rowsByUptoRow]
set_option maxRecDepth 100000 in
theorem Wy(H:Type)(enc:TypeId×Value->H)(W:World)(base:Nat)(args:Array Value)(ds k:Yb1 (DataW H))(a:Yb1 MemPlace)
  (b:∀(j:Nat) t v,Tryz.f5.params[j]? = some t->args[j]? = some v->Value.okWide Tryz.prog W .any base t v)
  (l:DataW.Whole enc Tryz.prog Tryz.f5.params.toList Rows.rowsBySpec.vars false W args.toList ds k a) (m:laidMetH Tryz.prog Rows.rowsByUptoRow.laid W) (n:W.ShapedOpen Tryz.prog)
  (c:Rows.uptoSmall H (ds++k)=true) :
  Calls Tryz.prog 5 args W λe W'=>∃v,e = .returned v/\Rows.rowsBySpec.post enc Tryz.prog Tryz.f5 false true false false W args v W':=
 Ba6 (Brm _ 1048576) (fn:=Tryz.f5) B2n (λx hb f o=>Bni x.1 x.2.1 x.2.2 f.1 f.2.1.1 (λr g=>(f.2.1.2 r g).1) (λr g=>(hb.2.1.2 r g).2) o) (by kernel_rfl) rfl (λds h=>match ds,h with|[_,_,_],_=>⟨rfl,rfl,rfl⟩) (by kernel_rfl) (by kernel_rfl) b l (By2 Af0 m n) (λ_ i t d _ hd=>Byo c (by rw[List.getElem?_append_left (Zi2.1 hd).1];exact hd)) (λx p=>Nat.le_trans (p _ Bnd) (B2j c))
theorem Wx(os:Os)(args:Array Value):laidMet Tryz.prog Rows.rowsByUptoRow.laid ((Ady os).forCall (λ_ _=>0) ⟨#[],args,[]⟩).memory:=laidMet_of_run' 8 (by kernel_rfl) (by kernel_rfl)
theorem Aft(os:Os){H:Type}(enc:TypeId×Value->H):∃places,DataW.whole enc Tryz.prog ((Ady os).forCall (λ_ _=>0) ⟨#[], #[.agg #[.string ⟨#[]⟩,.slice none 0 0,.slice none 0 0,.slice none 0 0,.slice none 0 0],.slice none 0 0,.int .i64 0],[]⟩).memory Tryz.f5.params.toList Rows.rowsBySpec.vars false (#[.agg #[.string ⟨#[]⟩,.slice none 0 0,.slice none 0 0,.slice none 0 0,.slice none 0 0],.slice none 0 0,.int .i64 0]:Array Value).toList 8=some ([.agg [.lit (.string []),.nil,.nil,.nil,.nil],.nil,.lit (.int .i64 0)],[],places):=⟨[],by kernel_rfl⟩
set_option maxRecDepth 100000 in
theorem Aa5(os:Os)(a:os.Started)(H:Type)(enc:TypeId×Value->H)(F:Stop.Interp) :
  ReturnsInHanded {} Tryz.checked os 5 .any ((Rows.OpenSpec.upto Rows.rowsBySpec).preRow enc Tryz.prog Tryz.f5 Rows.rowsByUptoRow.domain false Rows.rowsByUptoRow.laid) (((Rows.OpenSpec.upto Rows.rowsBySpec).at F).post enc Tryz.prog Tryz.f5 false true false false):=by
 obtain⟨places,d⟩:=Aft os enc;refine returnsInHanded_of_row (C:=Tryz.checked) (s:=Rows.OpenSpec.upto Rows.rowsBySpec) own a (by kernel_rfl) Tryz.func5
  (witness_row_at (enc:=enc) (C:=Tryz.checked) false (Ady os) #[.agg #[.string ⟨#[]⟩,.slice none 0 0,.slice none 0 0,.slice none 0 0,.slice none 0 0],.slice none 0 0,.int .i64 0] rfl (by kernel_rfl) (by kernel_rfl) (by kernel_rfl)
   (OpenSpec.preRow_of_cond 8 d (by kernel_rfl) (λk e=>by cases e;kernel_rfl) (by kernel_rfl) (Wx os _))) ?_
 intro W base args ds f b c g _ hc _ h i _;exact Wy H enc W base args ds f b c g h i (hc _ rfl)
theorem Ary:laidOutB Tryz.pinned.checked.prog=true:=by kernel_rfl
theorem Are:mapsRowed Tryz.pinned.checked.prog=true:=by kernel_rfl
theorem Ark:(Rows.rowsByUptoRow.inPlace == Tryz.pinned.checked.prog.inPlace 5)=true:=by kernel_rfl
theorem Ard:(Rows.rowsByUptoRow.unfollowed == Tryz.pinned.checked.prog.unfollowed 5)=true:=by kernel_rfl
theorem Arl:(Rows.rowsByUptoRow.recurses == Tryz.pinned.checked.prog.recurses 5)=true:=by kernel_rfl
theorem Arm:(Rows.rowsByUptoRow.named == Tryz.pinned.checked.prog.varsNamed 5)=true:=by kernel_rfl
theorem Arh:Tryz.pinned.checked.prog.stopsHeard=true:=by kernel_rfl
theorem Arz:Tryz.pinned.checked.prog.mayEnter=true:=by kernel_rfl
theorem Aro:(Rows.rowsByUptoRow.lifted == Tryz.pinned.checked.prog.liftsFinal)=true:=by kernel_rfl
theorem Alv:(Rows.rowsByUptoRow.plainKeys == Tryz.pinned.checked.prog.plainKeys)=true:=by kernel_rfl
theorem Ab6:joinedFacts Tryz.pinned.checked.prog 5 Tryz.f5 (Rows.OpenSpec.upto Rows.rowsBySpec).bare Rows.rowsByUptoRow=true:=by rw[joinedFacts,Ary,Are,Ark,Ard,Arl,Arm,Arh,Arz,Aro,Alv];kernel_rfl
theorem Xh:Tryz.pinned.checked.prog.funcNamed Rows.rowsByUptoRow.func=some 5:=by kernel_rfl
theorem Aix:Tryz.f5.isInstance Tryz.pinned.checked.prog Rows.rowsByUptoRow.origin Rows.rowsByUptoRow.targs:=of_decide_eq_true (by kernel_rfl)
theorem Aiy:Tryz.f5.isWrapper Tryz.pinned.checked.prog Rows.rowsByUptoRow.wrapper Rows.rowsByUptoRow.mainSum:=by unfold Func.isWrapper;first|(rw[if_pos (by decide +kernel)];kernel_rfl)|(rw[if_neg (by decide +kernel)];exact⟨rfl,rfl⟩)
theorem Ai0:Rows.RowsByUptoSaid:=
 OpenClaim.holds_of_cond 5 Tryz.f5 rfl rfl rfl rfl rfl rfl rfl ⟨rfl,rfl,rfl,rfl,rfl⟩ rfl rfl rfl rfl rfl Xh Tryz.func5 Ab6 Aix Aiy
  (λos a H enc _ F=>by rw[OpenClaim.pre_eq_preRow];exact Aa5 os a H enc F)
theorem Afs(f:FuncId)(fn:Func)(c:Tryz.pinned.checked.prog.funcNamed "exchequer/exchequerlaw18.RowsBy" = some f)(b:Tryz.pinned.checked.prog.funcs[f]? = some fn) :
  false=Tryz.pinned.checked.prog.looks []/\∀(j:Nat) t,fn.params[j]? = some t->Tryz.pinned.checked.prog.wantsStandIn t=false:=by
 obtain rfl:f=5:=Option.some.inj ((show Tryz.prog.funcNamed "exchequer/exchequerlaw18.RowsBy" = some 5 by kernel_rfl).symm.trans c)|>.symm;obtain rfl:fn=Tryz.f5:=(Option.some.inj (Tryz.func5.symm.trans b)).symm;refine⟨by kernel_rfl,λj t d=>?_⟩;have a:(Tryz.f5.params.all λt=> !Tryz.prog.wantsStandIn t)=true:=by kernel_rfl
 have:=Array.all_eq_true_iff_forall_mem.1 a t (Array.mem_of_getElem? d);have e:Tryz.prog.wantsStandIn t=false:=by simpa using this
 exact e
theorem Ar2:Rows.rowsByUptoRow.wfByText (Rows.OpenSpec.upto Rows.rowsBySpec)=true:=by kernel_rfl
theorem Arp:((Tryz.pinned.checked.prog.closure 5).any λg=>(Tryz.pinned.checked.prog.funcs[g]?).any Func.goes)=false:=by kernel_rfl
theorem Ara:Tryz.pinned.checked.prog.funcs.any Func.goes=false:=by kernel_rfl
theorem Aya:Tryz.pinned.checked.prog.goes 5=false:=by rw[Program.goes,Arp,Ara,Bool.and_false];rfl
theorem Aiz:Tryz.pinned.checked.prog.goesFrom Rows.rowsByUptoRow.func=false:=by rw[Program.goesFrom,Xh,Option.any_some,Aya]
theorem Arv:Rows.rowsByUptoRow.goesBy Tryz.pinned.checked.prog=(Tryz.pinned.checked.prog.goesFrom Rows.rowsByUptoRow.func||false):=by kernel_rfl
theorem Aip:false=Rows.rowsByUptoRow.goesBy Tryz.pinned.checked.prog:=by rw[Arv,Aiz,Bool.or_false]
theorem rowsByUpto_card:Rows.RowsByUptoCardSaid:=Claim7.holds_tied_plain_at .later [] _ _ _ _ Ai0 (λ_ h=>by cases h) Ar2 (λ_ h=>by cases h) rowsByUpto_row_tie rfl ⟨rfl,rfl⟩ (by kernel_rfl) rfl Afs Aip
end
#print axioms rowsByUpto_card
end Go.Proofs.YtcoaaebppfbbnaaGreatDoor
