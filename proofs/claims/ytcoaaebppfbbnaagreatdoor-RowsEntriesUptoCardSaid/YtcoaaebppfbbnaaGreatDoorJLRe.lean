/- RowsEntries: of any table and any row all pairs that it is,or why there are none,are what the chapter says;of arguments that hold together at most 1048576 values and letters,on the condition of the row alone: that the package's tables hold what the program's text lays there. -/
import Derived.Test.YtcoaaebppfbbnaaGreatDoorJ17
set_option linter.all false
namespace Go.Proofs.YtcoaaebppfbbnaaGreatDoor
open Go.Ax Go.ChangeShapes Go.WideShapes Go.ChangeAt Go.RowKit Go.ChangeMaps
noncomputable section
def Bua(R:Type):Px R:=pxO [(7,cA A8i),(8,cA Aqg),(9,cA Bm5),(10,cA A5n),(11,cA Azm)] [] [] []
def Ahw(x:HV [.sv .tbl,.sl .val false]):Option (HV [.bool]):=match x with
 |(t,r) =>
 (Bmp t [r]).bind λx =>
  cond (x) (
  (Ae2).bind λx1 =>some x1) (
  (Bte t r).bind λ(x2,x3) =>
   (Bgg t r).bind λ(x4,x5) =>
   (A32 x2 x4).bind λx6 =>
    let j:=λ(p:Bool) =>
    cond (p) (
     (Ae2).bind λx7 =>
     some x7) (
     some false)
    cond (x6) (
    j (decide (x3=x5))) (
    j false))
theorem Boy:FO 3 [.sv .tbl,.sl .val false] [.bool] (Ahw):=fR (px:=Bua _) (n:=0) Tryz.func3 rfl (λ_ H=>⟨lv H (c1 H Bix (c1 H A1s (c1 H Bpr (c1 H Blw (c1 H Bdg Ae))))) Aa Ab,Aj⟩) λ(_,_)=>by kernel_rfl
theorem Bmy(t:Tbl)(r:List Val)(st:SmTbl RM t)(sr:r.length<=1048576)(hb:∀v,v∈r->Ak9 v)(hz : 2*xszs t.checks<=1048576):Ahw (t,r)=some true:=by
 have hx:esizes t.checks<=900000:=by rw[esizes_xszs];omega
 obtain⟨b,h1⟩:=Bhw (t:=t) sr;have hn:Ks r:=λv hv=>propext ⟨λ_=>rfl,λ_=>(hb v hv).2.1⟩;have h2:=Bql (Bdq (Bi4 st hx)) hn;have h3:=Bhj (A39 (Bou st hx)) hn;have h4:=A8w (l:=(Asp t r).1) (by have:=Bld t r;omega);simp only[Ahw,h1,h2,h3,h4,Zc1,Ae2,decide_true,Ag];cases b<;>rfl
theorem Pk:Brr Rows.rowsEntriesUptoRow.laid:=by refine⟨by kernel_rfl,?_⟩;simp[Rows.rowsEntriesUptoRow]
set_option maxRecDepth 100000 in
theorem Ld(H:Type)(enc:TypeId×Value->H)(W:World)(base:Nat)(args:Array Value)(ds gs:List (DataW H))(before:List MemPlace)
  (hval:∀(j:Nat) t v,Tryz.f3.params[j]? = some t->args[j]? = some v->Value.okWide Tryz.prog W .any base t v)
  (hW:DataW.Whole enc Tryz.prog Tryz.f3.params.toList Rows.rowsEntriesSpec.vars false W args.toList ds gs before) (hL:laidMetH Tryz.prog Rows.rowsEntriesUptoRow.laid W) (hS:W.ShapedOpen Tryz.prog)
  (hsz:Rows.uptoSmall H (ds++gs)=true) :
  Calls Tryz.prog 3 args W λe W'=>∃v,e = .returned v/\Rows.rowsEntriesSpec.post enc Tryz.prog Tryz.f3 false true false false W args v W' :=
 A4a (Bei _ 1048576) (fn:=Tryz.f3) Boy (λx hb hs hz=>Bmy x.1 x.2 hs.1 hs.2.1 hb.2.2 hz) (by kernel_rfl) rfl (λds h=>match ds,h with|[_,_],_=>⟨rfl,rfl,rfl⟩) (by kernel_rfl) (by kernel_rfl) hval hW (Bok Pk hL hS) (λ_ i t d _ hd=>Bpm hsz (by rw[List.getElem?_append_left (Zi2.1 hd).1];exact hd)) (λx hx=>Nat.le_trans (hx _ Bil) (Bsy hsz))
theorem Le(os:Os)(args:Array Value):laidMet Tryz.prog Rows.rowsEntriesUptoRow.laid ((Abs os).forCall (λ_ _=>0) ⟨#[],args,[]⟩).memory :=laidMet_of_run' 8 (by kernel_rfl) (by kernel_rfl)
theorem Pj(os:Os){H:Type}(enc:TypeId×Value->H):∃places,DataW.whole enc Tryz.prog ((Abs os).forCall (λ_ _=>0) ⟨#[], #[.agg #[.string ⟨#[]⟩,.slice none 0 0,.slice none 0 0,.slice none 0 0,.slice none 0 0],.slice none 0 0],[]⟩).memory Tryz.f3.params.toList Rows.rowsEntriesSpec.vars false (#[.agg #[.string ⟨#[]⟩,.slice none 0 0,.slice none 0 0,.slice none 0 0,.slice none 0 0],.slice none 0 0]:Array Value).toList 8=some ([.agg [.lit (.string []),.nil,.nil,.nil,.nil],.nil],[],places) :=⟨[],by kernel_rfl⟩
set_option maxRecDepth 100000 in
theorem Oa(os:Os)(started:os.Started)(H:Type)(enc:TypeId×Value->H)(F:Stop.Interp) :
  ReturnsInHanded {} Tryz.checked os 3 .any ((Rows.OpenSpec.upto Rows.rowsEntriesSpec).preRow enc Tryz.prog Tryz.f3 Rows.rowsEntriesUptoRow.domain false Rows.rowsEntriesUptoRow.laid) (((Rows.OpenSpec.upto Rows.rowsEntriesSpec).at F).post enc Tryz.prog Tryz.f3 false true false false):=by
 obtain⟨places,hx⟩:=Pj os enc;refine returnsInHanded_of_row (C:=Tryz.checked) (s:=Rows.OpenSpec.upto Rows.rowsEntriesSpec) own started (by kernel_rfl) Tryz.func3
  (witness_row_at (enc:=enc) (C:=Tryz.checked) false (Abs os) #[.agg #[.string ⟨#[]⟩,.slice none 0 0,.slice none 0 0,.slice none 0 0,.slice none 0 0],.slice none 0 0] rfl (by kernel_rfl) (by kernel_rfl) (by kernel_rfl)
   (OpenSpec.preRow_of_cond 8 hx (by kernel_rfl) (λk hk=>by cases hk;kernel_rfl) (by kernel_rfl) (Le os _))) ?_
 intro W base args ds gs before hval hW _ hc _ hL hS _;exact Ld H enc W base args ds gs before hval hW hL hS (hc _ rfl)
theorem V7:laidOutB Tryz.pinned.checked.prog=true:=by kernel_rfl
theorem W5:mapsRowed Tryz.pinned.checked.prog=true:=by kernel_rfl
theorem Wp:(Rows.rowsEntriesUptoRow.inPlace == Tryz.pinned.checked.prog.inPlace 3)=true:=by kernel_rfl
theorem Vt:(Rows.rowsEntriesUptoRow.unfollowed == Tryz.pinned.checked.prog.unfollowed 3)=true:=by kernel_rfl
theorem Vs:(Rows.rowsEntriesUptoRow.recurses == Tryz.pinned.checked.prog.recurses 3)=true:=by kernel_rfl
theorem Vw:(Rows.rowsEntriesUptoRow.named == Tryz.pinned.checked.prog.varsNamed 3)=true:=by kernel_rfl
theorem V0:Tryz.pinned.checked.prog.stopsHeard=true:=by kernel_rfl
theorem Va:Tryz.pinned.checked.prog.mayEnter=true:=by kernel_rfl
theorem Vd:(Rows.rowsEntriesUptoRow.lifted == Tryz.pinned.checked.prog.liftsFinal)=true:=by kernel_rfl
theorem Um:(Rows.rowsEntriesUptoRow.plainKeys == Tryz.pinned.checked.prog.plainKeys)=true:=by kernel_rfl
theorem Nb:joinedFacts Tryz.pinned.checked.prog 3 Tryz.f3 (Rows.OpenSpec.upto Rows.rowsEntriesSpec).bare Rows.rowsEntriesUptoRow=true:=by rw[joinedFacts,V7,W5,Wp,Vt,Vs,Vw,V0,Va,Vd,Um];kernel_rfl
theorem J0:Tryz.pinned.checked.prog.funcNamed Rows.rowsEntriesUptoRow.func=some 3:=by kernel_rfl
theorem P0:Tryz.f3.isInstance Tryz.pinned.checked.prog Rows.rowsEntriesUptoRow.origin Rows.rowsEntriesUptoRow.targs:=of_decide_eq_true (by kernel_rfl)
theorem Q5:Tryz.f3.isWrapper Tryz.pinned.checked.prog Rows.rowsEntriesUptoRow.wrapper Rows.rowsEntriesUptoRow.mainSum:=by unfold Func.isWrapper;first|(rw[if_pos (by decide +kernel)];kernel_rfl)|(rw[if_neg (by decide +kernel)];exact⟨rfl,rfl⟩)
theorem Ps:Rows.RowsEntriesUptoSaid :=
 OpenClaim.holds_of_cond 3 Tryz.f3 rfl rfl rfl rfl rfl rfl rfl ⟨rfl,rfl,rfl,rfl,rfl⟩ rfl rfl rfl rfl rfl J0 Tryz.func3 Nb P0 Q5
  (λos started H enc _ F=>by rw[OpenClaim.pre_eq_preRow];exact Oa os started H enc F)
theorem Pp(f:FuncId)(fn:Func)(hf:Tryz.pinned.checked.prog.funcNamed "exchequer/exchequerlaw18.RowsEntries" = some f)(hfn:Tryz.pinned.checked.prog.funcs[f]? = some fn) :
  false=Tryz.pinned.checked.prog.looks []/\∀(j:Nat) t,fn.params[j]? = some t->Tryz.pinned.checked.prog.wantsStandIn t=false:=by
 obtain rfl:f=3:=Option.some.inj ((show Tryz.prog.funcNamed "exchequer/exchequerlaw18.RowsEntries" = some 3 by kernel_rfl).symm.trans hf) |>.symm;obtain rfl:fn=Tryz.f3:=(Option.some.inj (Tryz.func3.symm.trans hfn)).symm;refine⟨by kernel_rfl,λj t ht =>?_⟩;have hall:(Tryz.f3.params.all λt => !Tryz.prog.wantsStandIn t)=true:=by kernel_rfl
 have:=Array.all_eq_true_iff_forall_mem.1 hall t (Array.mem_of_getElem? ht);have h2:Tryz.prog.wantsStandIn t=false:=by simpa using this
 exact h2
theorem V1:Rows.rowsEntriesUptoRow.wfByText (Rows.OpenSpec.upto Rows.rowsEntriesSpec)=true:=by kernel_rfl
theorem Wy:((Tryz.pinned.checked.prog.closure 3).any λg=>(Tryz.pinned.checked.prog.funcs[g]?).any Func.goes)=false:=by kernel_rfl
theorem Wh:Tryz.pinned.checked.prog.funcs.any Func.goes=false:=by kernel_rfl
theorem Aaa:Tryz.pinned.checked.prog.goes 3=false:=by rw[Program.goes,Wy,Wh,Bool.and_false];rfl
theorem Py:Tryz.pinned.checked.prog.goesFrom Rows.rowsEntriesUptoRow.func=false:=by rw[Program.goesFrom,J0,Option.any_some,Aaa]
theorem Wt:Rows.rowsEntriesUptoRow.goesBy Tryz.pinned.checked.prog=(Tryz.pinned.checked.prog.goesFrom Rows.rowsEntriesUptoRow.func||false):=by kernel_rfl
theorem Qp:false=Rows.rowsEntriesUptoRow.goesBy Tryz.pinned.checked.prog:=by rw[Wt,Py,Bool.or_false]
theorem rowsEntriesUpto_card:Rows.RowsEntriesUptoCardSaid :=Claim7.holds_tied_plain_at .later [] _ _ _ _ Ps (λ_ h=>by cases h) V1 (λ_ h=>by cases h) rowsEntriesUpto_row_tie rfl ⟨rfl,rfl⟩ (by kernel_rfl) rfl Pp Qp
end
#print axioms rowsEntriesUpto_card
end Go.Proofs.YtcoaaebppfbbnaaGreatDoor
