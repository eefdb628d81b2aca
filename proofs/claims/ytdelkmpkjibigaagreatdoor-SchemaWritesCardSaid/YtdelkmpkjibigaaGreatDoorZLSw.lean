/- SchemaWrites: any table has the bytes that the chapter says, or none; any bytes are the table that it says, or none; on the condition of the row alone: that the package's tables hold what the program's text lays there. -/
import Derived.Test.YtdelkmpkjibigaaGreatDoorZ10
set_option linter.all false
open List renaming length->I
open Option renaming some->J,none->aj
open Bool renaming true->ab,false->ai
open Decidable renaming decide->aa
open Go renaming Value->aD,World->aT,TypeId->bD,DataW->dj
open Option.some renaming inj->ks
namespace Go.Proofs.YtdelkmpkjibigaaGreatDoor
open Go.ft Go.ChangeShapes Go.WideShapes Go.ChangeAt Go.RowKit Go.ChangeMaps
noncomputable section
def ayy(R:Type):aR R:=bs [] [] [] []
def O2(x:aw [fj,fj]):ae (aw [.bool]):=match x with|(a,b)=>J (aa (a=b))
theorem aoh:aU 10 [fj,fj] [.bool] (O2):=b6 (px:=ayy _) (n:=0) Tryz.func10 rfl (λ_ H=>⟨br H bq bo bp,aK⟩) λ(_,_)=>by kernel_rfl
def same(a:U UInt8)(b:U UInt8):Bool:=(aa (a=b))
theorem anI(x:aw [fj,fj]):O2 x=J (same x.1 x.2):=by
 first
  |exact rfl
  |simp only[O2,same,gb]
def acY:bt [fj,fj] [.bool]:=λx=>J (same x.1 x.2)
theorem ayW:aU 10 [fj,fj] [.bool] acY:=.er aoh λx _ _ ag=>(anI x).trans ag
def aA2(R:Type):aR R:=bs [(4,ba aeH),(5,ba XW),(6,ba GV),(7,ba RX),(8,ba SJ),(9,ba acE),(10,ba acY),(11,ba HC)] [] [] []
def Im(x:aw [cC,fj]):ae (aw [.bool]):=match x with
 |(t,b)=>
 let j:=λ(p1:Bool)=>
  cond (p1) (
  (I6).bind λx=>J x) (
  (py t).bind λ(e,f)=>
   (sO t).bind λ(g,h)=>
   (uJ b).bind λ(i,k)=>
    (DP b).bind λ(l,m)=>
    let a:=λ(p2:Bool)=>
     let c:=λ(p3:Bool)=>
     let d:=λ(ki:Bool)=>
      cond (ki) (
      (I6).bind λn=>J n) (
      J ai)
     cond (p3) (
      d (aa (k=m))) (
      d ai)
     cond (p2) (
     c (Acc i l)) (
     c ai)
    cond (same e g) (
     a (aa (f=h))) (
     a ai))
 cond (tE t (aP.mk 0 [] [] [] [] [] [] [] ai (aq.mk 0 ⟨0,0,[]⟩ [] []) [] [] 0)) (
  j ab) (
  j (aa (5000<(I b:Int))))
theorem azJ:aU 3 [cC,fj] [.bool] (Im):=b6 (px:=aA2 _) (n:=0) Tryz.func3 rfl (λ_ H=>⟨br H (c1 H aw6 (c1 H aty (c1 H Nq (c1 H agl (c1 H ag7 (c1 H aza (c1 H ayW (c1 H aaK bq)))))))) bo bp,aK⟩) λ(_,_)=>by kernel_rfl
theorem apl(t:b5)(b:ak)(st:Tq (gX,gX) t)(vB:aeY t):Im (t,b)=J true:=by
 by_cases hm:tE t (aP.mk 0 [] [] [] [] [] [] [] ai (aq.mk 0 ⟨0,0,[]⟩ [] []) [] [] 0)=ab\/5000<(I b:Int)
 case pos=>
  simp only[Im,Zb,bA];cases d:tE t (aP.mk 0 [] [] [] [] [] [] [] ai (aq.mk 0 ⟨0,0,[]⟩ [] []) [] [] 0)with
  |true=>rfl
  |false=>
   rcases hm with hm|hm
   .rw[d]at hm;cases hm
   .rw[aH hm];rfl
 have a:tE t (aP.mk 0 [] [] [] [] [] [] [] ai (aq.mk 0 ⟨0,0,[]⟩ [] []) [] [] 0)=false:=by cases h:tE t (aP.mk 0 [] [] [] [] [] [] [] ai (aq.mk 0 ⟨0,0,[]⟩ [] []) [] [] 0)with|false=>rfl|true=>exact absurd (.inl h) hm
 have e:aa (5000<(I b:Int))=false:=aL λh=>hm (.inr h);have bc:xY t 600<600:=by
  simp only[tE]at a;by_cases h : 600<=xY t 600
  .rw[aH h]at a;cases a
  .omega
 have c:=ara af st bc;have f:nM t:=⟨avx c,c.CE,λx ag=>by have d:=c.idx.2 x ag;have g:=(st.idx.2 x ag).1;have i:=st.name;simp only[gX]at g i;exact⟨by simp[dG],by simp only[dG];omega,by simp[dG],by simp[dG],by simp only[dG];omega,(show cm lZ<=10000 by decide),by simp[dG,fc],⟨by simp[dG],λr h=>by cases h⟩,by simp[dG],λr h=>by cases h⟩,vB.ie.2⟩
 obtain⟨r,j,d2⟩:=ayk (b:=b) (by rw[decide_eq_false_iff_not]at e;omega);simp only[Im,a,e,bj,JA f,Jv f,j,d2,bA,Zb,same,ams,decide_true,bd]
theorem amy:ajo Rows.schemaWritesRow.laid:=by refine⟨by kernel_rfl,?_⟩;simp[Rows.schemaWritesRow]
set_option maxRecDepth 100000 in
theorem aDi(H:Type)(enc:bD×aD->H)(W:aT)(base:Nat)(args:Array aD)(az d:U (dj H))(a:U MemPlace)
  (b:∀(j:Nat) t v,Tryz.f3.params[j]? = J t->args[j]? = J v->aD.okWide Tryz.prog W .any base t v)
  (f:dj.Whole enc Tryz.prog Tryz.f3.params.toList Rows.schemaWritesSpec.vars ai W args.toList az d a) (g:laidMetH Tryz.prog Rows.schemaWritesRow.laid W) (i:W.ShapedOpen Tryz.prog)
  (c:(dj.weightsEach Tryz.prog (Tryz.f3.params.toList++(OpenSpec.ofChange Rows.schemaWritesSpec).bare.plain.varTypes Tryz.prog) (az++d)).all (·<=reachBytes)=ab) :
  Calls Tryz.prog 3 args W λe xU=>∃v,e = .returned v/\Rows.schemaWritesSpec.post enc Tryz.prog Tryz.f3 ai ab ai ai W args v xU:=
 auk (arq _) (fn:=Tryz.f3) azJ (λx al k=>apl x.1 x.2 k.1 al.1) bW rfl (λaz h=>match az,h with|[_,_],_=>⟨rfl,rfl,rfl⟩) bW bW b f (az6 amy g i) (λl=>amW c (Nat.le_of_eq l))
theorem aDj(os:Os)(args:Array aD):laidMet Tryz.prog Rows.schemaWritesRow.laid ((Pp os).forCall (λ_ _=>0) ⟨#[],args,[]⟩).memory:=laidMet_of_run' 8 bW bW
theorem amx(os:Os){H:Type}(enc:bD×aD->H):∃places,dj.whole enc Tryz.prog ((Pp os).forCall (λ_ _=>0) ⟨#[], #[.agg #[.string ⟨#[]⟩,.slice aj 0 0,.slice aj 0 0,.slice aj 0 0,.slice aj 0 0],.slice aj 0 0],[]⟩).memory Tryz.f3.params.toList Rows.schemaWritesSpec.vars ai (#[.agg #[.string ⟨#[]⟩,.slice aj 0 0,.slice aj 0 0,.slice aj 0 0,.slice aj 0 0],.slice aj 0 0]:Array aD).toList 8=J ([.agg [.lit (.string []),.nil,.nil,.nil,.nil],.nil],[],places):=⟨[],by kernel_rfl⟩
set_option maxRecDepth 100000 in
theorem amw(os:Os)(a:os.Started)(H:Type)(enc:bD×aD->H)(F:Stop.Interp) :
  ReturnsInHanded {} Tryz.checked os 3 .any ((OpenSpec.ofChange Rows.schemaWritesSpec).preRow enc Tryz.prog Tryz.f3 Rows.schemaWritesRow.domain ai Rows.schemaWritesRow.laid) (((OpenSpec.ofChange Rows.schemaWritesSpec).at F).post enc Tryz.prog Tryz.f3 ai ab ai ai):=by
 obtain⟨places,ag⟩:=amx os enc;refine returnsInHanded_of_row (C:=Tryz.checked) (s:=OpenSpec.ofChange Rows.schemaWritesSpec) own a bW Tryz.func3
  (witness_row_at (enc:=enc) (C:=Tryz.checked) ai (Pp os) #[.agg #[.string ⟨#[]⟩,.slice aj 0 0,.slice aj 0 0,.slice aj 0 0,.slice aj 0 0],.slice aj 0 0] rfl bW bW bW
   (OpenSpec.preRow_of_cond 8 ag bW (λk e=>by cases e) bW (aDj os _))) ?_
 intro W base args az f b c g _ _ d h i _;exact aDi H enc W base args az f b c g h i d
theorem amB:Rows.SchemaWritesSaid:=
 OpenClaim.holds_of_cond 3 Tryz.f3 rfl rfl rfl rfl rfl rfl rfl ⟨rfl,rfl,rfl,rfl,rfl⟩ rfl rfl rfl rfl rfl bW Tryz.func3 bW
  (of_decide_eq_true bW) (by unfold Func.isWrapper;first|(rw[if_pos gN];kernel_rfl)|(rw[if_neg gN];exact⟨rfl,rfl⟩))
  (λos a H enc _ F=>by rw[OpenClaim.pre_eq_preRow];exact amw os a H enc F)
theorem amz(f:FuncId)(fn:Func)(c:Tryz.pinned.checked.prog.funcNamed "exchequer/exchequerlaw16.SchemaWrites" = J f)(b:Tryz.pinned.checked.prog.funcs[f]? = J fn) :
  ai=Tryz.pinned.checked.prog.looks []/\∀(j:Nat) t,fn.params[j]? = J t->Tryz.pinned.checked.prog.wantsStandIn t=false:=by
 obtain rfl:f=3:=ks ((show Tryz.prog.funcNamed "exchequer/exchequerlaw16.SchemaWrites" = J 3 by kernel_rfl).symm.trans c)|>.symm;obtain rfl:fn=Tryz.f3:=(ks (Tryz.func3.symm.trans b)).symm;refine⟨by kernel_rfl,λj t d=>?_⟩;have a:(Tryz.f3.params.all λt=> !Tryz.prog.wantsStandIn t)=true:=bW
 have:=Array.all_eq_true_iff_forall_mem.1 a t (Array.mem_of_getElem? d);have e:Tryz.prog.wantsStandIn t=false:=by simpa using this
 exact e
theorem schemaWrites_card:Rows.SchemaWritesCardSaid:=Claim7.holds_tied_plain_at .later [] _ _ _ _ amB (λ_ h=>by cases h) bW (λ_ h=>by cases h) schemaWrites_row_tie rfl ⟨rfl,rfl⟩ bW rfl amz bW
end
#print axioms schemaWrites_card
end Go.Proofs.YtdelkmpkjibigaaGreatDoor
