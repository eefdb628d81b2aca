/- SchemaIndexes: a table with an index more,and without it again,is as it was;two indexes may be laid in in either order;the same one twice is refused;on the condition of the row Tt: that the package's tables hold what the program's text lays there. -/
import Derived.Test.YtbkinkalnmbpjaaGreatDoorP7
set_option linter.all false
namespace Go.Proofs.YtbkinkalnmbpjaaGreatDoor
open Go.Ax Go.ChangeShapes Go.WideShapes Go.ChangeAt Go.RowKit Go.ChangeMaps
noncomputable section
theorem A10{t:Tbl}{a b:Stm}(hb:May t b)(hn:a.name≠b.name)(hl:t.idx.length<=98):May { t with idx:=Cb t.idx ⟨a.name,a.names⟩ } b :=⟨hb.kind,hb.ok,hb.on,Azh hb.no hn,by simp only[Hv];omega,hb.all⟩
theorem A6n(t:Tbl)(a b:Stm)(st:SmTbl (R47,R47) t)(sa:SmStm (R47,R47) a)(sb:SmStm (R47,R47) b):Qg (t,a,b)=some true:=by
 by_cases hm:I1 t a=false/\I1 t b=false
 case neg =>
  simp only[Qg,Wd,Zc1];cases h1:I1 t a with
  |true=>rfl
  |false =>cases h2:I1 t b with|true=>rfl|false=>exact absurd ⟨h1,h2⟩ hm
 obtain⟨m1,m2⟩:=hm;have q1:J9 t 600<600/\Dy a 600<600:=by
  simp only[I1] at m1;by_cases h : 600<=J9 t 600
  ·rw[Ze1 h] at m1;cases m1
  ·rw[Zd1 h,Al,decide_eq_false_iff_not] at m1;omega
 have q2:Dy b 600<600:=by
  simp only[I1] at m2;by_cases h : 600<=J9 t 600
  ·omega
  ·rw[Zd1 h,Al,decide_eq_false_iff_not] at m2;omega
 have ft:=Aut (by omega) st q1.1;have fa:=Anh sa q1.2;have fb:=Anh sb q2;have hst:=A2y ft;have hn1:=ft.idx.1;have hna:=fa.names;have hnb:=fb.names;simp only[Qg,m1,m2,Mr,hst,Ah,Al,Zc1,Wd];cases ht:On t with
 |false=>rfl
 |true =>
  have hs:A9 t.idx=true:=by simp only[On,Zb1] at ht;exact ht.2.1
  have w1:Hh t a=some (Gl t a):=by simp only[Hh,hst,ht,Ah,Kc,I6 fa (by omega) hs]
  have w2:Hh t b=some (Gl t b):=by simp only[Hh,hst,ht,Ah,Kc,I6 fb (by omega) hs]
  simp only[w1,w2,Zc1,Ah,decide_true,Zt1,Al];by_cases hma:(Gl t a).2=0
  case neg =>rw[Zd1 hma,A9h hma];rfl
  have ma:=Bch hma;have sx:=Ak9 hst ma (by omega);have ox:=Bbd ht ma;have hsx:A9 (Cb t.idx ⟨a.name,a.names⟩)=true:=Df hs ma.no;have hlx:(Cb t.idx ⟨a.name,a.names⟩).length=t.idx.length+1:=Hv _ _;have hl1:=ma.len;have w3:Hh { t with idx:=Cb t.idx ⟨a.name,a.names⟩ } a=some (F8,160):=by simp only[Hh,sx,ox,Ah,Kc,I6 fa (t:={ t with idx:=Cb t.idx ⟨a.name,a.names⟩ }) (by simp only[hlx];omega) hsx,Avq ma]
  have w4:P9 { t with idx:=Cb t.idx ⟨a.name,a.names⟩ } a.name=some (t,true):=by have e:D7 (Cb t.idx ⟨a.name,a.names⟩) a.name=true:=A2g t.idx ⟨a.name,a.names⟩;have e2:Azc (Cb t.idx ⟨a.name,a.names⟩) a.name=t.idx:=Bf5 (x:=⟨a.name,a.names⟩) ma.no;simp only[P9,e,e2,Ah];rw[Ze1 (by rw[hlx];omega)];rfl
  rw[Ye ma];simp only[w3,w4,sx,ox,Ah,Zc1,decide_true,Zt1,Al,Wa];by_cases hmb:(Gl t b).2=0
  case neg =>rw[Zd1 hmb];rfl
  have mb:=Bch hmb;rw[Ye mb];simp only[decide_true,Zt1,Al];by_cases hn:a.name=b.name
  ·rw[Ze1 hn];rfl
  rw[Zd1 hn,Al];by_cases h98 : 98<(t.idx.length:Int)
  ·rw[Ze1 h98];rfl
  rw[Zd1 h98,Al];have mab:=A10 mb hn (by omega);have mba:=A10 ma (Ne.symm hn) (by omega);have sy:=Ak9 hst mb (by omega);have oy:=Bbd ht mb;have hsy:A9 (Cb t.idx ⟨b.name,b.names⟩)=true:=Df hs mb.no;have hly:(Cb t.idx ⟨b.name,b.names⟩).length=t.idx.length+1:=Hv _ _;have w5:Hh { t with idx:=Cb t.idx ⟨a.name,a.names⟩ } b=some ({ t with idx:=Cb (Cb t.idx ⟨a.name,a.names⟩) ⟨b.name,b.names⟩ },0):=by simp only[Hh,sx,ox,Ah,Kc,I6 fb (t:={ t with idx:=Cb t.idx ⟨a.name,a.names⟩ }) (by simp only[hlx];omega) hsx,Ye mab]
  have w6:Hh { t with idx:=Cb t.idx ⟨b.name,b.names⟩ } a=some ({ t with idx:=Cb (Cb t.idx ⟨a.name,a.names⟩) ⟨b.name,b.names⟩ },0):=by simp only[Hh,sy,oy,Ah,Kc,I6 fa (t:={ t with idx:=Cb t.idx ⟨b.name,b.names⟩ }) (by simp only[hly];omega) hsy,Ye mba];rw[Bbh (a:=⟨b.name,b.names⟩) (b:=⟨a.name,a.names⟩) hs mb.no ma.no (Ne.symm hn)]
  have hlen:(((Cb (Cb t.idx ⟨a.name,a.names⟩) ⟨b.name,b.names⟩).length:Nat):Int)=wr .i64 ((t.idx.length:Int)+2):=by rw[Hv,Hv,Dr (by simp only[inI];omega)];omega
  simp only[w5,w6,Zc1,decide_true,Ah,Wa,hlen]
theorem Sw:Bga Rows.schemaIndexesRow.laid:=by refine⟨by kernel_rfl,?_⟩;simp[Rows.schemaIndexesRow]
set_option maxRecDepth 100000 in
theorem Ms(H:Type)(enc:TypeId×Value->H)(W:World)(base:Nat)(args:Array Value)(ds gs:List (DataW H))(before:List MemPlace)
  (hval:∀(j:Nat) t v,Tryz.f5.params[j]? = some t->args[j]? = some v->Value.okWide Tryz.prog W .any base t v)
  (hW:DataW.Whole enc Tryz.prog Tryz.f5.params.toList Rows.schemaIndexesSpec.vars false W args.toList ds gs before) (hL:laidMetH Tryz.prog Rows.schemaIndexesRow.laid W) (hS:W.ShapedOpen Tryz.prog)
  (hsz:(DataW.weightsEach Tryz.prog (Tryz.f5.params.toList++(OpenSpec.ofChange Rows.schemaIndexesSpec).bare.plain.varTypes Tryz.prog) (ds++gs)).all (·<=reachBytes)=true) :
  Calls Tryz.prog 5 args W λe W'=>∃v,e = .returned v/\Rows.schemaIndexesSpec.post enc Tryz.prog Tryz.f5 false true false false W args v W' :=
 A3s (Ato _) (fn:=Tryz.f5) Bbw (λx hb hs=>A6n x.1 x.2.1 x.2.2 hs.1 hs.2.1 hs.2.2) (by kernel_rfl) rfl (λds h=>match ds,h with|[_,_,_],_=>⟨rfl,rfl,rfl⟩) (by kernel_rfl) (by kernel_rfl) hval hW (Bdt Sw hL hS) (λhl=>Bbm hsz (Nat.le_of_eq hl))
theorem Mw(os:Os)(args:Array Value):laidMet Tryz.prog Rows.schemaIndexesRow.laid ((Ze os).forCall (λ_ _=>0) ⟨#[],args,[]⟩).memory :=laidMet_of_run' 8 (by kernel_rfl) (by kernel_rfl)
theorem Sy(os:Os){H:Type}(enc:TypeId×Value->H):∃places,DataW.whole enc Tryz.prog ((Ze os).forCall (λ_ _=>0) ⟨#[], #[.agg #[.string ⟨#[]⟩,.slice none 0 0,.slice none 0 0,.slice none 0 0,.slice none 0 0],.agg #[.int .i64 0,.string ⟨#[]⟩,.string ⟨#[]⟩,.slice none 0 0,.slice none 0 0,.slice none 0 0,.slice none 0 0,.slice none 0 0,.bool false,.int .i64 0,.int .i64 0,.int .i64 0,.string ⟨#[]⟩,.string ⟨#[]⟩,.slice none 0 0,.slice none 0 0,.slice none 0 0,.int .i64 0],.agg #[.int .i64 0,.string ⟨#[]⟩,.string ⟨#[]⟩,.slice none 0 0,.slice none 0 0,.slice none 0 0,.slice none 0 0,.slice none 0 0,.bool false,.int .i64 0,.int .i64 0,.int .i64 0,.string ⟨#[]⟩,.string ⟨#[]⟩,.slice none 0 0,.slice none 0 0,.slice none 0 0,.int .i64 0]],[]⟩).memory Tryz.f5.params.toList Rows.schemaIndexesSpec.vars false (#[.agg #[.string ⟨#[]⟩,.slice none 0 0,.slice none 0 0,.slice none 0 0,.slice none 0 0],.agg #[.int .i64 0,.string ⟨#[]⟩,.string ⟨#[]⟩,.slice none 0 0,.slice none 0 0,.slice none 0 0,.slice none 0 0,.slice none 0 0,.bool false,.int .i64 0,.int .i64 0,.int .i64 0,.string ⟨#[]⟩,.string ⟨#[]⟩,.slice none 0 0,.slice none 0 0,.slice none 0 0,.int .i64 0],.agg #[.int .i64 0,.string ⟨#[]⟩,.string ⟨#[]⟩,.slice none 0 0,.slice none 0 0,.slice none 0 0,.slice none 0 0,.slice none 0 0,.bool false,.int .i64 0,.int .i64 0,.int .i64 0,.string ⟨#[]⟩,.string ⟨#[]⟩,.slice none 0 0,.slice none 0 0,.slice none 0 0,.int .i64 0]]:Array Value).toList 8=some ([.agg [.lit (.string []),.nil,.nil,.nil,.nil],.agg [.lit (.int .i64 0),.lit (.string []),.lit (.string []),.nil,.nil,.nil,.nil,.nil,.lit (.bool false),.agg [.lit (.int .i64 0),.agg [.lit (.int .i64 0),.lit (.int .i64 0),.lit (.string [])],.lit (.string []),.nil],.nil,.nil,.lit (.int .i64 0)],.agg [.lit (.int .i64 0),.lit (.string []),.lit (.string []),.nil,.nil,.nil,.nil,.nil,.lit (.bool false),.agg [.lit (.int .i64 0),.agg [.lit (.int .i64 0),.lit (.int .i64 0),.lit (.string [])],.lit (.string []),.nil],.nil,.nil,.lit (.int .i64 0)]],[],places) :=⟨[],by kernel_rfl⟩
set_option maxRecDepth 100000 in
theorem O2(os:Os)(started:os.Started)(H:Type)(enc:TypeId×Value->H)(F:Stop.Interp) :
  ReturnsInHanded {} Tryz.checked os 5 .any ((OpenSpec.ofChange Rows.schemaIndexesSpec).preRow enc Tryz.prog Tryz.f5 Rows.schemaIndexesRow.domain false Rows.schemaIndexesRow.laid) (((OpenSpec.ofChange Rows.schemaIndexesSpec).at F).post enc Tryz.prog Tryz.f5 false true false false):=by
 obtain⟨places,hx⟩:=Sy os enc;refine returnsInHanded_of_row (C:=Tryz.checked) (s:=OpenSpec.ofChange Rows.schemaIndexesSpec) own started (by kernel_rfl) Tryz.func5
  (witness_row_at (enc:=enc) (C:=Tryz.checked) false (Ze os) #[.agg #[.string ⟨#[]⟩,.slice none 0 0,.slice none 0 0,.slice none 0 0,.slice none 0 0],.agg #[.int .i64 0,.string ⟨#[]⟩,.string ⟨#[]⟩,.slice none 0 0,.slice none 0 0,.slice none 0 0,.slice none 0 0,.slice none 0 0,.bool false,.int .i64 0,.int .i64 0,.int .i64 0,.string ⟨#[]⟩,.string ⟨#[]⟩,.slice none 0 0,.slice none 0 0,.slice none 0 0,.int .i64 0],.agg #[.int .i64 0,.string ⟨#[]⟩,.string ⟨#[]⟩,.slice none 0 0,.slice none 0 0,.slice none 0 0,.slice none 0 0,.slice none 0 0,.bool false,.int .i64 0,.int .i64 0,.int .i64 0,.string ⟨#[]⟩,.string ⟨#[]⟩,.slice none 0 0,.slice none 0 0,.slice none 0 0,.int .i64 0]] rfl (by kernel_rfl) (by kernel_rfl) (by kernel_rfl)
   (OpenSpec.preRow_of_cond 8 hx (by kernel_rfl) (λk hk=>by cases hk) (by kernel_rfl) (Mw os _))) ?_
 intro W base args ds gs before hval hW _ _ hsz hL hS _;exact Ms H enc W base args ds gs before hval hW hL hS hsz
theorem Ua:Rows.SchemaIndexesSaid :=
 OpenClaim.holds_of_cond 5 Tryz.f5 rfl rfl rfl rfl rfl rfl rfl ⟨rfl,rfl,rfl,rfl,rfl⟩ rfl rfl rfl rfl rfl (by kernel_rfl) Tryz.func5 (by kernel_rfl)
  (of_decide_eq_true (by kernel_rfl)) (by unfold Func.isWrapper;first|(rw[if_pos (by decide +kernel)];kernel_rfl)|(rw[if_neg (by decide +kernel)];exact⟨rfl,rfl⟩))
  (λos started H enc _ F=>by rw[OpenClaim.pre_eq_preRow];exact O2 os started H enc F)
theorem Sz(f:FuncId)(fn:Func)(hf:Tryz.pinned.checked.prog.funcNamed "exchequer/exchequerlaw16.SchemaIndexes" = some f)(hfn:Tryz.pinned.checked.prog.funcs[f]? = some fn) :
  false=Tryz.pinned.checked.prog.looks []/\∀(j:Nat) t,fn.params[j]? = some t->Tryz.pinned.checked.prog.wantsStandIn t=false:=by
 obtain rfl:f=5:=Option.some.inj ((show Tryz.prog.funcNamed "exchequer/exchequerlaw16.SchemaIndexes" = some 5 by kernel_rfl).symm.trans hf) |>.symm;obtain rfl:fn=Tryz.f5:=(Option.some.inj (Tryz.func5.symm.trans hfn)).symm;refine⟨by kernel_rfl,λj t ht =>?_⟩;have hall:(Tryz.f5.params.all λt => !Tryz.prog.wantsStandIn t)=true:=by kernel_rfl
 have:=Array.all_eq_true_iff_forall_mem.1 hall t (Array.mem_of_getElem? ht);have h2:Tryz.prog.wantsStandIn t=false:=by simpa using this
 exact h2
theorem schemaIndexes_card:Rows.SchemaIndexesCardSaid :=Claim7.holds_tied_plain_at .later [] _ _ _ _ Ua (λ_ h=>by cases h) (by kernel_rfl) (λ_ h=>by cases h) schemaIndexes_row_tie rfl ⟨rfl,rfl⟩ (by kernel_rfl) rfl Sz (by kernel_rfl)
end
#print axioms schemaIndexes_card
end Go.Proofs.YtbkinkalnmbpjaaGreatDoor
