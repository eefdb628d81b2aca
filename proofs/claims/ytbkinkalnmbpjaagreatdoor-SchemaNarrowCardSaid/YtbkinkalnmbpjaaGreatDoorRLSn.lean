/- SchemaNarrow: a row that fits a table fits it with any index,and without its checks;with a check more it fits,or is refused by that;its key is no NULL;on the condition of the row Wv: that the package's tables hold what the program's text lays there. -/
import Derived.Test.YtbkinkalnmbpjaaGreatDoorR8
set_option linter.all false
namespace Go.Proofs.YtbkinkalnmbpjaaGreatDoor
open Go.Ax Go.ChangeShapes Go.WideShapes Go.ChangeAt Go.RowKit Go.ChangeMaps
noncomputable section
def Arx:Sig:=⟨112,[(1,.sl .val false),(6,.bool),(10,.sl .val true),(12,.int .i64)],[(8,.ptr 3 0)],[(3,.cells [.str,.sl .col false,.sl .str false,.sl .expr true,.sl .idx false])],4,0,0,[],[]⟩
abbrev Zy:=List Val×Bool×List Val×Int×Str×List Col×List Str×List Xpr×List Idx
def Aek{R:Type}(rec:Zy->Option R)(kx:Ex->Zy->Option R)(v:Zy):Option R:=match v with
 |(v,v1,v2,v3,w,w1,w2,w3,w4) =>
 cond (decide (v3<(v2.length:Int))) (
  chk (inb v3 v2.length) (
  cond (decide ((at' .val v2 v3).kind=1)) (
   kx .ret (v,false,v2,v3,w,w1,w2,w3,w4)) (
   chk (inb v3 v2.length) (
   cond (!decide ((P4 (at' .val v2 v3))=0)) (
    kx .ret (v,false,v2,v3,w,w1,w2,w3,w4)) (
    rec (v,v1,v2,(wr .i64 (v3+1)),w,w1,w2,w3,w4)))))) (
  kx (.exit 0) (v,v1,v2,v3,w,w1,w2,w3,w4))
def Bas(R:Type)(k:Nat):Px R:=pxO [(6,cA A0u),(14,cA Avw),(7,cA Ar8),(15,cA Awa),(16,cA Sp),(17,cA N8),(18,cA Adn)] [] [(15,Am k Arx (Aek))] []
def N9(k:Nat)(x:HV [.sv .tbl,.sl .val false,.sv .expr]):Option (HV [.bool]):=match x with
 |(t,row,more) =>
 let j1:=λ(p2:Bool) =>
  cond (p2) (
  (Zs).bind λx1 =>some x1) (
  chk (decide (0+t.checks.length<=Ao)) (
   chk (decide (([]++t.checks).length+1<=Ao)) (
   (Az2 t row t.key).bind λ(x2,x3) =>
    cond (!decide (x3=0)) (
    some false) (
    (Rn (Tbl.mk t.name t.cols t.key [] []) row).bind λx4 =>
     cond (!decide (x4=0)) (
     some false) (
     Al (λrec=>Aek rec (λe vz=>match vz with|(v4,v5,_,_,v8,v9,a,b,c)=>match e with
      |.ret =>
      some v5
      |.exit 0 =>
      (Rn (Tbl.mk v8 v9 a b c) v4).bind λx5 =>
       (O2 (Tbl.mk v8 v9 a b c)).bind λx6 =>
       cond (!decide (x6=0)) (
        cond (decide (x5=2)) (
        (Zs).bind λx7 =>some x7) (
        some false)) (
        let j4:=λ(p9:Bool) =>
        let j3:=λ(d:Bool) =>
         let j2:=λ(f:Bool) =>
         cond (f) (
          (Zs).bind λx9 =>
          some x9) (
          some false)
         cond (d) (
         (Ah4 (Tbl.mk v8 v9 a b c) v4).bind λx8 =>j2 (decide (x5=x8))) (
         j2 false)
        cond (p9) (
         j3 true) (
         j3 (decide (x5=20)))
        cond (decide (x5=0)) (
        j4 true) (
        j4 (decide (x5=162))))
      |_=>none)) k (row,false,x2,0,t.name,t.cols,t.key,(([]++t.checks)++[more]),t.idx))))))
 let j:=λ(p:Bool) =>
  cond (p) (
  j1 true) (
  (Rn t row).bind λx =>j1 (!decide (x=0)))
 cond ((P6 t (Stm.mk 0 [] [] [] [] [more] [] [] false (Xpr.mk 0 ⟨0,0,[]⟩ [] []) [] [] 0))) (
  j true) (
  j (decide (200<(row.length:Int))))
theorem Bj0(k:Nat):FO 4 [.sv .tbl,.sl .val false,.sv .expr] [.bool] (N9 k):=fR (px:=Bas _ k) (n:=1) Tryz.func4 rfl (λcx H=>by have h0:Lv cx (Bas (HV [.bool]) k):=lv H (c1 H Bir (c1 H Azy (c1 H A70 (c1 H Bku (c1 H Acp (c1 H U3 (c1 H A9h Ae))))))) Ab Aa;have hllNar_0:=lO H h0 (b:=lp Tryz.f4 0) (k:=k) (n:=0) (s:=Arx) (step:=Aek) (λ_ _ _ (_,_,_,_,_,_,_,_,_)=>by kernel_rfl) Ah;exact⟨h0,(A5 Ah hllNar_0)⟩) λ(_,_,_)=>by kernel_rfl
theorem Be8{R:Type}{kx:Ex->Zy->Option R}{row l:List Val}{b:Bool}{nm:Str}{cols:List Col}{key:List Str}{ck:List Xpr}{ix:List Idx}{c:Option R}(hn:ln l.length)(hl:∀v,v∈l->v.kind≠1/\P4 v=0)(h2:kx (.exit 0) (row,b,l,(l.length:Int),nm,cols,key,ck,ix)=c)(k:Nat)(hk:l.length<k) :
  Al (λrec=>Aek rec kx) k (row,b,l,0,nm,cols,key,ck,ix)=c:=by
 refine A3 l.length (λi=>(row,b,l,(i:Int),nm,cols,key,ck,ix)) (λ_=>c) (λi hi rec hr =>?_) (λrec =>?_) k 0 (Nat.zero_le _) (by omega)
 ·obtain⟨h3,h4⟩:=hl _ (List.getElem_mem hi);simp only[Aek,Cf hi,Af,Aw hi,chk,As (c :=.val) hi,Au hi hn,hr,Zd1 h3,Ag,h4,decide_true,Zt1]
 ·simp only[Aek,Cg,Ag,h2]
theorem Bdk(t:Tbl)(row:List Val)(more:Xpr)(st:SmTbl (R47,R47) t)(sm:SmExpr (R47,R47) more){k:Nat}(hk : 4000<k):N9 k (t,row,more)=some true:=by
 have sw:SmStm (R47,R47) (Stm.mk 0 [] [] [] [] [more] [] [] false (Xpr.mk 0 ⟨0,0,[]⟩ [] []) [] [] 0):=⟨by simp,by simp,by simp,by simp,⟨by simp[R47],λx hx=>by rw[List.mem_singleton.1 hx];exact sm⟩,by simp,by simp,.mk _ _ _ _ (by simp[Z9]) (by simp) (by simp) (by simp),by simp,by simp⟩;by_cases hm:P6 t (Stm.mk 0 [] [] [] [] [more] [] [] false (Xpr.mk 0 ⟨0,0,[]⟩ [] []) [] [] 0)=true\/200<(row.length:Int)
 case pos =>
  simp only[N9,Zl,Zc1];cases h1:P6 t (Stm.mk 0 [] [] [] [] [more] [] [] false (Xpr.mk 0 ⟨0,0,[]⟩ [] []) [] [] 0) with
  |true=>rfl
  |false =>
   rcases hm with hm|hm
   ·rw[h1] at hm;cases hm
   ·rw[Ze1 hm];rfl
 have m1:P6 t (Stm.mk 0 [] [] [] [] [more] [] [] false (Xpr.mk 0 ⟨0,0,[]⟩ [] []) [] [] 0)=false:=by cases h:P6 t (Stm.mk 0 [] [] [] [] [more] [] [] false (Xpr.mk 0 ⟨0,0,[]⟩ [] []) [] [] 0) with|false=>rfl|true=>exact absurd (.inl h) hm
 have m2:decide (200<(row.length:Int))=false:=Zd1 λh=>hm (.inr h);have q1:Pe t 600<600/\E8 (Stm.mk 0 [] [] [] [] [more] [] [] false (Xpr.mk 0 ⟨0,0,[]⟩ [] []) [] [] 0) 600<600:=by
  simp only[P6] at m1;by_cases h : 600<=Pe t 600
  ·rw[Ze1 h] at m1;cases m1
  ·rw[Zd1 h,Ag,decide_eq_false_iff_not] at m1;omega
 have ft:=A3c (by omega) st q1.1;have fm:=((Ae1 (by omega) sw).2 q1.2).2.2;have hmo:A1 more<=1200:=by have:=Bg (l:=[more]) (x:=more) (by simp);simp only at fm;omega
 have hst:=Bes ft;have hck:=ft.l;have hcl:=Ej t.checks;have hco:=ft.stm.cols;have hke:=ft.stm.names;simp only[B2] at hco hke;have w1:Rn t row=some (J3 t row):=Aj6 (by omega) (by omega) (by omega) hst;simp only[N9,m1,m2,Ag,w1,Zc1,Zl];by_cases hf:J3 t row=0
 case neg=>rw[Zd1 hf];rfl
 obtain⟨ht,hr,hnu,hc0⟩:=Br1 hf;have hlen:=E0 hr;have c1:decide (0+t.checks.length<=Ao)=true:=Ze1 (by simp only[Ao];omega);have c2:decide (t.checks.length+1<=Ao)=true:=Ze1 (by simp only[Ao];omega);have w2:Az2 t row t.key=some (Qn t.cols row t.key []):=by simp only[Az2];rw[Ze1 (show t.key.length<=1000000 by omega),Ze1 hlen.symm];rfl
 obtain⟨p1,p2⟩:=Bb2 (cols:=t.cols) (row:=row) (P:=λv=>v.kind≠1/\P4 v=0) (l:=t.key) (acc:=[]) (λs hs=>⟨Bjr ht s hs,Btp hr hnu hs (Bjr ht s hs)⟩) (λv hv=>by cases hv);have p3:=A3s (cols:=t.cols) (row:=row) (l:=t.key) (acc:=[]);simp only[Zi1,Nat.zero_add] at p3;have sb:Fv ⟨t.name,t.cols,t.key,[],[]⟩=true:=by have h:=(Nl hst).1;simp only[L6,Zb1,Dz] at h;simp only[Fv,L6,Zb1,Dz,List.all_nil,Zi1];exact⟨⟨h.1,h.2.1,h.2.2.1,rfl,trivial⟩,rfl,trivial⟩
 have w3:Rn ⟨t.name,t.cols,t.key,[],[]⟩ row=some 0:=by rw[Aj6 (t:=⟨t.name,t.cols,t.key,[],[]⟩) (by simp only;omega) (by simp only;omega) (by simp) sb];simp only[J3,Btn ht,hr,hnu,Af,Ag,F3]
 have stg:Fv ⟨t.name,t.cols,t.key,t.checks++[more],t.idx⟩=true:=by
  have h:=Nl hst;have h1:=h.1;simp only[L6,Zb1,Dz,Zg1,Zg2] at h1;simp only[Fv,L6,Zb1,Dz,Zg1,Zg2,Zh1,Zf1,Zi1];refine⟨⟨by first|exact h1.1|omega,by first|exact h1.2.1|omega,by first|exact h1.2.2.1|omega,by omega,λx hx =>?_⟩,h.2.1,h.2.2⟩;rcases List.mem_append.1 hx with hx|hx
  ·exact h1.2.2.2.2 x hx
  ·rw[List.mem_singleton.1 hx];omega
 have w4:Rn ⟨t.name,t.cols,t.key,t.checks++[more],t.idx⟩ row=some (J3 ⟨t.name,t.cols,t.key,t.checks++[more],t.idx⟩ row):=Aj6 (by simp only;omega) (by simp only;omega) (by simp only[Zh1,Zf1,Zi1];omega) stg;simp only[hf,decide_true,Zt1,Ag,c1,c2,chk,Af,w2,Zc1,p1,w3,Zf2];refine Be8 (by simp only[ln];omega) p2 ?_ k (by omega);simp only[w4,Zc1,O2,stg,Af];cases htt:Fq ⟨t.name,t.cols,t.key,t.checks++[more],t.idx⟩ with
 |false =>simp only[Ag,J3,htt];rfl
 |true =>
  have esz:esizes (t.checks++[more])<=6200:=by
   have e:∀l:List Xpr,esizes (l++[more])=esizes l+(1+A1 more):=λl=>by induction l with|nil=>simp only[Zf2,esizes];omega|cons x l ih=>simp only[Zb2,esizes,ih];omega
   rw[e];omega
  have fr:FewR ⟨t.name,t.cols,t.key,t.checks++[more],t.idx⟩:=by have f:=ft.stm;exact⟨⟨f.cols,f.names,f.order,f.desc,f.name,f.whr,esz,f.rows,f.sets⟩,Buq htt ft.idx.2⟩
  have e5:J3 ⟨t.name,t.cols,t.key,t.checks++[more],t.idx⟩ row=F3 t.cols row [more]:=by simp only[J3,htt,hr,hnu,Af,Ag];exact Aud hc0
  have hkm:=Bnr htt (e:=more) (by simp);simp only[Af,decide_true,Zt1,Ag,A6u fr,e5,Zc1];rcases Bfn hr hkm with h|h|h
  ·rw[h];rfl
  ·rw[h];rfl
  ·rw[h];rfl
theorem Bs8:FnOk Tryz.prog elT glT 4 [.sv .tbl,.sl .val false,.sv .expr] [.bool] (N9 10000) :=.fin 0 Bj0 λ_ _ _ hx=>⟨10000,hx⟩
theorem Xv:Bu5 Rows.schemaNarrowRow.laid:=by refine⟨by kernel_rfl,?_⟩;simp[Rows.schemaNarrowRow]
set_option maxRecDepth 100000 in
theorem Qu(H:Type)(enc:TypeId×Value->H)(W:World)(base:Nat)(args:Array Value)(ds gs:List (DataW H))(before:List MemPlace)
  (hval:∀(j:Nat) t v,Tryz.f4.params[j]? = some t->args[j]? = some v->Value.okWide Tryz.prog W .any base t v)
  (hW:DataW.Whole enc Tryz.prog Tryz.f4.params.toList Rows.schemaNarrowSpec.vars false W args.toList ds gs before) (hL:laidMetH Tryz.prog Rows.schemaNarrowRow.laid W) (hS:W.ShapedOpen Tryz.prog)
  (hsz:(DataW.weightsEach Tryz.prog (Tryz.f4.params.toList++(OpenSpec.ofChange Rows.schemaNarrowSpec).bare.plain.varTypes Tryz.prog) (ds++gs)).all (·<=reachBytes)=true) :
  Calls Tryz.prog 4 args W λe W'=>∃v,e = .returned v/\Rows.schemaNarrowSpec.post enc Tryz.prog Tryz.f4 false true false false W args v W' :=
 Bgk (A20 _) (fn:=Tryz.f4) Bs8 (λx hb hs=>Bdk x.1 x.2.1 x.2.2 hs.1 hs.2.2 (by omega)) (by kernel_rfl) rfl (λds h=>match ds,h with|[_,_,_],_=>⟨rfl,rfl,rfl⟩) (by kernel_rfl) (by kernel_rfl) hval hW (Brj Xv hL hS) (λhl=>Bk0 hsz (Nat.le_of_eq hl))
theorem Qt(os:Os)(args:Array Value):laidMet Tryz.prog Rows.schemaNarrowRow.laid ((Aev os).forCall (λ_ _=>0) ⟨#[],args,[]⟩).memory :=laidMet_of_run' 8 (by kernel_rfl) (by kernel_rfl)
theorem Y6(os:Os){H:Type}(enc:TypeId×Value->H):∃places,DataW.whole enc Tryz.prog ((Aev os).forCall (λ_ _=>0) ⟨#[], #[.agg #[.string ⟨#[]⟩,.slice none 0 0,.slice none 0 0,.slice none 0 0,.slice none 0 0],.slice none 0 0,.agg #[.int .i64 0,.int .i64 0,.int .i64 0,.string ⟨#[]⟩,.string ⟨#[]⟩,.slice none 0 0]],[]⟩).memory Tryz.f4.params.toList Rows.schemaNarrowSpec.vars false (#[.agg #[.string ⟨#[]⟩,.slice none 0 0,.slice none 0 0,.slice none 0 0,.slice none 0 0],.slice none 0 0,.agg #[.int .i64 0,.int .i64 0,.int .i64 0,.string ⟨#[]⟩,.string ⟨#[]⟩,.slice none 0 0]]:Array Value).toList 8=some ([.agg [.lit (.string []),.nil,.nil,.nil,.nil],.nil,.agg [.lit (.int .i64 0),.agg [.lit (.int .i64 0),.lit (.int .i64 0),.lit (.string [])],.lit (.string []),.nil]],[],places) :=⟨[],by kernel_rfl⟩
set_option maxRecDepth 100000 in
theorem Wn(os:Os)(started:os.Started)(H:Type)(enc:TypeId×Value->H)(F:Stop.Interp) :
  ReturnsInHanded {} Tryz.checked os 4 .any ((OpenSpec.ofChange Rows.schemaNarrowSpec).preRow enc Tryz.prog Tryz.f4 Rows.schemaNarrowRow.domain false Rows.schemaNarrowRow.laid) (((OpenSpec.ofChange Rows.schemaNarrowSpec).at F).post enc Tryz.prog Tryz.f4 false true false false):=by
 obtain⟨places,hx⟩:=Y6 os enc;refine returnsInHanded_of_row (C:=Tryz.checked) (s:=OpenSpec.ofChange Rows.schemaNarrowSpec) own started (by kernel_rfl) Tryz.func4
  (witness_row_at (enc:=enc) (C:=Tryz.checked) false (Aev os) #[.agg #[.string ⟨#[]⟩,.slice none 0 0,.slice none 0 0,.slice none 0 0,.slice none 0 0],.slice none 0 0,.agg #[.int .i64 0,.int .i64 0,.int .i64 0,.string ⟨#[]⟩,.string ⟨#[]⟩,.slice none 0 0]] rfl (by kernel_rfl) (by kernel_rfl) (by kernel_rfl)
   (OpenSpec.preRow_of_cond 8 hx (by kernel_rfl) (λk hk=>by cases hk) (by kernel_rfl) (Qt os _))) ?_
 intro W base args ds gs before hval hW _ _ hsz hL hS _;exact Qu H enc W base args ds gs before hval hW hL hS hsz
theorem Aaf:Rows.SchemaNarrowSaid :=
 OpenClaim.holds_of_cond 4 Tryz.f4 rfl rfl rfl rfl rfl rfl rfl ⟨rfl,rfl,rfl,rfl,rfl⟩ rfl rfl rfl rfl rfl (by kernel_rfl) Tryz.func4 (by kernel_rfl)
  (of_decide_eq_true (by kernel_rfl)) (by unfold Func.isWrapper;first|(rw[if_pos (by decide +kernel)];kernel_rfl)|(rw[if_neg (by decide +kernel)];exact⟨rfl,rfl⟩))
  (λos started H enc _ F=>by rw[OpenClaim.pre_eq_preRow];exact Wn os started H enc F)
theorem Yk(f:FuncId)(fn:Func)(hf:Tryz.pinned.checked.prog.funcNamed "exchequer/exchequerlaw16.SchemaNarrow" = some f)(hfn:Tryz.pinned.checked.prog.funcs[f]? = some fn) :
  false=Tryz.pinned.checked.prog.looks []/\∀(j:Nat) t,fn.params[j]? = some t->Tryz.pinned.checked.prog.wantsStandIn t=false:=by
 obtain rfl:f=4:=Option.some.inj ((show Tryz.prog.funcNamed "exchequer/exchequerlaw16.SchemaNarrow" = some 4 by kernel_rfl).symm.trans hf) |>.symm;obtain rfl:fn=Tryz.f4:=(Option.some.inj (Tryz.func4.symm.trans hfn)).symm;refine⟨by kernel_rfl,λj t ht =>?_⟩;have hall:(Tryz.f4.params.all λt => !Tryz.prog.wantsStandIn t)=true:=by kernel_rfl
 have:=Array.all_eq_true_iff_forall_mem.1 hall t (Array.mem_of_getElem? ht);have h2:Tryz.prog.wantsStandIn t=false:=by simpa using this
 exact h2
theorem schemaNarrow_card:Rows.SchemaNarrowCardSaid :=Claim7.holds_tied_plain_at .later [] _ _ _ _ Aaf (λ_ h=>by cases h) (by kernel_rfl) (λ_ h=>by cases h) schemaNarrow_row_tie rfl ⟨rfl,rfl⟩ (by kernel_rfl) rfl Yk (by kernel_rfl)
end
#print axioms schemaNarrow_card
end Go.Proofs.YtbkinkalnmbpjaaGreatDoor
