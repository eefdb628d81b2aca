/- ParseBrackets: an expression between brackets is that expression;words and signs may stand as far apart as one likes;on the condition of the row Zd: that the package's tables hold what the program's text lays. -/
import Derived.Test.YthndhaolemgbdaaGreatDoorP8
set_option linter.all false
namespace Go.Proofs.YthndhaolemgbdaaGreatDoor
open Go.Ax Go.ChangeShapes Go.WideShapes Go.ChangeAt Go.RowKit Go.ChangeMaps
noncomputable section
open Lp (Dt Sc Bf) in
theorem Bdh{c:UInt8}(hc:Bf (c.toNat:Int)=6) {D:Str→Prop}{a:Str}{Q:TL→Prop}(h:Lx D a Q):Lx D (c::a) Q:=fun r q us hr hs=>by
 obtain⟨ts,h1,h2⟩:=h r (q+1) us hr (by rw [Zf1] at hs;rw [show q+1+(a.length:Int)=q+((a.length+1:Nat):Int) by omega];exact hs)
 exact⟨ts,.blank hc h1,h2⟩
theorem Bgs(t:Str):dlm (10::t):=fun _ _ e=>by cases e;exact⟨by decide +kernel,by decide⟩
theorem Bd5{a:Str}{e:Xpr}(h:Lx dlm a fun ts=>isPE ts e):Lx dlm ([32,40]++a++[10,41,9]) fun ts=>isPE ts e:=by
 have e1:([32,40]:Str)++a++[10,41,9]=32::([40]++(a++(10::([41]++[9])))):=by simp
 have h9:Lx Afx [9] fun ts=>ts=[]:=Bdh (by decide +kernel) (Lx.nil rfl)
 rw [e1]
 refine((lx40.app (h.app (Bdh (c:=10) (by decide +kernel) (lx41.app h9 (fun _ _=>trivial))) (fun r _=>Bgs _)) (fun _ _=>trivial)).sp).mono Bgf fun ts q =>?_
 obtain⟨o,t1,rfl,ho,ti,t2,rfl,hi,c,t3,rfl,hc,rfl⟩:=q
 exact Ap3 ⟨o,ti,c,by simp,ho,hc,fun us hs=>by rw [←Mr];exact Qy hi (by omega) (by omega) hs⟩
theorem Bcc{t:Str}{e:Xpr}(h:Lx dlm t fun ts=>isPE ts e) (he:Bo e 30=true) (hl:t.length≤20000):Ze t=some (e,0,0):=by
 obtain⟨ts,h1,h2⟩:=h [] 0 [] Bba .nil
 have h2:=Qy h2 (k:=1) (by omega) (by omega) A64
 rw [List.append_nil,Mr] at h2
 rw [List.append_nil,List.append_nil] at h1
 exact Bbm hl h1 h2 he
theorem Bbq{t:Str}{e:Xpr}(h:Lx dlm t fun ts=>isPE ts e) (hl:t.length+1≤20000):∃x,Ze (t++[41])=some (x,(t.length:Int),11):=by
 have hs:Lp.Sc [41] (0+(t.length:Int)) [⟨6,0+(t.length:Int),[41],0⟩]:=A7y (w:=[41]) (r:=[]) (Adl (by decide +kernel) (A51 (by decide) (by decide) _)) .nil
 obtain⟨ts,h1,h2⟩:=h [41] 0 _ (dm41 _) hs
 have hh:hdW [41] [⟨6,0+(t.length:Int),[41],0⟩]:=rfl
 have h2:=Qy h2 (k:=1) (by omega) (by omega) (Be0 hh)
 rw [Mr] at h2
 have hw:Aaf (ts++[⟨6,0+(t.length:Int),[41],0⟩]) = .error [⟨6,0+(t.length:Int),[41],0⟩]:=by unfold Aaf;rw [h2]
 have e : 0+(t.length:Int)=t.length:=by omega
 refine⟨zX,?_⟩
 rw [Bab (by rw [Zh1];exact hl) h1 hw]
 simp only [Lg,e]
def Aeu:Sig:=⟨80,[(1,.int .u8),(7,.str),(8,.int .i64)],[(2,.ptr 0 0)],[(0,.one (.sv .expr))],1,0,0,[],[]⟩
abbrev Md:=Int×Str×Int×Xpr
def Adt{R:Type}(rec:Md→Option R) (kx:Ex→Md→Option R) (v:Md):Option R:=match v with
 |(v,v1,v2,w) =>
 cond (decide (v2<(wr .i64 (Int.tmod v 40)))) (
  chk (decide ([32,40].length+v1.length≤Dd)) (
  chk (decide (([32,40]++v1).length+[10,41,9].length≤Dd)) (
   rec (v,(([32,40]++v1)++[10,41,9]),(wr .i64 (v2+1)),w)))) (
  kx (.exit 0) (v,v1,v2,w))
def Uh(R:Type) (k:Nat):Px R:=⟨A7 ttL,glT,Aq [(12,As [.sv .expr,.int .i64] [.int .i64] Ax2),(29,As [] [.bool] Ak6),(14,As [.sv .expr] [.str,.int .i64] An6),(32,As [.str] [.sv .expr,.int .i64,.int .i64] An1),(21,As [.sv .expr,.sv .expr] [.bool] Ax5)],Ak [],Av [(8,Bc k Aeu (Adt))],tbl []⟩
theorem A21(R:Type) (k:Nat):∀(fr:List Fr) (rec:Md→Option R) (kx:Ex→Md→Option R) (v:Md),Bn (Uh R k) Aeu (lp Tryz.f11 0) fr rec kx v=Adt rec kx v
 |fr,rec,kx,(v,v1,v2,w)=>by kernel_rfl
def R2(k:Nat) (x:HV [.sv .expr,.int .u8]):Option (HV [.bool]):=match x with
 |(e,n) =>
 cond (decide (400≤(Iv e 400))) (
  (Ys).bind fun x =>
  some x) (
  (Zh e).bind fun(x1,x2) =>
  cond (!decide (x2=0)) (
   (Ys).bind fun x4 =>
   some x4) (
   cond (decide (9000<(x1.length:Int))) (
   (Ys).bind fun x5 =>
    some x5) (
   A5 (fun rec=>Adt rec (fun e vz=>match vz with|(_,v4,_,v6)=>match e with
    |.exit 0 =>
    (Ze v4).bind fun(x6,x7,x8) =>
     chk (decide (v4.length+[41].length≤Dd)) (
     (Ze (v4++[41])).bind fun(_,x10,x11) =>
      cond (decide (x8=0)) (
      cond (decide (x7=0)) (
       cond ((Ayb x6 v6)) (
       cond (decide (x11=11)) (
        cond (decide (x10=(v4.length:Int))) (
        (Ys).bind fun x27 =>
         some x27) (
        some false)) (
        some false)) (
       some false)) (
       some false)) (
      some false))
    |_=>none)) k (n,x1,0,e))))
set_option maxRecDepth 20000 in
theorem Ba0(k:Nat):∀(x:HV [.sv .expr,.int .u8]),Ci (Uh _ k) Tryz.f11 [.sv .expr,.int .u8] [.bool] x some=R2 k x
 |(e,n)=>by kernel_rfl
theorem A8e(k:Nat):FnOk Tryz.prog elT glT 11 [.sv .expr,.int .u8] [.bool] (R2 k):=by
 refine A1 Tryz.func11 rfl (by kernel_rfl) follows (by kernel_rfl) (n:=1) (by kernel_rfl) (px:=Uh _ k) (fun cx hP hel hgl =>?_) (Ba0 k)
 have hp0:PxOk cx (Uh (HV [.bool]) k):=⟨fun t=>by rw [hP,hel];exact Au Al t,by rw [hgl];rfl⟩
 have hc0:Aj cx (Uh (HV [.bool]) k):=Ah rfl (Aa (A4 (by rw [hP,hel,hgl];exact A85) (by kernel_rfl)) (Aa (A4 (by rw [hP,hel,hgl];exact Asp) (by kernel_rfl)) (Aa (A4 (by rw [hP,hel,hgl];exact Aqa) (by kernel_rfl)) (Aa (A4 (by rw [hP,hel,hgl];exact Aq8) (by kernel_rfl)) (Aa (A4 (by rw [hP,hel,hgl];exact A3z) (by kernel_rfl)) Ai)))))
 have hq0:CallQOk cx (Uh (HV [.bool]) k):=Ab rfl rfl Af Ae
 have hllBra_0:A6 cx (Uh (HV [.bool]) k) (lp Tryz.f11 0):=A8 hp0 hc0 hq0 (by rw [hP];exact follows) (k:=k) (s:=Aeu) (step:=Adt) (fun _ _=>by kernel_rfl) (by kernel_rfl) (A21 _ k) (A0 (n:=0) (by kernel_rfl) Aw)
 exact⟨hp0,hc0,hq0,(Cg Aw hllBra_0)⟩
theorem Alt{kx:Ex→Md→Option Bool}{n:Int}{m:Nat}{e:Xpr}(hn:wr .i64 (Int.tmod n 40)=(m:Int)) (hm:m≤40) (hk:∀t,(Lx dlm t fun ts=>isPE ts e)→t.length≤9200→kx (.exit 0) (n,t,(m:Int),e)=some true):∀(k i:Nat) (t:Str),(Lx dlm t fun ts=>isPE ts e)→t.length≤9000+5*i→i≤m→m-i<k→A5 (fun rec=>Adt rec kx) k (n,t,(i:Int),e)=some true
 |0,_,_,_,_,_,h=>absurd h (Zm1 _)
 |k+1,i,t,ht,hl,hi,h=>by
  rw [Bu]
  simp only [Adt,hn]
  by_cases hlt:i<m
  ·have c1:decide ([32,40].length+t.length≤Dd)=true:=Ze1 (by simp only [Dd,Zf1,Zi1];omega)
   have c2:decide (([32,40]++t).length+[10,41,9].length≤Dd)=true:=Ze1 (by simp only [Dd,Zh1,Zf1,Zi1];omega)
   have hw:wr .i64 ((i:Int)+1)=((i+1:Nat):Int):=by rw [Zk (by simp only [inI];omega)];omega
   rw [Ze1 (by omega),Am,c1,c2,hw]
   exact Alt hn hm hk k (i+1) _ (Bd5 ht) (by simp only [Zh1,Zf1,Zi1];omega) (by omega) (by omega)
  ·obtain rfl:i=m:=by omega
   rw [Zd1 (by omega),An]
   exact hk t ht (by omega)
set_option maxRecDepth 20000 in
theorem A1k(e:Xpr) (n:Int) (hn:inK .u8 n) (be:BdExpr e) (se:SmExpr (R47,R47) e):R2 50 (e,n)=some true:=by
 simp only [inK,IntKind.min,IntKind.max] at hn
 have hn : 0≤n∧n≤255:=⟨hn.1,hn.2⟩
 simp only [R2,Anh,Zc1]
 by_cases he : 400≤Iv e 400
 ·rw [Ze1 he];rfl
 have ze:=(Alb (Zn1 _) (Bt e) e 400 (Zn1 _) se (by omega) (by omega)).2.2 (by omega)
 rw [Zd1 he,An]
 cases hr:Bo e 30 with
 |false =>
  rw [Bap hr]
  rfl
 |true =>
  rw [Bb9 hr be (by omega)]
  simp only [Zc1,decide_true,Zt1,An]
  by_cases hl : 9000<((etx e).length:Int)
  ·rw [Ze1 hl];rfl
  ·rw [Zd1 hl,An]
   obtain⟨m,hm⟩:∃m:Nat,Int.tmod n 40=(m:Int):=⟨(n % 40).toNat,by rw [Int.tmod_eq_emod_of_nonneg hn.1];omega⟩
   have hm40:m≤40:=by
    rw [Int.tmod_eq_emod_of_nonneg hn.1] at hm
    omega
   have hx:Lx dlm (etx e) fun ts=>isPE ts e:=(A4r (Bt e) e 30 (Zn1 _) hr be).mono (fun _ h=>h) fun _ h=>h.1
   refine Alt (m:=m) (by rw [hm,Zk (by simp only [inI];omega)]) hm40 (fun t ht hl =>?_) 50 0 (etx e) hx (by omega) (by omega) (by omega)
   obtain⟨x,h2⟩:=Bbq ht (by omega)
   have c1:decide (t.length+[41].length≤Dd)=true:=Ze1 (by simp only [Dd,Zf1,Zi1];omega)
   have h1:Ayb e e=true:=by rw [A29];exact Ze1 rfl
   simp only [Bcc ht hr (by omega),h2,c1,Zc1,chk,Am,h1,decide_true]
theorem Bb2:FnOk Tryz.prog elT glT 11 [.sv .expr,.int .u8] [.bool] (R2 50) :=.fin 0 A8e fun _ _ _ hx=>⟨50,hx⟩
theorem Y7:Bc9 Rows.parseBracketsRow.laid:=by
 refine⟨by kernel_rfl,?_⟩
 simp [Rows.parseBracketsRow]
set_option maxRecDepth 100000 in
theorem Tu(H:Type) (enc:TypeId×Value→H) (W:World) (base:Nat) (args:Array Value) (ds gs:List (DataW H)) (before:List MemPlace)
  (hval:∀(j:Nat) t v,Tryz.f11.params[j]? = some t→args[j]? = some v→Value.okWide Tryz.prog W .any base t v)
  (hW:DataW.Whole enc Tryz.prog Tryz.f11.params.toList Rows.parseBracketsSpec.vars false W args.toList ds gs before) (hL:laidMetH Tryz.prog Rows.parseBracketsRow.laid W) (hS:W.ShapedOpen Tryz.prog)
  (hsz:(DataW.weightsEach Tryz.prog (Tryz.f11.params.toList++(OpenSpec.ofChange Rows.parseBracketsSpec).bare.plain.varTypes Tryz.prog) (ds++gs)).all (·≤reachBytes)=true) :
  Calls Tryz.prog 11 args W fun e W'=>∃v,e = .returned v∧Rows.parseBracketsSpec.post enc Tryz.prog Tryz.f11 false true false false W args v W' :=
 A28 (Ar0 _) (fn:=Tryz.f11) Bb2 (fun x hb hs=>A1k x.1 x.2 hb.2 hb.1 hs.1) (by kernel_rfl) rfl (fun ds h=>match ds,h with|[_,_],_=>⟨rfl,rfl,rfl⟩) (by kernel_rfl) (by kernel_rfl) hval hW (Bcq Y7 hL hS) (fun hl=>A69 hsz (Nat.le_of_eq hl))
theorem Td(os:Os) (args:Array Value):laidMet Tryz.prog Rows.parseBracketsRow.laid ((Adw os).forCall (fun _ _=>0) ⟨#[],args,[]⟩).memory :=
 laidMet_of_run' 8 (by kernel_rfl) (by kernel_rfl)
theorem Y6(os:Os) {H:Type}(enc:TypeId×Value→H):∃places,DataW.whole enc Tryz.prog ((Adw os).forCall (fun _ _=>0) ⟨#[], #[.agg #[.int .i64 0,.int .i64 0,.int .i64 0,.string ⟨#[]⟩,.string ⟨#[]⟩,.slice none 0 0],.int .u8 0],[]⟩).memory Tryz.f11.params.toList Rows.parseBracketsSpec.vars false (#[.agg #[.int .i64 0,.int .i64 0,.int .i64 0,.string ⟨#[]⟩,.string ⟨#[]⟩,.slice none 0 0],.int .u8 0]:Array Value).toList 8=some ([.agg [.lit (.int .i64 0),.agg [.lit (.int .i64 0),.lit (.int .i64 0),.lit (.string [])],.lit (.string []),.nil],.lit (.int .u8 0)],[],places) :=
 ⟨[],by kernel_rfl⟩
set_option maxRecDepth 100000 in
theorem U7(os:Os) (started:os.Started) (H:Type) (enc:TypeId×Value→H) (F:Stop.Interp) :
  ReturnsInHanded {} Tryz.checked os 11 .any ((OpenSpec.ofChange Rows.parseBracketsSpec).preRow enc Tryz.prog Tryz.f11 Rows.parseBracketsRow.domain false Rows.parseBracketsRow.laid) (((OpenSpec.ofChange Rows.parseBracketsSpec).at F).post enc Tryz.prog Tryz.f11 false true false false):=by
 obtain⟨places,hx⟩:=Y6 os enc
 refine returnsInHanded_of_row (C:=Tryz.checked) (s:=OpenSpec.ofChange Rows.parseBracketsSpec) own started (by kernel_rfl) Tryz.func11
  (witness_row_at (enc:=enc) (C:=Tryz.checked) false (Adw os) #[.agg #[.int .i64 0,.int .i64 0,.int .i64 0,.string ⟨#[]⟩,.string ⟨#[]⟩,.slice none 0 0],.int .u8 0] rfl (by kernel_rfl) (by kernel_rfl) (by kernel_rfl)
   (OpenSpec.preRow_of_cond 8 hx (by kernel_rfl) (fun k hk=>by cases hk) (by kernel_rfl) (Td os _))) ?_
 intro W base args ds gs before hval hW _ _ hsz hL hS _
 exact Tu H enc W base args ds gs before hval hW hL hS hsz
theorem Aah:Rows.ParseBracketsSaid :=
 OpenClaim.holds_of_cond 11 Tryz.f11 rfl rfl rfl rfl rfl rfl rfl ⟨rfl,rfl,rfl,rfl,rfl⟩ rfl rfl rfl rfl rfl (by kernel_rfl) Tryz.func11 (by kernel_rfl)
  (of_decide_eq_true (by kernel_rfl)) (by unfold Func.isWrapper;first|(rw [if_pos (by decide +kernel)];kernel_rfl)|(rw [if_neg (by decide +kernel)];exact⟨rfl,rfl⟩))
  (fun os started H enc _ F=>by rw [OpenClaim.pre_eq_preRow];exact U7 os started H enc F)
theorem Y8(f:FuncId) (fn:Func) (hf:Tryz.pinned.checked.prog.funcNamed "exchequer/exchequerlaw14.ParseBrackets" = some f) (hfn:Tryz.pinned.checked.prog.funcs[f]? = some fn) :
  false=Tryz.pinned.checked.prog.looks []∧∀(j:Nat) t,fn.params[j]? = some t→Tryz.pinned.checked.prog.wantsStandIn t=false:=by
 obtain rfl:f=11:=Option.some.inj ((show Tryz.prog.funcNamed "exchequer/exchequerlaw14.ParseBrackets" = some 11 by kernel_rfl).symm.trans hf) |>.symm
 obtain rfl:fn=Tryz.f11:=(Option.some.inj (Tryz.func11.symm.trans hfn)).symm
 refine⟨by kernel_rfl,fun j t ht =>?_⟩
 have hall:(Tryz.f11.params.all fun t => !Tryz.prog.wantsStandIn t)=true:=by kernel_rfl
 have:=Array.all_eq_true_iff_forall_mem.1 hall t (Array.mem_of_getElem? ht)
 have h2:Tryz.prog.wantsStandIn t=false:=by simpa using this
 exact h2
theorem parseBrackets_card:Rows.ParseBracketsCardSaid :=
 Claim7.holds_tied_plain_at .later [] _ _ _ _ Aah (fun _ h=>by cases h) (by kernel_rfl) (fun _ h=>by cases h) parseBrackets_row_tie rfl ⟨rfl,rfl⟩ (by kernel_rfl) rfl Y8 (by kernel_rfl)
end
#print axioms parseBrackets_card
end Go.Proofs.YthndhaolemgbdaaGreatDoor
