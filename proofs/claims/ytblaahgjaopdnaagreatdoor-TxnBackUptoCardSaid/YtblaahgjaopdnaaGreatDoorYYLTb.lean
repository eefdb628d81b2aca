/- TxnBack: an outcome's bytes are that outcome;bytes that are one are its bytes;cut short they are none;of arguments that hold together at most 1048576 values and letters,on the condition of the row Ul: that the package's tables hold what the program's text lays there. -/
import Derived.Test.YtblaahgjaopdnaaGreatDoorYY9
set_option linter.all false
namespace Go.Proofs.YtblaahgjaopdnaaGreatDoor
open Go.Ax Go.ChangeShapes Go.WideShapes Go.ChangeAt Go.RowKit Go.ChangeMaps
def Bnr(b:Str):Option Bool :=
   (Alh b).bind λ(x9,a) =>
    cond (!decide (a=0)) (
    let j1:=λ(p6:Bool) =>
     cond (p6) (
     (known20).bind λc =>some c) (
     some false)
    cond (decide (x9.e=0)) (
     j1 (decide ((x9.l.length:Int)=0))) (
     j1 false)) (
    (Amx x9).bind λ(d,f) =>
     let j2:=λ(p9:Bool) =>
     cond (p9) (
      (known20).bind λg =>
      some g) (
      some false)
     cond (decide (f=0)) (
     (A41 d b).bind λh =>j2 h) (
     j2 false))
theorem Bc0{b:Str}(hb:b.length<=5000):Bnr b=some true:=by
 obtain⟨o,f,d1,d3⟩:=Avb (b:=b) (by omega);simp only[Bnr,d1,Zc1];rcases d3 with ⟨rfl,rfl⟩|⟨rfl,d4,d5⟩
 ·rfl
 ·simp only[Af6 d4,d5,A41,Vs,Zc1,decide_true,Zt1,Af,Ah];rfl
def Bnh(o:OutS)(b:Str)(i:Int):Option Bool :=
  (Amx o).bind λ(x2,x3) =>
   cond (decide (x3=0)) (
   cond (decide ((x2.length:Int)=0)) (
    some false) (
    (Alh x2).bind λ(x4,x5) =>
    chk (!decide ((wr .u64 (x2.length:Int))=0)) (
     chk (upto 0 (wr .i64 (Int.tmod (wr .u64 i) (wr .u64 (x2.length:Int)))) x2.length) (
     (Alh (x2.take ((wr .i64 (Int.tmod (wr .u64 i) (wr .u64 (x2.length:Int)))):Int).toNat)).bind λ(_,x7) =>
      cond (!decide (x5=0)) (
      some false) (
      (A65 x4 o).bind λx8 =>
       cond (!x8) (
       some false) (
       cond (!decide (x7=11)) (
        some false) (
        Bnr b))))))) (
   Bnr b)
theorem Bsf(o:OutS)(b:Str)(i:Int):Aj0 (o,b,i)=(Bn3 o).bind λx=>cond x (cond true (known20.bind λx1=>some x1) (Bnh o b i)) (cond (decide (5000<(b.length:Int))) (known20.bind λx1=>some x1) (Bnh o b i)):=rfl
theorem Bbj{o:OutS}{b:Str}{i:Int}(ho:Azw o)(hn:∀r,r∈o.l->Am0 r)(hl:(Bd o).length<=18000)(hb:b.length<=5000):Bnh o b i=some true:=by
 simp only[Bnh,Af6 ho,Zc1,Bc0 hb];by_cases h:(Nj o).2=0
 ·have e:=(Y9 h).2.2.2.1;have hp : 0<(Bd o).length:=by have:=Ba 9 o.e.toNat;simp only[Bd,Zh1];omega
  have hu:wr .u64 ((Bd o).length:Int)=((Bd o).length:Int):=Gn (by omega);obtain⟨j,hj⟩:∃j:Nat,wr .u64 i=(j:Int):=Int.eq_ofNat_of_zero_le (by rw[wrU];omega);have hm:Int.tmod (j:Int) ((Bd o).length:Int)=((j % (Bd o).length:Nat):Int):=rfl;have hlt:=Nat.mod_lt j hp;simp only[e,h,decide_true,Ah,Zd1 (show ¬((Bd o).length:Int)=0 by omega),Af,Bfa ho h (show(Bd o).length<=1000000 by omega),Zc1,hu,hj,hm,chk,Zs1];rw[B0 (n:=((j % (Bd o).length:Nat):Int)) (by simp[inI];omega),show upto 0 ((j % (Bd o).length:Nat):Int) (Bd o).length=true by simp[upto];omega,Ah,Int.toNat_natCast];obtain⟨p,f,d1,d3⟩:=Avb (b:=(Bd o).take (j % (Bd o).length)) (by rw[List.length_take];omega);have hf:f=11:=by
   rcases d3 with ⟨_,rfl⟩|⟨rfl,d4,d5⟩
   ·rfl
   ·exfalso;have k2:(Nj p).2=0:=by rw[d5]
    have k1:Bd p=(Bd o).take (j % (Bd o).length):=by rw[<-(Y9 k2).2.2.2.1,d5]
    have:=A9a ho d4 h k2 (by omega) (r:=(Bd o).drop (j % (Bd o).length)) (by rw[k1,List.take_append_drop]);have:=congrArg List.length this;rw[Za2,Zi1] at this;omega
  rw[d1,Zc1];simp only[hf,Zt1,Af,Bgv (Nat.le_trans ho.1 (by omega)) hn hn,Zc1,decide_true]
 ·rw[Zd1 h,Af]
theorem Be6(o:OutS)(b:Str)(i:Int)(so:SmO o)(bo:BdS (.sv .outc) o):Aj0 (o,b,i)=some true:=by
 obtain⟨r1,h1,u1⟩:=Bo7 so;rw[Bsf,h1,Zc1];cases r1 with
 |true=>rfl
 |false =>
  obtain⟨a1,a2,a3⟩:=Bpk bo (u1 rfl);rw[Af];by_cases hb : 5000<(b.length:Int)
  ·rw[Ze1 hb];rfl
  ·rw[Zd1 hb,Af];exact Bbj a1 a3 (A90 (u1 rfl)) (by omega)
theorem X6:Bp6 Rows.txnBackUptoRow.laid:=by refine⟨by kernel_rfl,?_⟩;simp[Rows.txnBackUptoRow]
set_option maxRecDepth 100000 in
theorem Pv(H:Type)(enc:TypeId×Value->H)(W:World)(base:Nat)(args:Array Value)(ds gs:List (DataW H))(before:List MemPlace)
  (hval:∀(j:Nat) t v,Tryz.f4.params[j]? = some t->args[j]? = some v->Value.okWide Tryz.prog W .any base t v)
  (hW:DataW.Whole enc Tryz.prog Tryz.f4.params.toList Rows.txnBackSpec.vars false W args.toList ds gs before) (hL:laidMetH Tryz.prog Rows.txnBackUptoRow.laid W) (hS:W.ShapedOpen Tryz.prog)
  (hsz:Rows.uptoSmall H (ds++gs)=true) :
  Calls Tryz.prog 4 args W λe W'=>∃v,e = .returned v/\Rows.txnBackSpec.post enc Tryz.prog Tryz.f4 false true false false W args v W' :=
 Bd3 (Bkc _ 1048576) (fn:=Tryz.f4) Bms (λx hb hs=>Be6 x.1 x.2.1 x.2.2 hs.1 hb.1) (by kernel_rfl) rfl (λds h=>match ds,h with|[_,_,_],_=>⟨rfl,rfl,rfl⟩) (by kernel_rfl) (by kernel_rfl) hval hW (Bo5 X6 hL hS) (λ_ i t d _ hd=>Bpl hsz (by rw[List.getElem?_append_left (Zi2.1 hd).1];exact hd))
theorem Qb(os:Os)(args:Array Value):laidMet Tryz.prog Rows.txnBackUptoRow.laid ((Ach os).forCall (λ_ _=>0) ⟨#[],args,[]⟩).memory :=laidMet_of_run' 8 (by kernel_rfl) (by kernel_rfl)
theorem Zb(os:Os){H:Type}(enc:TypeId×Value->H):∃places,DataW.whole enc Tryz.prog ((Ach os).forCall (λ_ _=>0) ⟨#[], #[.agg #[.int .i64 0,.int .i64 0,.slice none 0 0],.slice none 0 0,.int .i64 0],[]⟩).memory Tryz.f4.params.toList Rows.txnBackSpec.vars false (#[.agg #[.int .i64 0,.int .i64 0,.slice none 0 0],.slice none 0 0,.int .i64 0]:Array Value).toList 8=some ([.agg [.lit (.int .i64 0),.lit (.int .i64 0),.nil],.nil,.lit (.int .i64 0)],[],places) :=⟨[],by kernel_rfl⟩
set_option maxRecDepth 100000 in
theorem Vw(os:Os)(started:os.Started)(H:Type)(enc:TypeId×Value->H)(F:Stop.Interp) :
  ReturnsInHanded {} Tryz.checked os 4 .any ((Rows.OpenSpec.upto Rows.txnBackSpec).preRow enc Tryz.prog Tryz.f4 Rows.txnBackUptoRow.domain false Rows.txnBackUptoRow.laid) (((Rows.OpenSpec.upto Rows.txnBackSpec).at F).post enc Tryz.prog Tryz.f4 false true false false):=by
 obtain⟨places,hx⟩:=Zb os enc;refine returnsInHanded_of_row (C:=Tryz.checked) (s:=Rows.OpenSpec.upto Rows.txnBackSpec) own started (by kernel_rfl) Tryz.func4
  (witness_row_at (enc:=enc) (C:=Tryz.checked) false (Ach os) #[.agg #[.int .i64 0,.int .i64 0,.slice none 0 0],.slice none 0 0,.int .i64 0] rfl (by kernel_rfl) (by kernel_rfl) (by kernel_rfl)
   (OpenSpec.preRow_of_cond 8 hx (by kernel_rfl) (λk hk=>by cases hk;kernel_rfl) (by kernel_rfl) (Qb os _))) ?_
 intro W base args ds gs before hval hW _ hc _ hL hS _;exact Pv H enc W base args ds gs before hval hW hL hS (hc _ rfl)
theorem Ahv:laidOutB Tryz.pinned.checked.prog=true:=by kernel_rfl
theorem Aiw:mapsRowed Tryz.pinned.checked.prog=true:=by kernel_rfl
theorem Ai6:(Rows.txnBackUptoRow.inPlace == Tryz.pinned.checked.prog.inPlace 4)=true:=by kernel_rfl
theorem Agy:(Rows.txnBackUptoRow.unfollowed == Tryz.pinned.checked.prog.unfollowed 4)=true:=by kernel_rfl
theorem Agt:(Rows.txnBackUptoRow.recurses == Tryz.pinned.checked.prog.recurses 4)=true:=by kernel_rfl
theorem Ak0:(Rows.txnBackUptoRow.named == Tryz.pinned.checked.prog.varsNamed 4)=true:=by kernel_rfl
theorem Ahm:Tryz.pinned.checked.prog.stopsHeard=true:=by kernel_rfl
theorem Akd:Tryz.pinned.checked.prog.mayEnter=true:=by kernel_rfl
theorem Ag9:(Rows.txnBackUptoRow.lifted == Tryz.pinned.checked.prog.liftsFinal)=true:=by kernel_rfl
theorem Afu:(Rows.txnBackUptoRow.plainKeys == Tryz.pinned.checked.prog.plainKeys)=true:=by kernel_rfl
theorem Wm:joinedFacts Tryz.pinned.checked.prog 4 Tryz.f4 (Rows.OpenSpec.upto Rows.txnBackSpec).bare Rows.txnBackUptoRow=true:=by rw[joinedFacts,Ahv,Aiw,Ai6,Agy,Agt,Ak0,Ahm,Akd,Ag9,Afu];kernel_rfl
theorem O6:Tryz.pinned.checked.prog.funcNamed Rows.txnBackUptoRow.func=some 4:=by kernel_rfl
theorem Ace:Tryz.f4.isInstance Tryz.pinned.checked.prog Rows.txnBackUptoRow.origin Rows.txnBackUptoRow.targs:=of_decide_eq_true (by kernel_rfl)
theorem Abu:Tryz.f4.isWrapper Tryz.pinned.checked.prog Rows.txnBackUptoRow.wrapper Rows.txnBackUptoRow.mainSum:=by unfold Func.isWrapper;first|(rw[if_pos (by decide +kernel)];kernel_rfl)|(rw[if_neg (by decide +kernel)];exact⟨rfl,rfl⟩)
theorem Aay:Rows.TxnBackUptoSaid :=
 OpenClaim.holds_of_cond 4 Tryz.f4 rfl rfl rfl rfl rfl rfl rfl ⟨rfl,rfl,rfl,rfl,rfl⟩ rfl rfl rfl rfl rfl O6 Tryz.func4 Wm Ace Abu
  (λos started H enc _ F=>by rw[OpenClaim.pre_eq_preRow];exact Vw os started H enc F)
theorem Yu(f:FuncId)(fn:Func)(hf:Tryz.pinned.checked.prog.funcNamed "exchequer/exchequerlaw20.TxnBack" = some f)(hfn:Tryz.pinned.checked.prog.funcs[f]? = some fn) :
  false=Tryz.pinned.checked.prog.looks []/\∀(j:Nat) t,fn.params[j]? = some t->Tryz.pinned.checked.prog.wantsStandIn t=false:=by
 obtain rfl:f=4:=Option.some.inj ((show Tryz.prog.funcNamed "exchequer/exchequerlaw20.TxnBack" = some 4 by kernel_rfl).symm.trans hf) |>.symm;obtain rfl:fn=Tryz.f4:=(Option.some.inj (Tryz.func4.symm.trans hfn)).symm;refine⟨by kernel_rfl,λj t ht =>?_⟩;have hall:(Tryz.f4.params.all λt => !Tryz.prog.wantsStandIn t)=true:=by kernel_rfl
 have:=Array.all_eq_true_iff_forall_mem.1 hall t (Array.mem_of_getElem? ht);have h2:Tryz.prog.wantsStandIn t=false:=by simpa using this
 exact h2
theorem Aie:Rows.txnBackUptoRow.wfByText (Rows.OpenSpec.upto Rows.txnBackSpec)=true:=by kernel_rfl
theorem Ak6:((Tryz.pinned.checked.prog.closure 4).any λg=>(Tryz.pinned.checked.prog.funcs[g]?).any Func.goes)=false:=by kernel_rfl
theorem Akk:Tryz.pinned.checked.prog.funcs.any Func.goes=false:=by kernel_rfl
theorem Aml:Tryz.pinned.checked.prog.goes 4=false:=by rw[Program.goes,Ak6,Akk,Bool.and_false];rfl
theorem Abq:Tryz.pinned.checked.prog.goesFrom Rows.txnBackUptoRow.func=false:=by rw[Program.goesFrom,O6,Option.any_some,Aml]
theorem Alz:Rows.txnBackUptoRow.goesBy Tryz.pinned.checked.prog=(Tryz.pinned.checked.prog.goesFrom Rows.txnBackUptoRow.func||false):=by kernel_rfl
theorem Ab0:false=Rows.txnBackUptoRow.goesBy Tryz.pinned.checked.prog:=by rw[Alz,Abq,Bool.or_false]
theorem txnBackUpto_card:Rows.TxnBackUptoCardSaid :=Claim7.holds_tied_plain_at .later [] _ _ _ _ Aay (λ_ h=>by cases h) Aie (λ_ h=>by cases h) txnBackUpto_row_tie rfl ⟨rfl,rfl⟩ (by kernel_rfl) rfl Yu Ab0
#print axioms txnBackUpto_card
end Go.Proofs.YtblaahgjaopdnaaGreatDoor
