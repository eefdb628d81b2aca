/- ParseCuts: a statement's tokens without the last one are missing some at the end,or are one;with a sign more that is none's begin it is that one;on the condition of the row W9: that the package's tables hold what the program's text lays. -/
import Derived.Test.YthndhaolemgbdaaGreatDoorW8
set_option linter.all false
namespace Go.Proofs.YthndhaolemgbdaaGreatDoor
open Go.Ax Go.ChangeShapes Go.WideShapes Go.ChangeAt Go.RowKit Go.ChangeMaps
noncomputable section
open Lp (Sc clsF) in
theorem Bp3(q:Int):Sc [59,32,59] q [⟨6,q,[59],0⟩,⟨6,q+2,[59],0⟩]:=by
 have h1:Sc [59] (q+1+1) [⟨6,q+1+1,[59],0⟩]:=Atb (w:=[59]) (r:=[]) (N9 (by decide +kernel) (Asm (by decide) (by decide) _)) .nil;have h2:Sc ([59]++[32,59]) q [⟨6,q,[59],0⟩,⟨6,q+1+1,[59],0⟩]:=Atb (w:=[59]) (r:=[32,59]) (N9 (by decide +kernel) (Asm (by decide) (by decide) _)) (.blank Av3 h1);have e:q+1+1=q+2:=by omega
 rw[e] at h2;exact h2
theorem Bqq(q:Int):Lp.Sc [41] q [⟨6,q,[41],0⟩]:=Atb (w:=[41]) (r:=[]) (N9 (by decide +kernel) (Asm (by decide) (by decide) _)) .nil
theorem A04{s:Stm}{d:List Bool}(hk:s.kind=8)(hd:d.length=s.desc.length):G3 { s with desc:=d }=G3 s:=by simp only[G3,Gh,hk,hd];rfl
section
variable {s:Stm}{ts:TL}(h2:G0 ts = .ok (s,[]))
theorem Bgz(h2:G0 ts = .ok (s,[])){k:Nat}{q:TL}(h:G0 (ts.take k) = .error q):q=[]:=by
 by_cases hq:q=[]
 ·exact hq
 ·have:=(Kz (n:=(ts.take k).length+1)).er (ts.take k) (ts.drop k) q (by omega) h (.inl hq);rw[List.take_append_drop,h2] at this;cases this
theorem Bhv(h2:G0 ts = .ok (s,[])){k:Nat}{e:Stm}{l:TL}(h:G0 (ts.take k) = .ok (e,l)):l=[]:=by
 by_cases hq:l=[]
 ·exact hq
 ·have:=(Kz (n:=(ts.take k).length+1)).ok (ts.take k) (ts.drop k) e l (by omega) h (.inl hq);rw[List.take_append_drop,h2] at this;simp only[Except.ok.injEq,Zp1] at this;have:=congrArg List.length this.2;have h0:=List.length_pos_iff.2 hq;simp only[Zi1,Zh1] at this;omega
theorem cut_one{t:Str}(hl:t.length<=10000)(h2:G0 ts = .ok (s,[]))(hc:G3 s=true)(hf:Few s){A:Nat}(hA:A<t.length)(hs:Lp.Sc (t.take A) 0 (ts.take (ts.length-1))):∃(x:Stm) (n e:Int),Ml (t.take A)=some (x,n,e)/\(e=0\/e=11/\n=A):=by
 have hlt:(t.take A).length=A:=by rw[List.length_take];omega
 cases hq:G0 (ts.take (ts.length-1)) with
 |error q =>
  have:=Bgz h2 hq;subst this;have hw:Kf (ts.take (ts.length-1)) = .error []:=by unfold Kf;rw[hq]
  have:=Atm (by omega) hs hw;exact⟨_,_,_,this,.inr ⟨rfl,by show((t.take A).length:Int)=A;omega⟩⟩
 |ok y =>
  obtain⟨e,l⟩:=y;have:=Bhv h2 hq;subst this;have h3:=A4b _ _ _ h2;have hts:ts=ts.take (ts.length-1)++[ts[ts.length-1]'(by omega)]:=by have h:=List.take_append_getElem (l:=ts) (i:=ts.length-1) (by omega);rw[h,List.take_of_length_le (by omega)]
  have h4:=h2;rw[hts] at h4;obtain⟨hk,d,he,hd⟩:=Bem h4 hq;have hw:Kf (ts.take (ts.length-1)) = .ok e:=by unfold Kf;rw[hq];rfl
  have hfe:Few e:=by rw[he];exact⟨hf.cols,hf.names,hf.order,by show d.length<=3100;rw[hd];exact hf.desc,hf.name,hf.whr,hf.l,hf.rows,hf.sets⟩
  have hr:=Bkj (by omega) hs hw hfe;rw[he,A04 hk hd,hc] at hr;exact⟨_,_,_,hr,.inl rfl⟩
theorem Bip{t:Str}(hl:t.length<=10000)(h2:G0 ts = .ok (s,[])){A k:Nat}(hA:A<t.length)(hs:Lp.Sc (t.take A) 0 (ts.take k)):∃(x:Stm) (n:Int),Ml (t.take A++[32,59,32,59])=some (x,n,11)/\(n=(A:Int)+1\/n=(A:Int)+3):=by
 have hlt:(t.take A).length=A:=by rw[List.length_take];omega
 have hb:=hs.app (c:=32) Av3 [59,32,59] (Bp3 _);have hll:(t.take A++[32,59,32,59]).length<=20000:=by simp only[Zh1,hlt,Zf1,Zi1];omega
 have fin:∀q,Kf (ts.take k++[⟨6,0+((t.take A).length:Int)+1,[59],0⟩,⟨6,0+((t.take A).length:Int)+1+2,[59],0⟩]) = .error q->∀n:Int,Hd ((t.take A++[32,59,32,59]).length:Int) q=n->(n=(A:Int)+1\/n=(A:Int)+3)->∃(x:Stm) (n:Int),Ml (t.take A++[32,59,32,59])=some (x,n,11)/\(n=(A:Int)+1\/n=(A:Int)+3):=λq hw n hn h=>by have:=Atm hll hb hw;rw[hn] at this;exact⟨_,_,this,h⟩
 cases hq:G0 (ts.take k) with|error q =>have:=Bgz h2 hq;subst this;have h5:=(Kz (n:=(ts.take k).length+1)).er (ts.take k) [⟨6,0+((t.take A).length:Int)+1,[59],0⟩,⟨6,0+((t.take A).length:Int)+1+2,[59],0⟩] [] (by omega) hq (.inr ⟨rfl,rfl⟩);refine fin _ (by unfold Kf;rw[h5]) _ rfl (.inl ?_);show 0+((t.take A).length:Int)+1=(A:Int)+1;omega|ok y =>obtain⟨e,l⟩:=y;have:=Bhv h2 hq;subst this;have h5:=(Kz (n:=(ts.take k).length+1)).ok (ts.take k) [⟨6,0+((t.take A).length:Int)+1,[59],0⟩,⟨6,0+((t.take A).length:Int)+1+2,[59],0⟩] e [] (by omega) hq (.inr (.inl (.inl rfl)));refine fin [⟨6,0+((t.take A).length:Int)+1+2,[59],0⟩] (by unfold Kf;rw[h5];rfl) _ rfl (.inr ?_);show 0+((t.take A).length:Int)+1+2=(A:Int)+3;omega
theorem Ba1{t:Str}(hl:t.length<=10000)(h1:Lp.Sc t 0 ts)(h2:G0 ts = .ok (s,[])):∃x:Stm,Ml (t++[32,41])=some (x,(t.length:Int)+1,11):=by
 have hb:=h1.app (c:=32) Av3 [41] (Bqq _);have h5:=(Kz (n:=ts.length+1)).ok ts [⟨6,0+(t.length:Int)+1,[41],0⟩] s [] (by omega) h2 (.inr (.inl (.inr rfl)));have hr:=Atm (q:=[⟨6,0+(t.length:Int)+1,[41],0⟩]) (by simp only[Zh1,Zf1,Zi1];omega) hb (by unfold Kf;rw[h5];rfl);have e:Hd ((t++[32,41]).length:Int) [⟨6,0+(t.length:Int)+1,[41],0⟩]=(t.length:Int)+1:=by show 0+(t.length:Int)+1=_;omega
 rw[e] at hr;exact⟨_,hr⟩
end
def Bj0(R:Type):Px R:=pxO [(22,cA Atl),(29,cA Aod),(23,cA Ale),(35,cA Akw),(30,cA Ags)] [] [] []
def Acc(x:HV [.sv .stmt,.int .i64]):Option (HV [.bool]):=match x with
 |(s,a) =>
 cond (decide (400<=(Au9 s 400))) (
  (P6).bind λx =>
  some x) (
  (Rf s).bind λ(x1,x2) =>
  cond (!decide (x2=0)) (
   (P6).bind λx4 =>
   some x4) (
   cond (decide (10000<(x1.length:Int))) (
   (P6).bind λx5 =>some x5) (
   cond (!decide ((Ce x1).2.2=0)) (
    some false) (
    cond (decide ((((Ce x1).1).length:Int)<3)) (
    some false) (
    chk (inb (wr .i64 ((((Ce x1).1).length:Int)-1)) (((Ce x1).1).length)) (
     chk (Di 0 ((at' .tok ((Ce x1).1) (wr .i64 ((((Ce x1).1).length:Int)-1))).pos) x1.length) (
     (Ml (x1.take ((at' .tok ((Ce x1).1) (wr .i64 ((((Ce x1).1).length:Int)-1))).pos:Int).toNat)).bind λ(_,x7,x8) =>
      chk (!decide ((wr .u64 (((Ce x1).1).length:Int))=0)) (
      chk (inb (wr .i64 (Int.tmod (wr .u64 a) (wr .u64 (((Ce x1).1).length:Int)))) (((Ce x1).1).length)) (
       chk (Di 0 ((at' .tok ((Ce x1).1) (wr .i64 (Int.tmod (wr .u64 a) (wr .u64 (((Ce x1).1).length:Int))))).pos) x1.length) (
       chk (decide ((x1.take ((at' .tok ((Ce x1).1) (wr .i64 (Int.tmod (wr .u64 a) (wr .u64 (((Ce x1).1).length:Int))))).pos:Int).toNat).length+[32,59,32,59].length<=C0)) (
        (Ml ((x1.take ((at' .tok ((Ce x1).1) (wr .i64 (Int.tmod (wr .u64 a) (wr .u64 (((Ce x1).1).length:Int))))).pos:Int).toNat)++[32,59,32,59])).bind λ(_,b,e) =>
        chk (decide (x1.length+[32,41].length<=C0)) (
         (Ml (x1++[32,41])).bind λ(_,c,d) =>
         let j:=λ(_:Unit) =>
          cond (decide (e=11)) (
          chk (inb (wr .i64 (Int.tmod (wr .u64 a) (wr .u64 (((Ce x1).1).length:Int)))) (((Ce x1).1).length)) (
           cond (decide (b=(wr .i64 (((at' .tok ((Ce x1).1) (wr .i64 (Int.tmod (wr .u64 a) (wr .u64 (((Ce x1).1).length:Int))))).pos)+1)))) (
           cond (decide (d=11)) (
            cond (decide (c=(wr .i64 ((x1.length:Int)+1)))) (
            (P6).bind λf =>some f) (
            some false)) (
            some false)) (
           chk (inb (wr .i64 (Int.tmod (wr .u64 a) (wr .u64 (((Ce x1).1).length:Int)))) (((Ce x1).1).length)) (
            cond (decide (b=(wr .i64 (((at' .tok ((Ce x1).1) (wr .i64 (Int.tmod (wr .u64 a) (wr .u64 (((Ce x1).1).length:Int))))).pos)+3)))) (
            cond (decide (d=11)) (
             cond (decide (c=(wr .i64 ((x1.length:Int)+1)))) (
             (P6).bind λg =>some g) (
             some false)) (
             some false)) (
            some false))))) (
          some false)
         cond (!decide (x8=0)) (
          cond (!decide (x8=11)) (
          some false) (
          cond (!decide (x7=(at' .tok ((Ce x1).1) (wr .i64 ((((Ce x1).1).length:Int)-1))).pos)) (
           some false) (
           j ()))) (
          j ())))))))))))))
set_option maxRecDepth 20000 in
theorem Bdo:FO 9 [.sv .stmt,.int .i64] [.bool] (Acc):=fR (px:=Bj0 _) (n:=0) Tryz.func9 rfl (λ_ H=>⟨lv H (c1 H Bcl (c1 H Azx (c1 H Ap8 (c1 H A8f (c1 H Air Af))))) Ab Aa,Ak⟩) λ(_,_)=>by kernel_rfl
theorem A3b{n:Int}:wr .u64 n=n % 18446744073709551616:=by simp[wr,IntKind.wrap,IntKind.bits,IntKind.signed]
theorem Bqz(a:Int){n:Nat}(h : 3<=n)(hn:n<=10000):∃k:Nat,wr .i64 (Int.tmod (wr .u64 a) (n:Int))=(k:Int)/\k<n:=by rw[A3b];have h0 : 0<=a % 18446744073709551616:=Int.emod_nonneg _ (by decide);obtain⟨b,hb⟩:=Int.eq_ofNat_of_zero_le h0;rw[hb];have e:Int.tmod (b:Int) (n:Int)=((b % n:Nat):Int):=rfl;have hl:b % n<n:=Nat.mod_lt _ (by omega);rw[e];exact⟨b % n,Bi (by simp only[inI];omega),hl⟩
set_option maxRecDepth 20000 in
theorem A8t(s:Stm)(a:Int)(bs:BdStm s)(ss:SmStm (R47,R47) s):Acc (s,a)=some true:=by
 simp only[Acc,Ar7,Zc1];by_cases hs : 400<=Au9 s 400
 ·rw[Ze1 hs];rfl
 have fs:=A0n (N:=400) (by omega) ss (by omega);rw[Zd1 hs,Ah];cases hc:G3 s with
 |false=>rw[Baq hc fs];rfl
 |true =>
  rw[Aym hc bs fs];obtain⟨ts,h1,h2⟩:=Bkp hc bs [] 0 [] Bjc .nil;have h2:=(h2 [] (.inl rfl)).2;rw[List.append_nil] at h1 h2;rw[List.append_nil] at h1;generalize B2 s=t at *;simp only[Zc1,decide_true,Zt1,Ah];by_cases hl : 10000<(t.length:Int)
  ·rw[Ze1 hl];rfl
  rw[Zd1 hl,Ah];have hr:Ce t=(ts,0,0):=Aqx (by omega) h1;have h3:=A4b _ _ _ h2;have hf:=Bga h1;simp only[Zi1] at h3;rw[hr];simp only[decide_true,Zt1,Ah];rw[Zd1 (show ¬(ts.length:Int)<3 by omega),Ah];have wl:wr .u64 (ts.length:Int)=(ts.length:Int):=by rw[A3b];omega
  have w1:wr .i64 ((ts.length:Int)-1)=((ts.length-1:Nat):Int):=by rw[Bi (by simp only[inI];omega)];omega
  obtain⟨k,hk,hkl⟩:=Bqz a (n:=ts.length) (by omega) (by omega);rw[wl,hk,w1];obtain⟨A,p1,p2,p3,_⟩:=h1.part (ts.length-1) (ts[ts.length-1]'(by omega)) (Zo1 (by omega));obtain⟨B,q1,q2,q3,_⟩:=h1.part k (ts[k]'hkl) (Zo1 hkl);have a1:at' .tok ts ((ts.length-1:Nat):Int)=ts[ts.length-1]'(by omega):=Bb (c :=.tok) (by omega);have a2:at' .tok ts (k:Int)=ts[k]'hkl:=Bb (c :=.tok) hkl;rw[a1,a2,p1,q1];obtain⟨x,n,e,g1,g2⟩:=cut_one (by omega) h2 hc fs p2 p3;obtain⟨y,m,g3,g4⟩:=Bip (by omega) h2 q2 q3;obtain⟨z,g5⟩:=Ba1 (by omega) h1 h2;have n1:(0+(A:Int)).toNat=A:=by omega
  have n2:(0+(B:Int)).toNat=B:=by omega
  rw[n1,n2];have m1:decide ((t.take B).length+[32,59,32,59].length<=C0)=true:=Ze1 (by simp only[List.length_take,Zf1,Zi1,C0];omega);have m2:decide (t.length+[32,41].length<=C0)=true:=Ze1 (by simp only[Zf1,Zi1,C0];omega);have wn:wr .i64 ((t.length:Int)+1)=(t.length:Int)+1:=Bi (by simp only[inI];omega);have wa:wr .i64 (0+(B:Int)+1)=(B:Int)+1:=by rw[Bi (by simp only[inI];omega)];omega
  have wb:wr .i64 (0+(B:Int)+3)=(B:Int)+3:=by rw[Bi (by simp only[inI];omega)];omega
  have u1:Di 0 (0+(A:Int)) t.length=true:=Ge (by omega);have u2:Di 0 (0+(B:Int)) t.length=true:=Ge (by omega);have i1:inb ((ts.length-1:Nat):Int) ts.length=true:=A7 (by omega);have i2:inb (k:Int) ts.length=true:=A7 hkl;have z1:decide ((ts.length:Int)=0)=false:=Zd1 (by omega);rw[m1,m2,u1,u2,i1,i2,z1,g1,g3,g5,wn,wa,wb];simp only[chk,Ae,Zc1,Zs1,decide_true];rcases g4 with g4|g4<;>rcases g2 with g2|⟨g2,g6⟩
  ·rw[g4,g2,Ze1 (show(B:Int)+1=(B:Int)+1 from rfl)];rfl
  ·rw[g4,g2,g6,Ze1 (show(B:Int)+1=(B:Int)+1 from rfl),Ze1 (show(A:Int)=0+(A:Int) by omega)];rfl
  ·rw[g4,g2,Zd1 (show ¬(B:Int)+3=(B:Int)+1 by omega),Ze1 (show(B:Int)+3=(B:Int)+3 from rfl)];rfl
  ·rw[g4,g2,g6,Zd1 (show ¬(B:Int)+3=(B:Int)+1 by omega),Ze1 (show(B:Int)+3=(B:Int)+3 from rfl),Ze1 (show(A:Int)=0+(A:Int) by omega)];rfl
theorem Agi:Bmi Rows.parseCutsRow.laid:=by refine⟨by kernel_rfl,?_⟩;simp[Rows.parseCutsRow]
set_option maxRecDepth 100000 in
theorem X1(H:Type)(enc:TypeId×Value->H)(W:World)(base:Nat)(args:Array Value)(ds gs:List (DataW H))(before:List MemPlace)
  (hval:∀(j:Nat) t v,Tryz.f9.params[j]? = some t->args[j]? = some v->Value.okWide Tryz.prog W .any base t v)
  (hW:DataW.Whole enc Tryz.prog Tryz.f9.params.toList Rows.parseCutsSpec.vars false W args.toList ds gs before) (hL:laidMetH Tryz.prog Rows.parseCutsRow.laid W) (hS:W.ShapedOpen Tryz.prog)
  (hsz:(DataW.weightsEach Tryz.prog (Tryz.f9.params.toList++(OpenSpec.ofChange Rows.parseCutsSpec).bare.plain.varTypes Tryz.prog) (ds++gs)).all (·<=reachBytes)=true) :
  Calls Tryz.prog 9 args W λe W'=>∃v,e = .returned v/\Rows.parseCutsSpec.post enc Tryz.prog Tryz.f9 false true false false W args v W' :=
 A7a (Aw2 _) (fn:=Tryz.f9) Bdo (λx hb hs=>A8t x.1 x.2 hb.1 hs.1) (by kernel_rfl) rfl (λds h=>match ds,h with|[_,_],_=>⟨rfl,rfl,rfl⟩) (by kernel_rfl) (by kernel_rfl) hval hW (Bi3 Agi hL hS) (λhl=>Bbg hsz (Nat.le_of_eq hl))
theorem Yu(os:Os)(args:Array Value):laidMet Tryz.prog Rows.parseCutsRow.laid ((Ad0 os).forCall (λ_ _=>0) ⟨#[],args,[]⟩).memory :=laidMet_of_run' 8 (by kernel_rfl) (by kernel_rfl)
theorem Agg(os:Os){H:Type}(enc:TypeId×Value->H):∃places,DataW.whole enc Tryz.prog ((Ad0 os).forCall (λ_ _=>0) ⟨#[], #[.agg #[.int .i64 0,.string ⟨#[]⟩,.string ⟨#[]⟩,.slice none 0 0,.slice none 0 0,.slice none 0 0,.slice none 0 0,.slice none 0 0,.bool false,.int .i64 0,.int .i64 0,.int .i64 0,.string ⟨#[]⟩,.string ⟨#[]⟩,.slice none 0 0,.slice none 0 0,.slice none 0 0,.int .i64 0],.int .i64 0],[]⟩).memory Tryz.f9.params.toList Rows.parseCutsSpec.vars false (#[.agg #[.int .i64 0,.string ⟨#[]⟩,.string ⟨#[]⟩,.slice none 0 0,.slice none 0 0,.slice none 0 0,.slice none 0 0,.slice none 0 0,.bool false,.int .i64 0,.int .i64 0,.int .i64 0,.string ⟨#[]⟩,.string ⟨#[]⟩,.slice none 0 0,.slice none 0 0,.slice none 0 0,.int .i64 0],.int .i64 0]:Array Value).toList 8=some ([.agg [.lit (.int .i64 0),.lit (.string []),.lit (.string []),.nil,.nil,.nil,.nil,.nil,.lit (.bool false),.agg [.lit (.int .i64 0),.agg [.lit (.int .i64 0),.lit (.int .i64 0),.lit (.string [])],.lit (.string []),.nil],.nil,.nil,.lit (.int .i64 0)],.lit (.int .i64 0)],[],places) :=⟨[],by kernel_rfl⟩
set_option maxRecDepth 100000 in
theorem Acu(os:Os)(started:os.Started)(H:Type)(enc:TypeId×Value->H)(F:Stop.Interp) :
  ReturnsInHanded {} Tryz.checked os 9 .any ((OpenSpec.ofChange Rows.parseCutsSpec).preRow enc Tryz.prog Tryz.f9 Rows.parseCutsRow.domain false Rows.parseCutsRow.laid) (((OpenSpec.ofChange Rows.parseCutsSpec).at F).post enc Tryz.prog Tryz.f9 false true false false):=by
 obtain⟨places,hx⟩:=Agg os enc;refine returnsInHanded_of_row (C:=Tryz.checked) (s:=OpenSpec.ofChange Rows.parseCutsSpec) own started (by kernel_rfl) Tryz.func9
  (witness_row_at (enc:=enc) (C:=Tryz.checked) false (Ad0 os) #[.agg #[.int .i64 0,.string ⟨#[]⟩,.string ⟨#[]⟩,.slice none 0 0,.slice none 0 0,.slice none 0 0,.slice none 0 0,.slice none 0 0,.bool false,.int .i64 0,.int .i64 0,.int .i64 0,.string ⟨#[]⟩,.string ⟨#[]⟩,.slice none 0 0,.slice none 0 0,.slice none 0 0,.int .i64 0],.int .i64 0] rfl (by kernel_rfl) (by kernel_rfl) (by kernel_rfl)
   (OpenSpec.preRow_of_cond 8 hx (by kernel_rfl) (λk hk=>by cases hk) (by kernel_rfl) (Yu os _))) ?_
 intro W base args ds gs before hval hW _ _ hsz hL hS _;exact X1 H enc W base args ds gs before hval hW hL hS hsz
theorem Ah7:Rows.ParseCutsSaid :=
 OpenClaim.holds_of_cond 9 Tryz.f9 rfl rfl rfl rfl rfl rfl rfl ⟨rfl,rfl,rfl,rfl,rfl⟩ rfl rfl rfl rfl rfl (by kernel_rfl) Tryz.func9 (by kernel_rfl)
  (of_decide_eq_true (by kernel_rfl)) (by unfold Func.isWrapper;first|(rw[if_pos (by decide +kernel)];kernel_rfl)|(rw[if_neg (by decide +kernel)];exact⟨rfl,rfl⟩))
  (λos started H enc _ F=>by rw[OpenClaim.pre_eq_preRow];exact Acu os started H enc F)
theorem Agj(f:FuncId)(fn:Func)(hf:Tryz.pinned.checked.prog.funcNamed "exchequer/exchequerlaw14.ParseCuts" = some f)(hfn:Tryz.pinned.checked.prog.funcs[f]? = some fn) :
  false=Tryz.pinned.checked.prog.looks []/\∀(j:Nat) t,fn.params[j]? = some t->Tryz.pinned.checked.prog.wantsStandIn t=false:=by
 obtain rfl:f=9:=Option.some.inj ((show Tryz.prog.funcNamed "exchequer/exchequerlaw14.ParseCuts" = some 9 by kernel_rfl).symm.trans hf) |>.symm;obtain rfl:fn=Tryz.f9:=(Option.some.inj (Tryz.func9.symm.trans hfn)).symm;refine⟨by kernel_rfl,λj t ht =>?_⟩;have hall:(Tryz.f9.params.all λt => !Tryz.prog.wantsStandIn t)=true:=by kernel_rfl
 have:=Array.all_eq_true_iff_forall_mem.1 hall t (Array.mem_of_getElem? ht);have h2:Tryz.prog.wantsStandIn t=false:=by simpa using this
 exact h2
theorem parseCuts_card:Rows.ParseCutsCardSaid :=Claim7.holds_tied_plain_at .later [] _ _ _ _ Ah7 (λ_ h=>by cases h) (by kernel_rfl) (λ_ h=>by cases h) parseCuts_row_tie rfl ⟨rfl,rfl⟩ (by kernel_rfl) rfl Agj (by kernel_rfl)
end
#print axioms parseCuts_card
end Go.Proofs.YthndhaolemgbdaaGreatDoor
