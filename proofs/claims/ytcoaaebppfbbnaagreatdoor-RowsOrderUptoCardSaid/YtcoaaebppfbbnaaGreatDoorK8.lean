/- Texts of the proof,one behind the other: Cd. -/
import Derived.Test.YtcoaaebppfbbnaaGreatDoorK7
set_option linter.all false
namespace Go.Proofs.YtcoaaebppfbbnaaGreatDoor
open Go.Ax
def t18:Tbl:=⟨[116],[⟨[97],3,false,false,[]⟩,⟨[98],4,false,true,[]⟩],[[97]],[],[⟨[105],[[98]]⟩]⟩
def r18:List Val:=[⟨3,1,[]⟩,⟨4,0,[120]⟩]
theorem Bqk{f:FuncId}{fn:Func}{c:Code}{sa sr:List Sg}{x:HV sa}{r:HV sr}(hf:Tryz.prog.funcs[f]? = some fn)(hb:fn.body=some c)(hname:(fn.name == "runtime.NumGoroutine")=false)(hc:(Bm fn.ntmps c&&Nat.ble sa.length fn.ntmps&&Ci (A7 0 sa) [])=true)(hr:Za (Amt (HV sr)) fn sa sr x some=some r):FO f sa sr (G9 sa sr [(x,r)]):=by
 refine(Af9 (px:=Amt (HV sr)) (F:=λx=>Za (Amt (HV sr)) fn sa sr x some) hf hb hname follows hc (λcx e1 e2 e3 _ =>?_) (λ_=>rfl)).le (Z0 ?_)
 ·have h:=(A81 (HV sr) cx e1 e2 e3).to1;exact⟨h.1,h.2.1,h.2.2.1,λb _=>h.2.2.2 b⟩
 ·intro q hq;cases List.mem_singleton.1 hq;exact hr
theorem Bsx:Za (Amt (HV [.int .i64])) Tryz.f25 [.sv .tbl,.sl .val false] [.int .i64] (t18,r18) some=some 0:=by kernel_rfl
theorem Apw:FO 25 [.sv .tbl,.sl .val false] [.int .i64] (G9 _ _ [((t18,r18),0)]) :=Bqk Tryz.func25 rfl (by kernel_rfl) (by kernel_rfl) Bsx
theorem Bnr:Za (Amt (HV [.int .i64])) Tryz.f52 [.sv .tbl] [.int .i64] t18 some=some 0:=by kernel_rfl
theorem Aky:FO 52 [.sv .tbl] [.int .i64] (G9 _ _ [(t18,0)]) :=Bqk Tryz.func52 rfl (by kernel_rfl) (by kernel_rfl) Bnr
def Aud:List KvS:=[⟨[4,114,0,1,4,116,0,1,3,128,0,0,0,0,0,0,1],[2,3,2,4,1,120]⟩,⟨[4,105,0,1,4,105,0,1,4,120,0,1,3,128,0,0,0,0,0,0,1],[]⟩,⟨[4,117,0,1,4,116,0,1,4,98,0,1,4,120,0,1],[1,3,2]⟩]
theorem Bv0:Za (Amt (HV [.sl .kv false,.int .i64])) Tryz.f9 [.sv .tbl,.sl .val false] [.sl .kv false,.int .i64] (t18,r18) some=some (Aud,0):=by kernel_rfl
theorem Ayo:FO 9 [.sv .tbl,.sl .val false] [.sl .kv false,.int .i64] (G9 _ _ [((t18,r18),(Aud,0))]) :=Bqk Tryz.func9 rfl (by kernel_rfl) (by kernel_rfl) Bv0
def Asx:HV [.sv .lay,.sv .lay,.sv .lay,.sv .lay]:=(⟨[⟨[4,114,0,1,4,116,0,1,3,128,0,0,0,0,0,0,1],[2,3,2,4,1,120]⟩],0⟩,⟨[⟨[4,105,0,1,4,105,0,1,4,120,0,1,3,128,0,0,0,0,0,0,1],[]⟩],0⟩,⟨[⟨[4,117,0,1,4,116,0,1,4,98,0,1,4,120,0,1],[1,3,2]⟩],0⟩,⟨[],0⟩)
theorem Bwu:Za (Amt (HV [.sv .lay,.sv .lay,.sv .lay,.sv .lay])) Tryz.f26 [.sv .tbl,.sl .val false] [.sv .lay,.sv .lay,.sv .lay,.sv .lay] (t18,r18) some=some Asx:=by kernel_rfl
theorem A0k:FO 26 [.sv .tbl,.sl .val false] [.sv .lay,.sv .lay,.sv .lay,.sv .lay] (G9 _ _ [((t18,r18),Asx)]) :=Bqk Tryz.func26 rfl (by kernel_rfl) (by kernel_rfl) Bwu
def tbM(R:Type):List (Nat×Et R):=[
 (52,Kw [.sv .tbl] [.int .i64] (G9 _ _ [(t18,0)])),
 (25,Kw [.sv .tbl,.sl .val false] [.int .i64] (G9 _ _ [((t18,r18),0)])),
 (9,Kw [.sv .tbl,.sl .val false] [.sl .kv false,.int .i64] (G9 _ _ [((t18,r18),(Aud,0))])),
 (26,Kw [.sv .tbl,.sl .val false] [.sv .lay,.sv .lay,.sv .lay,.sv .lay] (G9 _ _ [((t18,r18),Asx)]))]
theorem Bui{R:Type}{cx:Cx}(H:HX cx):∀g f,(g,f)∈tbM R->Gw cx g f:=c1 H Aky (c1 H Apw (c1 H Ayo (c1 H A0k Ae)))
def tqM(R:Type):List (Nat×Eh R):=[
 (52,Iu [.sv .tbl] [.int .i64] (G9 _ _ [(t18,0)])),
 (25,Iu [.sv .tbl,.sl .val false] [.int .i64] (G9 _ _ [((t18,r18),0)])),
 (9,Iu [.sv .tbl,.sl .val false] [.sl .kv false,.int .i64] (G9 _ _ [((t18,r18),(Aud,0))])),
 (26,Iu [.sv .tbl,.sl .val false] [.sv .lay,.sv .lay,.sv .lay,.sv .lay] (G9 _ _ [((t18,r18),Asx)]))]
theorem Btx{R:Type}{cx:Cx}(H:HX cx):∀g f,(g,f)∈tqM R->Mq cx g f:=q1 H Aky (q1 H Apw (q1 H Ayo (q1 H A0k Aa)))
def Bw0(R:Type)(g:Nat):Option (Et R):=tbl (tbM R++tbL R) g
def Bxd(R:Type)(g:Nat):Option (Eh R):=tbl (tqM R++tqL R) g
noncomputable def Kh(R:Type):Px R:=co (Aiz ttL) glT A5o Bw0 Bxd swT 3000 R
theorem Y8(R:Type)(cx:Cx)(e1:cx.P=Tryz.prog)(e2:cx.el=elT)(e3:cx.gl=glT):Lv2 cx (Kh R) :=Azr follows (Ajm V8) A0i (λR cx e1 e2 e3 g f h=>(List.mem_append.1 (Df h)).elim (Bui (Aa1 e1 e2 e3) g f) (Bmp (Aa1 e1 e2 e3) g f)) (λR cx e1 e2 e3 g f h=>(List.mem_append.1 (Df h)).elim (Btx (Aa1 e1 e2 e3) g f) (Bix (Aa1 e1 e2 e3) g f)) (λg q h=>Zg2.1 Bhs (g,q) (Df h)) 3000 R cx e1 e2 e3
theorem Bfw{f:FuncId}{fn:Func}{c:Code}{sg so:Sig}{x:HV sg.sgs}{r:HV so.sgs}(hf:Tryz.prog.funcs[f]? = some fn)(hb:fn.body=some c)(hname:(fn.name == "runtime.NumGoroutine")=false)(hc:(Bm fn.ntmps c&&Nat.ble sg.n fn.ntmps)=true)(hr:Hg (Kh (HV so.sgs)) fn sg so x some=some r):FM f sg so (G9 sg.sgs so.sgs [(x,r)]):=by
 refine(Aay (px:=Kh (HV so.sgs)) (F:=λx=>Hg (Kh (HV so.sgs)) fn sg so x some) hf hb hname follows hc (λcx e1 e2 e3 =>?_) (λ_=>rfl)).le (Z0 ?_)
 ·have h:=(Y8 (HV so.sgs) cx e1 e2 e3).to1;exact⟨h.1,h.2.1,h.2.2.1,λb _=>h.2.2.2 b⟩
 ·intro q hq;cases List.mem_singleton.1 hq;exact hr
end Go.Proofs.YtcoaaebppfbbnaaGreatDoor
