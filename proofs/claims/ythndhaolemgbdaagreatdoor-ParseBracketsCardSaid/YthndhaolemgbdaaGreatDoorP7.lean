/- Texts of the proof,one behind the other: Pg,Ph,Pj,Qf,Qg,Qh,Qi,Qj,Qk,Ql,Qm,Yc,Yd,Qn,Qo,Qp,Qq,Qr,Qs,Qt,Qu,Qv,Pi,Qw,Vc,Kp,Rv,Da,Db. -/
import Derived.Test.YthndhaolemgbdaaGreatDoorP6
set_option linter.all false
namespace Go.Proofs.YthndhaolemgbdaaGreatDoor
open Go.Ax
def Ik:Sig:=⟨1,[],[(0,.ptr 0 0)],[(0,.cells [.sl .tok false,.int .i64,.bool,.int .i64])],1,1,0,[],[]⟩
def Ii:Sig:=⟨1,[(0,.sv .tok)],[],[(0,.cells [.sl .tok false,.int .i64,.bool,.int .i64])],1,1,0,[],[]⟩
abbrev An0:=List Tok×Int×Bool×Int
abbrev Acw:=Tok×List Tok×Int×Bool×Int
def Vn(R:Type):Px R:=⟨A7 ttL,glT,Aq [],Ak [],Av [],tbl []⟩
def Ui(x:An0):Option (Acw):=match x with
 |(l,n,b,p) =>
 cond (decide ((l.length:Int)=0)) (
  some ((Tok.mk 0 n [] 0),l,n,b,p)) (
  chk (inb 0 l.length) (
  some ((at' .tok l 0),l,n,b,p)))
theorem A5t:∀(x:An0),C2 (Vn _) Tryz.f158 Ik Ii x some=Ui x
 |(l,n,b,p)=>by kernel_rfl
theorem A06:FnLn Tryz.prog elT glT 158 Ik Ii (Ui):=by
 refine Bk Tryz.func158 rfl (by kernel_rfl) follows (by kernel_rfl) (n:=0) (by kernel_rfl) (px:=Vn _) (fun cx hP hel hgl =>?_) (A5t)
 have hp0:PxOk cx (Vn (Acw)):=⟨fun t=>by rw [hP,hel];exact Au Al t,by rw [hgl];rfl⟩
 have hc0:Aj cx (Vn (Acw)):=Ah rfl Ai
 have hq0:CallQOk cx (Vn (Acw)):=Ab rfl rfl Af Ae
 exact⟨hp0,hc0,hq0,Aw⟩
def Eg:An0→Option Acw:=fun x=>Ui x
theorem P7:FnLn Tryz.prog elT glT 158 Ik Ii (Eg):=A06
def Ky:Sig:=⟨1,[],[(0,.ptr 0 0)],[(0,.cells [.sl .tok false,.int .i64,.bool,.int .i64])],1,1,0,[],[]⟩
def Kf:Sig:=⟨1,[(0,.sv .tok)],[],[(0,.cells [.sl .tok false,.int .i64,.bool,.int .i64])],1,1,0,[],[]⟩
abbrev Amy:=List Tok×Int×Bool×Int
abbrev Acy:=Tok×List Tok×Int×Bool×Int
def U1(R:Type):Px R:=⟨A7 ttL,glT,Aq [(158,Ao Ik Ii Eg)],Ak [],Av [],tbl []⟩
def Sf(x:Amy):Option (Acy):=match x with
 |(l,n,b,p) =>
 (Eg (l,n,b,p)).bind fun(x,x1,x2,x3,x4) =>
  cond (decide (0<(x1.length:Int))) (
  chk (Gg 1 x1.length x1.length) (
   some (x,(x1.drop (1:Int).toNat),x2,x3,x4))) (
  some (x,x1,x2,x3,x4))
theorem A30:∀(x:Amy),C2 (U1 _) Tryz.f159 Ky Kf x some=Sf x
 |(l,n,b,p)=>by kernel_rfl
theorem A1t:FnLn Tryz.prog elT glT 159 Ky Kf (Sf):=by
 refine Bk Tryz.func159 rfl (by kernel_rfl) follows (by kernel_rfl) (n:=0) (by kernel_rfl) (px:=U1 _) (fun cx hP hel hgl =>?_) (A30)
 have hp0:PxOk cx (U1 (Acy)):=⟨fun t=>by rw [hP,hel];exact Au Al t,by rw [hgl];rfl⟩
 have hc0:Aj cx (U1 (Acy)):=Ah rfl (Aa (A3 (by rw [hP,hel,hgl];exact P7) (by kernel_rfl)) Ai)
 have hq0:CallQOk cx (U1 (Acy)):=Ab rfl rfl Af Ae
 exact⟨hp0,hc0,hq0,Aw⟩
def Cz:Amy→Option Acy:=fun x=>Sf x
theorem Vw:FnLn Tryz.prog elT glT 159 Ky Kf (Cz):=A1t
def Dp:Sig:=⟨2,[(1,.str)],[(0,.ptr 0 0)],[(0,.cells [.sl .tok false,.int .i64,.bool,.int .i64])],1,1,0,[],[]⟩
def Dv:Sig:=⟨1,[(0,.bool)],[],[(0,.cells [.sl .tok false,.int .i64,.bool,.int .i64])],1,1,0,[],[]⟩
abbrev A6c:=Str×List Tok×Int×Bool×Int
abbrev Arg:=Bool×List Tok×Int×Bool×Int
def Aha(R:Type):Px R:=⟨A7 ttL,glT,Aq [(158,Ao Ik Ii Eg),(159,Ao Ky Kf Cz)],Ak [],Av [],tbl []⟩
def Vk(x:A6c):Option (Arg):=match x with
 |(s,l,n,b,p) =>
 (Eg (l,n,b,p)).bind fun(x,x1,x2,x3,x4) =>
  cond (!decide (x.kind=1)) (
  cond (!decide (x.kind=6)) (
   some (false,x1,x2,x3,x4)) (
   cond (!decide (x.s=s)) (
   some (false,x1,x2,x3,x4)) (
   (Cz (x1,x2,x3,x4)).bind fun(_,x11,x12,x13,x14) =>
    some (true,x11,x12,x13,x14)))) (
  cond (!decide (x.s=s)) (
   some (false,x1,x2,x3,x4)) (
   (Cz (x1,x2,x3,x4)).bind fun(_,x16,x17,x18,x19) =>
   some (true,x16,x17,x18,x19)))
theorem Bd2:∀(x:A6c),C2 (Aha _) Tryz.f117 Dp Dv x some=Vk x
 |(s,l,n,b,p)=>by kernel_rfl
theorem Baa:FnLn Tryz.prog elT glT 117 Dp Dv (Vk):=by
 refine Bk Tryz.func117 rfl (by kernel_rfl) follows (by kernel_rfl) (n:=0) (by kernel_rfl) (px:=Aha _) (fun cx hP hel hgl =>?_) (Bd2)
 have hp0:PxOk cx (Aha (Arg)):=⟨fun t=>by rw [hP,hel];exact Au Al t,by rw [hgl];rfl⟩
 have hc0:Aj cx (Aha (Arg)):=Ah rfl (Aa (A3 (by rw [hP,hel,hgl];exact P7) (by kernel_rfl)) (Aa (A3 (by rw [hP,hel,hgl];exact Vw) (by kernel_rfl)) Ai))
 have hq0:CallQOk cx (Aha (Arg)):=Ab rfl rfl Af Ae
 exact⟨hp0,hc0,hq0,Aw⟩
def Bh:A6c→Option Arg:=fun x=>Vk x
theorem Ei:FnLn Tryz.prog elT glT 117 Dp Dv (Bh):=Baa
def F7:Sig:=⟨1,[],[(0,.ptr 0 0)],[(0,.cells [.sl .tok false,.int .i64,.bool,.int .i64])],1,1,0,[],[]⟩
def F0:Sig:=⟨0,[],[],[(0,.cells [.sl .tok false,.int .i64,.bool,.int .i64])],1,1,0,[],[]⟩
abbrev Ah3:=List Tok×Int×Bool×Int
abbrev W6:=List Tok×Int×Bool×Int
def Qz(R:Type):Px R:=⟨A7 ttL,glT,Aq [(158,Ao Ik Ii Eg)],Ak [],Av [],tbl []⟩
def Oq(x:Ah3):Option (W6):=match x with
 |(l,n,b,p) =>
 cond (!b) (
  (Eg (l,n,b,p)).bind fun(x,x1,x2,_,_) =>
  some (x1,x2,true,x.pos)) (
  some (l,n,b,p))
theorem A0z:∀(x:Ah3),C2 (Qz _) Tryz.f127 F7 F0 x some=Oq x
 |(l,n,b,p)=>by kernel_rfl
theorem At7:FnLn Tryz.prog elT glT 127 F7 F0 (Oq):=by
 refine Bk Tryz.func127 rfl (by kernel_rfl) follows (by kernel_rfl) (n:=0) (by kernel_rfl) (px:=Qz _) (fun cx hP hel hgl =>?_) (A0z)
 have hp0:PxOk cx (Qz (W6)):=⟨fun t=>by rw [hP,hel];exact Au Al t,by rw [hgl];rfl⟩
 have hc0:Aj cx (Qz (W6)):=Ah rfl (Aa (A3 (by rw [hP,hel,hgl];exact P7) (by kernel_rfl)) Ai)
 have hq0:CallQOk cx (Qz (W6)):=Ab rfl rfl Af Ae
 exact⟨hp0,hc0,hq0,Aw⟩
def C8:Ah3→Option W6:=fun x=>Oq x
theorem L3:FnLn Tryz.prog elT glT 127 F7 F0 (C8):=At7
def Ds:Sig:=⟨2,[(1,.sl .str false)],[(0,.ptr 0 0)],[(0,.cells [.sl .tok false,.int .i64,.bool,.int .i64])],1,1,0,[],[]⟩
def Du:Sig:=⟨0,[],[],[(0,.cells [.sl .tok false,.int .i64,.bool,.int .i64])],1,1,0,[],[]⟩
abbrev Ang:=List Str×List Tok×Int×Bool×Int
abbrev X5:=List Tok×Int×Bool×Int
def Aae:Sig:=⟨27,[(6,.sl .str false),(7,.int .i64),(8,.int .i64)],[(0,.ptr 0 0)],[(0,.cells [.sl .tok false,.int .i64,.bool,.int .i64])],1,1,0,[],[]⟩
abbrev Jf:=List Str×Int×Int×List Tok×Int×Bool×Int
def Ot{R:Type}(rec:Jf→Option R) (kx:Ex→Jf→Option R) (v:Jf):Option R:=match v with
 |(v,v1,v2,w,w1,w2,w3) =>
 cond (decide (v2<v1)) (
  chk (inb v2 v.length) (
  let j:=fun(p2:Bool) (q4:List Tok) (q5:Int) (q6:Bool) (q7:Int) =>
   cond (p2) (
   (C8 (q4,q5,q6,q7)).bind fun(x5,x6,x7,x8) =>
    kx .ret (v,v1,v2,x5,x6,x7,x8)) (
   rec (v,v1,(wr .i64 (v2+1)),q4,q5,q6,q7))
  cond (w2) (
   j true w w1 w2 w3) (
   (Bh ((at' .str v v2),w,w1,w2,w3)).bind fun(x,x1,x2,x3,x4) =>
   j (!x) x1 x2 x3 x4))) (
  kx (.exit 0) (v,v1,v2,w,w1,w2,w3))
def Ma(R:Type) (k:Nat):Px R:=⟨A7 ttL,glT,Aq [(117,Ao Dp Dv Bh),(127,Ao F7 F0 C8)],Ak [],Av [(1,Bc k Aae (Ot))],tbl []⟩
theorem Auu(R:Type) (k:Nat):∀(fr:List Fr) (rec:Jf→Option R) (kx:Ex→Jf→Option R) (v:Jf),Bn (Ma R k) Aae (lp Tryz.f119 0) fr rec kx v=Ot rec kx v
 |fr,rec,kx,(v,v1,v2,w,w1,w2,w3)=>by kernel_rfl
def I1(k:Nat) (x:Ang):Option (X5):=match x with
 |(ss,l,n,b,p) =>
 A5 (fun rec=>Ot rec (fun e vz=>match vz with|(_,_,_,v6,v7,v8,v9)=>match e with
  |.ret =>
  some (v6,v7,v8,v9)
  |.exit 0 =>
  some (v6,v7,v8,v9)
  |_=>none)) k (ss,(ss.length:Int),0,l,n,b,p)
theorem A6s(k:Nat):∀(x:Ang),C2 (Ma _ k) Tryz.f119 Ds Du x some=I1 k x
 |(ss,l,n,b,p)=>by kernel_rfl
theorem A0p(k:Nat):FnLn Tryz.prog elT glT 119 Ds Du (I1 k):=by
 refine Bk Tryz.func119 rfl (by kernel_rfl) follows (by kernel_rfl) (n:=1) (by kernel_rfl) (px:=Ma _ k) (fun cx hP hel hgl =>?_) (A6s k)
 have hp0:PxOk cx (Ma (X5) k):=⟨fun t=>by rw [hP,hel];exact Au Al t,by rw [hgl];rfl⟩
 have hc0:Aj cx (Ma (X5) k):=Ah rfl (Aa (A3 (by rw [hP,hel,hgl];exact Ei) (by kernel_rfl)) (Aa (A3 (by rw [hP,hel,hgl];exact L3) (by kernel_rfl)) Ai))
 have hq0:CallQOk cx (Ma (X5) k):=Ab rfl rfl Af Ae
 have hlpmust_0:A6 cx (Ma (X5) k) (lp Tryz.f119 0):=A8 hp0 hc0 hq0 (by rw [hP];exact follows) (k:=k) (s:=Aae) (step:=Ot) (fun _ _=>by kernel_rfl) (by kernel_rfl) (Auu _ k) (A0 (n:=0) (by kernel_rfl) Aw)
 exact⟨hp0,hc0,hq0,(Cg Aw hlpmust_0)⟩
def Ba:Ang→Option X5:=fun x=>I1 ((x.1.length+1)) x
theorem Fn:FnLn Tryz.prog elT glT 119 Ds Du (Ba):=FnLn.fin (ι:=Nat) (sg:=Ds) (so:=Du) 0 (F:=fun k=>I1 k) (fun k=>A0p k) fun x _ _ hx=>⟨(x.1.length+1),hx⟩
def Fa:Sig:=⟨1,[],[(0,.ptr 0 0)],[(0,.cells [.sl .tok false,.int .i64,.bool,.int .i64])],1,1,0,[],[]⟩
def E9:Sig:=⟨1,[(0,.str)],[],[(0,.cells [.sl .tok false,.int .i64,.bool,.int .i64])],1,1,0,[],[]⟩
abbrev Anw:=List Tok×Int×Bool×Int
abbrev Abm:=Str×List Tok×Int×Bool×Int
def Uz(R:Type):Px R:=⟨A7 ttL,glT,Aq [(158,Ao Ik Ii Eg),(127,Ao F7 F0 C8),(159,Ao Ky Kf Cz)],Ak [],Av [],tbl []⟩
def Zx(x:Anw):Option (Abm):=match x with
 |(l,n,b,p) =>
 (Eg (l,n,b,p)).bind fun(x,x1,x2,x3,x4) =>
  let j:=fun(p2:Bool) =>
  cond (p2) (
   (C8 (x1,x2,x3,x4)).bind fun(x5,x6,x7,x8) =>
   some ([],x5,x6,x7,x8)) (
   (Cz (x1,x2,x3,x4)).bind fun(x9,x10,x11,x12,x13) =>
   some (x9.s,x10,x11,x12,x13))
  cond (x3) (
  j true) (
  j (!decide (x.kind=2)))
theorem A4g:∀(x:Anw),C2 (Uz _) Tryz.f120 Fa E9 x some=Zx x
 |(l,n,b,p)=>by kernel_rfl
theorem A0y:FnLn Tryz.prog elT glT 120 Fa E9 (Zx):=by
 refine Bk Tryz.func120 rfl (by kernel_rfl) follows (by kernel_rfl) (n:=0) (by kernel_rfl) (px:=Uz _) (fun cx hP hel hgl =>?_) (A4g)
 have hp0:PxOk cx (Uz (Abm)):=⟨fun t=>by rw [hP,hel];exact Au Al t,by rw [hgl];rfl⟩
 have hc0:Aj cx (Uz (Abm)):=Ah rfl (Aa (A3 (by rw [hP,hel,hgl];exact P7) (by kernel_rfl)) (Aa (A3 (by rw [hP,hel,hgl];exact L3) (by kernel_rfl)) (Aa (A3 (by rw [hP,hel,hgl];exact Vw) (by kernel_rfl)) Ai)))
 have hq0:CallQOk cx (Uz (Abm)):=Ab rfl rfl Af Ae
 exact⟨hp0,hc0,hq0,Aw⟩
def B5:Anw→Option Abm:=fun x=>Zx x
theorem Ip:FnLn Tryz.prog elT glT 120 Fa E9 (B5):=A0y
def Cn:Sig:=⟨1,[],[(0,.ptr 0 0)],[(0,.cells [.sl .tok false,.int .i64,.bool,.int .i64])],1,1,0,[],[]⟩
def Cm:Sig:=⟨1,[(0,.sv .expr)],[],[(0,.cells [.sl .tok false,.int .i64,.bool,.int .i64])],1,1,0,[],[]⟩
abbrev A2:=List Tok×Int×Bool×Int
abbrev Az:=Xpr×List Tok×Int×Bool×Int
def Y2:Sig:=⟨1,[],[(0,.ptr 0 0)],[(0,.cells [.sl .tok false,.int .i64,.bool,.int .i64])],1,1,0,[],[]⟩
def X4:Sig:=⟨1,[(0,.sv .expr)],[],[(0,.cells [.sl .tok false,.int .i64,.bool,.int .i64])],1,1,0,[],[]⟩
abbrev Ai5:=List Tok×Int×Bool×Int
abbrev Kt:=Xpr×List Tok×Int×Bool×Int
def N0(R:Type) (_rf:A2→Option Az):Px R:=⟨A7 ttL,glT,Aq [(159,Ao Ky Kf Cz)],Ak [],Av [],tbl []⟩
noncomputable def P8 (R:Type) (rf:A2→Option Az):Px R:=⟨A7 ttL,glT,Aq [(158,Ao Ik Ii Eg),(159,Ao Ky Kf Cz),(119,Ao Ds Du Ba),(90,Ao Cn Cm rf),(209,Bb 80 400 (N0 R rf) Tryz.f209)],Ak [],Av [],tbl []⟩
def Kl(rf:A2→Option Az) (x:Ai5):Option (Kt):=match x with
 |(l,n,b,p) =>
 (Eg (l,n,b,p)).bind fun(x,x1,x2,x3,x4) =>
  cond (x3) (
  some ((Xpr.mk 0 ⟨0,0,[]⟩ [] []),x1,x2,x3,x4)) (
  cond (decide (x.kind=2)) (
   (Cz (x1,x2,x3,x4)).bind fun(_,x6,x7,x8,x9) =>
   some ((Xpr.mk 2 ⟨0,0,[]⟩ x.s []),x6,x7,x8,x9)) (
   cond (decide (x.kind=3)) (
   (Cz (x1,x2,x3,x4)).bind fun(_,x11,x12,x13,x14) =>
    some ((Xpr.mk 1 ⟨3,x.n,[]⟩ [] []),x11,x12,x13,x14)) (
   cond (decide (x.kind=4)) (
    (Cz (x1,x2,x3,x4)).bind fun(_,x16,x17,x18,x19) =>
    some ((Xpr.mk 1 ⟨4,0,x.s⟩ [] []),x16,x17,x18,x19)) (
    cond (decide (x.kind=5)) (
    (Cz (x1,x2,x3,x4)).bind fun(_,x21,x22,x23,x24) =>
     some ((Xpr.mk 1 ⟨5,0,x.s⟩ [] []),x21,x22,x23,x24)) (
    let j2:=fun(p2:Bool) =>
     cond (p2) (
     (Cz (x1,x2,x3,x4)).bind fun(_,x26,x27,x28,x29) =>
      some ((Xpr.mk 1 ⟨2,1,[]⟩ [] []),x26,x27,x28,x29)) (
     let j1:=fun(p4:Bool) =>
      cond (p4) (
      (Cz (x1,x2,x3,x4)).bind fun(_,x31,x32,x33,x34) =>
       some ((Xpr.mk 1 ⟨2,0,[]⟩ [] []),x31,x32,x33,x34)) (
      let j:=fun(p6:Bool) =>
       cond (p6) (
       (Cz (x1,x2,x3,x4)).bind fun(_,x36,x37,x38,x39) =>
        some ((Xpr.mk 1 ⟨1,0,[]⟩ [] []),x36,x37,x38,x39)) (
       (Ba ([[40]],x1,x2,x3,x4)).bind fun(x40,x41,x42,x43) =>
        (rf (x40,x41,x42,x43)).bind fun(x44,x45,x46,x47,x48) =>
        (Ba ([[41]],x45,x46,x47,x48)).bind fun(x49,x50,x51,x52) =>
         some (x44,x49,x50,x51,x52))
      cond (decide (x.kind=1)) (
       j (decide (x.s=[78,85,76,76]))) (
       j false))
     cond (decide (x.kind=1)) (
      j1 (decide (x.s=[70,65,76,83,69]))) (
      j1 false))
    cond (decide (x.kind=1)) (
     j2 (decide (x.s=[84,82,85,69]))) (
     j2 false))))))
theorem A2h(rf:A2→Option Az):∀(x:Ai5),C2 (P8 _ rf) Tryz.f208 Y2 X4 x some=Kl rf x
 |(l,n,b,p)=>by kernel_rfl
theorem Auc(rf:A2→Option Az) (hrf:FnLn Tryz.prog elT glT 90 Cn Cm rf):FnLn Tryz.prog elT glT 208 Y2 X4 (Kl rf):=by
 refine Bk Tryz.func208 rfl (by kernel_rfl) follows (by kernel_rfl) (n:=0) (by kernel_rfl) (px:=P8 _ rf) (fun cx hP hel hgl =>?_) (A2h rf)
 have hp1:PxOk cx (N0 (Kt) rf):=⟨fun t=>by rw [hP,hel];exact Au Al t,by rw [hgl];rfl⟩
 have hc1:Aj cx (N0 (Kt) rf):=Ah rfl (Aa (A3 (by rw [hP,hel,hgl];exact Vw) (by kernel_rfl)) Ai)
 have hq1:CallQOk cx (N0 (Kt) rf):=Ab rfl rfl Af Ae
 have hp0:PxOk cx (P8 (Kt) rf):=⟨fun t=>by rw [hP,hel];exact Au Al t,by rw [hgl];rfl⟩
 have hc0:Aj cx (P8 (Kt) rf):=Ah rfl (Aa (A3 (by rw [hP,hel,hgl];exact P7) (by kernel_rfl)) (Aa (A3 (by rw [hP,hel,hgl];exact Vw) (by kernel_rfl)) (Aa (A3 (by rw [hP,hel,hgl];exact Fn) (by kernel_rfl)) (Aa (A3 (by rw [hP,hel,hgl];exact hrf) (by kernel_rfl)) (Aa (Bm hp1 hc1 hq1 (by rw [hP];exact follows) (by rw [hP];exact Tryz.func209) rfl (by kernel_rfl) (by kernel_rfl) (n:=0) (by kernel_rfl) (Aw)) Ai)))))
 have hq0:CallQOk cx (P8 (Kt) rf):=Ab rfl rfl Af Ae
 exact⟨hp0,hc0,hq0,Aw⟩
def Fl(rf:A2→Option Az):Ai5→Option Kt:=fun x=>Kl rf x
theorem A1j(rf:A2→Option Az) (hrf:FnLn Tryz.prog elT glT 90 Cn Cm rf):FnLn Tryz.prog elT glT 208 Y2 X4 (Fl rf):=Auc rf hrf
def Y4:Sig:=⟨1,[],[(0,.ptr 0 0)],[(0,.cells [.sl .tok false,.int .i64,.bool,.int .i64])],1,1,0,[],[]⟩
def Yk:Sig:=⟨1,[(0,.sv .expr)],[],[(0,.cells [.sl .tok false,.int .i64,.bool,.int .i64])],1,1,0,[],[]⟩
abbrev At1:=List Tok×Int×Bool×Int
abbrev Pc:=Xpr×List Tok×Int×Bool×Int
def Adr:Sig:=⟨36,[(2,.int .i64),(27,.int .i64),(28,.int .i64)],[(8,.ptr 80 0),(10,.ptr 81 0)],[(0,.cells [.sl .tok false,.int .i64,.bool,.int .i64]),(1,.one (.sv .expr)),(80,.one (.sv .expr)),(81,.one (.sv .expr))],82,80,400,[],[]⟩
abbrev Nn:=Int×Int×Int×List Tok×Int×Bool×Int×Xpr×Xpr×Xpr
def Wf{R:Type}(rec:Nn→Option R) (kx:Ex→Nn→Option R) (v:Nn):Option R:=match v with
 |(v12,v13,v14,w6,w7,w8,w9,w10,w11,w12) =>
 cond (decide (v14<v13)) (
  rec (v12,v13,(wr .i64 (v14+1)),w6,w7,w8,w9,w10,w11,(Xpr.mk v12 ⟨0,0,[]⟩ [] [w12]))) (
  kx (.exit 2) (v12,v13,v14,w6,w7,w8,w9,w10,w11,w12))
def Ad9:Sig:=⟨36,[(1,.str),(2,.int .i64),(9,.int .i64)],[(0,.ptr 0 0),(3,.bm 208 [.ptr 0 0]),(8,.ptr 80 0)],[(0,.cells [.sl .tok false,.int .i64,.bool,.int .i64]),(1,.one (.sv .expr)),(80,.one (.sv .expr))],81,80,400,[],[]⟩
abbrev Nu:=Str×Int×Int×List Tok×Int×Bool×Int×Xpr×Xpr
def Aad{R:Type}(rec:Nu→Option R) (kx:Ex→Nu→Option R) (v:Nu):Option R:=match v with
 |(v,v1,v2,w,w1,w2,w3,w4,w5) =>
 cond (!w2) (
  (Bh (v,w,w1,w2,w3)).bind fun(x,x1,x2,x3,x4) =>
  cond (x) (
   rec (v,v1,(wr .i64 (v2+1)),x1,x2,x3,x4,w4,w5)) (
   kx (.exit 0) (v,v1,v2,x1,x2,x3,x4,w4,w5))) (
  kx (.exit 0) (v,v1,v2,w,w1,w2,w3,w4,w5))
def Hq(R:Type) (k:Nat) (rf:A2→Option Az):Px R:=⟨A7 ttL,glT,Aq [(117,Ao Dp Dv Bh),(208,Ao Y2 X4 (Fl rf))],Ak [],Av [(2,Bc k Ad9 (Aad)),(6,Bc k Adr (Wf))],tbl []⟩
noncomputable def Abe (R:Type) (k:Nat) (rf:A2→Option Az):Px R:=⟨A7 ttL,glT,Aq [(185,Bb 80 400 (Hq R k rf) Tryz.f185)],Ak [],Av [],tbl []⟩
theorem A2i(R:Type) (k:Nat) (rf:A2→Option Az):∀(fr:List Fr) (rec:Nu→Option R) (kx:Ex→Nu→Option R) (v:Nu),Bn (Hq R k rf) Ad9 (lp Tryz.f185 0) fr rec kx v=Aad rec kx v
 |fr,rec,kx,(v,v1,v2,w,w1,w2,w3,w4,w5)=>by kernel_rfl
theorem Azb(R:Type) (k:Nat) (rf:A2→Option Az):∀(fr:List Fr) (rec:Nn→Option R) (kx:Ex→Nn→Option R) (v:Nn),Bn (Hq R k rf) Adr (lp Tryz.f185 1) fr rec kx v=Wf rec kx v
 |fr,rec,kx,(v12,v13,v14,w6,w7,w8,w9,w10,w11,w12)=>by kernel_rfl
def Jz(k:Nat) (rf:A2→Option Az) (x:At1):Option (Pc):=match x with
 |(l,n,b,p) =>
 A5 (fun rec=>Aad rec (fun e vz=>match vz with|(_,v4,v5,v6,v7,v8,v9,v10,v11)=>match e with
  |.exit 0 =>
  (Fl rf (v6,v7,v8,v9)).bind fun(x5,x6,x7,x8,x9) =>
   A5 (fun rec=>Wf rec (fun e vz=>match vz with|(_,_,_,v18,v19,v20,v21,_,_,v24)=>match e with
   |.exit 2 =>
    some (v24,v18,v19,v20,v21)
   |_=>none)) k (v4,v5,0,x6,x7,x8,x9,v10,v11,x5)
  |_=>none)) k ([45],15,0,l,n,b,p,(Xpr.mk 0 ⟨0,0,[]⟩ [] []),(Xpr.mk 0 ⟨0,0,[]⟩ [] []))
theorem Bbi(k:Nat) (rf:A2→Option Az):∀(x:At1),C2 (Abe _ k rf) Tryz.f206 Y4 Yk x some=Jz k rf x
 |(l,n,b,p)=>by kernel_rfl
theorem A41(k:Nat) (rf:A2→Option Az) (hrf:FnLn Tryz.prog elT glT 90 Cn Cm rf):FnLn Tryz.prog elT glT 206 Y4 Yk (Jz k rf):=by
 refine Bk Tryz.func206 rfl (by kernel_rfl) follows (by kernel_rfl) (n:=0) (by kernel_rfl) (px:=Abe _ k rf) (fun cx hP hel hgl =>?_) (Bbi k rf)
 have hp1:PxOk cx (Hq (Pc) k rf):=⟨fun t=>by rw [hP,hel];exact Au Al t,by rw [hgl];rfl⟩
 have hc1:Aj cx (Hq (Pc) k rf):=Ah rfl (Aa (A3 (by rw [hP,hel,hgl];exact Ei) (by kernel_rfl)) (Aa (A3 (by rw [hP,hel,hgl];exact A1j rf hrf) (by kernel_rfl)) Ai))
 have hq1:CallQOk cx (Hq (Pc) k rf):=Ab rfl rfl Af Ae
 have hlpneg_0:A6 cx (Hq (Pc) k rf) (lp Tryz.f185 0):=A8 hp1 hc1 hq1 (by rw [hP];exact follows) (k:=k) (s:=Ad9) (step:=Aad) (fun _ _=>by kernel_rfl) (by kernel_rfl) (A2i _ k rf) (A0 (n:=0) (by kernel_rfl) Aw)
 have hlpneg_1:A6 cx (Hq (Pc) k rf) (lp Tryz.f185 1):=A8 hp1 hc1 hq1 (by rw [hP];exact follows) (k:=k) (s:=Adr) (step:=Wf) (fun _ _=>by kernel_rfl) (by kernel_rfl) (Azb _ k rf) (A0 (n:=0) (by kernel_rfl) Aw)
 have hp0:PxOk cx (Abe (Pc) k rf):=⟨fun t=>by rw [hP,hel];exact Au Al t,by rw [hgl];rfl⟩
 have hc0:Aj cx (Abe (Pc) k rf):=Ah rfl (Aa (Bm hp1 hc1 hq1 (by rw [hP];exact follows) (by rw [hP];exact Tryz.func185) rfl (by kernel_rfl) (by kernel_rfl) (n:=2) (by kernel_rfl) ((Cg (Cg Aw hlpneg_0) hlpneg_1))) Ai)
 have hq0:CallQOk cx (Abe (Pc) k rf):=Ab rfl rfl Af Ae
 exact⟨hp0,hc0,hq0,Aw⟩
def H5(rf:A2→Option Az):At1→Option Pc:=fun x=>Jz ((x.1.length+1)) rf x
theorem Awn(rf:A2→Option Az) (hrf:FnLn Tryz.prog elT glT 90 Cn Cm rf):FnLn Tryz.prog elT glT 206 Y4 Yk (H5 rf):=FnLn.fin (ι:=Nat) (sg:=Y4) (so:=Yk) 0 (F:=fun k=>Jz k rf) (fun k=>A41 k rf hrf) fun x _ _ hx=>⟨(x.1.length+1),hx⟩
def Hk:Sig:=⟨1,[],[(0,.ptr 0 0)],[(0,.cells [.sl .tok false,.int .i64,.bool,.int .i64])],1,1,0,[],[]⟩
def Hn:Sig:=⟨1,[(0,.sv .expr)],[],[(0,.cells [.sl .tok false,.int .i64,.bool,.int .i64])],1,1,0,[],[]⟩
abbrev Aab:=List Tok×Int×Bool×Int
abbrev D9:=Xpr×List Tok×Int×Bool×Int
def O8:Sig:=⟨38,[(2,.sl .pair true),(17,.sl .pair false),(18,.int .i64),(19,.int .i64)],[(0,.ptr 0 0),(1,.bm 206 [.ptr 0 0]),(6,.ptr 80 0),(7,.ptr 81 0)],[(0,.cells [.sl .tok false,.int .i64,.bool,.int .i64]),(1,.one (.sv .expr)),(80,.one (.sv .expr)),(81,.one (.sv .expr))],82,80,400,[],[]⟩
abbrev Ey:=List PairS×List PairS×Int×Int×List Tok×Int×Bool×Int×Xpr×Xpr×Xpr
def G4{R:Type}(rf:A2→Option Az) (rec:Ey→Option R) (kx:Ex→Ey→Option R) (v:Ey):Option R:=match v with
 |(v1,v2,v3,v4,w7,w8,w9,w10,w11,w12,w13) =>
 cond (decide (v4<v3)) (
  chk (inb v4 v2.length) (
  (Bh ((at' .pair v2 v4).sign,w7,w8,w9,w10)).bind fun(x5,x6,x7,x8,x9) =>
   cond (x5) (
   (H5 rf (x6,x7,x8,x9)).bind fun(x10,x11,x12,x13,x14) =>
    kx (.exit 1) (v1,v2,v3,v4,x11,x12,x13,x14,w11,w12,(Xpr.mk ((at' .pair v2 v4).kind) ⟨0,0,[]⟩ [] [w13,x10]))) (
   rec (v1,v2,v3,(wr .i64 (v4+1)),x6,x7,x8,x9,w11,w12,w13)))) (
  kx (.exit 2) (v1,v2,v3,v4,w7,w8,w9,w10,w11,w12,w13))
def O3:Sig:=⟨38,[(2,.sl .pair true)],[(0,.ptr 0 0),(1,.bm 206 [.ptr 0 0]),(6,.ptr 80 0),(7,.ptr 81 0)],[(0,.cells [.sl .tok false,.int .i64,.bool,.int .i64]),(1,.one (.sv .expr)),(80,.one (.sv .expr)),(81,.one (.sv .expr))],82,80,400,[],[]⟩
abbrev Dh:=List PairS×List Tok×Int×Bool×Int×Xpr×Xpr×Xpr
def Gw{R:Type}(k:Nat) (rf:A2→Option Az) (rec:Dh→Option R) (kx:Ex→Dh→Option R) (v:Dh):Option R:=match v with
 |(v,w,w1,w2,w3,w4,w5,w6) =>
 cond (!w2) (
  A5 (fun rc=>G4 rf rc (fun e vz=>match vz with|(v5,_,_,_,v9,v10,v11,v12,v13,v14,v15)=>match e with
  |.exit 1 =>
   rec (v5,v9,v10,v11,v12,v13,v14,v15)
  |.exit 2 =>
   kx (.exit 0) (v5,v9,v10,v11,v12,v13,v14,v15)
  |_=>none)) k (v,v,(v.length:Int),0,w,w1,w2,w3,w4,w5,w6)) (
  kx (.exit 0) (v,w,w1,w2,w3,w4,w5,w6))
def Dm(R:Type) (k:Nat) (rf:A2→Option Az):Px R:=⟨A7 ttL,glT,Aq [(206,Ao Y4 Yk (H5 rf)),(117,Ao Dp Dv Bh)],Ak [],Av [(4,Bc k O8 (G4 rf)),(2,Bc k O3 (Gw k rf))],tbl [(206,D6 Y4 Yk (H5 rf))]⟩
noncomputable def K4 (R:Type) (k:Nat) (rf:A2→Option Az):Px R:=⟨A7 ttL,glT,Aq [(137,Bb 80 400 (Dm R k rf) Tryz.f137)],Ak [],Av [],tbl []⟩
theorem Ajz(R:Type) (k:Nat) (rf:A2→Option Az):∀(fr:List Fr) (rec:Ey→Option R) (kx:Ex→Ey→Option R) (v:Ey),Bn (Dm R k rf) O8 (lpC (lp Tryz.f137 0) 0) fr rec kx v=G4 rf rec kx v
 |fr,rec,kx,(v1,v2,v3,v4,w7,w8,w9,w10,w11,w12,w13)=>by kernel_rfl
theorem Ajx(R:Type) (k:Nat) (rf:A2→Option Az):∀(fr:List Fr) (rec:Dh→Option R) (kx:Ex→Dh→Option R) (v:Dh),Bn (Dm R k rf) O3 (lp Tryz.f137 0) fr rec kx v=Gw k rf rec kx v
 |fr,rec,kx,(v,w,w1,w2,w3,w4,w5,w6)=>by kernel_rfl
def Dj(k:Nat) (rf:A2→Option Az) (x:Aab):Option (D9):=match x with
 |(l,n,b,p) =>
 (H5 rf (l,n,b,p)).bind fun(x,x1,x2,x3,x4) =>
  A5 (fun rec=>Gw k rf rec (fun e vz=>match vz with|(_,v17,v18,v19,v20,_,_,v23)=>match e with
  |.exit 0 =>
   some (v23,v17,v18,v19,v20)
  |_=>none)) k ([(PairS.mk [42] 14)],x1,x2,x3,x4,(Xpr.mk 0 ⟨0,0,[]⟩ [] []),(Xpr.mk 0 ⟨0,0,[]⟩ [] []),x)
theorem Arl(k:Nat) (rf:A2→Option Az):∀(x:Aab),C2 (K4 _ k rf) Tryz.f202 Hk Hn x some=Dj k rf x
 |(l,n,b,p)=>by kernel_rfl
theorem Am3(k:Nat) (rf:A2→Option Az) (hrf:FnLn Tryz.prog elT glT 90 Cn Cm rf):FnLn Tryz.prog elT glT 202 Hk Hn (Dj k rf):=by
 refine Bk Tryz.func202 rfl (by kernel_rfl) follows (by kernel_rfl) (n:=0) (by kernel_rfl) (px:=K4 _ k rf) (fun cx hP hel hgl =>?_) (Arl k rf)
 have hp1:PxOk cx (Dm (D9) k rf):=⟨fun t=>by rw [hP,hel];exact Au Al t,by rw [hgl];rfl⟩
 have hc1:Aj cx (Dm (D9) k rf):=Ah rfl (Aa (A3 (by rw [hP,hel,hgl];exact Awn rf hrf) (by kernel_rfl)) (Aa (A3 (by rw [hP,hel,hgl];exact Ei) (by kernel_rfl)) Ai))
 have hq1:CallQOk cx (Dm (D9) k rf):=Ab rfl rfl Af (Cs (Nm (by rw [hP,hel,hgl];exact Awn rf hrf) (by kernel_rfl)) Ae)
 have hlpproduct_1:A6 cx (Dm (D9) k rf) (lpC (lp Tryz.f137 0) 0):=A8 hp1 hc1 hq1 (by rw [hP];exact follows) (k:=k) (s:=O8) (step:=G4 rf) (fun _ _=>by kernel_rfl) (by kernel_rfl) (Ajz _ k rf) (A0 (n:=0) (by kernel_rfl) Aw)
 have hlpproduct_0:A6 cx (Dm (D9) k rf) (lp Tryz.f137 0):=A8 hp1 hc1 hq1 (by rw [hP];exact follows) (k:=k) (s:=O3) (step:=Gw k rf) (fun _ _=>by kernel_rfl) (by kernel_rfl) (Ajx _ k rf) (A0 (n:=1) (by kernel_rfl) (Cg Aw hlpproduct_1))
 have hp0:PxOk cx (K4 (D9) k rf):=⟨fun t=>by rw [hP,hel];exact Au Al t,by rw [hgl];rfl⟩
 have hc0:Aj cx (K4 (D9) k rf):=Ah rfl (Aa (Bm hp1 hc1 hq1 (by rw [hP];exact follows) (by rw [hP];exact Tryz.func137) rfl (by kernel_rfl) (by kernel_rfl) (n:=2) (by kernel_rfl) ((Cg (Cg Aw hlpproduct_0) hlpproduct_1))) Ai)
 have hq0:CallQOk cx (K4 (D9) k rf):=Ab rfl rfl Af Ae
 exact⟨hp0,hc0,hq0,Aw⟩
def Cc(rf:A2→Option Az):Aab→Option D9:=fun x=>Dj ((x.1.length+3)) rf x
theorem Afo(rf:A2→Option Az) (hrf:FnLn Tryz.prog elT glT 90 Cn Cm rf):FnLn Tryz.prog elT glT 202 Hk Hn (Cc rf):=FnLn.fin (ι:=Nat) (sg:=Hk) (so:=Hn) 0 (F:=fun k=>Dj k rf) (fun k=>Am3 k rf hrf) fun x _ _ hx=>⟨(x.1.length+3),hx⟩
def Yg:Sig:=⟨1,[],[(0,.ptr 0 0)],[(0,.cells [.sl .tok false,.int .i64,.bool,.int .i64])],1,1,0,[],[]⟩
def Xt:Sig:=⟨1,[(0,.sv .expr)],[],[(0,.cells [.sl .tok false,.int .i64,.bool,.int .i64])],1,1,0,[],[]⟩
abbrev As2:=List Tok×Int×Bool×Int
abbrev Oz:=Xpr×List Tok×Int×Bool×Int
def Adq:Sig:=⟨38,[(2,.sl .pair true),(17,.sl .pair false),(18,.int .i64),(19,.int .i64)],[(0,.ptr 0 0),(1,.bm 202 [.ptr 0 0]),(6,.ptr 80 0),(7,.ptr 81 0)],[(0,.cells [.sl .tok false,.int .i64,.bool,.int .i64]),(1,.one (.sv .expr)),(80,.one (.sv .expr)),(81,.one (.sv .expr))],82,80,400,[],[]⟩
abbrev L7:=List PairS×List PairS×Int×Int×List Tok×Int×Bool×Int×Xpr×Xpr×Xpr
def Z5{R:Type}(rf:A2→Option Az) (rec:L7→Option R) (kx:Ex→L7→Option R) (v:L7):Option R:=match v with
 |(v1,v2,v3,v4,w7,w8,w9,w10,w11,w12,w13) =>
 cond (decide (v4<v3)) (
  chk (inb v4 v2.length) (
  (Bh ((at' .pair v2 v4).sign,w7,w8,w9,w10)).bind fun(x5,x6,x7,x8,x9) =>
   cond (x5) (
   (Cc rf (x6,x7,x8,x9)).bind fun(x10,x11,x12,x13,x14) =>
    kx (.exit 1) (v1,v2,v3,v4,x11,x12,x13,x14,w11,w12,(Xpr.mk ((at' .pair v2 v4).kind) ⟨0,0,[]⟩ [] [w13,x10]))) (
   rec (v1,v2,v3,(wr .i64 (v4+1)),x6,x7,x8,x9,w11,w12,w13)))) (
  kx (.exit 2) (v1,v2,v3,v4,w7,w8,w9,w10,w11,w12,w13))
def Aed:Sig:=⟨38,[(2,.sl .pair true)],[(0,.ptr 0 0),(1,.bm 202 [.ptr 0 0]),(6,.ptr 80 0),(7,.ptr 81 0)],[(0,.cells [.sl .tok false,.int .i64,.bool,.int .i64]),(1,.one (.sv .expr)),(80,.one (.sv .expr)),(81,.one (.sv .expr))],82,80,400,[],[]⟩
abbrev H8:=List PairS×List Tok×Int×Bool×Int×Xpr×Xpr×Xpr
def Zy{R:Type}(k:Nat) (rf:A2→Option Az) (rec:H8→Option R) (kx:Ex→H8→Option R) (v:H8):Option R:=match v with
 |(v,w,w1,w2,w3,w4,w5,w6) =>
 cond (!w2) (
  A5 (fun rc=>Z5 rf rc (fun e vz=>match vz with|(v5,_,_,_,v9,v10,v11,v12,v13,v14,v15)=>match e with
  |.exit 1 =>
   rec (v5,v9,v10,v11,v12,v13,v14,v15)
  |.exit 2 =>
   kx (.exit 0) (v5,v9,v10,v11,v12,v13,v14,v15)
  |_=>none)) k (v,v,(v.length:Int),0,w,w1,w2,w3,w4,w5,w6)) (
  kx (.exit 0) (v,w,w1,w2,w3,w4,w5,w6))
def Ht(R:Type) (k:Nat) (rf:A2→Option Az):Px R:=⟨A7 ttL,glT,Aq [(202,Ao Hk Hn (Cc rf)),(117,Ao Dp Dv Bh)],Ak [],Av [(4,Bc k Adq (Z5 rf)),(2,Bc k Aed (Zy k rf))],tbl [(202,D6 Hk Hn (Cc rf))]⟩
noncomputable def Acv (R:Type) (k:Nat) (rf:A2→Option Az):Px R:=⟨A7 ttL,glT,Aq [(137,Bb 80 400 (Ht R k rf) Tryz.f137)],Ak [],Av [],tbl []⟩
theorem A2a(R:Type) (k:Nat) (rf:A2→Option Az):∀(fr:List Fr) (rec:L7→Option R) (kx:Ex→L7→Option R) (v:L7),Bn (Ht R k rf) Adq (lpC (lp Tryz.f137 0) 0) fr rec kx v=Z5 rf rec kx v
 |fr,rec,kx,(v1,v2,v3,v4,w7,w8,w9,w10,w11,w12,w13)=>by kernel_rfl
theorem A20(R:Type) (k:Nat) (rf:A2→Option Az):∀(fr:List Fr) (rec:H8→Option R) (kx:Ex→H8→Option R) (v:H8),Bn (Ht R k rf) Aed (lp Tryz.f137 0) fr rec kx v=Zy k rf rec kx v
 |fr,rec,kx,(v,w,w1,w2,w3,w4,w5,w6)=>by kernel_rfl
def Hv(k:Nat) (rf:A2→Option Az) (x:As2):Option (Oz):=match x with
 |(l,n,b,p) =>
 (Cc rf (l,n,b,p)).bind fun(x,x1,x2,x3,x4) =>
  A5 (fun rec=>Zy k rf rec (fun e vz=>match vz with|(_,v17,v18,v19,v20,_,_,v23)=>match e with
  |.exit 0 =>
   some (v23,v17,v18,v19,v20)
  |_=>none)) k ([(PairS.mk [43] 12),(PairS.mk [45] 13)],x1,x2,x3,x4,(Xpr.mk 0 ⟨0,0,[]⟩ [] []),(Xpr.mk 0 ⟨0,0,[]⟩ [] []),x)
theorem Ban(k:Nat) (rf:A2→Option Az):∀(x:As2),C2 (Acv _ k rf) Tryz.f196 Yg Xt x some=Hv k rf x
 |(l,n,b,p)=>by kernel_rfl
theorem A7m(k:Nat) (rf:A2→Option Az) (hrf:FnLn Tryz.prog elT glT 90 Cn Cm rf):FnLn Tryz.prog elT glT 196 Yg Xt (Hv k rf):=by
 refine Bk Tryz.func196 rfl (by kernel_rfl) follows (by kernel_rfl) (n:=0) (by kernel_rfl) (px:=Acv _ k rf) (fun cx hP hel hgl =>?_) (Ban k rf)
 have hp1:PxOk cx (Ht (Oz) k rf):=⟨fun t=>by rw [hP,hel];exact Au Al t,by rw [hgl];rfl⟩
 have hc1:Aj cx (Ht (Oz) k rf):=Ah rfl (Aa (A3 (by rw [hP,hel,hgl];exact Afo rf hrf) (by kernel_rfl)) (Aa (A3 (by rw [hP,hel,hgl];exact Ei) (by kernel_rfl)) Ai))
 have hq1:CallQOk cx (Ht (Oz) k rf):=Ab rfl rfl Af (Cs (Nm (by rw [hP,hel,hgl];exact Afo rf hrf) (by kernel_rfl)) Ae)
 have hlpsum_1:A6 cx (Ht (Oz) k rf) (lpC (lp Tryz.f137 0) 0):=A8 hp1 hc1 hq1 (by rw [hP];exact follows) (k:=k) (s:=Adq) (step:=Z5 rf) (fun _ _=>by kernel_rfl) (by kernel_rfl) (A2a _ k rf) (A0 (n:=0) (by kernel_rfl) Aw)
 have hlpsum_0:A6 cx (Ht (Oz) k rf) (lp Tryz.f137 0):=A8 hp1 hc1 hq1 (by rw [hP];exact follows) (k:=k) (s:=Aed) (step:=Zy k rf) (fun _ _=>by kernel_rfl) (by kernel_rfl) (A20 _ k rf) (A0 (n:=1) (by kernel_rfl) (Cg Aw hlpsum_1))
 have hp0:PxOk cx (Acv (Oz) k rf):=⟨fun t=>by rw [hP,hel];exact Au Al t,by rw [hgl];rfl⟩
 have hc0:Aj cx (Acv (Oz) k rf):=Ah rfl (Aa (Bm hp1 hc1 hq1 (by rw [hP];exact follows) (by rw [hP];exact Tryz.func137) rfl (by kernel_rfl) (by kernel_rfl) (n:=2) (by kernel_rfl) ((Cg (Cg Aw hlpsum_0) hlpsum_1))) Ai)
 have hq0:CallQOk cx (Acv (Oz) k rf):=Ab rfl rfl Af Ae
 exact⟨hp0,hc0,hq0,Aw⟩
def Gb(rf:A2→Option Az):As2→Option Oz:=fun x=>Hv ((x.1.length+3)) rf x
theorem Ax3(rf:A2→Option Az) (hrf:FnLn Tryz.prog elT glT 90 Cn Cm rf):FnLn Tryz.prog elT glT 196 Yg Xt (Gb rf):=FnLn.fin (ι:=Nat) (sg:=Yg) (so:=Xt) 0 (F:=fun k=>Hv k rf) (fun k=>A7m k rf hrf) fun x _ _ hx=>⟨(x.1.length+3),hx⟩
def Abl:Sig:=⟨1,[],[(0,.ptr 0 0)],[(0,.cells [.sl .tok false,.int .i64,.bool,.int .i64])],1,1,0,[],[]⟩
def Aa3:Sig:=⟨1,[(0,.sv .expr)],[],[(0,.cells [.sl .tok false,.int .i64,.bool,.int .i64])],1,1,0,[],[]⟩
abbrev Avo:=List Tok×Int×Bool×Int
abbrev Aek:=Xpr×List Tok×Int×Bool×Int
def Ad7:Sig:=⟨61,[(20,.sl .pair true),(21,.int .i64),(22,.int .i64)],[(0,.ptr 0 0),(2,.ptr 1 0),(3,.ptr 2 0)],[(0,.cells [.sl .tok false,.int .i64,.bool,.int .i64]),(1,.one (.sv .expr)),(2,.one (.sv .expr))],3,1,0,[],[]⟩
abbrev Nt:=List PairS×Int×Int×List Tok×Int×Bool×Int×Xpr×Xpr
def Aay{R:Type}(rf:A2→Option Az) (rec:Nt→Option R) (kx:Ex→Nt→Option R) (v:Nt):Option R:=match v with
 |(v,v1,v2,w,w1,w2,w3,w4,w5) =>
 cond (decide (v2<v1)) (
  chk (inb v2 v.length) (
  (Bh ((at' .pair v v2).sign,w,w1,w2,w3)).bind fun(x5,x6,x7,x8,x9) =>
   cond (x5) (
   (Gb rf (x6,x7,x8,x9)).bind fun(x10,x11,x12,x13,x14) =>
    kx .ret (v,v1,v2,x11,x12,x13,x14,(Xpr.mk ((at' .pair v v2).kind) ⟨0,0,[]⟩ [] [w5,x10]),w5)) (
   rec (v,v1,(wr .i64 (v2+1)),x6,x7,x8,x9,w4,w5)))) (
  kx (.exit 0) (v,v1,v2,w,w1,w2,w3,w4,w5))
def Tr(R:Type) (k:Nat) (rf:A2→Option Az):Px R:=⟨A7 ttL,glT,Aq [(196,Ao Yg Xt (Gb rf)),(117,Ao Dp Dv Bh),(119,Ao Ds Du Ba)],Ak [],Av [(5,Bc k Ad7 (Aay rf))],tbl [(196,D6 Yg Xt (Gb rf))]⟩
theorem A2s(R:Type) (k:Nat) (rf:A2→Option Az):∀(fr:List Fr) (rec:Nt→Option R) (kx:Ex→Nt→Option R) (v:Nt),Bn (Tr R k rf) Ad7 (lp Tryz.f186 0) fr rec kx v=Aay rf rec kx v
 |fr,rec,kx,(v,v1,v2,w,w1,w2,w3,w4,w5)=>by kernel_rfl
def I8(k:Nat) (rf:A2→Option Az) (x:Avo):Option (Aek):=match x with
 |(l,n,b,p) =>
 (Gb rf (l,n,b,p)).bind fun(x,x1,x2,x3,x4) =>
  cond (x3) (
  some (x,x1,x2,x3,x4)) (
  A5 (fun rec=>Aay rf rec (fun e vz=>match vz with|(_,_,_,v6,v7,v8,v9,v10,v11)=>match e with
   |.ret =>
   some (v10,v6,v7,v8,v9)
   |.exit 0 =>
   (Bh ([73,83],v6,v7,v8,v9)).bind fun(x15,x16,x17,x18,x19) =>
    cond (!x15) (
    some (v11,x16,x17,x18,x19)) (
    (Bh ([78,79,84],x16,x17,x18,x19)).bind fun(x20,x21,x22,x23,x24) =>
     (Ba ([[78,85,76,76]],x21,x22,x23,x24)).bind fun(x25,x26,x27,x28) =>
     cond (x20) (
      some ((Xpr.mk 3 ⟨0,0,[]⟩ [] [(Xpr.mk 16 ⟨0,0,[]⟩ [] [v11])]),x25,x26,x27,x28)) (
      some ((Xpr.mk 16 ⟨0,0,[]⟩ [] [v11]),x25,x26,x27,x28)))
   |_=>none)) k ([(PairS.mk [61] 6),(PairS.mk [60,62] 7),(PairS.mk [60] 8),(PairS.mk [60,61] 9),(PairS.mk [62] 10),(PairS.mk [62,61] 11)],6,0,x1,x2,x3,x4,(Xpr.mk 0 ⟨0,0,[]⟩ [] []),x))
theorem Bae(k:Nat) (rf:A2→Option Az):∀(x:Avo),C2 (Tr _ k rf) Tryz.f186 Abl Aa3 x some=I8 k rf x
 |(l,n,b,p)=>by kernel_rfl
theorem A6p(k:Nat) (rf:A2→Option Az) (hrf:FnLn Tryz.prog elT glT 90 Cn Cm rf):FnLn Tryz.prog elT glT 186 Abl Aa3 (I8 k rf):=by
 refine Bk Tryz.func186 rfl (by kernel_rfl) follows (by kernel_rfl) (n:=1) (by kernel_rfl) (px:=Tr _ k rf) (fun cx hP hel hgl =>?_) (Bae k rf)
 have hp0:PxOk cx (Tr (Aek) k rf):=⟨fun t=>by rw [hP,hel];exact Au Al t,by rw [hgl];rfl⟩
 have hc0:Aj cx (Tr (Aek) k rf):=Ah rfl (Aa (A3 (by rw [hP,hel,hgl];exact Ax3 rf hrf) (by kernel_rfl)) (Aa (A3 (by rw [hP,hel,hgl];exact Ei) (by kernel_rfl)) (Aa (A3 (by rw [hP,hel,hgl];exact Fn) (by kernel_rfl)) Ai)))
 have hq0:CallQOk cx (Tr (Aek) k rf):=Ab rfl rfl Af (Cs (Nm (by rw [hP,hel,hgl];exact Ax3 rf hrf) (by kernel_rfl)) Ae)
 have hlpcmp_0:A6 cx (Tr (Aek) k rf) (lp Tryz.f186 0):=A8 hp0 hc0 hq0 (by rw [hP];exact follows) (k:=k) (s:=Ad7) (step:=Aay rf) (fun _ _=>by kernel_rfl) (by kernel_rfl) (A2s _ k rf) (A0 (n:=0) (by kernel_rfl) Aw)
 exact⟨hp0,hc0,hq0,(Cg Aw hlpcmp_0)⟩
def Nk(rf:A2→Option Az):Avo→Option Aek:=fun x=>I8 (10) rf x
theorem Bbo(rf:A2→Option Az) (hrf:FnLn Tryz.prog elT glT 90 Cn Cm rf):FnLn Tryz.prog elT glT 186 Abl Aa3 (Nk rf):=FnLn.fin (ι:=Nat) (sg:=Abl) (so:=Aa3) 0 (F:=fun k=>I8 k rf) (fun k=>A6p k rf hrf) fun _ _ _ hx=>⟨10,hx⟩
def Yz:Sig:=⟨1,[],[(0,.ptr 0 0)],[(0,.cells [.sl .tok false,.int .i64,.bool,.int .i64])],1,1,0,[],[]⟩
def Y3:Sig:=⟨1,[(0,.sv .expr)],[],[(0,.cells [.sl .tok false,.int .i64,.bool,.int .i64])],1,1,0,[],[]⟩
abbrev At5:=List Tok×Int×Bool×Int
abbrev O2:=Xpr×List Tok×Int×Bool×Int
def Aes:Sig:=⟨36,[(2,.int .i64),(27,.int .i64),(28,.int .i64)],[(8,.ptr 80 0),(10,.ptr 81 0)],[(0,.cells [.sl .tok false,.int .i64,.bool,.int .i64]),(1,.one (.sv .expr)),(80,.one (.sv .expr)),(81,.one (.sv .expr))],82,80,400,[],[]⟩
abbrev L8:=Int×Int×Int×List Tok×Int×Bool×Int×Xpr×Xpr×Xpr
def Xf{R:Type}(rec:L8→Option R) (kx:Ex→L8→Option R) (v:L8):Option R:=match v with
 |(v12,v13,v14,w6,w7,w8,w9,w10,w11,w12) =>
 cond (decide (v14<v13)) (
  rec (v12,v13,(wr .i64 (v14+1)),w6,w7,w8,w9,w10,w11,(Xpr.mk v12 ⟨0,0,[]⟩ [] [w12]))) (
  kx (.exit 2) (v12,v13,v14,w6,w7,w8,w9,w10,w11,w12))
def Ads:Sig:=⟨36,[(1,.str),(2,.int .i64),(9,.int .i64)],[(0,.ptr 0 0),(3,.bm 186 [.ptr 0 0]),(8,.ptr 80 0)],[(0,.cells [.sl .tok false,.int .i64,.bool,.int .i64]),(1,.one (.sv .expr)),(80,.one (.sv .expr))],81,80,400,[],[]⟩
abbrev Nr:=Str×Int×Int×List Tok×Int×Bool×Int×Xpr×Xpr
def Aas{R:Type}(rec:Nr→Option R) (kx:Ex→Nr→Option R) (v:Nr):Option R:=match v with
 |(v,v1,v2,w,w1,w2,w3,w4,w5) =>
 cond (!w2) (
  (Bh (v,w,w1,w2,w3)).bind fun(x,x1,x2,x3,x4) =>
  cond (x) (
   rec (v,v1,(wr .i64 (v2+1)),x1,x2,x3,x4,w4,w5)) (
   kx (.exit 0) (v,v1,v2,x1,x2,x3,x4,w4,w5))) (
  kx (.exit 0) (v,v1,v2,w,w1,w2,w3,w4,w5))
def Hr(R:Type) (k:Nat) (rf:A2→Option Az):Px R:=⟨A7 ttL,glT,Aq [(117,Ao Dp Dv Bh),(186,Ao Abl Aa3 (Nk rf))],Ak [],Av [(2,Bc k Ads (Aas)),(6,Bc k Aes (Xf))],tbl []⟩
noncomputable def Ab0 (R:Type) (k:Nat) (rf:A2→Option Az):Px R:=⟨A7 ttL,glT,Aq [(185,Bb 80 400 (Hr R k rf) Tryz.f185)],Ak [],Av [],tbl []⟩
theorem A2j(R:Type) (k:Nat) (rf:A2→Option Az):∀(fr:List Fr) (rec:Nr→Option R) (kx:Ex→Nr→Option R) (v:Nr),Bn (Hr R k rf) Ads (lp Tryz.f185 0) fr rec kx v=Aas rec kx v
 |fr,rec,kx,(v,v1,v2,w,w1,w2,w3,w4,w5)=>by kernel_rfl
theorem A05(R:Type) (k:Nat) (rf:A2→Option Az):∀(fr:List Fr) (rec:L8→Option R) (kx:Ex→L8→Option R) (v:L8),Bn (Hr R k rf) Aes (lp Tryz.f185 1) fr rec kx v=Xf rec kx v
 |fr,rec,kx,(v12,v13,v14,w6,w7,w8,w9,w10,w11,w12)=>by kernel_rfl
def Jc(k:Nat) (rf:A2→Option Az) (x:At5):Option (O2):=match x with
 |(l,n,b,p) =>
 A5 (fun rec=>Aas rec (fun e vz=>match vz with|(_,v4,v5,v6,v7,v8,v9,v10,v11)=>match e with
  |.exit 0 =>
  (Nk rf (v6,v7,v8,v9)).bind fun(x5,x6,x7,x8,x9) =>
   A5 (fun rec=>Xf rec (fun e vz=>match vz with|(_,_,_,v18,v19,v20,v21,_,_,v24)=>match e with
   |.exit 2 =>
    some (v24,v18,v19,v20,v21)
   |_=>none)) k (v4,v5,0,x6,x7,x8,x9,v10,v11,x5)
  |_=>none)) k ([78,79,84],3,0,l,n,b,p,(Xpr.mk 0 ⟨0,0,[]⟩ [] []),(Xpr.mk 0 ⟨0,0,[]⟩ [] []))
theorem Baq(k:Nat) (rf:A2→Option Az):∀(x:At5),C2 (Ab0 _ k rf) Tryz.f167 Yz Y3 x some=Jc k rf x
 |(l,n,b,p)=>by kernel_rfl
theorem A5v(k:Nat) (rf:A2→Option Az) (hrf:FnLn Tryz.prog elT glT 90 Cn Cm rf):FnLn Tryz.prog elT glT 167 Yz Y3 (Jc k rf):=by
 refine Bk Tryz.func167 rfl (by kernel_rfl) follows (by kernel_rfl) (n:=0) (by kernel_rfl) (px:=Ab0 _ k rf) (fun cx hP hel hgl =>?_) (Baq k rf)
 have hp1:PxOk cx (Hr (O2) k rf):=⟨fun t=>by rw [hP,hel];exact Au Al t,by rw [hgl];rfl⟩
 have hc1:Aj cx (Hr (O2) k rf):=Ah rfl (Aa (A3 (by rw [hP,hel,hgl];exact Ei) (by kernel_rfl)) (Aa (A3 (by rw [hP,hel,hgl];exact Bbo rf hrf) (by kernel_rfl)) Ai))
 have hq1:CallQOk cx (Hr (O2) k rf):=Ab rfl rfl Af Ae
 have hlpnot_0:A6 cx (Hr (O2) k rf) (lp Tryz.f185 0):=A8 hp1 hc1 hq1 (by rw [hP];exact follows) (k:=k) (s:=Ads) (step:=Aas) (fun _ _=>by kernel_rfl) (by kernel_rfl) (A2j _ k rf) (A0 (n:=0) (by kernel_rfl) Aw)
 have hlpnot_1:A6 cx (Hr (O2) k rf) (lp Tryz.f185 1):=A8 hp1 hc1 hq1 (by rw [hP];exact follows) (k:=k) (s:=Aes) (step:=Xf) (fun _ _=>by kernel_rfl) (by kernel_rfl) (A05 _ k rf) (A0 (n:=0) (by kernel_rfl) Aw)
 have hp0:PxOk cx (Ab0 (O2) k rf):=⟨fun t=>by rw [hP,hel];exact Au Al t,by rw [hgl];rfl⟩
 have hc0:Aj cx (Ab0 (O2) k rf):=Ah rfl (Aa (Bm hp1 hc1 hq1 (by rw [hP];exact follows) (by rw [hP];exact Tryz.func185) rfl (by kernel_rfl) (by kernel_rfl) (n:=2) (by kernel_rfl) ((Cg (Cg Aw hlpnot_0) hlpnot_1))) Ai)
 have hq0:CallQOk cx (Ab0 (O2) k rf):=Ab rfl rfl Af Ae
 exact⟨hp0,hc0,hq0,Aw⟩
def Ih(rf:A2→Option Az):At5→Option O2:=fun x=>Jc ((x.1.length+1)) rf x
theorem Axb(rf:A2→Option Az) (hrf:FnLn Tryz.prog elT glT 90 Cn Cm rf):FnLn Tryz.prog elT glT 167 Yz Y3 (Ih rf):=FnLn.fin (ι:=Nat) (sg:=Yz) (so:=Y3) 0 (F:=fun k=>Jc k rf) (fun k=>A5v k rf hrf) fun x _ _ hx=>⟨(x.1.length+1),hx⟩
def X2:Sig:=⟨1,[],[(0,.ptr 0 0)],[(0,.cells [.sl .tok false,.int .i64,.bool,.int .i64])],1,1,0,[],[]⟩
def Xv:Sig:=⟨1,[(0,.sv .expr)],[],[(0,.cells [.sl .tok false,.int .i64,.bool,.int .i64])],1,1,0,[],[]⟩
abbrev Av2:=List Tok×Int×Bool×Int
abbrev Pe:=Xpr×List Tok×Int×Bool×Int
def Ad0:Sig:=⟨38,[(2,.sl .pair true),(17,.sl .pair false),(18,.int .i64),(19,.int .i64)],[(0,.ptr 0 0),(1,.bm 167 [.ptr 0 0]),(6,.ptr 80 0),(7,.ptr 81 0)],[(0,.cells [.sl .tok false,.int .i64,.bool,.int .i64]),(1,.one (.sv .expr)),(80,.one (.sv .expr)),(81,.one (.sv .expr))],82,80,400,[],[]⟩
abbrev Nv:=List PairS×List PairS×Int×Int×List Tok×Int×Bool×Int×Xpr×Xpr×Xpr
def Aa1{R:Type}(rf:A2→Option Az) (rec:Nv→Option R) (kx:Ex→Nv→Option R) (v:Nv):Option R:=match v with
 |(v1,v2,v3,v4,w7,w8,w9,w10,w11,w12,w13) =>
 cond (decide (v4<v3)) (
  chk (inb v4 v2.length) (
  (Bh ((at' .pair v2 v4).sign,w7,w8,w9,w10)).bind fun(x5,x6,x7,x8,x9) =>
   cond (x5) (
   (Ih rf (x6,x7,x8,x9)).bind fun(x10,x11,x12,x13,x14) =>
    kx (.exit 1) (v1,v2,v3,v4,x11,x12,x13,x14,w11,w12,(Xpr.mk ((at' .pair v2 v4).kind) ⟨0,0,[]⟩ [] [w13,x10]))) (
   rec (v1,v2,v3,(wr .i64 (v4+1)),x6,x7,x8,x9,w11,w12,w13)))) (
  kx (.exit 2) (v1,v2,v3,v4,w7,w8,w9,w10,w11,w12,w13))
def Ad5:Sig:=⟨38,[(2,.sl .pair true)],[(0,.ptr 0 0),(1,.bm 167 [.ptr 0 0]),(6,.ptr 80 0),(7,.ptr 81 0)],[(0,.cells [.sl .tok false,.int .i64,.bool,.int .i64]),(1,.one (.sv .expr)),(80,.one (.sv .expr)),(81,.one (.sv .expr))],82,80,400,[],[]⟩
abbrev Ij:=List PairS×List Tok×Int×Bool×Int×Xpr×Xpr×Xpr
def Z0{R:Type}(k:Nat) (rf:A2→Option Az) (rec:Ij→Option R) (kx:Ex→Ij→Option R) (v:Ij):Option R:=match v with
 |(v,w,w1,w2,w3,w4,w5,w6) =>
 cond (!w2) (
  A5 (fun rc=>Aa1 rf rc (fun e vz=>match vz with|(v5,_,_,_,v9,v10,v11,v12,v13,v14,v15)=>match e with
  |.exit 1 =>
   rec (v5,v9,v10,v11,v12,v13,v14,v15)
  |.exit 2 =>
   kx (.exit 0) (v5,v9,v10,v11,v12,v13,v14,v15)
  |_=>none)) k (v,v,(v.length:Int),0,w,w1,w2,w3,w4,w5,w6)) (
  kx (.exit 0) (v,w,w1,w2,w3,w4,w5,w6))
def Hj(R:Type) (k:Nat) (rf:A2→Option Az):Px R:=⟨A7 ttL,glT,Aq [(167,Ao Yz Y3 (Ih rf)),(117,Ao Dp Dv Bh)],Ak [],Av [(4,Bc k Ad0 (Aa1 rf)),(2,Bc k Ad5 (Z0 k rf))],tbl [(167,D6 Yz Y3 (Ih rf))]⟩
noncomputable def Aa4 (R:Type) (k:Nat) (rf:A2→Option Az):Px R:=⟨A7 ttL,glT,Aq [(137,Bb 80 400 (Hj R k rf) Tryz.f137)],Ak [],Av [],tbl []⟩
theorem A1s(R:Type) (k:Nat) (rf:A2→Option Az):∀(fr:List Fr) (rec:Nv→Option R) (kx:Ex→Nv→Option R) (v:Nv),Bn (Hj R k rf) Ad0 (lpC (lp Tryz.f137 0) 0) fr rec kx v=Aa1 rf rec kx v
 |fr,rec,kx,(v1,v2,v3,v4,w7,w8,w9,w10,w11,w12,w13)=>by kernel_rfl
theorem Azw(R:Type) (k:Nat) (rf:A2→Option Az):∀(fr:List Fr) (rec:Ij→Option R) (kx:Ex→Ij→Option R) (v:Ij),Bn (Hj R k rf) Ad5 (lp Tryz.f137 0) fr rec kx v=Z0 k rf rec kx v
 |fr,rec,kx,(v,w,w1,w2,w3,w4,w5,w6)=>by kernel_rfl
def Hm(k:Nat) (rf:A2→Option Az) (x:Av2):Option (Pe):=match x with
 |(l,n,b,p) =>
 (Ih rf (l,n,b,p)).bind fun(x,x1,x2,x3,x4) =>
  A5 (fun rec=>Z0 k rf rec (fun e vz=>match vz with|(_,v17,v18,v19,v20,_,_,v23)=>match e with
  |.exit 0 =>
   some (v23,v17,v18,v19,v20)
  |_=>none)) k ([(PairS.mk [65,78,68] 4)],x1,x2,x3,x4,(Xpr.mk 0 ⟨0,0,[]⟩ [] []),(Xpr.mk 0 ⟨0,0,[]⟩ [] []),x)
theorem A95(k:Nat) (rf:A2→Option Az):∀(x:Av2),C2 (Aa4 _ k rf) Tryz.f138 X2 Xv x some=Hm k rf x
 |(l,n,b,p)=>by kernel_rfl
theorem A65(k:Nat) (rf:A2→Option Az) (hrf:FnLn Tryz.prog elT glT 90 Cn Cm rf):FnLn Tryz.prog elT glT 138 X2 Xv (Hm k rf):=by
 refine Bk Tryz.func138 rfl (by kernel_rfl) follows (by kernel_rfl) (n:=0) (by kernel_rfl) (px:=Aa4 _ k rf) (fun cx hP hel hgl =>?_) (A95 k rf)
 have hp1:PxOk cx (Hj (Pe) k rf):=⟨fun t=>by rw [hP,hel];exact Au Al t,by rw [hgl];rfl⟩
 have hc1:Aj cx (Hj (Pe) k rf):=Ah rfl (Aa (A3 (by rw [hP,hel,hgl];exact Axb rf hrf) (by kernel_rfl)) (Aa (A3 (by rw [hP,hel,hgl];exact Ei) (by kernel_rfl)) Ai))
 have hq1:CallQOk cx (Hj (Pe) k rf):=Ab rfl rfl Af (Cs (Nm (by rw [hP,hel,hgl];exact Axb rf hrf) (by kernel_rfl)) Ae)
 have hlpand_1:A6 cx (Hj (Pe) k rf) (lpC (lp Tryz.f137 0) 0):=A8 hp1 hc1 hq1 (by rw [hP];exact follows) (k:=k) (s:=Ad0) (step:=Aa1 rf) (fun _ _=>by kernel_rfl) (by kernel_rfl) (A1s _ k rf) (A0 (n:=0) (by kernel_rfl) Aw)
 have hlpand_0:A6 cx (Hj (Pe) k rf) (lp Tryz.f137 0):=A8 hp1 hc1 hq1 (by rw [hP];exact follows) (k:=k) (s:=Ad5) (step:=Z0 k rf) (fun _ _=>by kernel_rfl) (by kernel_rfl) (Azw _ k rf) (A0 (n:=1) (by kernel_rfl) (Cg Aw hlpand_1))
 have hp0:PxOk cx (Aa4 (Pe) k rf):=⟨fun t=>by rw [hP,hel];exact Au Al t,by rw [hgl];rfl⟩
 have hc0:Aj cx (Aa4 (Pe) k rf):=Ah rfl (Aa (Bm hp1 hc1 hq1 (by rw [hP];exact follows) (by rw [hP];exact Tryz.func137) rfl (by kernel_rfl) (by kernel_rfl) (n:=2) (by kernel_rfl) ((Cg (Cg Aw hlpand_0) hlpand_1))) Ai)
 have hq0:CallQOk cx (Aa4 (Pe) k rf):=Ab rfl rfl Af Ae
 exact⟨hp0,hc0,hq0,Aw⟩
def G2(rf:A2→Option Az):Av2→Option Pe:=fun x=>Hm ((x.1.length+3)) rf x
theorem Axx(rf:A2→Option Az) (hrf:FnLn Tryz.prog elT glT 90 Cn Cm rf):FnLn Tryz.prog elT glT 138 X2 Xv (G2 rf):=FnLn.fin (ι:=Nat) (sg:=X2) (so:=Xv) 0 (F:=fun k=>Hm k rf) (fun k=>A65 k rf hrf) fun x _ _ hx=>⟨(x.1.length+3),hx⟩
def Ahq:Sig:=⟨38,[(2,.sl .pair true),(17,.sl .pair false),(18,.int .i64),(19,.int .i64)],[(0,.ptr 0 0),(1,.bm 138 [.ptr 0 0]),(6,.ptr 80 0),(7,.ptr 81 0)],[(0,.cells [.sl .tok false,.int .i64,.bool,.int .i64]),(1,.one (.sv .expr)),(80,.one (.sv .expr)),(81,.one (.sv .expr))],82,80,400,[],[]⟩
abbrev T7:=List PairS×List PairS×Int×Int×List Tok×Int×Bool×Int×Xpr×Xpr×Xpr
def Ai4{R:Type}(rf:A2→Option Az) (rec:T7→Option R) (kx:Ex→T7→Option R) (v:T7):Option R:=match v with
 |(v1,v2,v3,v4,w7,w8,w9,w10,w11,w12,w13) =>
 cond (decide (v4<v3)) (
  chk (inb v4 v2.length) (
  (Bh ((at' .pair v2 v4).sign,w7,w8,w9,w10)).bind fun(x5,x6,x7,x8,x9) =>
   cond (x5) (
   (G2 rf (x6,x7,x8,x9)).bind fun(x10,x11,x12,x13,x14) =>
    kx (.exit 1) (v1,v2,v3,v4,x11,x12,x13,x14,w11,w12,(Xpr.mk ((at' .pair v2 v4).kind) ⟨0,0,[]⟩ [] [w13,x10]))) (
   rec (v1,v2,v3,(wr .i64 (v4+1)),x6,x7,x8,x9,w11,w12,w13)))) (
  kx (.exit 2) (v1,v2,v3,v4,w7,w8,w9,w10,w11,w12,w13))
def Ag8:Sig:=⟨38,[(2,.sl .pair true)],[(0,.ptr 0 0),(1,.bm 138 [.ptr 0 0]),(6,.ptr 80 0),(7,.ptr 81 0)],[(0,.cells [.sl .tok false,.int .i64,.bool,.int .i64]),(1,.one (.sv .expr)),(80,.one (.sv .expr)),(81,.one (.sv .expr))],82,80,400,[],[]⟩
abbrev Li:=List PairS×List Tok×Int×Bool×Int×Xpr×Xpr×Xpr
def Aht{R:Type}(k:Nat) (rf:A2→Option Az) (rec:Li→Option R) (kx:Ex→Li→Option R) (v:Li):Option R:=match v with
 |(v,w,w1,w2,w3,w4,w5,w6) =>
 cond (!w2) (
  A5 (fun rc=>Ai4 rf rc (fun e vz=>match vz with|(v5,_,_,_,v9,v10,v11,v12,v13,v14,v15)=>match e with
  |.exit 1 =>
   rec (v5,v9,v10,v11,v12,v13,v14,v15)
  |.exit 2 =>
   kx (.exit 0) (v5,v9,v10,v11,v12,v13,v14,v15)
  |_=>none)) k (v,v,(v.length:Int),0,w,w1,w2,w3,w4,w5,w6)) (
  kx (.exit 0) (v,w,w1,w2,w3,w4,w5,w6))
def Kh(R:Type) (k:Nat) (rf:A2→Option Az):Px R:=⟨A7 ttL,glT,Aq [(138,Ao X2 Xv (G2 rf)),(117,Ao Dp Dv Bh)],Ak [],Av [(4,Bc k Ahq (Ai4 rf)),(2,Bc k Ag8 (Aht k rf))],tbl [(138,D6 X2 Xv (G2 rf))]⟩
noncomputable def Ahn (R:Type) (k:Nat) (rf:A2→Option Az):Px R:=⟨A7 ttL,glT,Aq [(137,Bb 80 400 (Kh R k rf) Tryz.f137)],Ak [],Av [],tbl []⟩
theorem A3t(R:Type) (k:Nat) (rf:A2→Option Az):∀(fr:List Fr) (rec:T7→Option R) (kx:Ex→T7→Option R) (v:T7),Bn (Kh R k rf) Ahq (lpC (lp Tryz.f137 0) 0) fr rec kx v=Ai4 rf rec kx v
 |fr,rec,kx,(v1,v2,v3,v4,w7,w8,w9,w10,w11,w12,w13)=>by kernel_rfl
theorem A8u(R:Type) (k:Nat) (rf:A2→Option Az):∀(fr:List Fr) (rec:Li→Option R) (kx:Ex→Li→Option R) (v:Li),Bn (Kh R k rf) Ag8 (lp Tryz.f137 0) fr rec kx v=Aht k rf rec kx v
 |fr,rec,kx,(v,w,w1,w2,w3,w4,w5,w6)=>by kernel_rfl
def Kz(k:Nat) (rf:A2→Option Az) (x:A2):Option (Az):=match x with
 |(l,n,b,p) =>
 (G2 rf (l,n,b,p)).bind fun(x,x1,x2,x3,x4) =>
  A5 (fun rec=>Aht k rf rec (fun e vz=>match vz with|(_,v17,v18,v19,v20,_,_,v23)=>match e with
  |.exit 0 =>
   some (v23,v17,v18,v19,v20)
  |_=>none)) k ([(PairS.mk [79,82] 5)],x1,x2,x3,x4,(Xpr.mk 0 ⟨0,0,[]⟩ [] []),(Xpr.mk 0 ⟨0,0,[]⟩ [] []),x)
theorem Ben(k:Nat) (rf:A2→Option Az):∀(x:A2),C2 (Ahn _ k rf) Tryz.f90 Cn Cm x some=Kz k rf x
 |(l,n,b,p)=>by kernel_rfl
theorem Bb5(k:Nat) (rf:A2→Option Az) (hrf:FnLn Tryz.prog elT glT 90 Cn Cm rf):FnLn Tryz.prog elT glT 90 Cn Cm (Kz k rf):=by
 refine Bk Tryz.func90 rfl (by kernel_rfl) follows (by kernel_rfl) (n:=0) (by kernel_rfl) (px:=Ahn _ k rf) (fun cx hP hel hgl =>?_) (Ben k rf)
 have hp1:PxOk cx (Kh (Az) k rf):=⟨fun t=>by rw [hP,hel];exact Au Al t,by rw [hgl];rfl⟩
 have hc1:Aj cx (Kh (Az) k rf):=Ah rfl (Aa (A3 (by rw [hP,hel,hgl];exact Axx rf hrf) (by kernel_rfl)) (Aa (A3 (by rw [hP,hel,hgl];exact Ei) (by kernel_rfl)) Ai))
 have hq1:CallQOk cx (Kh (Az) k rf):=Ab rfl rfl Af (Cs (Nm (by rw [hP,hel,hgl];exact Axx rf hrf) (by kernel_rfl)) Ae)
 have hlpor_1:A6 cx (Kh (Az) k rf) (lpC (lp Tryz.f137 0) 0):=A8 hp1 hc1 hq1 (by rw [hP];exact follows) (k:=k) (s:=Ahq) (step:=Ai4 rf) (fun _ _=>by kernel_rfl) (by kernel_rfl) (A3t _ k rf) (A0 (n:=0) (by kernel_rfl) Aw)
 have hlpor_0:A6 cx (Kh (Az) k rf) (lp Tryz.f137 0):=A8 hp1 hc1 hq1 (by rw [hP];exact follows) (k:=k) (s:=Ag8) (step:=Aht k rf) (fun _ _=>by kernel_rfl) (by kernel_rfl) (A8u _ k rf) (A0 (n:=1) (by kernel_rfl) (Cg Aw hlpor_1))
 have hp0:PxOk cx (Ahn (Az) k rf):=⟨fun t=>by rw [hP,hel];exact Au Al t,by rw [hgl];rfl⟩
 have hc0:Aj cx (Ahn (Az) k rf):=Ah rfl (Aa (Bm hp1 hc1 hq1 (by rw [hP];exact follows) (by rw [hP];exact Tryz.func137) rfl (by kernel_rfl) (by kernel_rfl) (n:=2) (by kernel_rfl) ((Cg (Cg Aw hlpor_0) hlpor_1))) Ai)
 have hq0:CallQOk cx (Ahn (Az) k rf):=Ab rfl rfl Af Ae
 exact⟨hp0,hc0,hq0,Aw⟩
def Uk(rf:A2→Option Az):A2→Option Az:=fun x=>Kz (x.1.length+3) rf x
theorem Bcb(rf:A2→Option Az) (hrf:FnLn Tryz.prog elT glT 90 Cn Cm rf):FnLn Tryz.prog elT glT 90 Cn Cm (Uk rf) :=.fin (ι:=Nat) (sg:=Cn) (so:=Cm) 0 (F:=fun k=>Kz k rf) (fun k=>Bb5 k rf hrf) fun x _ _ hx=>⟨x.1.length+3,hx⟩
def Of:A2→Option Az:=fun x=>A5 (V:=A2) (R:=Az) Uk (x.1.length+2) x
theorem Aho:FnLn Tryz.prog elT glT 90 Cn Cm Of :=.fin (ι:=Nat) (sg:=Cn) (so:=Cm) 0 (F:=fun n=>A5 (V:=A2) (R:=Az) Uk n) (fun n=>FnLn.rec' (Sx.enters_of Tryz.func90 rfl rfl) (fun rf hrf=>Bcb rf hrf) n) fun x _ _ hx=>⟨x.1.length+2,hx⟩
end Go.Proofs.YthndhaolemgbdaaGreatDoor
namespace Go.Proofs.YthndhaolemgbdaaGreatDoor
open Go.Ax
def Lr:Sig:=⟨1,[],[(0,.ptr 0 0)],[(0,.cells [.sl .tok false,.int .i64,.bool,.int .i64])],1,1,0,[],[]⟩
def Lk:Sig:=⟨1,[(0,.sl .str true)],[],[(0,.cells [.sl .tok false,.int .i64,.bool,.int .i64])],1,1,0,[],[]⟩
abbrev Ajl:=List Tok×Int×Bool×Int
abbrev E6:=List Str×List Tok×Int×Bool×Int
def We:Sig:=⟨19,[],[(0,.ptr 0 0),(1,.fn 184 [.ptr 2 0,.ptr 1 0])],[(0,.cells [.sl .tok false,.int .i64,.bool,.int .i64]),(1,.fx [.ptr 0 0]),(2,.cells [.sl .str true])],80,80,400,[],[]⟩
abbrev Jr:=List Tok×Int×Bool×Int×List Str
def Abj{R:Type}(rec:Jr→Option R) (kx:Ex→Jr→Option R) (v:Jr):Option R:=match v with
 |(w,w1,w2,w3,w4) =>
 cond (!w2) (
  (Bh ([44],w,w1,w2,w3)).bind fun(x9,x10,x11,x12,x13) =>
  cond (x9) (
   (B5 (x10,x11,x12,x13)).bind fun(x14,x15,x16,x17,x18) =>
   chk (decide (w4.length+1≤Be)) (
    rec (x15,x16,x17,x18,(w4++[x14])))) (
   kx (.exit 0) (x10,x11,x12,x13,w4))) (
  kx (.exit 0) (w,w1,w2,w3,w4))
def Ke(R:Type) (_k:Nat):Px R:=⟨A7 ttL,glT,Aq [],Ak [],Av [],tbl [(120,D6 Fa E9 B5)]⟩
noncomputable def Hl (R:Type) (k:Nat):Px R:=⟨A7 ttL,glT,Aq [(117,Ao Dp Dv Bh),(184,Bb 120 600 (Ke R k) Tryz.f184)],Ak [],Av [(1,Bc k We (Abj))],tbl []⟩
noncomputable def Pq (R:Type) (k:Nat):Px R:=⟨A7 ttL,glT,Aq [(119,Ao Ds Du Ba),(121,Bb 80 400 (Hl R k) Tryz.f121)],Ak [],Av [],tbl []⟩
theorem Aq6(R:Type) (k:Nat):∀(fr:List Fr) (rec:Jr→Option R) (kx:Ex→Jr→Option R) (v:Jr),Bn (Hl R k) We (lp Tryz.f121 0) fr rec kx v=Abj rec kx v
 |fr,rec,kx,(w,w1,w2,w3,w4)=>by kernel_rfl
def Ow(k:Nat) (x:Ajl):Option (E6):=match x with
 |(l,n,b,p) =>
 (Ba ([[40]],l,n,b,p)).bind fun(x,x1,x2,x3) =>
  (B5 (x,x1,x2,x3)).bind fun(x4,x5,x6,x7,x8) =>
  A5 (fun rec=>Abj rec (fun e vz=>match vz with|(v,v1,v2,v3,v4)=>match e with
   |.exit 0 =>
   (Ba ([[41]],v,v1,v2,v3)).bind fun(x19,x20,x21,x22) =>
    some (v4,x19,x20,x21,x22)
   |_=>none)) k (x5,x6,x7,x8,[x4])
theorem A1g(k:Nat):∀(x:Ajl),C2 (Pq _ k) Tryz.f161 Lr Lk x some=Ow k x
 |(l,n,b,p)=>by kernel_rfl
theorem Asg(k:Nat):FnLn Tryz.prog elT glT 161 Lr Lk (Ow k):=by
 refine Bk Tryz.func161 rfl (by kernel_rfl) follows (by kernel_rfl) (n:=0) (by kernel_rfl) (px:=Pq _ k) (fun cx hP hel hgl =>?_) (A1g k)
 have hp2:PxOk cx (Ke (E6) k):=⟨fun t=>by rw [hP,hel];exact Au Al t,by rw [hgl];rfl⟩
 have hc2:Aj cx (Ke (E6) k):=Ah rfl Ai
 have hq2:CallQOk cx (Ke (E6) k):=Ab rfl rfl Af (Cs (Nm (by rw [hP,hel,hgl];exact Ip) (by kernel_rfl)) Ae)
 have hp1:PxOk cx (Hl (E6) k):=⟨fun t=>by rw [hP,hel];exact Au Al t,by rw [hgl];rfl⟩
 have hc1:Aj cx (Hl (E6) k):=Ah rfl (Aa (A3 (by rw [hP,hel,hgl];exact Ei) (by kernel_rfl)) (Aa (Bm hp2 hc2 hq2 (by rw [hP];exact follows) (by rw [hP];exact Tryz.func184) rfl (by kernel_rfl) (by kernel_rfl) (n:=0) (by kernel_rfl) (Aw)) Ai))
 have hq1:CallQOk cx (Hl (E6) k):=Ab rfl rfl Af Ae
 have hlpnames_0:A6 cx (Hl (E6) k) (lp Tryz.f121 0):=A8 hp1 hc1 hq1 (by rw [hP];exact follows) (k:=k) (s:=We) (step:=Abj) (fun _ _=>by kernel_rfl) (by kernel_rfl) (Aq6 _ k) (A0 (n:=0) (by kernel_rfl) Aw)
 have hp0:PxOk cx (Pq (E6) k):=⟨fun t=>by rw [hP,hel];exact Au Al t,by rw [hgl];rfl⟩
 have hc0:Aj cx (Pq (E6) k):=Ah rfl (Aa (A3 (by rw [hP,hel,hgl];exact Fn) (by kernel_rfl)) (Aa (Bm hp1 hc1 hq1 (by rw [hP];exact follows) (by rw [hP];exact Tryz.func121) rfl (by kernel_rfl) (by kernel_rfl) (n:=1) (by kernel_rfl) ((Cg Aw hlpnames_0))) Ai))
 have hq0:CallQOk cx (Pq (E6) k):=Ab rfl rfl Af Ae
 exact⟨hp0,hc0,hq0,Aw⟩
def W7:Ajl→Option E6:=fun x=>Ow ((x.1.length+3)) x
theorem Alo:FnLn Tryz.prog elT glT 161 Lr Lk (W7):=FnLn.fin (ι:=Nat) (sg:=Lr) (so:=Lk) 0 (F:=fun k=>Ow k) (fun k=>Asg k) fun x _ _ hx=>⟨(x.1.length+3),hx⟩
def Lu:Sig:=⟨1,[],[(0,.ptr 0 0)],[(0,.cells [.sl .tok false,.int .i64,.bool,.int .i64])],1,1,0,[],[]⟩
def L0:Sig:=⟨1,[(0,.sl .expr true)],[],[(0,.cells [.sl .tok false,.int .i64,.bool,.int .i64])],1,1,0,[],[]⟩
abbrev Ahw:=List Tok×Int×Bool×Int
abbrev E5:=List Xpr×List Tok×Int×Bool×Int
def V3:Sig:=⟨19,[],[(0,.ptr 0 0),(1,.fn 162 [.ptr 2 0,.ptr 1 0])],[(0,.cells [.sl .tok false,.int .i64,.bool,.int .i64]),(1,.fx [.ptr 0 0]),(2,.cells [.sl .expr true])],80,80,400,[],[]⟩
abbrev Jo:=List Tok×Int×Bool×Int×List Xpr
def Acg{R:Type}(rec:Jo→Option R) (kx:Ex→Jo→Option R) (v:Jo):Option R:=match v with
 |(w,w1,w2,w3,w4) =>
 cond (!w2) (
  (Bh ([44],w,w1,w2,w3)).bind fun(x5,x6,x7,x8,x9) =>
  cond (x5) (
   (Of (x6,x7,x8,x9)).bind fun(x10,x11,x12,x13,x14) =>
   chk (decide (w4.length+1≤Be)&&decide ((w4.length:Int)=(w4.length:Int))) (
    rec (x11,x12,x13,x14,(w4++[x10])))) (
   kx (.exit 0) (x6,x7,x8,x9,w4))) (
  kx (.exit 0) (w,w1,w2,w3,w4))
def J9(R:Type) (_k:Nat):Px R:=⟨A7 ttL,glT,Aq [],Ak [],Av [],tbl [(90,D6 Cn Cm Of)]⟩
noncomputable def Hg (R:Type) (k:Nat):Px R:=⟨A7 ttL,glT,Aq [(117,Ao Dp Dv Bh),(162,Bb 120 600 (J9 R k) Tryz.f162)],Ak [],Av [(1,Bc k V3 (Acg))],tbl []⟩
noncomputable def Re (R:Type) (k:Nat):Px R:=⟨A7 ttL,glT,Aq [(121,Bb 80 400 (Hg R k) Tryz.f121)],Ak [],Av [],tbl []⟩
theorem Ard(R:Type) (k:Nat):∀(fr:List Fr) (rec:Jo→Option R) (kx:Ex→Jo→Option R) (v:Jo),Bn (Hg R k) V3 (lp Tryz.f121 0) fr rec kx v=Acg rec kx v
 |fr,rec,kx,(w,w1,w2,w3,w4)=>by kernel_rfl
def N6(k:Nat) (x:Ahw):Option (E5):=match x with
 |(l,n,b,p) =>
 (Of (l,n,b,p)).bind fun(x,x1,x2,x3,x4) =>
  chk (decide (0+1≤Be)&&decide (0=(0:Int))) (
  A5 (fun rec=>Acg rec (fun e vz=>match vz with|(v,v1,v2,v3,v4)=>match e with
   |.exit 0 =>
   some (v4,v,v1,v2,v3)
   |_=>none)) k (x1,x2,x3,x4,[x]))
theorem A01(k:Nat):∀(x:Ahw),C2 (Re _ k) Tryz.f123 Lu L0 x some=N6 k x
 |(l,n,b,p)=>by kernel_rfl
theorem Ath(k:Nat):FnLn Tryz.prog elT glT 123 Lu L0 (N6 k):=by
 refine Bk Tryz.func123 rfl (by kernel_rfl) follows (by kernel_rfl) (n:=0) (by kernel_rfl) (px:=Re _ k) (fun cx hP hel hgl =>?_) (A01 k)
 have hp2:PxOk cx (J9 (E5) k):=⟨fun t=>by rw [hP,hel];exact Au Al t,by rw [hgl];rfl⟩
 have hc2:Aj cx (J9 (E5) k):=Ah rfl Ai
 have hq2:CallQOk cx (J9 (E5) k):=Ab rfl rfl Af (Cs (Nm (by rw [hP,hel,hgl];exact Aho) (by kernel_rfl)) Ae)
 have hp1:PxOk cx (Hg (E5) k):=⟨fun t=>by rw [hP,hel];exact Au Al t,by rw [hgl];rfl⟩
 have hc1:Aj cx (Hg (E5) k):=Ah rfl (Aa (A3 (by rw [hP,hel,hgl];exact Ei) (by kernel_rfl)) (Aa (Bm hp2 hc2 hq2 (by rw [hP];exact follows) (by rw [hP];exact Tryz.func162) rfl (by kernel_rfl) (by kernel_rfl) (n:=0) (by kernel_rfl) (Aw)) Ai))
 have hq1:CallQOk cx (Hg (E5) k):=Ab rfl rfl Af Ae
 have hlpexprs_0:A6 cx (Hg (E5) k) (lp Tryz.f121 0):=A8 hp1 hc1 hq1 (by rw [hP];exact follows) (k:=k) (s:=V3) (step:=Acg) (fun _ _=>by kernel_rfl) (by kernel_rfl) (Ard _ k) (A0 (n:=0) (by kernel_rfl) Aw)
 have hp0:PxOk cx (Re (E5) k):=⟨fun t=>by rw [hP,hel];exact Au Al t,by rw [hgl];rfl⟩
 have hc0:Aj cx (Re (E5) k):=Ah rfl (Aa (Bm hp1 hc1 hq1 (by rw [hP];exact follows) (by rw [hP];exact Tryz.func121) rfl (by kernel_rfl) (by kernel_rfl) (n:=1) (by kernel_rfl) ((Cg Aw hlpexprs_0))) Ai)
 have hq0:CallQOk cx (Re (E5) k):=Ab rfl rfl Af Ae
 exact⟨hp0,hc0,hq0,Aw⟩
def Rp:Ahw→Option E5:=fun x=>N6 ((x.1.length+3)) x
theorem Alf:FnLn Tryz.prog elT glT 123 Lu L0 (Rp):=FnLn.fin (ι:=Nat) (sg:=Lu) (so:=L0) 0 (F:=fun k=>N6 k) (fun k=>Ath k) fun x _ _ hx=>⟨(x.1.length+3),hx⟩
def Ac0:Sig:=⟨1,[],[(0,.ptr 0 0)],[(0,.cells [.sl .tok false,.int .i64,.bool,.int .i64])],1,1,0,[],[]⟩
def Aci:Sig:=⟨1,[(0,.sv .col)],[],[(0,.cells [.sl .tok false,.int .i64,.bool,.int .i64])],1,1,0,[],[]⟩
abbrev Asw:=List Tok×Int×Bool×Int
abbrev Adn:=Col×List Tok×Int×Bool×Int
def Aee:Sig:=⟨87,[(10,.int .i64)],[(0,.ptr 0 0),(2,.ptr 1 0),(3,.ptr 2 0),(9,.agg [.str [],.str [],.str [66,79,79,76],.str [73,78,84],.str [84,69,88,84],.str [66,89,84,69,83]])],[(0,.cells [.sl .tok false,.int .i64,.bool,.int .i64]),(1,.one (.sv .col)),(2,.one (.sv .col))],3,1,0,[],[]⟩
abbrev Kj:=Int×List Tok×Int×Bool×Int×Col×Col
def Ame{R:Type}(rec:Kj→Option R) (kx:Ex→Kj→Option R) (v:Kj):Option R:=match v with
 |(v,w,w1,w2,w3,w4,w5) =>
 cond (decide (v<6)) (
  chk (inb v 6) (
  let j1:=fun(p1:Bool) =>
   let j:=fun(p2:Bool) =>
   cond (p2) (
    (Bh ((at' .str [[],[],[66,79,79,76],[73,78,84],[84,69,88,84],[66,89,84,69,83]] v),w,w1,w2,w3)).bind fun(x5,x6,x7,x8,x9) =>
    cond (x5) (
     rec ((wr .i64 (v+1)),x6,x7,x8,x9,w4,(Col.mk w5.name v w5.notNull w5.unique w5.ref))) (
     rec ((wr .i64 (v+1)),x6,x7,x8,x9,w4,w5))) (
    rec ((wr .i64 (v+1)),w,w1,w2,w3,w4,w5))
   cond (p1) (
   j (decide (w5.kind=0))) (
   j false)
  cond (decide (2≤v)) (
   j1 (!w2)) (
   j1 false))) (
  kx (.exit 0) (v,w,w1,w2,w3,w4,w5))
def Uc(R:Type) (k:Nat):Px R:=⟨A7 ttL,glT,Aq [(120,Ao Fa E9 B5),(117,Ao Dp Dv Bh),(127,Ao F7 F0 C8),(119,Ao Ds Du Ba)],Ak [],Av [(3,Bc k Aee (Ame))],tbl []⟩
theorem Azr(R:Type) (k:Nat):∀(fr:List Fr) (rec:Kj→Option R) (kx:Ex→Kj→Option R) (v:Kj),Bn (Uc R k) Aee (lp Tryz.f183 0) fr rec kx v=Ame rec kx v
 |fr,rec,kx,(v,w,w1,w2,w3,w4,w5)=>by kernel_rfl
def Yt(k:Nat) (x:Asw):Option (Adn):=match x with
 |(l,n,b,p) =>
 (B5 (l,n,b,p)).bind fun(x,x1,x2,x3,x4) =>
  A5 (fun rec=>Ame rec (fun e vz=>match vz with|(_,v2,v3,v4,v5,_,v7)=>match e with
  |.exit 0 =>
   let j6:=fun(q13:List Tok) (q14:Int) (q15:Bool) (q16:Int) =>
   let j2:=fun(q21:List Tok) (q22:Int) (q23:Bool) (q24:Int) (q25:Col) =>
    let j5:=fun(q30:List Tok) (q31:Int) (q32:Bool) (q33:Int) =>
    let j4:=fun(q38:List Tok) (q39:Int) (q40:Bool) (q41:Int) (q42:Col) =>
     let j3:=fun(p8:Bool) (q47:List Tok) (q48:Int) (q49:Bool) (q50:Int) =>
     cond (p8) (
      (B5 (q47,q48,q49,q50)).bind fun(x33,x34,x35,x36,x37) =>
      some ((Col.mk q42.name q42.kind q42.notNull q42.unique x33),x34,x35,x36,x37)) (
      some (q42,q47,q48,q49,q50))
     cond (!q40) (
     (Bh ([82,69,70,69,82,69,78,67,69,83],q38,q39,q40,q41)).bind fun(x28,x29,x30,x31,x32) =>
      j3 x28 x29 x30 x31 x32) (
     j3 false q38 q39 q40 q41)
    cond (!q32) (
     (Bh ([85,78,73,81,85,69],q30,q31,q32,q33)).bind fun(x23,x24,x25,x26,x27) =>
     j4 x24 x25 x26 x27 (Col.mk q25.name q25.kind q25.notNull x23 q25.ref)) (
     j4 q30 q31 q32 q33 (Col.mk q25.name q25.kind q25.notNull false q25.ref))
    cond (q25.notNull) (
    (Ba ([[78,85,76,76]],q21,q22,q23,q24)).bind fun(x19,x20,x21,x22) =>
     j5 x19 x20 x21 x22) (
    j5 q21 q22 q23 q24)
   cond (!q15) (
    (Bh ([78,79,84],q13,q14,q15,q16)).bind fun(x14,x15,x16,x17,x18) =>
    j2 x15 x16 x17 x18 (Col.mk v7.name v7.kind x14 v7.unique v7.ref)) (
    j2 q13 q14 q15 q16 (Col.mk v7.name v7.kind false v7.unique v7.ref))
   cond (decide (v7.kind=0)) (
   (C8 (v2,v3,v4,v5)).bind fun(x10,x11,x12,x13) =>
    j6 x10 x11 x12 x13) (
   j6 v2 v3 v4 v5)
  |_=>none)) k (0,x1,x2,x3,x4,(Col.mk [] 0 false false []),(Col.mk x 0 false false []))
theorem Bbx(k:Nat):∀(x:Asw),C2 (Uc _ k) Tryz.f183 Ac0 Aci x some=Yt k x
 |(l,n,b,p)=>by kernel_rfl
theorem A8f(k:Nat):FnLn Tryz.prog elT glT 183 Ac0 Aci (Yt k):=by
 refine Bk Tryz.func183 rfl (by kernel_rfl) follows (by kernel_rfl) (n:=1) (by kernel_rfl) (px:=Uc _ k) (fun cx hP hel hgl =>?_) (Bbx k)
 have hp0:PxOk cx (Uc (Adn) k):=⟨fun t=>by rw [hP,hel];exact Au Al t,by rw [hgl];rfl⟩
 have hc0:Aj cx (Uc (Adn) k):=Ah rfl (Aa (A3 (by rw [hP,hel,hgl];exact Ip) (by kernel_rfl)) (Aa (A3 (by rw [hP,hel,hgl];exact Ei) (by kernel_rfl)) (Aa (A3 (by rw [hP,hel,hgl];exact L3) (by kernel_rfl)) (Aa (A3 (by rw [hP,hel,hgl];exact Fn) (by kernel_rfl)) Ai))))
 have hq0:CallQOk cx (Uc (Adn) k):=Ab rfl rfl Af Ae
 have hlpcol_0:A6 cx (Uc (Adn) k) (lp Tryz.f183 0):=A8 hp0 hc0 hq0 (by rw [hP];exact follows) (k:=k) (s:=Aee) (step:=Ame) (fun _ _=>by kernel_rfl) (by kernel_rfl) (Azr _ k) (A0 (n:=0) (by kernel_rfl) Aw)
 exact⟨hp0,hc0,hq0,(Cg Aw hlpcol_0)⟩
def Amd:Asw→Option Adn:=fun x=>Yt (10) x
theorem A9p:FnLn Tryz.prog elT glT 183 Ac0 Aci (Amd):=FnLn.fin (ι:=Nat) (sg:=Ac0) (so:=Aci) 0 (F:=fun k=>Yt k) (fun k=>A8f k) fun _ _ _ hx=>⟨10,hx⟩
def Pl:Sig:=⟨2,[],[(0,.ptr 0 0),(1,.ptr 1 0)],[(0,.cells [.sl .tok false,.int .i64,.bool,.int .i64]),(1,.cells [.int .i64,.str,.str,.sl .col true,.sl .str false,.sl .expr true,.sl .exprs true,.sl .set true,.bool,.int .i64,.int .i64,.int .i64,.str,.str,.sl .expr false,.sl .str true,.sl .bool true,.int .i64])],2,2,0,[],[]⟩
def Rg:Sig:=⟨0,[],[],[(0,.cells [.sl .tok false,.int .i64,.bool,.int .i64]),(1,.cells [.int .i64,.str,.str,.sl .col true,.sl .str false,.sl .expr true,.sl .exprs true,.sl .set true,.bool,.int .i64,.int .i64,.int .i64,.str,.str,.sl .expr false,.sl .str true,.sl .bool true,.int .i64])],2,2,0,[],[]⟩
abbrev Ajd:=List Tok×Int×Bool×Int×Int×Str×Str×List Col×List Str×List Xpr×List (List Xpr)×List SetE×Bool×Int×Int×Int×Str×Str×List Xpr×List Str×List Bool×Int
abbrev Ns:=List Tok×Int×Bool×Int×Int×Str×Str×List Col×List Str×List Xpr×List (List Xpr)×List SetE×Bool×Int×Int×Int×Str×Str×List Xpr×List Str×List Bool×Int
def Wg:Sig:=⟨95,[],[(0,.ptr 0 0),(1,.ptr 1 0)],[(0,.cells [.sl .tok false,.int .i64,.bool,.int .i64]),(1,.cells [.int .i64,.str,.str,.sl .col true,.sl .str true,.sl .expr true,.sl .exprs true,.sl .set true,.bool,.int .i64,.int .i64,.int .i64,.str,.str,.sl .expr false,.sl .str true,.sl .bool true,.int .i64])],2,2,0,[],[]⟩
abbrev Js:=List Tok×Int×Bool×Int×Int×Str×Str×List Col×List Str×List Xpr×List (List Xpr)×List SetE×Bool×Int×Int×Int×Str×Str×List Xpr×List Str×List Bool×Int
def Ace{R:Type}(rec:Js→Option R) (kx:Ex→Js→Option R) (v:Js):Option R:=match v with
 |(w22,w23,w24,w25,w26,w27,w28,w29,w30,w31,w32,w33,w34,w35,w36,w37,w38,w39,w40,w41,w42,w43) =>
 cond (!w24) (
  (Bh ([44],w22,w23,w24,w25)).bind fun(x41,x42,x43,x44,x45) =>
  cond (x41) (
   (Ba ([[67,72,69,67,75],[40]],x42,x43,x44,x45)).bind fun(x46,x47,x48,x49) =>
   (Of (x46,x47,x48,x49)).bind fun(x50,x51,x52,x53,x54) =>
    chk (decide (w31.length+1≤Be)&&decide ((w31.length:Int)=(w31.length:Int))) (
    (Ba ([[41]],x51,x52,x53,x54)).bind fun(x55,x56,x57,x58) =>
     rec (x55,x56,x57,x58,w26,w27,w28,w29,w30,(w31++[x50]),w32,w33,w34,w35,w36,w37,w38,w39,w40,w41,w42,w43))) (
   kx (.exit 2) (x42,x43,x44,x45,w26,w27,w28,w29,w30,w31,w32,w33,w34,w35,w36,w37,w38,w39,w40,w41,w42,w43))) (
  kx (.exit 2) (w22,w23,w24,w25,w26,w27,w28,w29,w30,w31,w32,w33,w34,w35,w36,w37,w38,w39,w40,w41,w42,w43))
def Wx:Sig:=⟨95,[],[(0,.ptr 0 0),(1,.ptr 1 0)],[(0,.cells [.sl .tok false,.int .i64,.bool,.int .i64]),(1,.cells [.int .i64,.str,.str,.sl .col true,.sl .str false,.sl .expr true,.sl .exprs true,.sl .set true,.bool,.int .i64,.int .i64,.int .i64,.str,.str,.sl .expr false,.sl .str true,.sl .bool true,.int .i64])],2,2,0,[],[]⟩
abbrev I6:=List Tok×Int×Bool×Int×Int×Str×Str×List Col×List Str×List Xpr×List (List Xpr)×List SetE×Bool×Int×Int×Int×Str×Str×List Xpr×List Str×List Bool×Int
def Ac1{R:Type}(rec:I6→Option R) (kx:Ex→I6→Option R) (v:I6):Option R:=match v with
 |(w,w1,w2,w3,w4,w5,w6,w7,w8,w9,w10,w11,w12,w13,w14,w15,w16,w17,w18,w19,w20,w21) =>
 cond (!w2) (
  (Bh ([80,82,73,77,65,82,89],w,w1,w2,w3)).bind fun(x18,x19,x20,x21,x22) =>
  cond (!x18) (
   (Amd (x19,x20,x21,x22)).bind fun(x23,x24,x25,x26,x27) =>
   chk (decide (w7.length+1≤Be)) (
    (Ba ([[44]],x24,x25,x26,x27)).bind fun(x28,x29,x30,x31) =>
    rec (x28,x29,x30,x31,w4,w5,w6,(w7++[x23]),w8,w9,w10,w11,w12,w13,w14,w15,w16,w17,w18,w19,w20,w21))) (
   kx (.exit 0) (x19,x20,x21,x22,w4,w5,w6,w7,w8,w9,w10,w11,w12,w13,w14,w15,w16,w17,w18,w19,w20,w21))) (
  kx (.exit 0) (w,w1,w2,w3,w4,w5,w6,w7,w8,w9,w10,w11,w12,w13,w14,w15,w16,w17,w18,w19,w20,w21))
def F4(R:Type) (k:Nat):Px R:=⟨A7 ttL,glT,Aq [(120,Ao Fa E9 B5),(119,Ao Ds Du Ba),(117,Ao Dp Dv Bh),(161,Ao Lr Lk W7)],Ak [],Av [(4,Bc k Wx (Ac1)),(9,Bc k Wg (Ace))],tbl [(183,D6 Ac0 Aci Amd),(90,D6 Cn Cm Of)]⟩
theorem Aqq(R:Type) (k:Nat):∀(fr:List Fr) (rec:I6→Option R) (kx:Ex→I6→Option R) (v:I6),Bn (F4 R k) Wx (lp Tryz.f160 0) fr rec kx v=Ac1 rec kx v
 |fr,rec,kx,(w,w1,w2,w3,w4,w5,w6,w7,w8,w9,w10,w11,w12,w13,w14,w15,w16,w17,w18,w19,w20,w21)=>by kernel_rfl
theorem Ao4(R:Type) (k:Nat):∀(fr:List Fr) (rec:Js→Option R) (kx:Ex→Js→Option R) (v:Js),Bn (F4 R k) Wg (lp Tryz.f160 1) fr rec kx v=Ace rec kx v
 |fr,rec,kx,(w22,w23,w24,w25,w26,w27,w28,w29,w30,w31,w32,w33,w34,w35,w36,w37,w38,w39,w40,w41,w42,w43)=>by kernel_rfl
def Oj(k:Nat) (x:Ajd):Option (Ns):=match x with
 |(l,n,b,p,_,_,so,sc,ss,sl,sr,st,sh,wk,vk,vn,vs,wn,wl,sd,se,sm) =>
 (B5 (l,n,b,p)).bind fun(x,x1,x2,x3,x4) =>
  (Ba ([[40]],x1,x2,x3,x4)).bind fun(x5,x6,x7,x8) =>
  (Amd (x5,x6,x7,x8)).bind fun(x9,x10,x11,x12,x13) =>
   chk (decide (sc.length+1≤Be)) (
   (Ba ([[44]],x10,x11,x12,x13)).bind fun(x14,x15,x16,x17) =>
    A5 (fun rec=>Ac1 rec (fun e vz=>match vz with|(v,v1,v2,v3,v4,v5,v6,v7,_,v9,v10,v11,v12,v13,v14,v15,v16,v17,v18,v19,v20,v21)=>match e with
    |.exit 0 =>
     (Ba ([[75,69,89]],v,v1,v2,v3)).bind fun(x32,x33,x34,x35) =>
     (W7 (x32,x33,x34,x35)).bind fun(x36,x37,x38,x39,x40) =>
      A5 (fun rec=>Ace rec (fun e vz=>match vz with|(v22,v23,v24,v25,v26,v27,v28,v29,v30,v31,v32,v33,v34,v35,v36,v37,v38,v39,v40,v41,v42,v43)=>match e with
      |.exit 2 =>
       (Ba ([[41]],v22,v23,v24,v25)).bind fun(x59,x60,x61,x62) =>
       some (x59,x60,x61,x62,v26,v27,v28,v29,v30,v31,v32,v33,v34,v35,v36,v37,v38,v39,v40,v41,v42,v43)
      |_=>none)) k (x37,x38,x39,x40,v4,v5,v6,v7,x36,v9,v10,v11,v12,v13,v14,v15,v16,v17,v18,v19,v20,v21)
    |_=>none)) k (x14,x15,x16,x17,1,x,so,(sc++[x9]),ss,sl,sr,st,sh,wk,vk,vn,vs,wn,wl,sd,se,sm))
theorem Aze(k:Nat):∀(x:Ajd),C2 (F4 _ k) Tryz.f160 Pl Rg x some=Oj k x
 |(l,n,b,p,sk,sn,so,sc,ss,sl,sr,st,sh,wk,vk,vn,vs,wn,wl,sd,se,sm)=>by kernel_rfl
theorem Avc(k:Nat):FnLn Tryz.prog elT glT 160 Pl Rg (Oj k):=by
 refine Bk Tryz.func160 rfl (by kernel_rfl) follows (by kernel_rfl) (n:=2) (by kernel_rfl) (px:=F4 _ k) (fun cx hP hel hgl =>?_) (Aze k)
 have hp0:PxOk cx (F4 (Ns) k):=⟨fun t=>by rw [hP,hel];exact Au Al t,by rw [hgl];rfl⟩
 have hc0:Aj cx (F4 (Ns) k):=Ah rfl (Aa (A3 (by rw [hP,hel,hgl];exact Ip) (by kernel_rfl)) (Aa (A3 (by rw [hP,hel,hgl];exact Fn) (by kernel_rfl)) (Aa (A3 (by rw [hP,hel,hgl];exact Ei) (by kernel_rfl)) (Aa (A3 (by rw [hP,hel,hgl];exact Alo) (by kernel_rfl)) Ai))))
 have hq0:CallQOk cx (F4 (Ns) k):=Ab rfl rfl Af (Cs (Nm (by rw [hP,hel,hgl];exact A9p) (by kernel_rfl)) (Cs (Nm (by rw [hP,hel,hgl];exact Aho) (by kernel_rfl)) Ae))
 have hlptable_0:A6 cx (F4 (Ns) k) (lp Tryz.f160 0):=A8 hp0 hc0 hq0 (by rw [hP];exact follows) (k:=k) (s:=Wx) (step:=Ac1) (fun _ _=>by kernel_rfl) (by kernel_rfl) (Aqq _ k) (A0 (n:=0) (by kernel_rfl) Aw)
 have hlptable_1:A6 cx (F4 (Ns) k) (lp Tryz.f160 1):=A8 hp0 hc0 hq0 (by rw [hP];exact follows) (k:=k) (s:=Wg) (step:=Ace) (fun _ _=>by kernel_rfl) (by kernel_rfl) (Ao4 _ k) (A0 (n:=0) (by kernel_rfl) Aw)
 exact⟨hp0,hc0,hq0,(Cg (Cg Aw hlptable_0) hlptable_1)⟩
def Ahj:Ajd→Option Ns:=fun x=>Oj ((x.1.length+3)) x
theorem Azd:FnLn Tryz.prog elT glT 160 Pl Rg (Ahj):=FnLn.fin (ι:=Nat) (sg:=Pl) (so:=Rg) 0 (F:=fun k=>Oj k) (fun k=>Avc k) fun x _ _ hx=>⟨(x.1.length+3),hx⟩
def Ti:Sig:=⟨2,[],[(0,.ptr 0 0),(1,.ptr 1 0)],[(0,.cells [.sl .tok false,.int .i64,.bool,.int .i64]),(1,.cells [.int .i64,.str,.str,.sl .col true,.sl .str false,.sl .expr true,.sl .exprs true,.sl .set true,.bool,.int .i64,.int .i64,.int .i64,.str,.str,.sl .expr false,.sl .str true,.sl .bool true,.int .i64])],2,2,0,[],[]⟩
def T5:Sig:=⟨0,[],[],[(0,.cells [.sl .tok false,.int .i64,.bool,.int .i64]),(1,.cells [.int .i64,.str,.str,.sl .col true,.sl .str false,.sl .expr true,.sl .exprs true,.sl .set true,.bool,.int .i64,.int .i64,.int .i64,.str,.str,.sl .expr false,.sl .str true,.sl .bool true,.int .i64])],2,2,0,[],[]⟩
abbrev Aep:=List Tok×Int×Bool×Int×Int×Str×Str×List Col×List Str×List Xpr×List (List Xpr)×List SetE×Bool×Int×Int×Int×Str×Str×List Xpr×List Str×List Bool×Int
abbrev Ru:=List Tok×Int×Bool×Int×Int×Str×Str×List Col×List Str×List Xpr×List (List Xpr)×List SetE×Bool×Int×Int×Int×Str×Str×List Xpr×List Str×List Bool×Int
def Np(R:Type):Px R:=⟨A7 ttL,glT,Aq [(117,Ao Dp Dv Bh),(160,Ao Pl Rg Ahj),(119,Ao Ds Du Ba),(120,Ao Fa E9 B5),(161,Ao Lr Lk W7)],Ak [],Av [],tbl []⟩
def S6(x:Aep):Option (Ru):=match x with
 |(l,n,b,p,sk,sn,so,sc,ss,sl,sr,st,sh,wk,vk,vn,vs,wn,wl,sd,se,sm) =>
 (Bh ([84,65,66,76,69],l,n,b,p)).bind fun(x,x1,x2,x3,x4) =>
  cond (x) (
  (Ahj (x1,x2,x3,x4,sk,sn,so,sc,ss,sl,sr,st,sh,wk,vk,vn,vs,wn,wl,sd,se,sm)).bind fun(x5,x6,x7,x8,x9,x10,x11,x12,x13,x14,x15,x16,x17,x18,x19,x20,x21,x22,x23,x24,x25,x26) =>
   some (x5,x6,x7,x8,x9,x10,x11,x12,x13,x14,x15,x16,x17,x18,x19,x20,x21,x22,x23,x24,x25,x26)) (
  (Ba ([[73,78,68,69,88]],x1,x2,x3,x4)).bind fun(x27,x28,x29,x30) =>
   (B5 (x27,x28,x29,x30)).bind fun(x31,x32,x33,x34,x35) =>
   (Ba ([[79,78]],x32,x33,x34,x35)).bind fun(x36,x37,x38,x39) =>
    (B5 (x36,x37,x38,x39)).bind fun(x40,x41,x42,x43,x44) =>
    (W7 (x41,x42,x43,x44)).bind fun(x45,x46,x47,x48,x49) =>
     some (x46,x47,x48,x49,3,x31,x40,sc,x45,sl,sr,st,sh,wk,vk,vn,vs,wn,wl,sd,se,sm))
theorem Aty:∀(x:Aep),C2 (Np _) Tryz.f118 Ti T5 x some=S6 x
 |(l,n,b,p,sk,sn,so,sc,ss,sl,sr,st,sh,wk,vk,vn,vs,wn,wl,sd,se,sm)=>by kernel_rfl
theorem Aq0:FnLn Tryz.prog elT glT 118 Ti T5 (S6):=by
 refine Bk Tryz.func118 rfl (by kernel_rfl) follows (by kernel_rfl) (n:=0) (by kernel_rfl) (px:=Np _) (fun cx hP hel hgl =>?_) (Aty)
 have hp0:PxOk cx (Np (Ru)):=⟨fun t=>by rw [hP,hel];exact Au Al t,by rw [hgl];rfl⟩
 have hc0:Aj cx (Np (Ru)):=Ah rfl (Aa (A3 (by rw [hP,hel,hgl];exact Ei) (by kernel_rfl)) (Aa (A3 (by rw [hP,hel,hgl];exact Azd) (by kernel_rfl)) (Aa (A3 (by rw [hP,hel,hgl];exact Fn) (by kernel_rfl)) (Aa (A3 (by rw [hP,hel,hgl];exact Ip) (by kernel_rfl)) (Aa (A3 (by rw [hP,hel,hgl];exact Alo) (by kernel_rfl)) Ai)))))
 have hq0:CallQOk cx (Np (Ru)):=Ab rfl rfl Af Ae
 exact⟨hp0,hc0,hq0,Aw⟩
def Aew:Aep→Option Ru:=fun x=>S6 x
theorem Atb:FnLn Tryz.prog elT glT 118 Ti T5 (Aew):=Aq0
def Ll:Sig:=⟨2,[],[(0,.ptr 0 0),(1,.ptr 1 0)],[(0,.cells [.sl .tok false,.int .i64,.bool,.int .i64]),(1,.cells [.int .i64,.str,.str,.sl .col true,.sl .str false,.sl .expr true,.sl .exprs true,.sl .set true,.bool,.int .i64,.int .i64,.int .i64,.str,.str,.sl .expr false,.sl .str true,.sl .bool true,.int .i64])],2,2,0,[],[]⟩
def Lq:Sig:=⟨0,[],[],[(0,.cells [.sl .tok false,.int .i64,.bool,.int .i64]),(1,.cells [.int .i64,.str,.str,.sl .col true,.sl .str false,.sl .expr true,.sl .exprs true,.sl .set true,.bool,.int .i64,.int .i64,.int .i64,.str,.str,.sl .expr false,.sl .str true,.sl .bool true,.int .i64])],2,2,0,[],[]⟩
abbrev Aii:=List Tok×Int×Bool×Int×Int×Str×Str×List Col×List Str×List Xpr×List (List Xpr)×List SetE×Bool×Int×Int×Int×Str×Str×List Xpr×List Str×List Bool×Int
abbrev Xo:=List Tok×Int×Bool×Int×Int×Str×Str×List Col×List Str×List Xpr×List (List Xpr)×List SetE×Bool×Int×Int×Int×Str×Str×List Xpr×List Str×List Bool×Int
def P3(R:Type):Px R:=⟨A7 ttL,glT,Aq [(117,Ao Dp Dv Bh),(90,Ao Cn Cm Of)],Ak [],Av [],tbl []⟩
def Xc(x:Aii):Option (Xo):=match x with
 |(l,n,b,p,sk,sn,so,sc,ss,sl,sr,st,sh,wk,vk,vn,vs,wn,wl,sd,se,sm) =>
 let j:=fun(p2:Bool) (q4:List Tok) (q5:Int) (q6:Bool) (q7:Int) =>
  cond (p2) (
  (Of (q4,q5,q6,q7)).bind fun(x5,x6,x7,x8,x9) =>
   some (x6,x7,x8,x9,sk,sn,so,sc,ss,sl,sr,st,true,x5.kind,x5.v.kind,x5.v.n,x5.v.s,x5.name,x5.l,sd,se,sm)) (
  some (q4,q5,q6,q7,sk,sn,so,sc,ss,sl,sr,st,sh,wk,vk,vn,vs,wn,wl,sd,se,sm))
 cond (!b) (
  (Bh ([87,72,69,82,69],l,n,b,p)).bind fun(x,x1,x2,x3,x4) =>
  j x x1 x2 x3 x4) (
  j false l n b p)
theorem A24:∀(x:Aii),C2 (P3 _) Tryz.f125 Ll Lq x some=Xc x
 |(l,n,b,p,sk,sn,so,sc,ss,sl,sr,st,sh,wk,vk,vn,vs,wn,wl,sd,se,sm)=>by kernel_rfl
theorem Asq:FnLn Tryz.prog elT glT 125 Ll Lq (Xc):=by
 refine Bk Tryz.func125 rfl (by kernel_rfl) follows (by kernel_rfl) (n:=0) (by kernel_rfl) (px:=P3 _) (fun cx hP hel hgl =>?_) (A24)
 have hp0:PxOk cx (P3 (Xo)):=⟨fun t=>by rw [hP,hel];exact Au Al t,by rw [hgl];rfl⟩
 have hc0:Aj cx (P3 (Xo)):=Ah rfl (Aa (A3 (by rw [hP,hel,hgl];exact Ei) (by kernel_rfl)) (Aa (A3 (by rw [hP,hel,hgl];exact Aho) (by kernel_rfl)) Ai))
 have hq0:CallQOk cx (P3 (Xo)):=Ab rfl rfl Af Ae
 exact⟨hp0,hc0,hq0,Aw⟩
def Ni:Aii→Option Xo:=fun x=>Xc x
theorem Adp:FnLn Tryz.prog elT glT 125 Ll Lq (Ni):=Asq
def M6:Sig:=⟨2,[],[(0,.ptr 0 0),(1,.ptr 1 0)],[(0,.cells [.sl .tok false,.int .i64,.bool,.int .i64]),(1,.cells [.int .i64,.str,.str,.sl .col true,.sl .str false,.sl .expr true,.sl .exprs true,.sl .set true,.bool,.int .i64,.int .i64,.int .i64,.str,.str,.sl .expr false,.sl .str true,.sl .bool true,.int .i64])],2,2,0,[],[]⟩
def L6:Sig:=⟨0,[],[],[(0,.cells [.sl .tok false,.int .i64,.bool,.int .i64]),(1,.cells [.int .i64,.str,.str,.sl .col true,.sl .str false,.sl .expr true,.sl .exprs true,.sl .set true,.bool,.int .i64,.int .i64,.int .i64,.str,.str,.sl .expr false,.sl .str true,.sl .bool true,.int .i64])],2,2,0,[],[]⟩
abbrev Adx:=List Tok×Int×Bool×Int×Int×Str×Str×List Col×List Str×List Xpr×List (List Xpr)×List SetE×Bool×Int×Int×Int×Str×Str×List Xpr×List Str×List Bool×Int
abbrev D0:=List Tok×Int×Bool×Int×Int×Str×Str×List Col×List Str×List Xpr×List (List Xpr)×List SetE×Bool×Int×Int×Int×Str×Str×List Xpr×List Str×List Bool×Int
def Uf:Sig:=⟨19,[],[(0,.ptr 0 0),(1,.fn 163 [.ptr 2 0,.ptr 3 0])],[(0,.cells [.sl .tok false,.int .i64,.bool,.int .i64]),(1,.cells [.int .i64,.str,.str,.sl .col true,.sl .str false,.sl .expr true,.sl .exprs true,.sl .set true,.bool,.int .i64,.int .i64,.int .i64,.str,.str,.sl .expr false,.sl .str true,.sl .bool true,.int .i64]),(2,.fx [.ptr 0 0]),(3,.fx [.ptr 1 0])],80,80,400,[],[]⟩
abbrev Fx:=List Tok×Int×Bool×Int×Int×Str×Str×List Col×List Str×List Xpr×List (List Xpr)×List SetE×Bool×Int×Int×Int×Str×Str×List Xpr×List Str×List Bool×Int
def X9{R:Type}(rec:Fx→Option R) (kx:Ex→Fx→Option R) (v:Fx):Option R:=match v with
 |(w,w1,w2,w3,w4,w5,w6,w7,w8,w9,w10,w11,w12,w13,w14,w15,w16,w17,w18,w19,w20,w21) =>
 cond (!w2) (
  (Bh ([44],w,w1,w2,w3)).bind fun(x23,x24,x25,x26,x27) =>
  cond (x23) (
   (B5 (x24,x25,x26,x27)).bind fun(x28,x29,x30,x31,x32) =>
   (Ba ([[61]],x29,x30,x31,x32)).bind fun(x33,x34,x35,x36) =>
    (Of (x33,x34,x35,x36)).bind fun(x37,x38,x39,x40,x41) =>
    chk (decide (w11.length+1≤Be)) (
     rec (x38,x39,x40,x41,w4,w5,w6,w7,w8,w9,w10,(w11++[(SetE.mk x28 (Ut x37))]),w12,w13,w14,w15,w16,w17,w18,w19,w20,w21))) (
   kx (.exit 0) (x24,x25,x26,x27,w4,w5,w6,w7,w8,w9,w10,w11,w12,w13,w14,w15,w16,w17,w18,w19,w20,w21))) (
  kx (.exit 0) (w,w1,w2,w3,w4,w5,w6,w7,w8,w9,w10,w11,w12,w13,w14,w15,w16,w17,w18,w19,w20,w21))
def H9(R:Type) (_k:Nat):Px R:=⟨A7 ttL,glT,Aq [(120,Ao Fa E9 B5),(119,Ao Ds Du Ba),(90,Ao Cn Cm Of)],Ak [],Av [],tbl []⟩
noncomputable def F8 (R:Type) (k:Nat):Px R:=⟨A7 ttL,glT,Aq [(117,Ao Dp Dv Bh),(163,Bb 120 600 (H9 R k) Tryz.f163)],Ak [],Av [(1,Bc k Uf (X9))],tbl []⟩
noncomputable def M4 (R:Type) (k:Nat):Px R:=⟨A7 ttL,glT,Aq [(119,Ao Ds Du Ba),(125,Ao Ll Lq Ni),(121,Bb 80 400 (F8 R k) Tryz.f121)],Ak [],Av [],tbl [(120,D6 Fa E9 B5)]⟩
theorem Anl(R:Type) (k:Nat):∀(fr:List Fr) (rec:Fx→Option R) (kx:Ex→Fx→Option R) (v:Fx),Bn (F8 R k) Uf (lp Tryz.f121 0) fr rec kx v=X9 rec kx v
 |fr,rec,kx,(w,w1,w2,w3,w4,w5,w6,w7,w8,w9,w10,w11,w12,w13,w14,w15,w16,w17,w18,w19,w20,w21)=>by kernel_rfl
def Ld(k:Nat) (x:Adx):Option (D0):=match x with
 |(l,n,b,p,_,_,so,sc,ss,sl,sr,st,sh,wk,vk,vn,vs,wn,wl,sd,se,sm) =>
 (B5 (l,n,b,p)).bind fun(x,x1,x2,x3,x4) =>
  (Ba ([[83,69,84]],x1,x2,x3,x4)).bind fun(x5,x6,x7,x8) =>
  (B5 (x5,x6,x7,x8)).bind fun(x9,x10,x11,x12,x13) =>
   (Ba ([[61]],x10,x11,x12,x13)).bind fun(x14,x15,x16,x17) =>
   (Of (x14,x15,x16,x17)).bind fun(x18,x19,x20,x21,x22) =>
    chk (decide (st.length+1≤Be)) (
    A5 (fun rec=>X9 rec (fun e vz=>match vz with|(v,v1,v2,v3,v4,v5,v6,v7,v8,v9,v10,v11,v12,v13,v14,v15,v16,v17,v18,v19,v20,v21)=>match e with
     |.exit 0 =>
     (Ni (v,v1,v2,v3,v4,v5,v6,v7,v8,v9,v10,v11,v12,v13,v14,v15,v16,v17,v18,v19,v20,v21)).bind fun(x42,x43,x44,x45,x46,x47,x48,x49,x50,x51,x52,x53,x54,x55,x56,x57,x58,x59,x60,x61,x62,x63) =>
      some (x42,x43,x44,x45,x46,x47,x48,x49,x50,x51,x52,x53,x54,x55,x56,x57,x58,x59,x60,x61,x62,x63)
     |_=>none)) k (x19,x20,x21,x22,6,x,so,sc,ss,sl,sr,(st++[(SetE.mk x9 (Ut x18))]),sh,wk,vk,vn,vs,wn,wl,sd,se,sm))
theorem Avd(k:Nat):∀(x:Adx),C2 (M4 _ k) Tryz.f124 M6 L6 x some=Ld k x
 |(l,n,b,p,sk,sn,so,sc,ss,sl,sr,st,sh,wk,vk,vn,vs,wn,wl,sd,se,sm)=>by kernel_rfl
theorem Aow(k:Nat):FnLn Tryz.prog elT glT 124 M6 L6 (Ld k):=by
 refine Bk Tryz.func124 rfl (by kernel_rfl) follows (by kernel_rfl) (n:=0) (by kernel_rfl) (px:=M4 _ k) (fun cx hP hel hgl =>?_) (Avd k)
 have hp2:PxOk cx (H9 (D0) k):=⟨fun t=>by rw [hP,hel];exact Au Al t,by rw [hgl];rfl⟩
 have hc2:Aj cx (H9 (D0) k):=Ah rfl (Aa (A3 (by rw [hP,hel,hgl];exact Ip) (by kernel_rfl)) (Aa (A3 (by rw [hP,hel,hgl];exact Fn) (by kernel_rfl)) (Aa (A3 (by rw [hP,hel,hgl];exact Aho) (by kernel_rfl)) Ai)))
 have hq2:CallQOk cx (H9 (D0) k):=Ab rfl rfl Af Ae
 have hp1:PxOk cx (F8 (D0) k):=⟨fun t=>by rw [hP,hel];exact Au Al t,by rw [hgl];rfl⟩
 have hc1:Aj cx (F8 (D0) k):=Ah rfl (Aa (A3 (by rw [hP,hel,hgl];exact Ei) (by kernel_rfl)) (Aa (Bm hp2 hc2 hq2 (by rw [hP];exact follows) (by rw [hP];exact Tryz.func163) rfl (by kernel_rfl) (by kernel_rfl) (n:=0) (by kernel_rfl) (Aw)) Ai))
 have hq1:CallQOk cx (F8 (D0) k):=Ab rfl rfl Af Ae
 have hlpupdate_0:A6 cx (F8 (D0) k) (lp Tryz.f121 0):=A8 hp1 hc1 hq1 (by rw [hP];exact follows) (k:=k) (s:=Uf) (step:=X9) (fun _ _=>by kernel_rfl) (by kernel_rfl) (Anl _ k) (A0 (n:=0) (by kernel_rfl) Aw)
 have hp0:PxOk cx (M4 (D0) k):=⟨fun t=>by rw [hP,hel];exact Au Al t,by rw [hgl];rfl⟩
 have hc0:Aj cx (M4 (D0) k):=Ah rfl (Aa (A3 (by rw [hP,hel,hgl];exact Fn) (by kernel_rfl)) (Aa (A3 (by rw [hP,hel,hgl];exact Adp) (by kernel_rfl)) (Aa (Bm hp1 hc1 hq1 (by rw [hP];exact follows) (by rw [hP];exact Tryz.func121) rfl (by kernel_rfl) (by kernel_rfl) (n:=1) (by kernel_rfl) ((Cg Aw hlpupdate_0))) Ai)))
 have hq0:CallQOk cx (M4 (D0) k):=Ab rfl rfl Af (Cs (Nm (by rw [hP,hel,hgl];exact Ip) (by kernel_rfl)) Ae)
 exact⟨hp0,hc0,hq0,Aw⟩
def Ad4:Adx→Option D0:=fun x=>Ld ((x.1.length+3)) x
theorem Auk:FnLn Tryz.prog elT glT 124 M6 L6 (Ad4):=FnLn.fin (ι:=Nat) (sg:=M6) (so:=L6) 0 (F:=fun k=>Ld k) (fun k=>Aow k) fun x _ _ hx=>⟨(x.1.length+3),hx⟩
end Go.Proofs.YthndhaolemgbdaaGreatDoor
namespace Go.Proofs.YthndhaolemgbdaaGreatDoor
open Go.Ax
def Kx:Sig:=⟨2,[],[(0,.ptr 0 0),(1,.ptr 1 0)],[(0,.cells [.sl .tok false,.int .i64,.bool,.int .i64]),(1,.cells [.int .i64,.str,.str,.sl .col true,.sl .str false,.sl .expr true,.sl .exprs true,.sl .set true,.bool,.int .i64,.int .i64,.int .i64,.str,.str,.sl .expr false,.sl .str true,.sl .bool true,.int .i64])],2,2,0,[],[]⟩
def Kq:Sig:=⟨0,[],[],[(0,.cells [.sl .tok false,.int .i64,.bool,.int .i64]),(1,.cells [.int .i64,.str,.str,.sl .col true,.sl .str false,.sl .expr true,.sl .exprs true,.sl .set true,.bool,.int .i64,.int .i64,.int .i64,.str,.str,.sl .expr false,.sl .str true,.sl .bool true,.int .i64])],2,2,0,[],[]⟩
abbrev Aap:=List Tok×Int×Bool×Int×Int×Str×Str×List Col×List Str×List Xpr×List (List Xpr)×List SetE×Bool×Int×Int×Int×Str×Str×List Xpr×List Str×List Bool×Int
abbrev C7:=List Tok×Int×Bool×Int×Int×Str×Str×List Col×List Str×List Xpr×List (List Xpr)×List SetE×Bool×Int×Int×Int×Str×Str×List Xpr×List Str×List Bool×Int
def O6:Sig:=⟨19,[],[(0,.ptr 0 0),(1,.fn 164 [.ptr 3 0,.ptr 2 0])],[(0,.cells [.sl .tok false,.int .i64,.bool,.int .i64]),(1,.cells [.int .i64,.str,.str,.sl .col true,.sl .str false,.sl .expr true,.sl .exprs true,.sl .set true,.bool,.int .i64,.int .i64,.int .i64,.str,.str,.sl .expr false,.sl .str true,.sl .bool true,.int .i64]),(2,.fx [.ptr 0 0]),(3,.fx [.ptr 1 0])],80,80,400,[],[]⟩
abbrev Ez:=List Tok×Int×Bool×Int×Int×Str×Str×List Col×List Str×List Xpr×List (List Xpr)×List SetE×Bool×Int×Int×Int×Str×Str×List Xpr×List Str×List Bool×Int
def R9{R:Type}(rec:Ez→Option R) (kx:Ex→Ez→Option R) (v:Ez):Option R:=match v with
 |(w,w1,w2,w3,w4,w5,w6,w7,w8,w9,w10,w11,w12,w13,w14,w15,w16,w17,w18,w19,w20,w21) =>
 cond (!w2) (
  (Bh ([44],w,w1,w2,w3)).bind fun(x90,x91,x92,x93,x94) =>
  cond (x90) (
   (B5 (x91,x92,x93,x94)).bind fun(x95,x96,x97,x98,x99) =>
   chk (decide (w19.length+1≤Be)) (
    cond (!x98) (
    (Bh ([68,69,83,67],x96,x97,x98,x99)).bind fun(x100,x101,x102,x103,x104) =>
     cond (!x103) (
     cond (!x100) (
      (Bh ([65,83,67],x101,x102,x103,x104)).bind fun(_,x121,x122,x123,x124) =>
      chk (decide (w20.length+1≤Be)) (
       rec (x121,x122,x123,x124,w4,w5,w6,w7,w8,w9,w10,w11,w12,w13,w14,w15,w16,w17,w18,(w19++[x95]),(w20++[x100]),w21))) (
      chk (decide (w20.length+1≤Be)) (
      rec (x101,x102,x103,x104,w4,w5,w6,w7,w8,w9,w10,w11,w12,w13,w14,w15,w16,w17,w18,(w19++[x95]),(w20++[x100]),w21)))) (
     chk (decide (w20.length+1≤Be)) (
      rec (x101,x102,x103,x104,w4,w5,w6,w7,w8,w9,w10,w11,w12,w13,w14,w15,w16,w17,w18,(w19++[x95]),(w20++[x100]),w21)))) (
    cond (!x98) (
     (Bh ([65,83,67],x96,x97,x98,x99)).bind fun(_,x131,x132,x133,x134) =>
     chk (decide (w20.length+1≤Be)) (
      rec (x131,x132,x133,x134,w4,w5,w6,w7,w8,w9,w10,w11,w12,w13,w14,w15,w16,w17,w18,(w19++[x95]),(w20++[false]),w21))) (
     chk (decide (w20.length+1≤Be)) (
     rec (x96,x97,x98,x99,w4,w5,w6,w7,w8,w9,w10,w11,w12,w13,w14,w15,w16,w17,w18,(w19++[x95]),(w20++[false]),w21)))))) (
   kx (.exit 0) (x91,x92,x93,x94,w4,w5,w6,w7,w8,w9,w10,w11,w12,w13,w14,w15,w16,w17,w18,w19,w20,w21))) (
  kx (.exit 0) (w,w1,w2,w3,w4,w5,w6,w7,w8,w9,w10,w11,w12,w13,w14,w15,w16,w17,w18,w19,w20,w21))
def Gl(R:Type) (_k:Nat):Px R:=⟨A7 ttL,glT,Aq [(117,Ao Dp Dv Bh)],Ak [],Av [],tbl [(120,D6 Fa E9 B5)]⟩
noncomputable def Ff (R:Type) (k:Nat):Px R:=⟨A7 ttL,glT,Aq [(117,Ao Dp Dv Bh),(164,Bb 120 600 (Gl R k) Tryz.f164)],Ak [],Av [(1,Bc k O6 (R9))],tbl []⟩
noncomputable def Ko (R:Type) (k:Nat):Px R:=⟨A7 ttL,glT,Aq [(117,Ao Dp Dv Bh),(119,Ao Ds Du Ba),(125,Ao Ll Lq Ni),(158,Ao Ik Ii Eg),(127,Ao F7 F0 C8),(121,Bb 80 400 (Ff R k) Tryz.f121)],Ak [],Av [],tbl [(123,D6 Lu L0 Rp),(120,D6 Fa E9 B5),(159,D6 Ky Kf Cz)]⟩
theorem Aka(R:Type) (k:Nat):∀(fr:List Fr) (rec:Ez→Option R) (kx:Ex→Ez→Option R) (v:Ez),Bn (Ff R k) O6 (lp Tryz.f121 0) fr rec kx v=R9 rec kx v
 |fr,rec,kx,(w,w1,w2,w3,w4,w5,w6,w7,w8,w9,w10,w11,w12,w13,w14,w15,w16,w17,w18,w19,w20,w21)=>by kernel_rfl
def Kc(k:Nat) (x:Aap):Option (C7):=match x with
 |(l,n,b,p,_,_,so,sc,ss,sl,sr,st,sh,wk,vk,vn,vs,wn,wl,sd,se,_) =>
 let j3:=fun(q:List Tok) (q1:Int) (q2:Bool) (q3:Int) (q4:List Xpr) =>
  (Ba ([[70,82,79,77]],q,q1,q2,q3)).bind fun(x10,x11,x12,x13) =>
  (B5 (x10,x11,x12,x13)).bind fun(x14,x15,x16,x17,x18) =>
   (Ni (x15,x16,x17,x18,8,x14,so,sc,ss,q4,sr,st,sh,wk,vk,vn,vs,wn,wl,sd,se,(-1))).bind fun(x19,x20,x21,x22,x23,x24,x25,x26,x27,x28,x29,x30,x31,x32,x33,x34,x35,x36,x37,x38,x39,x40) =>
   let j2:=fun(q161:List Tok) (q162:Int) (q163:Bool) (q164:Int) (q165:Int) (q166:Str) (q167:Str) (q168:List Col) (q169:List Str) (q170:List Xpr) (q171:List (List Xpr)) (q172:List SetE) (q173:Bool) (q174:Int) (q175:Int) (q176:Int) (q177:Str) (q178:Str) (q179:List Xpr) (q180:List Str) (q181:List Bool) (q182:Int) =>
    cond (!q163) (
    (Bh ([76,73,77,73,84],q161,q162,q163,q164)).bind fun(x179,x180,x181,x182,x183) =>
     cond (x179) (
     (Eg (x180,x181,x182,x183)).bind fun(x208,x209,x210,x211,x212) =>
      cond (!decide (x208.kind=3)) (
      (C8 (x209,x210,x211,x212)).bind fun(x213,x214,x215,x216) =>
       (Cz (x213,x214,x215,x216)).bind fun(x222,x223,x224,x225,x226) =>
       some (x223,x224,x225,x226,q165,q166,q167,q168,q169,q170,q171,q172,q173,q174,q175,q176,q177,q178,q179,q180,q181,x222.n)) (
      (Cz (x209,x210,x211,x212)).bind fun(x227,x228,x229,x230,x231) =>
       some (x228,x229,x230,x231,q165,q166,q167,q168,q169,q170,q171,q172,q173,q174,q175,q176,q177,q178,q179,q180,q181,x227.n))) (
     some (x180,x181,x182,x183,q165,q166,q167,q168,q169,q170,q171,q172,q173,q174,q175,q176,q177,q178,q179,q180,q181,q182))) (
    some (q161,q162,q163,q164,q165,q166,q167,q168,q169,q170,q171,q172,q173,q174,q175,q176,q177,q178,q179,q180,q181,q182))
   cond (!x21) (
    (Bh ([79,82,68,69,82],x19,x20,x21,x22)).bind fun(x41,x42,x43,x44,x45) =>
    cond (x41) (
     (Ba ([[66,89]],x42,x43,x44,x45)).bind fun(x135,x136,x137,x138) =>
     (B5 (x135,x136,x137,x138)).bind fun(x139,x140,x141,x142,x143) =>
      let j1:=fun(q156:List Tok) (q157:Int) (q158:Bool) (q159:Int) (q160:List Bool) =>
      A5 (fun rec=>R9 rec (fun e vz=>match vz with|(v22,v23,v24,v25,v26,v27,v28,v29,v30,v31,v32,v33,v34,v35,v36,v37,v38,v39,v40,v41,v42,v43)=>match e with
       |.exit 0 =>
       j2 v22 v23 v24 v25 v26 v27 v28 v29 v30 v31 v32 v33 v34 v35 v36 v37 v38 v39 v40 v41 v42 v43
       |_=>none)) k (q156,q157,q158,q159,x23,x24,x25,x26,x27,x28,x29,x30,x31,x32,x33,x34,x35,x36,x37,(x38++[x139]),q160,x40)
      chk (decide (x38.length+1≤Be)) (
      cond (!x142) (
       (Bh ([68,69,83,67],x140,x141,x142,x143)).bind fun(x144,x145,x146,x147,x148) =>
       cond (!x147) (
        cond (!x144) (
        (Bh ([65,83,67],x145,x146,x147,x148)).bind fun(_,x165,x166,x167,x168) =>
         chk (decide (x39.length+1≤Be)) (
         j1 x165 x166 x167 x168 (x39++[x144]))) (
        chk (decide (x39.length+1≤Be)) (
         j1 x145 x146 x147 x148 (x39++[x144])))) (
        chk (decide (x39.length+1≤Be)) (
        j1 x145 x146 x147 x148 (x39++[x144])))) (
       cond (!x142) (
       (Bh ([65,83,67],x140,x141,x142,x143)).bind fun(_,x175,x176,x177,x178) =>
        chk (decide (x39.length+1≤Be)) (
        j1 x175 x176 x177 x178 (x39++[false]))) (
       chk (decide (x39.length+1≤Be)) (
        j1 x140 x141 x142 x143 (x39++[false])))))) (
     j2 x42 x43 x44 x45 x23 x24 x25 x26 x27 x28 x29 x30 x31 x32 x33 x34 x35 x36 x37 x38 x39 x40)) (
    j2 x19 x20 x21 x22 x23 x24 x25 x26 x27 x28 x29 x30 x31 x32 x33 x34 x35 x36 x37 x38 x39 x40)
 (Bh ([42],l,n,b,p)).bind fun(x,x1,x2,x3,x4) =>
  cond (!x) (
  (Rp (x1,x2,x3,x4)).bind fun(x5,x6,x7,x8,x9) =>
   j3 x6 x7 x8 x9 x5) (
  j3 x1 x2 x3 x4 sl)
theorem Aqj(k:Nat):∀(x:Aap),C2 (Ko _ k) Tryz.f126 Kx Kq x some=Kc k x
 |(l,n,b,p,sk,sn,so,sc,ss,sl,sr,st,sh,wk,vk,vn,vs,wn,wl,sd,se,sm)=>by kernel_rfl
theorem Aob(k:Nat):FnLn Tryz.prog elT glT 126 Kx Kq (Kc k):=by
 refine Bk Tryz.func126 rfl (by kernel_rfl) follows (by kernel_rfl) (n:=0) (by kernel_rfl) (px:=Ko _ k) (fun cx hP hel hgl =>?_) (Aqj k)
 have hp2:PxOk cx (Gl (C7) k):=⟨fun t=>by rw [hP,hel];exact Au Al t,by rw [hgl];rfl⟩
 have hc2:Aj cx (Gl (C7) k):=Ah rfl (Aa (A3 (by rw [hP,hel,hgl];exact Ei) (by kernel_rfl)) Ai)
 have hq2:CallQOk cx (Gl (C7) k):=Ab rfl rfl Af (Cs (Nm (by rw [hP,hel,hgl];exact Ip) (by kernel_rfl)) Ae)
 have hp1:PxOk cx (Ff (C7) k):=⟨fun t=>by rw [hP,hel];exact Au Al t,by rw [hgl];rfl⟩
 have hc1:Aj cx (Ff (C7) k):=Ah rfl (Aa (A3 (by rw [hP,hel,hgl];exact Ei) (by kernel_rfl)) (Aa (Bm hp2 hc2 hq2 (by rw [hP];exact follows) (by rw [hP];exact Tryz.func164) rfl (by kernel_rfl) (by kernel_rfl) (n:=0) (by kernel_rfl) (Aw)) Ai))
 have hq1:CallQOk cx (Ff (C7) k):=Ab rfl rfl Af Ae
 have hlpselects_0:A6 cx (Ff (C7) k) (lp Tryz.f121 0):=A8 hp1 hc1 hq1 (by rw [hP];exact follows) (k:=k) (s:=O6) (step:=R9) (fun _ _=>by kernel_rfl) (by kernel_rfl) (Aka _ k) (A0 (n:=0) (by kernel_rfl) Aw)
 have hp0:PxOk cx (Ko (C7) k):=⟨fun t=>by rw [hP,hel];exact Au Al t,by rw [hgl];rfl⟩
 have hc0:Aj cx (Ko (C7) k):=Ah rfl (Aa (A3 (by rw [hP,hel,hgl];exact Ei) (by kernel_rfl)) (Aa (A3 (by rw [hP,hel,hgl];exact Fn) (by kernel_rfl)) (Aa (A3 (by rw [hP,hel,hgl];exact Adp) (by kernel_rfl)) (Aa (A3 (by rw [hP,hel,hgl];exact P7) (by kernel_rfl)) (Aa (A3 (by rw [hP,hel,hgl];exact L3) (by kernel_rfl)) (Aa (Bm hp1 hc1 hq1 (by rw [hP];exact follows) (by rw [hP];exact Tryz.func121) rfl (by kernel_rfl) (by kernel_rfl) (n:=1) (by kernel_rfl) ((Cg Aw hlpselects_0))) Ai))))))
 have hq0:CallQOk cx (Ko (C7) k):=Ab rfl rfl Af (Cs (Nm (by rw [hP,hel,hgl];exact Alf) (by kernel_rfl)) (Cs (Nm (by rw [hP,hel,hgl];exact Ip) (by kernel_rfl)) (Cs (Nm (by rw [hP,hel,hgl];exact Vw) (by kernel_rfl)) Ae)))
 exact⟨hp0,hc0,hq0,Aw⟩
def Zt:Aap→Option C7:=fun x=>Kc ((x.1.length+3)) x
theorem Apx:FnLn Tryz.prog elT glT 126 Kx Kq (Zt):=FnLn.fin (ι:=Nat) (sg:=Kx) (so:=Kq) 0 (F:=fun k=>Kc k) (fun k=>Aob k) fun x _ _ hx=>⟨(x.1.length+3),hx⟩
def Vb:Sig:=⟨1,[],[(0,.ptr 0 0)],[(0,.cells [.sl .tok false,.int .i64,.bool,.int .i64])],1,1,0,[],[]⟩
def V5:Sig:=⟨1,[(0,.sv .stmt)],[],[(0,.cells [.sl .tok false,.int .i64,.bool,.int .i64])],1,1,0,[],[]⟩
abbrev An5:=List Tok×Int×Bool×Int
abbrev Gi:=Stm×List Tok×Int×Bool×Int
def Zu:Sig:=⟨19,[],[(0,.ptr 0 0),(1,.fn 122 [.ptr 1 0,.ptr 3 0])],[(0,.cells [.sl .tok false,.int .i64,.bool,.int .i64]),(1,.fx [.ptr 0 0]),(2,.one (.sv .stmt)),(3,.cells [.int .i64,.str,.str,.sl .col true,.sl .str true,.sl .expr true,.sl .exprs true,.sl .set true,.bool,.int .i64,.int .i64,.int .i64,.str,.str,.sl .expr true,.sl .str true,.sl .bool true,.int .i64])],80,80,400,[],[]⟩
abbrev I3:=List Tok×Int×Bool×Int×Stm×Int×Str×Str×List Col×List Str×List Xpr×List (List Xpr)×List SetE×Bool×Int×Int×Int×Str×Str×List Xpr×List Str×List Bool×Int
def Agj{R:Type}(rec:I3→Option R) (kx:Ex→I3→Option R) (v:I3):Option R:=match v with
 |(w,w1,w2,w3,w4,w5,w6,w7,w8,w9,w10,w11,w12,w13,w14,w15,w16,w17,w18,w19,w20,w21,w22) =>
 cond (!w2) (
  (Bh ([44],w,w1,w2,w3)).bind fun(x87,x88,x89,x90,x91) =>
  cond (x87) (
   (Ba ([[40]],x88,x89,x90,x91)).bind fun(x92,x93,x94,x95) =>
   (Rp (x92,x93,x94,x95)).bind fun(x96,x97,x98,x99,x100) =>
    chk (decide (w11.length+1≤Be)) (
    (Ba ([[41]],x97,x98,x99,x100)).bind fun(x101,x102,x103,x104) =>
     rec (x101,x102,x103,x104,w4,w5,w6,w7,w8,w9,w10,(w11++[x96]),w12,w13,w14,w15,w16,w17,w18,w19,w20,w21,w22))) (
   kx (.exit 0) (x88,x89,x90,x91,w4,w5,w6,w7,w8,w9,w10,w11,w12,w13,w14,w15,w16,w17,w18,w19,w20,w21,w22))) (
  kx (.exit 0) (w,w1,w2,w3,w4,w5,w6,w7,w8,w9,w10,w11,w12,w13,w14,w15,w16,w17,w18,w19,w20,w21,w22))
def La(R:Type) (_k:Nat):Px R:=⟨A7 ttL,glT,Aq [(119,Ao Ds Du Ba)],Ak [],Av [],tbl [(123,D6 Lu L0 Rp)]⟩
noncomputable def Jd (R:Type) (k:Nat):Px R:=⟨A7 ttL,glT,Aq [(117,Ao Dp Dv Bh),(122,Bb 120 600 (La R k) Tryz.f122)],Ak [],Av [(1,Bc k Zu (Agj))],tbl []⟩
noncomputable def Wm (R:Type) (k:Nat):Px R:=⟨A7 ttL,glT,Aq [(117,Ao Dp Dv Bh),(118,Ao Ti T5 Aew),(119,Ao Ds Du Ba),(120,Ao Fa E9 B5),(124,Ao M6 L6 Ad4),(125,Ao Ll Lq Ni),(126,Ao Kx Kq Zt),(127,Ao F7 F0 C8),(121,Bb 80 400 (Jd R k) Tryz.f121)],Ak [],Av [],tbl []⟩
theorem Auo(R:Type) (k:Nat):∀(fr:List Fr) (rec:I3→Option R) (kx:Ex→I3→Option R) (v:I3),Bn (Jd R k) Zu (lp Tryz.f121 0) fr rec kx v=Agj rec kx v
 |fr,rec,kx,(w,w1,w2,w3,w4,w5,w6,w7,w8,w9,w10,w11,w12,w13,w14,w15,w16,w17,w18,w19,w20,w21,w22)=>by kernel_rfl
def Sl(k:Nat) (x:An5):Option (Gi):=match x with
 |(l,n,b,p) =>
 (Bh ([67,82,69,65,84,69],l,n,b,p)).bind fun(x,x1,x2,x3,x4) =>
  cond (x) (
  (Aew (x1,x2,x3,x4,0,[],[],[],[],[],[],[],false,0,0,0,[],[],[],[],[],0)).bind fun(x5,x6,x7,x8,x9,x10,x11,x12,x13,x14,x15,x16,x17,x18,x19,x20,x21,x22,x23,x24,x25,x26) =>
   cond (!x7) (
   (Bh ([59],x5,x6,x7,x8)).bind fun(_,x200,x201,x202,x203) =>
    some ((Stm.mk x9 x10 x11 x12 x13 x14 x15 x16 x17 (Xpr.mk x18 ⟨x19,x20,x21⟩ x22 x23) x24 x25 x26),x200,x201,x202,x203)) (
   some ((Stm.mk x9 x10 x11 x12 x13 x14 x15 x16 x17 (Xpr.mk x18 ⟨x19,x20,x21⟩ x22 x23) x24 x25 x26),x5,x6,x7,x8))) (
  (Bh ([68,82,79,80],x1,x2,x3,x4)).bind fun(x27,x28,x29,x30,x31) =>
   cond (x27) (
   (Bh ([84,65,66,76,69],x28,x29,x30,x31)).bind fun(x32,x33,x34,x35,x36) =>
    cond (!x32) (
    (Ba ([[73,78,68,69,88]],x33,x34,x35,x36)).bind fun(x37,x38,x39,x40) =>
     (B5 (x37,x38,x39,x40)).bind fun(x46,x47,x48,x49,x50) =>
     cond (!x49) (
      (Bh ([59],x47,x48,x49,x50)).bind fun(_,x205,x206,x207,x208) =>
      some ((Stm.mk 4 x46 [] [] [] [] [] [] false (Xpr.mk 0 ⟨0,0,[]⟩ [] []) [] [] 0),x205,x206,x207,x208)) (
      some ((Stm.mk 4 x46 [] [] [] [] [] [] false (Xpr.mk 0 ⟨0,0,[]⟩ [] []) [] [] 0),x47,x48,x49,x50))) (
    (B5 (x33,x34,x35,x36)).bind fun(x51,x52,x53,x54,x55) =>
     cond (!x54) (
     (Bh ([59],x52,x53,x54,x55)).bind fun(_,x210,x211,x212,x213) =>
      some ((Stm.mk 2 x51 [] [] [] [] [] [] false (Xpr.mk 0 ⟨0,0,[]⟩ [] []) [] [] 0),x210,x211,x212,x213)) (
     some ((Stm.mk 2 x51 [] [] [] [] [] [] false (Xpr.mk 0 ⟨0,0,[]⟩ [] []) [] [] 0),x52,x53,x54,x55)))) (
   (Bh ([73,78,83,69,82,84],x28,x29,x30,x31)).bind fun(x56,x57,x58,x59,x60) =>
    cond (x56) (
    (Ba ([[73,78,84,79]],x57,x58,x59,x60)).bind fun(x61,x62,x63,x64) =>
     (B5 (x61,x62,x63,x64)).bind fun(x65,x66,x67,x68,x69) =>
     (Ba ([[86,65,76,85,69,83]],x66,x67,x68,x69)).bind fun(x70,x71,x72,x73) =>
      (Ba ([[40]],x70,x71,x72,x73)).bind fun(x74,x75,x76,x77) =>
      (Rp (x74,x75,x76,x77)).bind fun(x78,x79,x80,x81,x82) =>
       (Ba ([[41]],x79,x80,x81,x82)).bind fun(x83,x84,x85,x86) =>
       A5 (fun rec=>Agj rec (fun e vz=>match vz with|(v,v1,v2,v3,_,v5,v6,v7,v8,v9,v10,v11,v12,v13,v14,v15,v16,v17,v18,v19,v20,v21,v22)=>match e with
        |.exit 0 =>
        cond (!v2) (
         (Bh ([59],v,v1,v2,v3)).bind fun(_,x215,x216,x217,x218) =>
         some ((Stm.mk v5 v6 v7 v8 v9 v10 v11 v12 v13 (Xpr.mk v14 ⟨v15,v16,v17⟩ v18 v19) v20 v21 v22),x215,x216,x217,x218)) (
         some ((Stm.mk v5 v6 v7 v8 v9 v10 v11 v12 v13 (Xpr.mk v14 ⟨v15,v16,v17⟩ v18 v19) v20 v21 v22),v,v1,v2,v3))
        |_=>none)) k (x83,x84,x85,x86,(Stm.mk 0 [] [] [] [] [] [] [] false (Xpr.mk 0 ⟨0,0,[]⟩ [] []) [] [] 0),5,x65,[],[],[],[],[x78],[],false,0,0,0,[],[],[],[],[],0)) (
    (Bh ([85,80,68,65,84,69],x57,x58,x59,x60)).bind fun(x105,x106,x107,x108,x109) =>
     cond (x105) (
     (Ad4 (x106,x107,x108,x109,0,[],[],[],[],[],[],[],false,0,0,0,[],[],[],[],[],0)).bind fun(x110,x111,x112,x113,x114,x115,x116,x117,x118,x119,x120,x121,x122,x123,x124,x125,x126,x127,x128,x129,x130,x131) =>
      cond (!x112) (
      (Bh ([59],x110,x111,x112,x113)).bind fun(_,x220,x221,x222,x223) =>
       some ((Stm.mk x114 x115 x116 x117 x118 x119 x120 x121 x122 (Xpr.mk x123 ⟨x124,x125,x126⟩ x127 x128) x129 x130 x131),x220,x221,x222,x223)) (
      some ((Stm.mk x114 x115 x116 x117 x118 x119 x120 x121 x122 (Xpr.mk x123 ⟨x124,x125,x126⟩ x127 x128) x129 x130 x131),x110,x111,x112,x113))) (
     (Bh ([68,69,76,69,84,69],x106,x107,x108,x109)).bind fun(x132,x133,x134,x135,x136) =>
      cond (x132) (
      (Ba ([[70,82,79,77]],x133,x134,x135,x136)).bind fun(x137,x138,x139,x140) =>
       (B5 (x137,x138,x139,x140)).bind fun(x141,x142,x143,x144,x145) =>
       (Ni (x142,x143,x144,x145,7,x141,[],[],[],[],[],[],false,0,0,0,[],[],[],[],[],0)).bind fun(x146,x147,x148,x149,x150,x151,x152,x153,x154,x155,x156,x157,x158,x159,x160,x161,x162,x163,x164,x165,x166,x167) =>
        cond (!x148) (
        (Bh ([59],x146,x147,x148,x149)).bind fun(_,x225,x226,x227,x228) =>
         some ((Stm.mk x150 x151 x152 x153 x154 x155 x156 x157 x158 (Xpr.mk x159 ⟨x160,x161,x162⟩ x163 x164) x165 x166 x167),x225,x226,x227,x228)) (
        some ((Stm.mk x150 x151 x152 x153 x154 x155 x156 x157 x158 (Xpr.mk x159 ⟨x160,x161,x162⟩ x163 x164) x165 x166 x167),x146,x147,x148,x149))) (
      (Bh ([83,69,76,69,67,84],x133,x134,x135,x136)).bind fun(x168,x169,x170,x171,x172) =>
       cond (x168) (
       (Zt (x169,x170,x171,x172,0,[],[],[],[],[],[],[],false,0,0,0,[],[],[],[],[],0)).bind fun(x173,x174,x175,x176,x177,x178,x179,x180,x181,x182,x183,x184,x185,x186,x187,x188,x189,x190,x191,x192,x193,x194) =>
        cond (!x175) (
        (Bh ([59],x173,x174,x175,x176)).bind fun(_,x230,x231,x232,x233) =>
         some ((Stm.mk x177 x178 x179 x180 x181 x182 x183 x184 x185 (Xpr.mk x186 ⟨x187,x188,x189⟩ x190 x191) x192 x193 x194),x230,x231,x232,x233)) (
        some ((Stm.mk x177 x178 x179 x180 x181 x182 x183 x184 x185 (Xpr.mk x186 ⟨x187,x188,x189⟩ x190 x191) x192 x193 x194),x173,x174,x175,x176))) (
       (C8 (x169,x170,x171,x172)).bind fun(x195,x196,x197,x198) =>
        cond (!x197) (
        (Bh ([59],x195,x196,x197,x198)).bind fun(_,x235,x236,x237,x238) =>
         some ((Stm.mk 0 [] [] [] [] [] [] [] false (Xpr.mk 0 ⟨0,0,[]⟩ [] []) [] [] 0),x235,x236,x237,x238)) (
        some ((Stm.mk 0 [] [] [] [] [] [] [] false (Xpr.mk 0 ⟨0,0,[]⟩ [] []) [] [] 0),x195,x196,x197,x198))))))))
theorem A9c(k:Nat):∀(x:An5),C2 (Wm _ k) Tryz.f85 Vb V5 x some=Sl k x
 |(l,n,b,p)=>by kernel_rfl
theorem A1n(k:Nat):FnLn Tryz.prog elT glT 85 Vb V5 (Sl k):=by
 refine Bk Tryz.func85 rfl (by kernel_rfl) follows (by kernel_rfl) (n:=0) (by kernel_rfl) (px:=Wm _ k) (fun cx hP hel hgl =>?_) (A9c k)
 have hp2:PxOk cx (La (Gi) k):=⟨fun t=>by rw [hP,hel];exact Au Al t,by rw [hgl];rfl⟩
 have hc2:Aj cx (La (Gi) k):=Ah rfl (Aa (A3 (by rw [hP,hel,hgl];exact Fn) (by kernel_rfl)) Ai)
 have hq2:CallQOk cx (La (Gi) k):=Ab rfl rfl Af (Cs (Nm (by rw [hP,hel,hgl];exact Alf) (by kernel_rfl)) Ae)
 have hp1:PxOk cx (Jd (Gi) k):=⟨fun t=>by rw [hP,hel];exact Au Al t,by rw [hgl];rfl⟩
 have hc1:Aj cx (Jd (Gi) k):=Ah rfl (Aa (A3 (by rw [hP,hel,hgl];exact Ei) (by kernel_rfl)) (Aa (Bm hp2 hc2 hq2 (by rw [hP];exact follows) (by rw [hP];exact Tryz.func122) rfl (by kernel_rfl) (by kernel_rfl) (n:=0) (by kernel_rfl) (Aw)) Ai))
 have hq1:CallQOk cx (Jd (Gi) k):=Ab rfl rfl Af Ae
 have hlpstmt_0:A6 cx (Jd (Gi) k) (lp Tryz.f121 0):=A8 hp1 hc1 hq1 (by rw [hP];exact follows) (k:=k) (s:=Zu) (step:=Agj) (fun _ _=>by kernel_rfl) (by kernel_rfl) (Auo _ k) (A0 (n:=0) (by kernel_rfl) Aw)
 have hp0:PxOk cx (Wm (Gi) k):=⟨fun t=>by rw [hP,hel];exact Au Al t,by rw [hgl];rfl⟩
 have hc0:Aj cx (Wm (Gi) k):=Ah rfl (Aa (A3 (by rw [hP,hel,hgl];exact Ei) (by kernel_rfl)) (Aa (A3 (by rw [hP,hel,hgl];exact Atb) (by kernel_rfl)) (Aa (A3 (by rw [hP,hel,hgl];exact Fn) (by kernel_rfl)) (Aa (A3 (by rw [hP,hel,hgl];exact Ip) (by kernel_rfl)) (Aa (A3 (by rw [hP,hel,hgl];exact Auk) (by kernel_rfl)) (Aa (A3 (by rw [hP,hel,hgl];exact Adp) (by kernel_rfl)) (Aa (A3 (by rw [hP,hel,hgl];exact Apx) (by kernel_rfl)) (Aa (A3 (by rw [hP,hel,hgl];exact L3) (by kernel_rfl)) (Aa (Bm hp1 hc1 hq1 (by rw [hP];exact follows) (by rw [hP];exact Tryz.func121) rfl (by kernel_rfl) (by kernel_rfl) (n:=1) (by kernel_rfl) ((Cg Aw hlpstmt_0))) Ai)))))))))
 have hq0:CallQOk cx (Wm (Gi) k):=Ab rfl rfl Af Ae
 exact⟨hp0,hc0,hq0,Aw⟩
def Aok:An5→Option Gi:=fun x=>Sl ((x.1.length+3)) x
theorem A33:FnLn Tryz.prog elT glT 85 Vb V5 (Aok):=FnLn.fin (ι:=Nat) (sg:=Vb) (so:=V5) 0 (F:=fun k=>Sl k) (fun k=>A1n k) fun x _ _ hx=>⟨(x.1.length+3),hx⟩
def V1:Sig:=⟨1,[],[(0,.ptr 0 0)],[(0,.cells [.sl .tok false,.int .i64,.bool,.int .i64])],1,1,0,[],[]⟩
def V2:Sig:=⟨1,[(0,.bool)],[],[(0,.cells [.sl .tok false,.int .i64,.bool,.int .i64])],1,1,0,[],[]⟩
abbrev An3:=List Tok×Int×Bool×Int
abbrev Acl:=Bool×List Tok×Int×Bool×Int
def Wa(R:Type):Px R:=⟨A7 ttL,glT,Aq [(127,Ao F7 F0 C8)],Ak [],Av [],tbl []⟩
def Nw(x:An3):Option (Acl):=match x with
 |(l,n,b,p) =>
 cond (decide (0<(l.length:Int))) (
  (C8 (l,n,b,p)).bind fun(x,x1,x2,x3) =>
  some (!x2,x,x1,x2,x3)) (
  some (!b,l,n,b,p))
theorem A7q:∀(x:An3),C2 (Wa _) Tryz.f86 V1 V2 x some=Nw x
 |(l,n,b,p)=>by kernel_rfl
theorem A0l:FnLn Tryz.prog elT glT 86 V1 V2 (Nw):=by
 refine Bk Tryz.func86 rfl (by kernel_rfl) follows (by kernel_rfl) (n:=0) (by kernel_rfl) (px:=Wa _) (fun cx hP hel hgl =>?_) (A7q)
 have hp0:PxOk cx (Wa (Acl)):=⟨fun t=>by rw [hP,hel];exact Au Al t,by rw [hgl];rfl⟩
 have hc0:Aj cx (Wa (Acl)):=Ah rfl (Aa (A3 (by rw [hP,hel,hgl];exact L3) (by kernel_rfl)) Ai)
 have hq0:CallQOk cx (Wa (Acl)):=Ab rfl rfl Af Ae
 exact⟨hp0,hc0,hq0,Aw⟩
def Kb:An3→Option Acl:=fun x=>Nw x
theorem Arx:FnLn Tryz.prog elT glT 86 V1 V2 (Kb):=A0l
end Go.Proofs.YthndhaolemgbdaaGreatDoor
namespace Go.Proofs.YthndhaolemgbdaaGreatDoor
open Go.Ax
abbrev RS:=List Tok×Int×Bool×Int
def hdT(n:Int):TL→Tok
 |[]=>⟨0,n,[],0⟩
 |t::_=>t
theorem Bf1(n:Int) (l:TL):(hdT n l).pos=Lg n l:=by cases l<;>rfl
theorem Xr(l:TL) (n:Int) (b:Bool) (p:Int):Eg (l,n,b,p)=some (hdT n l,l,n,b,p):=by
 cases l with
 |nil=>rfl
 |cons t r =>
  have e:decide (((t::r).length:Int)=0)=false:=Zd1 (by simp only [Zf1];omega)
  have h0:inb 0 (t::r).length=true:=Bp (i:=0) (by simp)
  simp only [Eg,Ui,e,An,h0,chk]
  rfl
theorem Axc(l:TL) (n:Int) (b:Bool) (p:Int):Cz (l,n,b,p)=some (hdT n l,l.tail,n,b,p):=by
 simp only [Cz,Sf,Xr,Zc1]
 cases l with
 |nil=>rfl
 |cons t r =>
  have e:decide (0<((t::r).length:Int))=true:=Ze1 (by simp only [Zf1];omega)
  have h:Gg 1 ((t::r).length:Int) (t::r).length=true:=by
   simp only [Gg,Zb1,Zg1,Zf1]
   omega
  simp only [e,Am,h,chk]
  rfl
theorem Beb(t:Tok) (r:TL) (n:Int) (b:Bool) (p:Int):Eg (t::r,n,b,p)=some (t,t::r,n,b,p):=Xr _ _ _ _
theorem Bfq(t:Tok) (r:TL) (n:Int) (b:Bool) (p:Int):Cz (t::r,n,b,p)=some (t,r,n,b,p):=Axc _ _ _ _
theorem Afu{s:Str}{l:TL}{n:Int}{b:Bool}{p:Int}(h:isT s l=true):Bh (s,l,n,b,p)=some (true,l.tail,n,b,p):=by
 cases l with
 |nil=>cases h
 |cons t r =>
  simp only [isT,Zb1] at h
  simp only [Bh,Vk,Xr,Axc,Zc1,hdT,h.2,Zt1,An]
  have h1:=h.1
  generalize decide (t.kind=1)=c1 at h1 ⊢
  generalize decide (t.kind=6)=c2 at h1 ⊢
  cases c1<;>cases c2<;>first|rfl|cases h1
theorem Ahc{s:Str}{l:TL}{n:Int}{b:Bool}{p:Int}(h:isT s l=false):Bh (s,l,n,b,p)=some (false,l,n,b,p):=by
 simp only [Bh,Vk,Xr,Zc1]
 cases l with
 |nil=>rfl
 |cons t r =>
  simp only [isT] at h
  simp only [hdT]
  by_cases h1:t.kind=1<;>by_cases h6:t.kind=6<;>by_cases h3:t.s=s<;>first|(exfalso;simp [h1,h6,h3] at h;done)|simp [h1,h6,h3]
theorem Awt(l:TL) (n p:Int):C8 (l,n,false,p)=some (l,n,true,Lg n l):=by
 simp only [C8,Oq,Xr,Zc1,Bf1,Zs1,Am]
theorem Axd(l:TL) (n p:Int):C8 (l,n,true,p)=some (l,n,true,p):=rfl
theorem Alp{R:Type}{kx:Ex→Jf→Option R}{ss:List Str}{n:Int}{c:TL→Bool→Int→Option R}(hn:ln ss.length) (h1:∀i l b p,kx .ret (ss,(ss.length:Int),i,l,n,b,p)=c l b p) (h2:∀i l b p,kx (.exit 0) (ss,(ss.length:Int),i,l,n,b,p)=c l b p) (a:Int):∀(k i:Nat) (l:TL),i≤ss.length→ss.length-i<k →
  A5 (fun rec=>Ot rec kx) k (ss,(ss.length:Int),(i:Int),l,n,false,a)=match Co (ss.drop i) l with
   |.ok (_,l')=>c l' false a
   |.error q=>c q true (Lg n q)
 |0,_,_,_,h=>absurd h (Zm1 _)
 |k+1,i,l,hi,h=>by
  rw [Bu]
  by_cases hlt:i<ss.length
  ·have ih:=Alp hn h1 h2 a k (i+1) l.tail (by omega) (by omega)
   rw [A9 hlt]
   simp only [Ot,H1 hlt,Am,An,Bp hlt,chk,Bq (c :=.str) hlt,Bg hlt hn,Co]
   cases ht:isT ss[i] l with
   |true=>simp only [Afu ht,Zc1,Zt1,An,ih]
   |false=>simp only [Ahc ht,Zc1,Zs1,Am,Awt,h1]
  ·obtain rfl:i=ss.length:=by omega
   simp only [Ot,H0,An,h2,Zc2,Co]
theorem Ank{ss:List Str}(hs:ss.length≤100) (l:TL) (n a:Int):Ba (ss,l,n,false,a)=match Co ss l with
  |.ok (_,l')=>some (l',n,false,a)
  |.error q=>some (q,n,true,Lg n q):=by
 simp only [Ba,I1]
 exact Alp (c:=fun l b p=>some (l,n,b,p)) (by simp only [ln];omega) (fun _ _ _ _=>rfl) (fun _ _ _ _=>rfl) a (ss.length+1) 0 l (Nat.zero_le _) (by omega)
theorem Aa5{ss:List Str}(hs:ss.length≤100) {l l':TL}{x:Unit}(h:Co ss l = .ok (x,l')) (n a:Int):Ba (ss,l,n,false,a)=some (l',n,false,a):=by rw [Ank hs,h]
theorem Ab4{ss:List Str}(hs:ss.length≤100) {l q:TL}(h:Co ss l = .error q) (n a:Int):Ba (ss,l,n,false,a)=some (q,n,true,Lg n q):=by rw [Ank hs,h]
theorem Ano(ss:List Str) (l:TL) (n a:Int):Ba (ss,l,n,true,a)=some (l,n,true,a):=by
 cases ss with
 |nil=>rfl
 |cons s r =>
  have e:decide ((0:Int)<((s::r).length:Int))=true:=Ze1 (by simp only [Zf1];omega)
  have h0:inb 0 (s::r).length=true:=Bp (i:=0) (by simp)
  simp only [Ba,I1,Bu,Ot,e,Am,h0,chk,Axd,Zc1]
theorem Arz{s:Str}{l:TL}(h:isT s l=true):Co [s] l = .ok ((),l.tail):=by simp only [Co,h]
theorem Axy{s:Str}{l:TL}(h:isT s l=false):Co [s] l = .error l:=by simp only [Co,h]
structure SimP {α:Type}(F:RS→Option (α×RS)) (p:TL→PR α) (L:Nat):Prop where
 ok:∀l n a e l',l.length<L→p l = .ok (e,l')→F (l,n,false,a)=some (e,l',n,false,a)
 er:∀l n a q,l.length<L→p l = .error q→∃e l',F (l,n,false,a)=some (e,l',n,true,Lg n q)
 bad:∀l n a,∃e,F (l,n,true,a)=some (e,l,n,true,a)
theorem Axn(rf:A2→Option Az) (t:Tok) (r:TL) (n a:Int):Fl rf (t::r,n,false,a)=match A18 t with
  |some v=>some (v,r,n,false,a)
  |none=>(Ba ([[40]],t::r,n,false,a)).bind fun(x1,x2,x3,x4)=>(rf (x1,x2,x3,x4)).bind fun(e,y1,y2,y3,y4)=>(Ba ([[41]],y1,y2,y3,y4)).bind fun(z1,z2,z3,z4)=>some (e,z1,z2,z3,z4):=by
 simp only [Fl,Kl,Beb,Bfq,Zc1,An]
 unfold A18
 by_cases h2:t.kind=2
 ·rw [Ze1 h2,if_pos h2];rfl
 rw [Zd1 h2,if_neg h2,An]
 by_cases h3:t.kind=3
 ·rw [Ze1 h3,if_pos h3];rfl
 rw [Zd1 h3,if_neg h3,An]
 by_cases h4:t.kind=4
 ·rw [Ze1 h4,if_pos h4];rfl
 rw [Zd1 h4,if_neg h4,An]
 by_cases h5:t.kind=5
 ·rw [Ze1 h5,if_pos h5];rfl
 rw [Zd1 h5,if_neg h5,An]
 by_cases h1:t.kind=1
 ·rw [Ze1 h1]
  simp only [Am]
  by_cases g1:t.s=Ab6
  ·rw [Ze1 (show t.s=[84,82,85,69] from g1),if_pos ⟨h1,g1⟩];rfl
  rw [Zd1 (show ¬t.s=[84,82,85,69] from g1),if_neg (fun q=>g1 q.2),An]
  by_cases g2:t.s=Sq
  ·rw [Ze1 (show t.s=[70,65,76,83,69] from g2),if_pos ⟨h1,g2⟩];rfl
  rw [Zd1 (show ¬t.s=[70,65,76,83,69] from g2),if_neg (fun q=>g2 q.2),An]
  by_cases g3:t.s=E3
  ·rw [Ze1 (show t.s=[78,85,76,76] from g3),if_pos ⟨h1,g3⟩];rfl
  rw [Zd1 (show ¬t.s=[78,85,76,76] from g3),if_neg (fun q=>g3 q.2),An]
 ·rw [Zd1 h1,if_neg (fun q=>h1 q.1),if_neg (fun q=>h1 q.1),if_neg (fun q=>h1 q.1)]
  simp only [An]
def Uo{α:Type}(F:RS→Option (α×RS)):Prop:=∀l n a,∃e,F (l,n,true,a)=some (e,l,n,true,a)
theorem Akr(rf:A2→Option Az):Uo (Fl rf):=fun l n a=>by
 simp only [Fl,Kl,Xr,Zc1,Am]
 exact⟨_,rfl⟩
theorem A1v{rf:A2→Option Az}{rec:TL→PR Xpr}{L:Nat}(h:SimP rf rec L):SimP (Fl rf) (B1 rec) (L+1) where
 ok l n a e l' hl hp:=by
  cases l with
  |nil=>cases hp
  |cons t r =>
   simp only [Zf1] at hl
   rw [Alr] at hp
   rw [Axn]
   cases hv:A18 t with
   |some v=>rw [hv] at hp;cases hp;rfl
   |none =>
    rw [hv] at hp
    cases hi:isT [40] (t::r) with
    |false=>rw [hi] at hp;cases hp
    |true =>
     rw [hi] at hp
     simp only [brP,bP] at hp
     simp only [Aa5 (by decide) (Arz hi),Zc1,List.tail_cons]
     cases hq:rec r with
     |error q=>rw [hq] at hp;cases hp
     |ok x =>
      obtain⟨e1,l1⟩:=x
      rw [hq] at hp
      simp only at hp
      simp only [h.ok r n a e1 l1 (by omega) hq,Zc1]
      cases hj:isT [41] l1 with
      |false=>rw [hj] at hp;cases hp
      |true =>
       rw [hj] at hp
       cases hp
       simp only [Aa5 (by decide) (Arz hj),Zc1]
 er l n a q hl hp:=by
  cases l with
  |nil =>
   cases hp
   obtain⟨e1,h1⟩:=h.bad [] n n
   refine⟨e1,[],?_⟩
   have e:Fl rf ([],n,false,a)=(Ba ([[40]],[],n,false,a)).bind fun(x1,x2,x3,x4)=>(rf (x1,x2,x3,x4)).bind fun(e,y1,y2,y3,y4)=>(Ba ([[41]],y1,y2,y3,y4)).bind fun(z1,z2,z3,z4)=>some (e,z1,z2,z3,z4):=rfl
   have hm:Co [[40]] ([]:TL) = .error []:=rfl
   simp only [e,Ab4 (by decide) hm,Zc1,Lg,h1,Ano]
  |cons t r =>
   simp only [Zf1] at hl
   rw [Alr] at hp
   rw [Axn]
   cases hv:A18 t with
   |some v=>rw [hv] at hp;cases hp
   |none =>
    rw [hv] at hp
    cases hi:isT [40] (t::r) with
    |false =>
     rw [hi] at hp
     cases hp
     obtain⟨e1,h1⟩:=h.bad (t::r) n (Lg n (t::r))
     simp only [Ab4 (by decide) (Axy hi),Zc1,h1,Ano]
     exact⟨_,_,rfl⟩
    |true =>
     rw [hi] at hp
     simp only [brP,bP] at hp
     simp only [Aa5 (by decide) (Arz hi),Zc1,List.tail_cons]
     cases hq:rec r with
     |error q' =>
      rw [hq] at hp
      cases hp
      obtain⟨e1,l1,h1⟩:=h.er r n a q (by omega) hq
      simp only [h1,Zc1,Ano]
      exact⟨_,_,rfl⟩
     |ok x =>
      obtain⟨e1,l1⟩:=x
      rw [hq] at hp
      simp only at hp
      simp only [h.ok r n a e1 l1 (by omega) hq,Zc1]
      cases hj:isT [41] l1 with
      |true=>rw [hj] at hp;cases hp
      |false =>
       rw [hj] at hp
       cases hp
       simp only [Ab4 (by decide) (Axy hj),Zc1]
       exact⟨_,_,rfl⟩
 bad:=Akr rf
end Go.Proofs.YthndhaolemgbdaaGreatDoor
namespace Go.Proofs.YthndhaolemgbdaaGreatDoor
open Go.Ax
def Df(s:Str):TL→Nat×TL
 |[]=>(0,[])
 |t::r=>match isT s (t::r) with
  |true=>((Df s r).1+1,(Df s r).2)
  |false=>(0,t::r)
def N7(k:Int):Nat→Xpr→Xpr
 |0,e=>e
 |n+1,e=>N7 k n (.mk k ⟨0,0,[]⟩ [] [e])
theorem Ar5(k:Int):∀(n:Nat) (e:Xpr),N7 k (n+1) e=mkX k [N7 k n e]
 |0,_=>rfl
 |n+1,_=>Ar5 k n _
theorem Agd{s:Str}{l:TL}(h:isT s l=true):Df s l=((Df s l.tail).1+1,(Df s l.tail).2):=by
 cases l with
 |nil=>cases h
 |cons t r=>simp only [Df,h,List.tail_cons]
theorem Af1{s:Str}{l:TL}(h:isT s l=false):Df s l=(0,l):=by
 cases l with
 |nil=>rfl
 |cons t r=>simp only [Df,h]
theorem Pm(s:Str):∀l:TL,(Df s l).1+(Df s l).2.length=l.length
 |[]=>rfl
 |t::r=>by
  have ih:=Pm s r
  cases h:isT s (t::r) with
  |true=>rw [Agd h];simp only [List.tail_cons,Zf1];omega
  |false=>rw [Af1 h];simp
theorem Kn(s:Str) (k:Int) (part:TL→PR Xpr):∀l:TL,Br s k part l=match part (Df s l).2 with
  |.error q =>.error q
  |.ok (e,l') =>.ok (N7 k (Df s l).1 e,l')
 |[]=>by
  simp only [Br,Df,N7]
  cases part []<;>rfl
 |t::r=>by
  cases h:isT s (t::r) with
  |true =>
   rw [Agd h]
   simp only [Br,h,Kn s k part r,List.tail_cons]
   cases part (Df s r).2 with
   |error q=>rfl
   |ok x=>simp only [Ar5]
  |false =>
   rw [Af1 h]
   simp only [Br,h,N7]
   cases part (t::r)<;>rfl
theorem Am6{R:Type}{kx:Ex→Nu→Option R}{s:Str}{kd n a:Int}{z1 z2:Xpr}{c:Int→TL→Option R}(h:∀i l,kx (.exit 0) (s,kd,i,l,n,false,a,z1,z2)=c i l):∀(k i:Nat) (l:TL),l.length<k→i+l.length≤1000000000 →
  A5 (fun rec=>Aad rec kx) k (s,kd,(i:Int),l,n,false,a,z1,z2)=c ((i+(Df s l).1:Nat):Int) (Df s l).2
 |0,_,_,hk,_=>absurd hk (Zm1 _)
 |k+1,i,l,hk,hb=>by
  rw [Bu]
  simp only [Aad,Zs1,Am]
  cases hi:isT s l with
  |false=>simp only [Ahc hi,Zc1,An,h,Af1 hi,Nat.add_zero]
  |true =>
   have hl:=O7 hi
   have hw:wr .i64 ((i:Int)+1)=((i+1:Nat):Int):=Bg (n:=i+1) (by omega) (by simp only [ln];omega)
   simp only [Afu hi,Zc1,Am,hw,Am6 h k (i+1) l.tail (by omega) (by omega),Agd hi]
   rw [Nat.add_assoc,Nat.add_comm 1]
theorem Anj{R:Type}{kx:Ex→Nn→Option R}{kd:Int}{m:Nat}{l:TL}{n a:Int}{b:Bool}{z1 z2:Xpr}{c:Xpr→Option R}(h:∀i e,kx (.exit 2) (kd,(m:Int),i,l,n,b,a,z1,z2,e)=c e) (hm:m≤1000000000):∀(k i:Nat) (e:Xpr),i≤m→m-i<k →
  A5 (fun rec=>Wf rec kx) k (kd,(m:Int),(i:Int),l,n,b,a,z1,z2,e)=c (N7 kd (m-i) e)
 |0,_,_,_,hk=>absurd hk (Zm1 _)
 |k+1,i,e,hi,hk=>by
  rw [Bu]
  by_cases hlt:i<m
  ·have hs:m-i=(m-(i+1))+1:=by omega
   simp only [Wf,H1 hlt,Am,Bg hlt (show ln m by simp only [ln];omega),Anj h hm k (i+1) _ (by omega) (by omega),hs,N7]
  ·obtain rfl:i=m:=by omega
   simp only [Wf,H0,An,h,Nat.sub_self,N7]
theorem Aot{rf:A2→Option Az}(h:Uo (Fl rf)):Uo (H5 rf):=fun l n a=>by
 obtain⟨e1,h1⟩:=h l n a
 refine⟨e1,?_⟩
 simp only [H5,Jz,Bu,Aad,Zt1,An,h1,Zc1,Wf]
 rfl
theorem A5q{rf:A2→Option Az}{part:TL→PR Xpr}{L:Nat}(h:SimP (Fl rf) part L) (hL:L≤1000000000):SimP (H5 rf) (Br [45] 15 part) L where
 ok l n a e l' hl hp:=by
  have hs:=Pm [45] l
  rw [Kn] at hp
  simp only [H5,Jz]
  refine(Am6 (s:=[45]) (i:=0) (fun _ _=>rfl) (l.length+1) l (by omega) (by omega)).trans ?_
  cases hq:part (Df [45] l).2 with
  |error q=>rw [hq] at hp;cases hp
  |ok x =>
   obtain⟨e1,l1⟩:=x
   rw [hq] at hp
   cases hp
   simp only [h.ok _ n a e1 l' (by omega) hq,Zc1,Nat.zero_add]
   exact(Anj (c:=fun e=>some (e,l',n,false,a)) (fun _ _=>rfl) (by omega) (l.length+1) 0 e1 (Nat.zero_le _) (by omega)).trans rfl
 er l n a q hl hp:=by
  have hs:=Pm [45] l
  rw [Kn] at hp
  cases hq:part (Df [45] l).2 with
  |ok x=>rw [hq] at hp;cases hp
  |error q' =>
   rw [hq] at hp
   cases hp
   obtain⟨e1,l1,h1⟩:=h.er _ n a q (by omega) hq
   refine⟨N7 15 (Df [45] l).1 e1,l1,?_⟩
   simp only [H5,Jz]
   refine(Am6 (s:=[45]) (i:=0) (fun _ _=>rfl) (l.length+1) l (by omega) (by omega)).trans ?_
   simp only [h1,Zc1,Nat.zero_add]
   exact(Anj (c:=fun e=>some (e,l1,n,true,Lg n q)) (fun _ _=>rfl) (by omega) (l.length+1) 0 e1 (Nat.zero_le _) (by omega)).trans rfl
 bad:=Aot h.bad
def prs(S:List PairS):List (Str×Int):=S.map fun p=>(p.sign,p.kind)
theorem M7(l:TL):∀S:List PairS,(prs S).find? (fun p=>isT p.1 l)=(S.find? fun p=>isT p.sign l).map fun p=>(p.sign,p.kind)
 |[]=>rfl
 |p::S=>by
  have ih:=M7 l S
  simp only [prs] at ih
  simp only [prs,Zw1,List.find?_cons,ih]
  cases isT p.sign l<;>rfl
theorem Ae6{R:Type}(rf:A2→Option Az) {kx:Ex→Ey→Option R}{S:List PairS}(hn:ln S.length) {l:TL}{n a:Int}{z1 z2 e:Xpr}{c1:Xpr→TL→Int→Bool→Int→Option R}{c2:Option R}(h1:∀i l n b a e,kx (.exit 1) (S,S,(S.length:Int),i,l,n,b,a,z1,z2,e)=c1 e l n b a) (h2:kx (.exit 2) (S,S,(S.length:Int),(S.length:Int),l,n,false,a,z1,z2,e)=c2):∀(k i:Nat),i≤S.length→S.length-i<k →
  A5 (fun rc=>G4 rf rc kx) k (S,S,(S.length:Int),(i:Int),l,n,false,a,z1,z2,e)=match(S.drop i).find? (fun p=>isT p.sign l) with
   |none=>c2
   |some p=>(H5 rf (l.tail,n,false,a)).bind fun(x,y1,y2,y3,y4)=>c1 (mkX p.kind [e,x]) y1 y2 y3 y4
 |0,_,_,hk=>absurd hk (Zm1 _)
 |k+1,i,hi,hk=>by
  rw [Bu]
  by_cases hlt:i<S.length
  ·rw [A9 hlt]
   simp only [G4,H1 hlt,Am,Bp hlt,chk,Bq (c :=.pair) hlt,Bg hlt hn,List.find?_cons]
   cases ht:isT S[i].sign l with
   |true =>
    simp only [Afu ht,Zc1,Am,h1]
    rfl
   |false=>simp only [Ahc ht,Zc1,An,Ae6 rf hn h1 h2 k (i+1) (by omega) (by omega)]
  ·obtain rfl:i=S.length:=by omega
   simp only [G4,H0,An,h2,Zc2,List.find?_nil]
theorem Ue{R:Type}{rf:A2→Option Az}{part:TL→PR Xpr}{L:Nat}(h:SimP (H5 rf) part L) (hp:Em part) {kx:Ex→Dh→Option R}{S:List PairS}(hn:ln S.length) {n a:Int}{z1 z2:Xpr}{c:Xpr→TL→Bool→Int→Option R}(hx:∀l b a e,kx (.exit 0) (S,l,n,b,a,z1,z2,e)=c e l b a) (K:Nat) (hK:S.length<K):∀(k m:Nat) (e:Xpr) (l:TL),l.length<L→l.length<k→l.length<m →
  match B8 part (prs S) m e l with
  |.ok (e',l')=>A5 (fun rec=>Gw K rf rec kx) k (S,l,n,false,a,z1,z2,e)=c e' l' false a
  |.error q=>∃e' l',A5 (fun rec=>Gw K rf rec kx) k (S,l,n,false,a,z1,z2,e)=c e' l' true (Lg n q)
 |0,_,_,_,_,hk,_=>absurd hk (Zm1 _)
 |_,0,_,_,_,_,hk=>absurd hk (Zm1 _)
 |k+1,m+1,e,l,hl,hk,hm=>by
  have hin:=fun(rec:Dh→Option R)=>Ae6 (R:=R) rf (kx:=fun e vz=>match vz with|(v5,_,_,_,v9,v10,v11,v12,v13,v14,v15)=>match e with
   |.exit 1=>rec (v5,v9,v10,v11,v12,v13,v14,v15)
   |.exit 2=>kx (.exit 0) (v5,v9,v10,v11,v12,v13,v14,v15)
   |_=>none) hn (l:=l) (n:=n) (a:=a) (z1:=z1) (z2:=z2) (e:=e) (c1:=fun e l n b a=>rec (S,l,n,b,a,z1,z2,e)) (fun _ _ _ _ _ _=>rfl) rfl K 0 (Nat.zero_le _) (by omega)
  have hit:∀rec:Dh→Option R,Gw K rf rec kx (S,l,n,false,a,z1,z2,e)=_:=hin
  have hf:=M7 l S
  rw [Bu]
  simp only [B8,hit,Zq1]
  cases hs:S.find? (fun p=>isT p.sign l) with
  |none =>
   rw [hs] at hf
   simp only [Option.map_none] at hf
   rw [hf]
   exact hx _ _ _ _
  |some p =>
   rw [hs] at hf
   simp only [Zl2] at hf
   rw [hf]
   have hi:isT p.sign l=true:=by simpa using List.find?_some hs
   have hlt:=O7 hi
   cases hq:part l.tail with
   |error q =>
    obtain⟨e1,l1,h1⟩:=h.er l.tail n a q (by omega) hq
    simp only [h1,Zc1]
    obtain⟨k,rfl⟩:∃k',k=k'+1:=⟨k-1,by omega⟩
    exact⟨mkX p.kind [e,e1],l1,hx _ _ _ _⟩
   |ok x =>
    obtain⟨x,l1⟩:=x
    have h3:=hp _ _ _ hq
    simp only [h.ok l.tail n a x l1 (by omega) hq,Zc1]
    exact Ue h hp hn hx K hK k m (mkX p.kind [e,x]) l1 (by omega) (by omega) (by omega)
theorem Abb{rf:A2→Option Az}(h:Uo (H5 rf)):Uo (Cc rf):=fun l n a=>by
 obtain⟨e1,h1⟩:=h l n a
 simp only [Cc,Dj,h1,Zc1]
 exact⟨e1,rfl⟩
theorem Aoh{rf:A2→Option Az}{part:TL→PR Xpr}{L:Nat}(h:SimP (H5 rf) part L) (hp:Em part):SimP (Cc rf) (Cw part (prs [PairS.mk [42] 14])) L where
 ok l n a e l' hl hq:=by
  simp only [Cw] at hq
  cases hr:part l with
  |error q=>rw [hr] at hq;cases hq
  |ok x =>
   obtain⟨e1,l1⟩:=x
   rw [hr] at hq
   have h3:=hp _ _ _ hr
   simp only at hq
   have:=Ue h hp (S:=[PairS.mk [42] 14]) (by simp [ln]) (n:=n) (a:=a) (z1:=Xpr.mk 0 ⟨0,0,[]⟩ [] []) (z2:=Xpr.mk 0 ⟨0,0,[]⟩ [] []) (c:=fun e l b a=>some (e,l,n,b,a)) (kx:=fun e vz=>match vz with|(_,v17,v18,v19,v20,_,_,v23)=>match e with
    |.exit 0=>some (v23,v17,v18,v19,v20)
    |_=>none) (fun _ _ _ _=>rfl) (l.length+3) (by simp) (l.length+3) (l1.length+1) e1 l1 (by omega) (by omega) (by omega)
   rw [hq] at this
   simp only [Cc,Dj,h.ok l n a e1 l1 hl hr,Zc1]
   exact this
 er l n a q hl hq:=by
  simp only [Cw] at hq
  cases hr:part l with
  |error q' =>
   rw [hr] at hq
   cases hq
   obtain⟨e1,l1,h1⟩:=h.er l n a q hl hr
   simp only [Cc,Dj,h1,Zc1]
   exact⟨e1,l1,rfl⟩
  |ok x =>
   obtain⟨e1,l1⟩:=x
   rw [hr] at hq
   have h3:=hp _ _ _ hr
   simp only at hq
   have:=Ue h hp (S:=[PairS.mk [42] 14]) (by simp [ln]) (n:=n) (a:=a) (z1:=Xpr.mk 0 ⟨0,0,[]⟩ [] []) (z2:=Xpr.mk 0 ⟨0,0,[]⟩ [] []) (c:=fun e l b a=>some (e,l,n,b,a)) (kx:=fun e vz=>match vz with|(_,v17,v18,v19,v20,_,_,v23)=>match e with
    |.exit 0=>some (v23,v17,v18,v19,v20)
    |_=>none) (fun _ _ _ _=>rfl) (l.length+3) (by simp) (l.length+3) (l1.length+1) e1 l1 (by omega) (by omega) (by omega)
   rw [hq] at this
   simp only [Cc,Dj,h.ok l n a e1 l1 hl hr,Zc1]
   exact this
 bad:=Abb h.bad
theorem Awi{R:Type}(rf:A2→Option Az) {kx:Ex→L7→Option R}{S:List PairS}(hn:ln S.length) {l:TL}{n a:Int}{z1 z2 e:Xpr}{c1:Xpr→TL→Int→Bool→Int→Option R}{c2:Option R}(h1:∀i l n b a e,kx (.exit 1) (S,S,(S.length:Int),i,l,n,b,a,z1,z2,e)=c1 e l n b a) (h2:kx (.exit 2) (S,S,(S.length:Int),(S.length:Int),l,n,false,a,z1,z2,e)=c2):∀(k i:Nat),i≤S.length→S.length-i<k →
  A5 (fun rc=>Z5 rf rc kx) k (S,S,(S.length:Int),(i:Int),l,n,false,a,z1,z2,e)=match(S.drop i).find? (fun p=>isT p.sign l) with
   |none=>c2
   |some p=>(Cc rf (l.tail,n,false,a)).bind fun(x,y1,y2,y3,y4)=>c1 (mkX p.kind [e,x]) y1 y2 y3 y4
 |0,_,_,hk=>absurd hk (Zm1 _)
 |k+1,i,hi,hk=>by
  rw [Bu]
  by_cases hlt:i<S.length
  ·rw [A9 hlt]
   simp only [Z5,H1 hlt,Am,Bp hlt,chk,Bq (c :=.pair) hlt,Bg hlt hn,List.find?_cons]
   cases ht:isT S[i].sign l with
   |true =>
    simp only [Afu ht,Zc1,Am,h1]
    rfl
   |false=>simp only [Ahc ht,Zc1,An,Awi rf hn h1 h2 k (i+1) (by omega) (by omega)]
  ·obtain rfl:i=S.length:=by omega
   simp only [Z5,H0,An,h2,Zc2,List.find?_nil]
theorem Ai8{R:Type}{rf:A2→Option Az}{part:TL→PR Xpr}{L:Nat}(h:SimP (Cc rf) part L) (hp:Em part) {kx:Ex→H8→Option R}{S:List PairS}(hn:ln S.length) {n a:Int}{z1 z2:Xpr}{c:Xpr→TL→Bool→Int→Option R}(hx:∀l b a e,kx (.exit 0) (S,l,n,b,a,z1,z2,e)=c e l b a) (K:Nat) (hK:S.length<K):∀(k m:Nat) (e:Xpr) (l:TL),l.length<L→l.length<k→l.length<m →
  match B8 part (prs S) m e l with
  |.ok (e',l')=>A5 (fun rec=>Zy K rf rec kx) k (S,l,n,false,a,z1,z2,e)=c e' l' false a
  |.error q=>∃e' l',A5 (fun rec=>Zy K rf rec kx) k (S,l,n,false,a,z1,z2,e)=c e' l' true (Lg n q)
 |0,_,_,_,_,hk,_=>absurd hk (Zm1 _)
 |_,0,_,_,_,_,hk=>absurd hk (Zm1 _)
 |k+1,m+1,e,l,hl,hk,hm=>by
  have hin:=fun(rec:H8→Option R)=>Awi (R:=R) rf (kx:=fun e vz=>match vz with|(v5,_,_,_,v9,v10,v11,v12,v13,v14,v15)=>match e with
   |.exit 1=>rec (v5,v9,v10,v11,v12,v13,v14,v15)
   |.exit 2=>kx (.exit 0) (v5,v9,v10,v11,v12,v13,v14,v15)
   |_=>none) hn (l:=l) (n:=n) (a:=a) (z1:=z1) (z2:=z2) (e:=e) (c1:=fun e l n b a=>rec (S,l,n,b,a,z1,z2,e)) (fun _ _ _ _ _ _=>rfl) rfl K 0 (Nat.zero_le _) (by omega)
  have hit:∀rec:H8→Option R,Zy K rf rec kx (S,l,n,false,a,z1,z2,e)=_:=hin
  have hf:=M7 l S
  rw [Bu]
  simp only [B8,hit,Zq1]
  cases hs:S.find? (fun p=>isT p.sign l) with
  |none =>
   rw [hs] at hf
   simp only [Option.map_none] at hf
   rw [hf]
   exact hx _ _ _ _
  |some p =>
   rw [hs] at hf
   simp only [Zl2] at hf
   rw [hf]
   have hi:isT p.sign l=true:=by simpa using List.find?_some hs
   have hlt:=O7 hi
   cases hq:part l.tail with
   |error q =>
    obtain⟨e1,l1,h1⟩:=h.er l.tail n a q (by omega) hq
    simp only [h1,Zc1]
    obtain⟨k,rfl⟩:∃k',k=k'+1:=⟨k-1,by omega⟩
    exact⟨mkX p.kind [e,e1],l1,hx _ _ _ _⟩
   |ok x =>
    obtain⟨x,l1⟩:=x
    have h3:=hp _ _ _ hq
    simp only [h.ok l.tail n a x l1 (by omega) hq,Zc1]
    exact Ai8 h hp hn hx K hK k m (mkX p.kind [e,x]) l1 (by omega) (by omega) (by omega)
theorem Ap4{rf:A2→Option Az}(h:Uo (Cc rf)):Uo (Gb rf):=fun l n a=>by
 obtain⟨e1,h1⟩:=h l n a
 simp only [Gb,Hv,h1,Zc1]
 exact⟨e1,rfl⟩
theorem A6b{rf:A2→Option Az}{part:TL→PR Xpr}{L:Nat}(h:SimP (Cc rf) part L) (hp:Em part):SimP (Gb rf) (Cw part (prs [PairS.mk [43] 12,PairS.mk [45] 13])) L where
 ok l n a e l' hl hq:=by
  simp only [Cw] at hq
  cases hr:part l with
  |error q=>rw [hr] at hq;cases hq
  |ok x =>
   obtain⟨e1,l1⟩:=x
   rw [hr] at hq
   have h3:=hp _ _ _ hr
   simp only at hq
   have:=Ai8 h hp (S:=[PairS.mk [43] 12,PairS.mk [45] 13]) (by simp [ln]) (n:=n) (a:=a) (z1:=Xpr.mk 0 ⟨0,0,[]⟩ [] []) (z2:=Xpr.mk 0 ⟨0,0,[]⟩ [] []) (c:=fun e l b a=>some (e,l,n,b,a)) (kx:=fun e vz=>match vz with|(_,v17,v18,v19,v20,_,_,v23)=>match e with
    |.exit 0=>some (v23,v17,v18,v19,v20)
    |_=>none) (fun _ _ _ _=>rfl) (l.length+3) (by simp) (l.length+3) (l1.length+1) e1 l1 (by omega) (by omega) (by omega)
   rw [hq] at this
   simp only [Gb,Hv,h.ok l n a e1 l1 hl hr,Zc1]
   exact this
 er l n a q hl hq:=by
  simp only [Cw] at hq
  cases hr:part l with
  |error q' =>
   rw [hr] at hq
   cases hq
   obtain⟨e1,l1,h1⟩:=h.er l n a q hl hr
   simp only [Gb,Hv,h1,Zc1]
   exact⟨e1,l1,rfl⟩
  |ok x =>
   obtain⟨e1,l1⟩:=x
   rw [hr] at hq
   have h3:=hp _ _ _ hr
   simp only at hq
   have:=Ai8 h hp (S:=[PairS.mk [43] 12,PairS.mk [45] 13]) (by simp [ln]) (n:=n) (a:=a) (z1:=Xpr.mk 0 ⟨0,0,[]⟩ [] []) (z2:=Xpr.mk 0 ⟨0,0,[]⟩ [] []) (c:=fun e l b a=>some (e,l,n,b,a)) (kx:=fun e vz=>match vz with|(_,v17,v18,v19,v20,_,_,v23)=>match e with
    |.exit 0=>some (v23,v17,v18,v19,v20)
    |_=>none) (fun _ _ _ _=>rfl) (l.length+3) (by simp) (l.length+3) (l1.length+1) e1 l1 (by omega) (by omega) (by omega)
   rw [hq] at this
   simp only [Gb,Hv,h.ok l n a e1 l1 hl hr,Zc1]
   exact this
 bad:=Ap4 h.bad
def cmpC:List PairS:=[PairS.mk [61] 6,PairS.mk [60,62] 7,PairS.mk [60] 8,PairS.mk [60,61] 9,PairS.mk [62] 10,PairS.mk [62,61] 11]
theorem Awc{R:Type}(rf:A2→Option Az) {kx:Ex→Nt→Option R}{S:List PairS}(hn:ln S.length) {l:TL}{n a:Int}{z e:Xpr}{c1:Xpr→TL→Int→Bool→Int→Option R}{c2:Option R}(h1:∀i l n b a x,kx .ret (S,(S.length:Int),i,l,n,b,a,x,e)=c1 x l n b a) (h2:kx (.exit 0) (S,(S.length:Int),(S.length:Int),l,n,false,a,z,e)=c2):∀(k i:Nat),i≤S.length→S.length-i<k →
  A5 (fun rc=>Aay rf rc kx) k (S,(S.length:Int),(i:Int),l,n,false,a,z,e)=match(S.drop i).find? (fun p=>isT p.sign l) with
   |none=>c2
   |some p=>(Gb rf (l.tail,n,false,a)).bind fun(x,y1,y2,y3,y4)=>c1 (mkX p.kind [e,x]) y1 y2 y3 y4
 |0,_,_,hk=>absurd hk (Zm1 _)
 |k+1,i,hi,hk=>by
  rw [Bu]
  by_cases hlt:i<S.length
  ·rw [A9 hlt]
   simp only [Aay,H1 hlt,Am,Bp hlt,chk,Bq (c :=.pair) hlt,Bg hlt hn,List.find?_cons]
   cases ht:isT S[i].sign l with
   |true =>
    simp only [Afu ht,Zc1,Am,h1]
    rfl
   |false=>simp only [Ahc ht,Zc1,An,Awc rf hn h1 h2 k (i+1) (by omega) (by omega)]
  ·obtain rfl:i=S.length:=by omega
   simp only [Aay,H0,An,h2,Zc2,List.find?_nil]
def isF(e:Xpr) (l:TL) (n a:Int):Option Az:=(Bh ([73,83],l,n,false,a)).bind fun(x15,x16,x17,x18,x19) =>
 cond (!x15) (some (e,x16,x17,x18,x19)) ((Bh ([78,79,84],x16,x17,x18,x19)).bind fun(x20,x21,x22,x23,x24) =>
  (Ba ([[78,85,76,76]],x21,x22,x23,x24)).bind fun(x25,x26,x27,x28) =>
   cond (x20) (some ((Xpr.mk 3 ⟨0,0,[]⟩ [] [(Xpr.mk 16 ⟨0,0,[]⟩ [] [e])]),x25,x26,x27,x28)) (some ((Xpr.mk 16 ⟨0,0,[]⟩ [] [e]),x25,x26,x27,x28)))
theorem Ayq(rf:A2→Option Az) {l l1:TL}{n a:Int}{e:Xpr}(h:Gb rf (l,n,false,a)=some (e,l1,n,false,a)):Nk rf (l,n,false,a)=match cmpC.find? (fun p=>isT p.sign l1) with
  |none=>isF e l1 n a
  |some p=>(Gb rf (l1.tail,n,false,a)).bind fun(x,y1,y2,y3,y4)=>some (mkX p.kind [e,x],y1,y2,y3,y4):=by
 simp only [Nk,I8,h,Zc1,An]
 exact Awc rf (S:=cmpC) (by simp [ln,cmpC]) (z:=Xpr.mk 0 ⟨0,0,[]⟩ [] []) (c1:=fun x l n b a=>some (x,l,n,b,a)) (c2:=isF e l1 n a) (fun _ _ _ _ _ _=>rfl) rfl 10 0 (Nat.zero_le _) (by decide)
theorem Bhl{e x:Xpr}{l l':TL}(h:(match isT sIS l with|true=>isP e l|false =>.ok (e,l)) = .ok (x,l')) (n a:Int):isF e l n a=some (x,l',n,false,a):=by
 simp only [isF]
 cases hi:isT sIS l with
 |false=>rw [hi] at h;cases h;simp only [Ahc (s:=[73,83]) hi,Zc1,Zs1,Am]
 |true =>
  rw [hi] at h
  simp only [isP] at h
  simp only [Afu (s:=[73,83]) hi,Zc1,Zt1,An]
  cases hn:isT M0 l.tail with
  |true =>
   rw [hn] at h
   simp only [Afu (s:=[78,79,84]) hn,Zc1,Am]
   cases hu:isT E3 l.tail.tail with
   |true=>simp only [hu] at h;cases h;simp only [Aa5 (by decide) (Arz (s:=[78,85,76,76]) hu),Zc1];rfl
   |false=>simp only [hu] at h;cases h
  |false =>
   rw [hn] at h
   simp only [Ahc (s:=[78,79,84]) hn,Zc1,An]
   cases hu:isT E3 l.tail with
   |true=>simp only [hu] at h;cases h;simp only [Aa5 (by decide) (Arz (s:=[78,85,76,76]) hu),Zc1];rfl
   |false=>simp only [hu] at h;cases h
theorem Bgt{e:Xpr}{l q:TL}(h:(match isT sIS l with|true=>isP e l|false =>.ok (e,l)) = .error q) (n a:Int):∃x l',isF e l n a=some (x,l',n,true,Lg n q):=by
 simp only [isF]
 cases hi:isT sIS l with
 |false=>rw [hi] at h;cases h
 |true =>
  rw [hi] at h
  simp only [isP] at h
  simp only [Afu (s:=[73,83]) hi,Zc1,Zt1,An]
  cases hn:isT M0 l.tail with
  |true =>
   rw [hn] at h
   simp only [Afu (s:=[78,79,84]) hn,Zc1,Am]
   cases hu:isT E3 l.tail.tail with
   |true=>simp only [hu] at h;cases h
   |false=>simp only [hu] at h;cases h;simp only [Ab4 (by decide) (Axy (s:=[78,85,76,76]) hu),Zc1];exact⟨_,_,rfl⟩
  |false =>
   rw [hn] at h
   simp only [Ahc (s:=[78,79,84]) hn,Zc1,An]
   cases hu:isT E3 l.tail with
   |true=>simp only [hu] at h;cases h
   |false=>simp only [hu] at h;cases h;simp only [Ab4 (by decide) (Axy (s:=[78,85,76,76]) hu),Zc1];exact⟨_,_,rfl⟩
theorem Apr{rf:A2→Option Az}(h:Uo (Gb rf)):Uo (Nk rf):=fun l n a=>by
 obtain⟨e1,h1⟩:=h l n a
 refine⟨e1,?_⟩
 simp only [Nk,I8,h1,Zc1,Am]
theorem A89{rf:A2→Option Az}{part:TL→PR Xpr}{L:Nat}(h:SimP (Gb rf) part L) (he:Em part):SimP (Nk rf) (Ab2 part) L where
 ok l n a e l' hl hp:=by
  simp only [Ab2] at hp
  cases hr:part l with
  |error q=>rw [hr] at hp;cases hp
  |ok x =>
   obtain⟨e1,l1⟩:=x
   have h3:=he _ _ _ hr
   have hf:cmpS.find? (fun p=>isT p.1 l1)=(cmpC.find? fun p=>isT p.sign l1).map fun p=>(p.sign,p.kind):=M7 l1 cmpC
   rw [hr] at hp
   simp only [hf] at hp
   rw [Ayq rf (h.ok l n a e1 l1 hl hr)]
   cases hs:cmpC.find? (fun p=>isT p.sign l1) with
   |none=>rw [hs] at hp;exact Bhl hp n a
   |some p =>
    rw [hs] at hp
    simp only [Zl2] at hp
    have h4:=Cf l1
    cases hq:part l1.tail with
    |error q=>rw [hq] at hp;cases hp
    |ok y =>
     obtain⟨x,l2⟩:=y
     rw [hq] at hp
     cases hp
     simp only [h.ok l1.tail n a x l' (by omega) hq,Zc1]
 er l n a q hl hp:=by
  simp only [Ab2] at hp
  cases hr:part l with
  |error q' =>
   rw [hr] at hp
   cases hp
   obtain⟨e1,l1,h1⟩:=h.er l n a q hl hr
   refine⟨e1,l1,?_⟩
   simp only [Nk,I8,h1,Zc1,Am]
  |ok x =>
   obtain⟨e1,l1⟩:=x
   have h3:=he _ _ _ hr
   have hf:cmpS.find? (fun p=>isT p.1 l1)=(cmpC.find? fun p=>isT p.sign l1).map fun p=>(p.sign,p.kind):=M7 l1 cmpC
   rw [hr] at hp
   simp only [hf] at hp
   rw [Ayq rf (h.ok l n a e1 l1 hl hr)]
   cases hs:cmpC.find? (fun p=>isT p.sign l1) with
   |none=>rw [hs] at hp;exact Bgt hp n a
   |some p =>
    rw [hs] at hp
    simp only [Zl2] at hp
    have h4:=Cf l1
    cases hq:part l1.tail with
    |ok y=>rw [hq] at hp;cases hp
    |error q' =>
     rw [hq] at hp
     cases hp
     obtain⟨e2,l2,h2⟩:=h.er l1.tail n a q (by omega) hq
     simp only [h2,Zc1]
     exact⟨_,_,rfl⟩
 bad:=Apr h.bad
theorem An7{R:Type}{kx:Ex→Nr→Option R}{s:Str}{kd n a:Int}{z1 z2:Xpr}{c:Int→TL→Option R}(h:∀i l,kx (.exit 0) (s,kd,i,l,n,false,a,z1,z2)=c i l):∀(k i:Nat) (l:TL),l.length<k→i+l.length≤1000000000 →
  A5 (fun rec=>Aas rec kx) k (s,kd,(i:Int),l,n,false,a,z1,z2)=c ((i+(Df s l).1:Nat):Int) (Df s l).2
 |0,_,_,hk,_=>absurd hk (Zm1 _)
 |k+1,i,l,hk,hb=>by
  rw [Bu]
  simp only [Aas,Zs1,Am]
  cases hi:isT s l with
  |false=>simp only [Ahc hi,Zc1,An,h,Af1 hi,Nat.add_zero]
  |true =>
   have hl:=O7 hi
   have hw:wr .i64 ((i:Int)+1)=((i+1:Nat):Int):=Bg (n:=i+1) (by omega) (by simp only [ln];omega)
   simp only [Afu hi,Zc1,Am,hw,An7 h k (i+1) l.tail (by omega) (by omega),Agd hi]
   rw [Nat.add_assoc,Nat.add_comm 1]
theorem Amg{R:Type}{kx:Ex→L8→Option R}{kd:Int}{m:Nat}{l:TL}{n a:Int}{b:Bool}{z1 z2:Xpr}{c:Xpr→Option R}(h:∀i e,kx (.exit 2) (kd,(m:Int),i,l,n,b,a,z1,z2,e)=c e) (hm:m≤1000000000):∀(k i:Nat) (e:Xpr),i≤m→m-i<k →
  A5 (fun rec=>Xf rec kx) k (kd,(m:Int),(i:Int),l,n,b,a,z1,z2,e)=c (N7 kd (m-i) e)
 |0,_,_,_,hk=>absurd hk (Zm1 _)
 |k+1,i,e,hi,hk=>by
  rw [Bu]
  by_cases hlt:i<m
  ·have hs:m-i=(m-(i+1))+1:=by omega
   simp only [Xf,H1 hlt,Am,Bg hlt (show ln m by simp only [ln];omega),Amg h hm k (i+1) _ (by omega) (by omega),hs,N7]
  ·obtain rfl:i=m:=by omega
   simp only [Xf,H0,An,h,Nat.sub_self,N7]
theorem Arc{rf:A2→Option Az}(h:Uo (Nk rf)):Uo (Ih rf):=fun l n a=>by
 obtain⟨e1,h1⟩:=h l n a
 refine⟨e1,?_⟩
 simp only [Ih,Jc,Bu,Aas,Zt1,An,h1,Zc1,Xf]
 rfl
theorem A4u{rf:A2→Option Az}{part:TL→PR Xpr}{L:Nat}(h:SimP (Nk rf) part L) (hL:L≤1000000000):SimP (Ih rf) (Br [78,79,84] 3 part) L where
 ok l n a e l' hl hp:=by
  have hs:=Pm [78,79,84] l
  rw [Kn] at hp
  simp only [Ih,Jc]
  refine(An7 (s:=[78,79,84]) (i:=0) (fun _ _=>rfl) (l.length+1) l (by omega) (by omega)).trans ?_
  cases hq:part (Df [78,79,84] l).2 with
  |error q=>rw [hq] at hp;cases hp
  |ok x =>
   obtain⟨e1,l1⟩:=x
   rw [hq] at hp
   cases hp
   simp only [h.ok _ n a e1 l' (by omega) hq,Zc1,Nat.zero_add]
   exact(Amg (c:=fun e=>some (e,l',n,false,a)) (fun _ _=>rfl) (by omega) (l.length+1) 0 e1 (Nat.zero_le _) (by omega)).trans rfl
 er l n a q hl hp:=by
  have hs:=Pm [78,79,84] l
  rw [Kn] at hp
  cases hq:part (Df [78,79,84] l).2 with
  |ok x=>rw [hq] at hp;cases hp
  |error q' =>
   rw [hq] at hp
   cases hp
   obtain⟨e1,l1,h1⟩:=h.er _ n a q (by omega) hq
   refine⟨N7 3 (Df [78,79,84] l).1 e1,l1,?_⟩
   simp only [Ih,Jc]
   refine(An7 (s:=[78,79,84]) (i:=0) (fun _ _=>rfl) (l.length+1) l (by omega) (by omega)).trans ?_
   simp only [h1,Zc1,Nat.zero_add]
   exact(Amg (c:=fun e=>some (e,l1,n,true,Lg n q)) (fun _ _=>rfl) (by omega) (l.length+1) 0 e1 (Nat.zero_le _) (by omega)).trans rfl
 bad:=Arc h.bad
theorem Ayo{R:Type}(rf:A2→Option Az) {kx:Ex→Nv→Option R}{S:List PairS}(hn:ln S.length) {l:TL}{n a:Int}{z1 z2 e:Xpr}{c1:Xpr→TL→Int→Bool→Int→Option R}{c2:Option R}(h1:∀i l n b a e,kx (.exit 1) (S,S,(S.length:Int),i,l,n,b,a,z1,z2,e)=c1 e l n b a) (h2:kx (.exit 2) (S,S,(S.length:Int),(S.length:Int),l,n,false,a,z1,z2,e)=c2):∀(k i:Nat),i≤S.length→S.length-i<k →
  A5 (fun rc=>Aa1 rf rc kx) k (S,S,(S.length:Int),(i:Int),l,n,false,a,z1,z2,e)=match(S.drop i).find? (fun p=>isT p.sign l) with
   |none=>c2
   |some p=>(Ih rf (l.tail,n,false,a)).bind fun(x,y1,y2,y3,y4)=>c1 (mkX p.kind [e,x]) y1 y2 y3 y4
 |0,_,_,hk=>absurd hk (Zm1 _)
 |k+1,i,hi,hk=>by
  rw [Bu]
  by_cases hlt:i<S.length
  ·rw [A9 hlt]
   simp only [Aa1,H1 hlt,Am,Bp hlt,chk,Bq (c :=.pair) hlt,Bg hlt hn,List.find?_cons]
   cases ht:isT S[i].sign l with
   |true =>
    simp only [Afu ht,Zc1,Am,h1]
    rfl
   |false=>simp only [Ahc ht,Zc1,An,Ayo rf hn h1 h2 k (i+1) (by omega) (by omega)]
  ·obtain rfl:i=S.length:=by omega
   simp only [Aa1,H0,An,h2,Zc2,List.find?_nil]
theorem Aif{R:Type}{rf:A2→Option Az}{part:TL→PR Xpr}{L:Nat}(h:SimP (Ih rf) part L) (hp:Em part) {kx:Ex→Ij→Option R}{S:List PairS}(hn:ln S.length) {n a:Int}{z1 z2:Xpr}{c:Xpr→TL→Bool→Int→Option R}(hx:∀l b a e,kx (.exit 0) (S,l,n,b,a,z1,z2,e)=c e l b a) (K:Nat) (hK:S.length<K):∀(k m:Nat) (e:Xpr) (l:TL),l.length<L→l.length<k→l.length<m →
  match B8 part (prs S) m e l with
  |.ok (e',l')=>A5 (fun rec=>Z0 K rf rec kx) k (S,l,n,false,a,z1,z2,e)=c e' l' false a
  |.error q=>∃e' l',A5 (fun rec=>Z0 K rf rec kx) k (S,l,n,false,a,z1,z2,e)=c e' l' true (Lg n q)
 |0,_,_,_,_,hk,_=>absurd hk (Zm1 _)
 |_,0,_,_,_,_,hk=>absurd hk (Zm1 _)
 |k+1,m+1,e,l,hl,hk,hm=>by
  have hin:=fun(rec:Ij→Option R)=>Ayo (R:=R) rf (kx:=fun e vz=>match vz with|(v5,_,_,_,v9,v10,v11,v12,v13,v14,v15)=>match e with
   |.exit 1=>rec (v5,v9,v10,v11,v12,v13,v14,v15)
   |.exit 2=>kx (.exit 0) (v5,v9,v10,v11,v12,v13,v14,v15)
   |_=>none) hn (l:=l) (n:=n) (a:=a) (z1:=z1) (z2:=z2) (e:=e) (c1:=fun e l n b a=>rec (S,l,n,b,a,z1,z2,e)) (fun _ _ _ _ _ _=>rfl) rfl K 0 (Nat.zero_le _) (by omega)
  have hit:∀rec:Ij→Option R,Z0 K rf rec kx (S,l,n,false,a,z1,z2,e)=_:=hin
  have hf:=M7 l S
  rw [Bu]
  simp only [B8,hit,Zq1]
  cases hs:S.find? (fun p=>isT p.sign l) with
  |none =>
   rw [hs] at hf
   simp only [Option.map_none] at hf
   rw [hf]
   exact hx _ _ _ _
  |some p =>
   rw [hs] at hf
   simp only [Zl2] at hf
   rw [hf]
   have hi:isT p.sign l=true:=by simpa using List.find?_some hs
   have hlt:=O7 hi
   cases hq:part l.tail with
   |error q =>
    obtain⟨e1,l1,h1⟩:=h.er l.tail n a q (by omega) hq
    simp only [h1,Zc1]
    obtain⟨k,rfl⟩:∃k',k=k'+1:=⟨k-1,by omega⟩
    exact⟨mkX p.kind [e,e1],l1,hx _ _ _ _⟩
   |ok x =>
    obtain⟨x,l1⟩:=x
    have h3:=hp _ _ _ hq
    simp only [h.ok l.tail n a x l1 (by omega) hq,Zc1]
    exact Aif h hp hn hx K hK k m (mkX p.kind [e,x]) l1 (by omega) (by omega) (by omega)
theorem Ap2{rf:A2→Option Az}(h:Uo (Ih rf)):Uo (G2 rf):=fun l n a=>by
 obtain⟨e1,h1⟩:=h l n a
 simp only [G2,Hm,h1,Zc1]
 exact⟨e1,rfl⟩
theorem A59{rf:A2→Option Az}{part:TL→PR Xpr}{L:Nat}(h:SimP (Ih rf) part L) (hp:Em part):SimP (G2 rf) (Cw part (prs [PairS.mk [65,78,68] 4])) L where
 ok l n a e l' hl hq:=by
  simp only [Cw] at hq
  cases hr:part l with
  |error q=>rw [hr] at hq;cases hq
  |ok x =>
   obtain⟨e1,l1⟩:=x
   rw [hr] at hq
   have h3:=hp _ _ _ hr
   simp only at hq
   have:=Aif h hp (S:=[PairS.mk [65,78,68] 4]) (by simp [ln]) (n:=n) (a:=a) (z1:=Xpr.mk 0 ⟨0,0,[]⟩ [] []) (z2:=Xpr.mk 0 ⟨0,0,[]⟩ [] []) (c:=fun e l b a=>some (e,l,n,b,a)) (kx:=fun e vz=>match vz with|(_,v17,v18,v19,v20,_,_,v23)=>match e with
    |.exit 0=>some (v23,v17,v18,v19,v20)
    |_=>none) (fun _ _ _ _=>rfl) (l.length+3) (by simp) (l.length+3) (l1.length+1) e1 l1 (by omega) (by omega) (by omega)
   rw [hq] at this
   simp only [G2,Hm,h.ok l n a e1 l1 hl hr,Zc1]
   exact this
 er l n a q hl hq:=by
  simp only [Cw] at hq
  cases hr:part l with
  |error q' =>
   rw [hr] at hq
   cases hq
   obtain⟨e1,l1,h1⟩:=h.er l n a q hl hr
   simp only [G2,Hm,h1,Zc1]
   exact⟨e1,l1,rfl⟩
  |ok x =>
   obtain⟨e1,l1⟩:=x
   rw [hr] at hq
   have h3:=hp _ _ _ hr
   simp only at hq
   have:=Aif h hp (S:=[PairS.mk [65,78,68] 4]) (by simp [ln]) (n:=n) (a:=a) (z1:=Xpr.mk 0 ⟨0,0,[]⟩ [] []) (z2:=Xpr.mk 0 ⟨0,0,[]⟩ [] []) (c:=fun e l b a=>some (e,l,n,b,a)) (kx:=fun e vz=>match vz with|(_,v17,v18,v19,v20,_,_,v23)=>match e with
    |.exit 0=>some (v23,v17,v18,v19,v20)
    |_=>none) (fun _ _ _ _=>rfl) (l.length+3) (by simp) (l.length+3) (l1.length+1) e1 l1 (by omega) (by omega) (by omega)
   rw [hq] at this
   simp only [G2,Hm,h.ok l n a e1 l1 hl hr,Zc1]
   exact this
 bad:=Ap2 h.bad
theorem A60{R:Type}(rf:A2→Option Az) {kx:Ex→T7→Option R}{S:List PairS}(hn:ln S.length) {l:TL}{n a:Int}{z1 z2 e:Xpr}{c1:Xpr→TL→Int→Bool→Int→Option R}{c2:Option R}(h1:∀i l n b a e,kx (.exit 1) (S,S,(S.length:Int),i,l,n,b,a,z1,z2,e)=c1 e l n b a) (h2:kx (.exit 2) (S,S,(S.length:Int),(S.length:Int),l,n,false,a,z1,z2,e)=c2):∀(k i:Nat),i≤S.length→S.length-i<k →
  A5 (fun rc=>Ai4 rf rc kx) k (S,S,(S.length:Int),(i:Int),l,n,false,a,z1,z2,e)=match(S.drop i).find? (fun p=>isT p.sign l) with
   |none=>c2
   |some p=>(G2 rf (l.tail,n,false,a)).bind fun(x,y1,y2,y3,y4)=>c1 (mkX p.kind [e,x]) y1 y2 y3 y4
 |0,_,_,hk=>absurd hk (Zm1 _)
 |k+1,i,hi,hk=>by
  rw [Bu]
  by_cases hlt:i<S.length
  ·rw [A9 hlt]
   simp only [Ai4,H1 hlt,Am,Bp hlt,chk,Bq (c :=.pair) hlt,Bg hlt hn,List.find?_cons]
   cases ht:isT S[i].sign l with
   |true =>
    simp only [Afu ht,Zc1,Am,h1]
    rfl
   |false=>simp only [Ahc ht,Zc1,An,A60 rf hn h1 h2 k (i+1) (by omega) (by omega)]
  ·obtain rfl:i=S.length:=by omega
   simp only [Ai4,H0,An,h2,Zc2,List.find?_nil]
theorem Anu{R:Type}{rf:A2→Option Az}{part:TL→PR Xpr}{L:Nat}(h:SimP (G2 rf) part L) (hp:Em part) {kx:Ex→Li→Option R}{S:List PairS}(hn:ln S.length) {n a:Int}{z1 z2:Xpr}{c:Xpr→TL→Bool→Int→Option R}(hx:∀l b a e,kx (.exit 0) (S,l,n,b,a,z1,z2,e)=c e l b a) (K:Nat) (hK:S.length<K):∀(k m:Nat) (e:Xpr) (l:TL),l.length<L→l.length<k→l.length<m →
  match B8 part (prs S) m e l with
  |.ok (e',l')=>A5 (fun rec=>Aht K rf rec kx) k (S,l,n,false,a,z1,z2,e)=c e' l' false a
  |.error q=>∃e' l',A5 (fun rec=>Aht K rf rec kx) k (S,l,n,false,a,z1,z2,e)=c e' l' true (Lg n q)
 |0,_,_,_,_,hk,_=>absurd hk (Zm1 _)
 |_,0,_,_,_,_,hk=>absurd hk (Zm1 _)
 |k+1,m+1,e,l,hl,hk,hm=>by
  have hin:=fun(rec:Li→Option R)=>A60 (R:=R) rf (kx:=fun e vz=>match vz with|(v5,_,_,_,v9,v10,v11,v12,v13,v14,v15)=>match e with
   |.exit 1=>rec (v5,v9,v10,v11,v12,v13,v14,v15)
   |.exit 2=>kx (.exit 0) (v5,v9,v10,v11,v12,v13,v14,v15)
   |_=>none) hn (l:=l) (n:=n) (a:=a) (z1:=z1) (z2:=z2) (e:=e) (c1:=fun e l n b a=>rec (S,l,n,b,a,z1,z2,e)) (fun _ _ _ _ _ _=>rfl) rfl K 0 (Nat.zero_le _) (by omega)
  have hit:∀rec:Li→Option R,Aht K rf rec kx (S,l,n,false,a,z1,z2,e)=_:=hin
  have hf:=M7 l S
  rw [Bu]
  simp only [B8,hit,Zq1]
  cases hs:S.find? (fun p=>isT p.sign l) with
  |none =>
   rw [hs] at hf
   simp only [Option.map_none] at hf
   rw [hf]
   exact hx _ _ _ _
  |some p =>
   rw [hs] at hf
   simp only [Zl2] at hf
   rw [hf]
   have hi:isT p.sign l=true:=by simpa using List.find?_some hs
   have hlt:=O7 hi
   cases hq:part l.tail with
   |error q =>
    obtain⟨e1,l1,h1⟩:=h.er l.tail n a q (by omega) hq
    simp only [h1,Zc1]
    obtain⟨k,rfl⟩:∃k',k=k'+1:=⟨k-1,by omega⟩
    exact⟨mkX p.kind [e,e1],l1,hx _ _ _ _⟩
   |ok x =>
    obtain⟨x,l1⟩:=x
    have h3:=hp _ _ _ hq
    simp only [h.ok l.tail n a x l1 (by omega) hq,Zc1]
    exact Anu h hp hn hx K hK k m (mkX p.kind [e,x]) l1 (by omega) (by omega) (by omega)
theorem Axr{rf:A2→Option Az}(h:Uo (G2 rf)):Uo (Uk rf):=fun l n a=>by
 obtain⟨e1,h1⟩:=h l n a
 simp only [Uk,Kz,h1,Zc1]
 exact⟨e1,rfl⟩
theorem A92{rf:A2→Option Az}{part:TL→PR Xpr}{L:Nat}(h:SimP (G2 rf) part L) (hp:Em part):SimP (Uk rf) (Cw part (prs [PairS.mk [79,82] 5])) L where
 ok l n a e l' hl hq:=by
  simp only [Cw] at hq
  cases hr:part l with
  |error q=>rw [hr] at hq;cases hq
  |ok x =>
   obtain⟨e1,l1⟩:=x
   rw [hr] at hq
   have h3:=hp _ _ _ hr
   simp only at hq
   have:=Anu h hp (S:=[PairS.mk [79,82] 5]) (by simp [ln]) (n:=n) (a:=a) (z1:=Xpr.mk 0 ⟨0,0,[]⟩ [] []) (z2:=Xpr.mk 0 ⟨0,0,[]⟩ [] []) (c:=fun e l b a=>some (e,l,n,b,a)) (kx:=fun e vz=>match vz with|(_,v17,v18,v19,v20,_,_,v23)=>match e with
    |.exit 0=>some (v23,v17,v18,v19,v20)
    |_=>none) (fun _ _ _ _=>rfl) (l.length+3) (by simp) (l.length+3) (l1.length+1) e1 l1 (by omega) (by omega) (by omega)
   rw [hq] at this
   simp only [Uk,Kz,h.ok l n a e1 l1 hl hr,Zc1]
   exact this
 er l n a q hl hq:=by
  simp only [Cw] at hq
  cases hr:part l with
  |error q' =>
   rw [hr] at hq
   cases hq
   obtain⟨e1,l1,h1⟩:=h.er l n a q hl hr
   simp only [Uk,Kz,h1,Zc1]
   exact⟨e1,l1,rfl⟩
  |ok x =>
   obtain⟨e1,l1⟩:=x
   rw [hr] at hq
   have h3:=hp _ _ _ hr
   simp only at hq
   have:=Anu h hp (S:=[PairS.mk [79,82] 5]) (by simp [ln]) (n:=n) (a:=a) (z1:=Xpr.mk 0 ⟨0,0,[]⟩ [] []) (z2:=Xpr.mk 0 ⟨0,0,[]⟩ [] []) (c:=fun e l b a=>some (e,l,n,b,a)) (kx:=fun e vz=>match vz with|(_,v17,v18,v19,v20,_,_,v23)=>match e with
    |.exit 0=>some (v23,v17,v18,v19,v20)
    |_=>none) (fun _ _ _ _=>rfl) (l.length+3) (by simp) (l.length+3) (l1.length+1) e1 l1 (by omega) (by omega) (by omega)
   rw [hq] at this
   simp only [Uk,Kz,h.ok l n a e1 l1 hl hr,Zc1]
   exact this
 bad:=Axr h.bad
theorem Bdb(rf:A2→Option Az):Uo (Uk rf):=Axr (Ap2 (Arc (Apr (Ap4 (Abb (Aot (Akr rf)))))))
theorem Bf5{rf:A2→Option Az}{L:Nat}(h:SimP rf orW L) (hL:L+1≤1000000000):SimP (Uk rf) orW (L+1):=by
 have e:orW=lev orW 1:=funext Aw9
 have e7:=G3 (s:=[45]) (k:=15) (Z1 Ao9)
 have e6:=Fg (sg:=[([42],14)]) e7
 have e5:=Fg (sg:=[([43],12),([45],13)]) e6
 have e3:Em (Br M0 3 _):=G3 (Aiy e5)
 have e2:=Fg (sg:=[(Aq5,4)]) e3
 have:=A92 (A59 (A4u (A89 (A6b (Aoh (A5q (A1v h) hL) e7) e6) e5) hL) e3) e2
 rw [e]
 exact this
theorem Am8:∀m:Nat,m≤1000000000→SimP (A5 (V:=A2) (R:=Az) Uk (m+1)) orW m
 |0,_=>⟨fun _ _ _ _ _ h=>absurd h (Zm1 _),fun _ _ _ _ h=>absurd h (Zm1 _),Bdb _⟩
 |m+1,h=>Bf5 (Am8 m (by omega)) h
theorem A6i{L:Nat}(hL:L≤1000000000):SimP Of orW L where
 ok l n a e l' hl hp:=(Am8 (l.length+1) (by omega)).ok l n a e l' (by omega) hp
 er l n a q hl hp:=(Am8 (l.length+1) (by omega)).er l n a q (by omega) hp
 bad l n a:=Bdb _ l n a
end Go.Proofs.YthndhaolemgbdaaGreatDoor
namespace Go.Proofs.YthndhaolemgbdaaGreatDoor
open Go.Ax
def Out{α γ:Type}(g : α→TL→γ) (E:Int→γ→Prop) (n:Int) (x:Option γ) (y:PR α):Prop:=match y with
 |.ok (r,l)=>x=some (g r l)
 |.error q=>∃z,x=some z∧E (Lg n q) z
def An9{γ:Type}(E:Int→γ→Prop) (b:Int) (x:Option γ):Prop:=∃z,x=some z∧E b z
section
variable {α β γ:Type}{g : β→TL→γ}{E:Int→γ→Prop}{n a:Int}
theorem Out.bindS{F:RS→Option (α×RS)}{p:TL→PR α}{L:Nat}(h:SimP F p L) {G : α×RS→Option γ}{f : α→TL→PR β}{l:TL}(hl:l.length<L) (h1:∀r l',p l = .ok (r,l')→Out g E n (G (r,l',n,false,a)) (f r l')) (h2:∀r l' b,An9 E b (G (r,l',n,true,b))):Out g E n ((F (l,n,false,a)).bind G) (bP p f l):=by
 unfold bP
 cases hq:p l with
 |error q =>
  obtain⟨e1,l1,h3⟩:=h.er l n a q hl hq
  rw [h3]
  exact h2 e1 l1 (Lg n q)
 |ok x =>
  obtain⟨r,l'⟩:=x
  rw [h.ok l n a r l' hl hq]
  exact h1 r l' hq
theorem An9.bindS{F:RS→Option (α×RS)}(h:Uo F) {G : α×RS→Option γ}{l:TL}{b:Int}(h2:∀r,An9 E b (G (r,l,n,true,b))):An9 E b ((F (l,n,true,b)).bind G):=by
 obtain⟨e,h1⟩:=h l n b
 rw [h1]
 exact h2 e
theorem Out.must{ss:List Str}(hs:ss.length≤100) {G:RS→Option γ}{f:Unit→TL→PR β}{l:TL}(h1:∀l',Co ss l = .ok ((),l')→Out g E n (G (l',n,false,a)) (f () l')) (h2:∀l' b,An9 E b (G (l',n,true,b))):Out g E n ((Ba (ss,l,n,false,a)).bind G) (bP (Co ss) f l):=by
 unfold bP
 rw [Ank hs]
 cases hq:Co ss l with
 |error q=>exact h2 q (Lg n q)
 |ok x =>
  obtain⟨⟨⟩,l'⟩:=x
  exact h1 l' hq
theorem An9.must{ss:List Str}{G:RS→Option γ}{l:TL}{b:Int}(h2:An9 E b (G (l,n,true,b))):An9 E b ((Ba (ss,l,n,true,b)).bind G):=by
 rw [Ano]
 exact h2
theorem Out.loop{part:TL→PR α}{m:Nat}{acc:List α}{l:TL}{X:Option γ}(c:List α→TL→Bool→Int→Option γ) {f:List α→TL→PR β}(hX:∀e l',Dx part m acc l = .ok (e,l')→X=c e l' false a) (hE:∀q,Dx part m acc l = .error q→∃e l',X=c e l' true (Lg n q)) (h1:∀e l',Dx part m acc l = .ok (e,l')→Out g E n (c e l' false a) (f e l')) (h2:∀e l' b,An9 E b (c e l' true b)):Out g E n X (bP (Dx part m acc) f l):=by
 unfold bP
 cases hq:Dx part m acc l with
 |error q =>
  obtain⟨e,l',h⟩:=hE q hq
  rw [h]
  exact h2 e l' (Lg n q)
 |ok x =>
  obtain⟨e,l'⟩:=x
  rw [hX e l' hq]
  exact h1 e l' hq
end
abbrev gV {α:Type}(n a:Int) (r : α) (l:TL) : α×RS:=(r,l,n,false,a)
abbrev EV {α:Type}(n:Int) (p:Int) (z : α×RS):Prop:=z.2.2.1=n∧z.2.2.2.1=true∧z.2.2.2.2=p
theorem SimP.of{α:Type}{F:RS→Option (α×RS)}{p:TL→PR α}{L:Nat}(h:∀l n a,l.length<L→Out (gV n a) (EV n) n (F (l,n,false,a)) (p l)) (hb:Uo F):SimP F p L where
 ok l n a e l' hl hp:=by
  have:=h l n a hl
  rw [hp] at this
  exact this
 er l n a q hl hp:=by
  have:=h l n a hl
  rw [hp] at this
  obtain⟨⟨r,l',n',b,p'⟩,h1,h2,h3,h4⟩:=this
  simp only at h2 h3 h4
  subst h2 h3 h4
  exact⟨r,l',h1⟩
 bad:=hb
end Go.Proofs.YthndhaolemgbdaaGreatDoor
namespace Go.Proofs.YthndhaolemgbdaaGreatDoor
open Go.Ax
section
variable {V R α:Type}{step:(V→Option R)→V→Option R}{st:TL→Int→Bool→Int→List α→V}{n:Int}{Fp:RS→Option (α×RS)}{part:TL→PR α}{L:Nat}{c:List α→TL→Bool→Int→Option R}
end
abbrev Cl:=Int×Str×Str×List Col×List Str×List Xpr×List (List Xpr)×List SetE×Bool×Int×Int×Int×Str×Str×List Xpr×List Str×List Bool×Int
end Go.Proofs.YthndhaolemgbdaaGreatDoor
namespace Go.Proofs.YthndhaolemgbdaaGreatDoor
open Go.Ax
section
variable {R:Type}{kx:Ex→Fx→Option R}{n:Int}{sn so:Str}{sc:List Col}{ss:List Str}{sl:List Xpr}{sr:List (List Xpr)}{sd:List Str}{se:List Bool}{sm:Int}
end
end Go.Proofs.YthndhaolemgbdaaGreatDoor
namespace Go.Proofs.YthndhaolemgbdaaGreatDoor
open Go.Ax
theorem Out.map{α β γ:Type}{g : α→TL→γ}{g' : β→TL→γ}{E:Int→γ→Prop}{n:Int}{x:Option γ}{p:TL→PR α}{h : α→β}{l:TL}(ho:Out g E n x (p l)) (hg:∀r l',g r l' = g' (h r) l'):Out g' E n x (bP p (fun w=>T8 (h w)) l):=by
 unfold bP
 cases hq:p l with
 |error q=>rw [hq] at ho;exact ho
 |ok y =>
  obtain⟨r,l'⟩:=y
  rw [hq] at ho
  exact ho.trans (congrArg some (hg r l'))
def Bf0(s:Stm):Cl:=(s.kind,s.name,s.on,s.cols,s.names,s.l,s.rows,s.sets,s.has,s.whr.kind,s.whr.v.kind,s.whr.v.n,s.whr.v.s,s.whr.name,s.whr.l,s.order,s.desc,s.most)
abbrev gS (n a:Int) (s:Stm) (l:TL):TL×Int×Bool×Int×Cl:=(l,n,false,a,Bf0 s)
abbrev z0:Cl:=(0,[],[],[],[],[],[],[],false,0,0,0,[],[],[],[],[],0)
end Go.Proofs.YthndhaolemgbdaaGreatDoor
namespace Go.Proofs.YthndhaolemgbdaaGreatDoor
open Go.Ax
abbrev c0 (nm:Str):Col:=Col.mk nm 0 false false []
section
variable {R:Type}{kx:Ex→Kj→Option R}(rec:Kj→Option R) (w:TL) (n a:Int) (z:Col) (nm:Str)
end
section
variable {L:Nat}(n a:Int) (nm:Str) (k:Int)
end
end Go.Proofs.YthndhaolemgbdaaGreatDoor
namespace Go.Proofs.YthndhaolemgbdaaGreatDoor
open Go.Ax
section
variable {V R:Type}{step:(V→Option R)→V→Option R}{st:TL→Int→Bool→Int→List Col→V}{n:Int}{L:Nat}{c:List Col→TL→Bool→Int→Option R}
end
end Go.Proofs.YthndhaolemgbdaaGreatDoor
namespace Go.Proofs.YthndhaolemgbdaaGreatDoor
open Go.Ax
open Lp (Dt Sc Bf)
end Go.Proofs.YthndhaolemgbdaaGreatDoor
namespace Go.Proofs.YthndhaolemgbdaaGreatDoor
open Go.Ax
open Lp (Dt Sc Bf)
def Nx(V:List Str) (l:TL):Prop:=Stop l∧No V l
def Fin(l:TL):Prop:=l=[]∨hdW [59] l
end Go.Proofs.YthndhaolemgbdaaGreatDoor
namespace Go.Proofs.YthndhaolemgbdaaGreatDoor
open Go.Ax
section
variable {R:Type}{n:Int}{nm:Str}{cs:List Col}{ns:List Str}
end
end Go.Proofs.YthndhaolemgbdaaGreatDoor
namespace Go.Proofs.YthndhaolemgbdaaGreatDoor
open Go.Ax
end Go.Proofs.YthndhaolemgbdaaGreatDoor
namespace Go.Proofs.YthndhaolemgbdaaGreatDoor
open Go.Ax
end Go.Proofs.YthndhaolemgbdaaGreatDoor
namespace Go.Proofs.YthndhaolemgbdaaGreatDoor
open Go.Ax
section
variable {R:Type}{kx:Ex→Ez→Option R}{n:Int}{c:Cl}
end
end Go.Proofs.YthndhaolemgbdaaGreatDoor
namespace Go.Proofs.YthndhaolemgbdaaGreatDoor
open Go.Ax
end Go.Proofs.YthndhaolemgbdaaGreatDoor
namespace Go.Proofs.YthndhaolemgbdaaGreatDoor
open Go.Ax
end Go.Proofs.YthndhaolemgbdaaGreatDoor
namespace Go.Proofs.YthndhaolemgbdaaGreatDoor
open Go.Ax
abbrev gF (n a:Int) (s:Stm) (l:TL):Stm×RS:=(s,Bc8 l,n,false,a)
section
variable {R:Type}{kx:Ex→I3→Option R}{n:Int}{nm:Str}
end
end Go.Proofs.YthndhaolemgbdaaGreatDoor
namespace Go.Proofs.YthndhaolemgbdaaGreatDoor
open Go.Ax
end Go.Proofs.YthndhaolemgbdaaGreatDoor
namespace Go.Proofs.YthndhaolemgbdaaGreatDoor
open Go.Ax
end Go.Proofs.YthndhaolemgbdaaGreatDoor
namespace Go.Proofs.YthndhaolemgbdaaGreatDoor
open Go.Ax
def S5(R:Type):Px R:=⟨A7 ttL,glT,Aq [(116,As [.str] [.sl .tok true,.int .i64,.int .i64] An4)],Ak [],Av [],tbl []⟩
noncomputable def W4 (R:Type):Px R:=⟨A7 ttL,glT,Aq [(85,Ao Vb V5 Aok),(86,Ao V1 V2 Kb),(25,As [.sv .stmt] [.int .i64] Ab3),(84,Bb 40 200 (S5 R) Tryz.f84)],Ak [],Av [],tbl []⟩
def Z7(x:HV [.str]):Option (HV [.sv .stmt,.int .i64,.int .i64]):=match x with
 |s =>
 cond (!decide ((Gq s).2.2=0)) (
  some ((Stm.mk 0 [] [] [] [] [] [] [] false (Xpr.mk 0 ⟨0,0,[]⟩ [] []) [] [] 0),(Gq s).2.1,(Gq s).2.2)) (
  (Aok ((Gq s).1,(s.length:Int),false,0)).bind fun(x,x1,x2,x3,x4) =>
  (Kb (x1,x2,x3,x4)).bind fun(x5,_,_,_,x9) =>
   cond (!x5) (
   some ((Stm.mk 0 [] [] [] [] [] [] [] false (Xpr.mk 0 ⟨0,0,[]⟩ [] []) [] [] 0),x9,11)) (
   (Uv x).bind fun x10 =>
    cond (!decide (x10=0)) (
    some ((Stm.mk 0 [] [] [] [] [] [] [] false (Xpr.mk 0 ⟨0,0,[]⟩ [] []) [] [] 0),0,x10)) (
    some (x,0,0))))
theorem A3f:∀(x:HV [.str]),Ci (W4 _) Tryz.f30 [.str] [.sv .stmt,.int .i64,.int .i64] x some=Z7 x
 |s=>by kernel_rfl
theorem A04:FnOk Tryz.prog elT glT 30 [.str] [.sv .stmt,.int .i64,.int .i64] (Z7):=by
 refine A1 Tryz.func30 rfl (by kernel_rfl) follows (by kernel_rfl) (n:=0) (by kernel_rfl) (px:=W4 _) (fun cx hP hel hgl =>?_) (A3f)
 have hp1:PxOk cx (S5 (HV [.sv .stmt,.int .i64,.int .i64])):=⟨fun t=>by rw [hP,hel];exact Au Al t,by rw [hgl];rfl⟩
 have hc1:Aj cx (S5 (HV [.sv .stmt,.int .i64,.int .i64])):=Ah rfl (Aa (A4 (by rw [hP,hel,hgl];exact Axm) (by kernel_rfl)) Ai)
 have hq1:CallQOk cx (S5 (HV [.sv .stmt,.int .i64,.int .i64])):=Ab rfl rfl Af Ae
 have hp0:PxOk cx (W4 (HV [.sv .stmt,.int .i64,.int .i64])):=⟨fun t=>by rw [hP,hel];exact Au Al t,by rw [hgl];rfl⟩
 have hc0:Aj cx (W4 (HV [.sv .stmt,.int .i64,.int .i64])):=Ah rfl (Aa (A3 (by rw [hP,hel,hgl];exact A33) (by kernel_rfl)) (Aa (A3 (by rw [hP,hel,hgl];exact Arx) (by kernel_rfl)) (Aa (A4 (by rw [hP,hel,hgl];exact Aln) (by kernel_rfl)) (Aa (Bm hp1 hc1 hq1 (by rw [hP];exact follows) (by rw [hP];exact Tryz.func84) rfl (by kernel_rfl) (by kernel_rfl) (n:=0) (by kernel_rfl) (Aw)) Ai))))
 have hq0:CallQOk cx (W4 (HV [.sv .stmt,.int .i64,.int .i64])):=Ab rfl rfl Af Ae
 exact⟨hp0,hc0,hq0,Aw⟩
def A4l(s:Str):Option (Stm×Int×Int):=Z7 s
def Ana:FT [.str] [.sv .stmt,.int .i64,.int .i64]:=fun x=>A4l x
theorem Aq7:FnOk Tryz.prog elT glT 30 [.str] [.sv .stmt,.int .i64,.int .i64] Ana :=.fin0 A04 fun _ _ _ hx=>hx
def Tg(R:Type):Px R:=⟨A7 ttL,glT,Aq [(116,As [.str] [.sl .tok true,.int .i64,.int .i64] An4)],Ak [],Av [],tbl []⟩
noncomputable def Uu (R:Type):Px R:=⟨A7 ttL,glT,Aq [(90,Ao Cn Cm Of),(86,Ao V1 V2 Kb),(18,As [.sv .expr] [.int .i64] Axi),(84,Bb 40 200 (Tg R) Tryz.f84)],Ak [],Av [],tbl []⟩
def Ta(x:HV [.str]):Option (HV [.sv .expr,.int .i64,.int .i64]):=match x with
 |s =>
 cond (!decide ((Gq s).2.2=0)) (
  some ((Xpr.mk 0 ⟨0,0,[]⟩ [] []),(Gq s).2.1,(Gq s).2.2)) (
  (Of ((Gq s).1,(s.length:Int),false,0)).bind fun(x,x1,x2,x3,x4) =>
  (Kb (x1,x2,x3,x4)).bind fun(x5,_,_,_,x9) =>
   cond (!x5) (
   some ((Xpr.mk 0 ⟨0,0,[]⟩ [] []),x9,11)) (
   cond (!decide ((Zj x)=0)) (
    some ((Xpr.mk 0 ⟨0,0,[]⟩ [] []),0,(Zj x))) (
    some (x,0,0))))
theorem A8h:∀(x:HV [.str]),Ci (Uu _) Tryz.f32 [.str] [.sv .expr,.int .i64,.int .i64] x some=Ta x
 |s=>by kernel_rfl
theorem Azf:FnOk Tryz.prog elT glT 32 [.str] [.sv .expr,.int .i64,.int .i64] (Ta):=by
 refine A1 Tryz.func32 rfl (by kernel_rfl) follows (by kernel_rfl) (n:=0) (by kernel_rfl) (px:=Uu _) (fun cx hP hel hgl =>?_) (A8h)
 have hp1:PxOk cx (Tg (HV [.sv .expr,.int .i64,.int .i64])):=⟨fun t=>by rw [hP,hel];exact Au Al t,by rw [hgl];rfl⟩
 have hc1:Aj cx (Tg (HV [.sv .expr,.int .i64,.int .i64])):=Ah rfl (Aa (A4 (by rw [hP,hel,hgl];exact Axm) (by kernel_rfl)) Ai)
 have hq1:CallQOk cx (Tg (HV [.sv .expr,.int .i64,.int .i64])):=Ab rfl rfl Af Ae
 have hp0:PxOk cx (Uu (HV [.sv .expr,.int .i64,.int .i64])):=⟨fun t=>by rw [hP,hel];exact Au Al t,by rw [hgl];rfl⟩
 have hc0:Aj cx (Uu (HV [.sv .expr,.int .i64,.int .i64])):=Ah rfl (Aa (A3 (by rw [hP,hel,hgl];exact Aho) (by kernel_rfl)) (Aa (A3 (by rw [hP,hel,hgl];exact Arx) (by kernel_rfl)) (Aa (A4 (by rw [hP,hel,hgl];exact A57) (by kernel_rfl)) (Aa (Bm hp1 hc1 hq1 (by rw [hP];exact follows) (by rw [hP];exact Tryz.func84) rfl (by kernel_rfl) (by kernel_rfl) (n:=0) (by kernel_rfl) (Aw)) Ai))))
 have hq0:CallQOk cx (Uu (HV [.sv .expr,.int .i64,.int .i64])):=Ab rfl rfl Af Ae
 exact⟨hp0,hc0,hq0,Aw⟩
def Ze(s:Str):Option (Xpr×Int×Int):=Ta s
def An1:FT [.str] [.sv .expr,.int .i64,.int .i64]:=fun x=>Ze x
theorem Aq8:FnOk Tryz.prog elT glT 32 [.str] [.sv .expr,.int .i64,.int .i64] An1 :=.fin0 Azf fun _ _ _ hx=>hx
def Q0(R:Type):Px R:=⟨A7 ttL,glT,Aq [(30,As [.str] [.sv .stmt,.int .i64,.int .i64] Ana),(23,As [.sv .stmt] [.str,.int .i64] Ar4)],Ak [],Av [],tbl []⟩
def V0(x:HV [.str]):Option (HV [.str,.int .i64,.int .i64]):=match x with
 |s =>
 (A4l s).bind fun(x,x1,x2) =>
  cond (!decide (x2=0)) (
  some ([],x1,x2)) (
  (Am9 x).bind fun(x3,x4) =>
   some (x3,0,x4))
theorem Ay9:∀(x:HV [.str]),Ci (Q0 _) Tryz.f34 [.str] [.str,.int .i64,.int .i64] x some=V0 x
 |s=>by kernel_rfl
theorem Ats:FnOk Tryz.prog elT glT 34 [.str] [.str,.int .i64,.int .i64] (V0):=by
 refine A1 Tryz.func34 rfl (by kernel_rfl) follows (by kernel_rfl) (n:=0) (by kernel_rfl) (px:=Q0 _) (fun cx hP hel hgl =>?_) (Ay9)
 have hp0:PxOk cx (Q0 (HV [.str,.int .i64,.int .i64])):=⟨fun t=>by rw [hP,hel];exact Au Al t,by rw [hgl];rfl⟩
 have hc0:Aj cx (Q0 (HV [.str,.int .i64,.int .i64])):=Ah rfl (Aa (A4 (by rw [hP,hel,hgl];exact Aq7) (by kernel_rfl)) (Aa (A4 (by rw [hP,hel,hgl];exact Azu) (by kernel_rfl)) Ai))
 have hq0:CallQOk cx (Q0 (HV [.str,.int .i64,.int .i64])):=Ab rfl rfl Af Ae
 exact⟨hp0,hc0,hq0,Aw⟩
def A5e(s:Str):Option (Str×Int×Int):=V0 s
def Apu:FT [.str] [.str,.int .i64,.int .i64]:=fun x=>A5e x
theorem A0o:FnOk Tryz.prog elT glT 34 [.str] [.str,.int .i64,.int .i64] Apu :=.fin0 Ats fun _ _ _ hx=>hx
def Mo(R:Type):Px R:=⟨A7 ttL,glT,Aq [(34,As [.str] [.str,.int .i64,.int .i64] Apu),(30,As [.str] [.sv .stmt,.int .i64,.int .i64] Ana),(32,As [.str] [.sv .expr,.int .i64,.int .i64] An1),(14,As [.sv .expr] [.str,.int .i64] An6)],Ak [],Av [],tbl []⟩
def Sn(x:HV []):Option (HV [.bool]):=match x with
 |() =>
 (A5e [83,69,76,69,67,84,32,97,43,98,42,50,32,70,82,79,77,32,116,32,87,72,69,82,69,32,78,79,84,32,97,61,49,32,79,82,32,98,32,73,83,32,78,79,84,32,78,85,76,76]).bind fun(x,x1,x2) =>
  (A4l [83,69,76,69,67,84,32,97,32,70,82,79,77]).bind fun(_,x4,x5) =>
  (Ze [97,45,98,45,49]).bind fun(x6,_,x8) =>
   (Zh x6).bind fun(x9,_) =>
   let j3:=fun(p:Bool) =>
    let j2:=fun(p1:Bool) =>
    let j1:=fun(p2:Bool) =>
     let j:=fun(p3:Bool) =>
     cond (p3) (
      cond (decide (x8=0)) (
      some (decide (x9=[40,40,97,32,45,32,98,41,32,45,32,49,41]))) (
      some false)) (
      some false)
     cond (p2) (
     j (decide (x5=11))) (
     j false)
    cond (p1) (
     j1 (decide (x4=13))) (
     j1 false)
    cond (p) (
    j2 (decide (x2=0))) (
    j2 false)
   cond (decide (x=[83,69,76,69,67,84,32,40,97,32,43,32,40,98,32,42,32,50,41,41,32,70,82,79,77,32,116,32,87,72,69,82,69,32,40,40,78,79,84,32,40,97,32,61,32,49,41,41,32,79,82,32,40,78,79,84,32,40,98,32,73,83,32,78,85,76,76,41,41,41])) (
    j3 (decide (x1=0))) (
    j3 false)
theorem Aut:∀(x:HV []),Ci (Mo _) Tryz.f29 [] [.bool] x some=Sn x
 |()=>by kernel_rfl
theorem Ao5:FnOk Tryz.prog elT glT 29 [] [.bool] (Sn):=by
 refine A1 Tryz.func29 rfl (by kernel_rfl) follows (by kernel_rfl) (n:=0) (by kernel_rfl) (px:=Mo _) (fun cx hP hel hgl =>?_) (Aut)
 have hp0:PxOk cx (Mo (HV [.bool])):=⟨fun t=>by rw [hP,hel];exact Au Al t,by rw [hgl];rfl⟩
 have hc0:Aj cx (Mo (HV [.bool])):=Ah rfl (Aa (A4 (by rw [hP,hel,hgl];exact A0o) (by kernel_rfl)) (Aa (A4 (by rw [hP,hel,hgl];exact Aq7) (by kernel_rfl)) (Aa (A4 (by rw [hP,hel,hgl];exact Aq8) (by kernel_rfl)) (Aa (A4 (by rw [hP,hel,hgl];exact Aqa) (by kernel_rfl)) Ai))))
 have hq0:CallQOk cx (Mo (HV [.bool])):=Ab rfl rfl Af Ae
 exact⟨hp0,hc0,hq0,Aw⟩
def Ys:Option Bool:=Sn ()
def Ak6:FT [] [.bool]:=fun _=>Ys
theorem Asp:FnOk Tryz.prog elT glT 29 [] [.bool] Ak6 :=.fin0 Ao5 fun _ _ _ hx=>hx
end Go.Proofs.YthndhaolemgbdaaGreatDoor
namespace Go.Proofs.YthndhaolemgbdaaGreatDoor
open Go.Ax
theorem A9e(n a:Int):Kb ([],n,false,a)=some (true,[],n,false,a):=rfl
theorem A27(t:Tok) (r:TL) (n a:Int):Kb (t::r,n,false,a)=some (false,t::r,n,true,t.pos):=by
 have e:decide (0<((t::r).length:Int))=true:=Ze1 (by simp only [Zf1];omega)
 simp only [Kb,Nw,e,Am,Awt,Zc1]
 rfl
theorem A8t(l:TL) (n a:Int):Kb (l,n,true,a)=some (false,l,n,true,a):=by
 simp only [Kb,Nw,Axd,Zc1]
 cases decide (0<(l.length:Int))<;>rfl
def xS(s:Str):Option (Stm×Int×Int):=if(Gq s).2.2=0 then match Bej (Gq s).1 with
  |.error q=>some (zS,Lg s.length q,11)
  |.ok x=>(Uv x).bind fun e=>if e=0 then some (x,0,0) else some (zS,0,e)
 else some (zS,(Gq s).2.1,(Gq s).2.2)
def xX(s:Str):Option (Xpr×Int×Int):=if(Gq s).2.2=0 then match Aaf (Gq s).1 with
  |.error q=>some (zX,Lg s.length q,11)
  |.ok x=>if Zj x=0 then some (x,0,0) else some (zX,0,Zj x)
 else some (zX,(Gq s).2.1,(Gq s).2.2)
theorem Apb(s:Str) (hs:(Gq s).1.length<1000000000):Ze s=xX s:=by
 unfold xX Ze
 simp only [Ta]
 by_cases h0:(Gq s).2.2=0
 ·rw [Ze1 h0,if_pos h0]
  simp only [Zt1,An]
  unfold Aaf
  cases hq:orW (Gq s).1 with
  |error q =>
   obtain⟨x,l',h1⟩:=(A6i (L:=1000000000) (Zn1 _)).er (Gq s).1 (s.length:Int) 0 q hs hq
   simp only [h1,Zc1,A8t,Zs1,Am]
   rfl
  |ok y =>
   obtain⟨x,l'⟩:=y
   simp only [(A6i (L:=1000000000) (Zn1 _)).ok (Gq s).1 (s.length:Int) 0 x l' hs hq,Zc1]
   cases l' with
   |nil =>
    simp only [A9e,Zc1,Zt1,An]
    by_cases he:Zj x=0
    ·rw [Ze1 he,if_pos he];rfl
    ·rw [Zd1 he,if_neg he];rfl
   |cons t r =>
    simp only [A27,Zc1,Zs1,Am]
    rfl
 ·rw [Zd1 h0,if_neg h0]
  rfl
end Go.Proofs.YthndhaolemgbdaaGreatDoor
namespace Go.Proofs.YthndhaolemgbdaaGreatDoor
open Go.Ax
end Go.Proofs.YthndhaolemgbdaaGreatDoor
namespace Go.Proofs.YthndhaolemgbdaaGreatDoor
open Go.Ax
theorem Anh:Ys=some true:=by kernel_rfl
end Go.Proofs.YthndhaolemgbdaaGreatDoor
namespace Go.Proofs.YthndhaolemgbdaaGreatDoor
open Go.Ax
end Go.Proofs.YthndhaolemgbdaaGreatDoor
namespace Go.Proofs.YthndhaolemgbdaaGreatDoor
open Go.Ax
end Go.Proofs.YthndhaolemgbdaaGreatDoor
namespace Go.Proofs.YthndhaolemgbdaaGreatDoor
open Go.Ax
def hd(q:List Int) (i:Nat):Int:=q.getD i 0
end Go.Proofs.YthndhaolemgbdaaGreatDoor
