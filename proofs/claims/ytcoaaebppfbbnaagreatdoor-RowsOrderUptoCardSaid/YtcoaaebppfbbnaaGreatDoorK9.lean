/- Texts of the proof,one behind the other: Cu. -/
import Derived.Test.YtcoaaebppfbbnaaGreatDoorK8
set_option linter.all false
namespace Go.Proofs.YtcoaaebppfbbnaaGreatDoor
open Go.Ax
abbrev kS:List Sg:=[.int .i64,.sl .byte false,.bool,.sl .byte false,.sl .node false,.sl .byte false,.sl .stt true,.sl .byte false]
abbrev pinI:Sig:=⟨3,[(1,.sv .tbl),(2,.sl .val false)],[(0,.ptr 0 0)],[(0,.cells kS)],1,1,0,[],[]⟩
abbrev pinO:Sig:=⟨1,[(0,.int .i64)],[],[(0,.cells kS)],1,1,0,[],[]⟩
abbrev byI:Sig:=⟨4,[(1,.sv .tbl),(2,.str),(3,.sv .val)],[(0,.ptr 0 0)],[(0,.cells kS)],1,1,0,[],[]⟩
abbrev byO:Sig:=⟨2,[(0,.sl .vals false),(1,.int .i64)],[],[(0,.cells kS)],1,1,0,[],[]⟩
abbrev findI:Sig:=⟨3,[(1,.sv .tbl),(2,.sl .val false)],[(0,.ptr 0 0)],[(0,.cells kS)],1,1,0,[],[]⟩
abbrev findO:Sig:=⟨3,[(0,.sl .val false),(1,.bool),(2,.int .i64)],[],[(0,.cells kS)],1,1,0,[],[]⟩
abbrev rangeI:Sig:=⟨4,[(1,.sl .byte false),(2,.sl .byte false),(3,.int .i64)],[(0,.ptr 0 0)],[(0,.cells kS)],1,1,0,[],[]⟩
abbrev rangeO:Sig:=⟨2,[(0,.sl .kv false),(1,.int .i64)],[],[(0,.cells kS)],1,1,0,[],[]⟩
def e18:HV kS:=(0,[],false,[],[],[],[],[])
def s18:HV kS:=(2,(0::4::[],(false,([],((.mk (3) ([]) (false) ([]) ((.mk (0) ([]) (false) ([]) ([]) ([]))::(.mk (0) ([]) (false) ([]) ([]) ([]))::(.mk (0) ([]) (false) ([]) ([]) ([]))::(.mk (0) ([]) (false) ([]) ([]) ([]))::(.mk (0) ([]) (false) ([]) ([]) ([]))::(.mk (0) ([]) (false) ([]) ([]) ([]))::(.mk (1) (9::0::0::0::1::0::4::6::9::0::0::0::1::0::4::7::8::0::0::0::1::0::3::8::0::0::0::0::0::0::0::0::0::0::0::0::0::0::1::[]) (false) ([]) ([]) ([]))::(.mk (3) ([]) (false) ([]) ((.mk (0) ([]) (false) ([]) ([]) ([]))::(.mk (0) ([]) (false) ([]) ([]) ([]))::(.mk (1) (0::0::0::1::0::4::7::4::0::0::0::1::0::3::8::0::0::0::0::0::0::0::0::0::0::0::0::0::0::1::[]) (false) (2::3::2::4::1::120::[]) ([]) ([]))::(.mk (0) ([]) (false) ([]) ([]) ([]))::(.mk (0) ([]) (false) ([]) ([]) ([]))::(.mk (1) (0::0::0::1::0::4::7::4::0::0::0::1::0::4::6::2::0::0::0::1::0::4::7::8::0::0::0::1::[]) (false) (1::3::2::[]) ([]) ([]))::(.mk (0) ([]) (false) ([]) ([]) ([]))::(.mk (0) ([]) (false) ([]) ([]) ([]))::(.mk (0) ([]) (false) ([]) ([]) ([]))::(.mk (0) ([]) (false) ([]) ([]) ([]))::(.mk (0) ([]) (false) ([]) ([]) ([]))::(.mk (0) ([]) (false) ([]) ([]) ([]))::(.mk (0) ([]) (false) ([]) ([]) ([]))::(.mk (0) ([]) (false) ([]) ([]) ([]))::(.mk (0) ([]) (false) ([]) ([]) ([]))::(.mk (0) ([]) (false) ([]) ([]) ([]))::[]) ([]))::(.mk (0) ([]) (false) ([]) ([]) ([]))::(.mk (0) ([]) (false) ([]) ([]) ([]))::(.mk (0) ([]) (false) ([]) ([]) ([]))::(.mk (0) ([]) (false) ([]) ([]) ([]))::(.mk (0) ([]) (false) ([]) ([]) ([]))::(.mk (0) ([]) (false) ([]) ([]) ([]))::(.mk (0) ([]) (false) ([]) ([]) ([]))::(.mk (0) ([]) (false) ([]) ([]) ([]))::[]) ([]))::[],([],([],[])))))))
theorem Bpq{f:FuncId}{fn:Func}{c:Code}{sg so:Sig}{x y:HV sg.sgs}{r q:HV so.sgs}(hf:Tryz.prog.funcs[f]? = some fn)(hb:fn.body=some c)(hname:(fn.name == "runtime.NumGoroutine")=false)(hc:(Bm fn.ntmps c&&Nat.ble sg.n fn.ntmps)=true)(hr:Hg (Kp (HV so.sgs)) fn sg so x some=some r)(hq:Hg (Kp (HV so.sgs)) fn sg so y some=some q):FM f sg so (G0 sg.sgs so.sgs [(x,r),(y,q)]):=by
 refine(Aad (px:=Kp (HV so.sgs)) (F:=λx=>Hg (Kp (HV so.sgs)) fn sg so x some) hf hb hname follows hc (λcx e1 e2 e3 =>?_) (λ_=>rfl)).le (Aar ?_)
 ·have h:=(Y3 (HV so.sgs) cx e1 e2 e3).to1;exact⟨h.1,h.2.1,h.2.2.1,λb _=>h.2.2.2 b⟩
 ·intro z hz;rcases List.mem_cons.1 hz with h|h
  ·subst h;exact hr
  ·cases List.mem_singleton.1 h;exact hq
def Bwm:KvS:=⟨[4,105,0,1,4,105,0,1,4,120,0,1,3,128,0,0,0,0,0,0,1],[]⟩
end Go.Proofs.YtcoaaebppfbbnaaGreatDoor
