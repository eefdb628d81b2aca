/- Texts of the proof,one behind the other: Cu. -/
import Derived.Test.YtcoaaebppfbbnaaGreatDoorV9
set_option linter.all false
open List renaming mem_cons->ek
open Option renaming some->J
open Bool renaming true->ae,false->ai
open Nat renaming ble->dz
namespace Go.Proofs.YtcoaaebppfbbnaaGreatDoor
open Go.dS
abbrev pF:U ck:=[aq,aC,.bool,aC,.sl .node ai,aC,.sl .stt ae,aC]
abbrev Cx:bt:=⟨3,[(1,.aI .tbl),(2,.sl .val ai)],[(0,.ptr 0 0)],[(0,.cells pF)],1,1,0,[],[]⟩
abbrev vh:bt:=⟨1,[(0,.int .i64)],[],[(0,.cells pF)],1,1,0,[],[]⟩
abbrev IF:bt:=⟨4,[(1,.aI .tbl),(2,.str),(3,.aI .val)],[(0,.ptr 0 0)],[(0,.cells pF)],1,1,0,[],[]⟩
abbrev B9:bt:=⟨2,[(0,.sl .ep ai),(1,.int .i64)],[],[(0,.cells pF)],1,1,0,[],[]⟩
abbrev Ci:bt:=⟨3,[(1,.aI .tbl),(2,.sl .val ai)],[(0,.ptr 0 0)],[(0,.cells pF)],1,1,0,[],[]⟩
abbrev y4:bt:=⟨3,[(0,.sl .val ai),(1,.bool),(2,.int .i64)],[],[(0,.cells pF)],1,1,0,[],[]⟩
abbrev CA:bt:=⟨4,[(1,.sl .byte ai),(2,.sl .byte ai),(3,.int .i64)],[(0,.ptr 0 0)],[(0,.cells pF)],1,1,0,[],[]⟩
abbrev za:bt:=⟨2,[(0,.sl .kv ai),(1,.int .i64)],[],[(0,.cells pF)],1,1,0,[],[]⟩
def IH:au pF:=(0,[],ai,[],[],[],[],[])
def kU:au pF:=(2,(0::4::[],(ai,([],((.mk (3) ([]) (ai) ([]) ((.mk (0) ([]) (ai) ([]) ([]) ([]))::(.mk (0) ([]) (ai) ([]) ([]) ([]))::(.mk (0) ([]) (ai) ([]) ([]) ([]))::(.mk (0) ([]) (ai) ([]) ([]) ([]))::(.mk (0) ([]) (ai) ([]) ([]) ([]))::(.mk (0) ([]) (ai) ([]) ([]) ([]))::(.mk (1) (9::0::0::0::1::0::4::6::9::0::0::0::1::0::4::7::8::0::0::0::1::0::3::8::0::0::0::0::0::0::0::0::0::0::0::0::0::0::1::[]) (ai) ([]) ([]) ([]))::(.mk (3) ([]) (ai) ([]) ((.mk (0) ([]) (ai) ([]) ([]) ([]))::(.mk (0) ([]) (ai) ([]) ([]) ([]))::(.mk (1) (0::0::0::1::0::4::7::4::0::0::0::1::0::3::8::0::0::0::0::0::0::0::0::0::0::0::0::0::0::1::[]) (ai) (2::3::2::4::1::120::[]) ([]) ([]))::(.mk (0) ([]) (ai) ([]) ([]) ([]))::(.mk (0) ([]) (ai) ([]) ([]) ([]))::(.mk (1) (0::0::0::1::0::4::7::4::0::0::0::1::0::4::6::2::0::0::0::1::0::4::7::8::0::0::0::1::[]) (ai) (1::3::2::[]) ([]) ([]))::(.mk (0) ([]) (ai) ([]) ([]) ([]))::(.mk (0) ([]) (ai) ([]) ([]) ([]))::(.mk (0) ([]) (ai) ([]) ([]) ([]))::(.mk (0) ([]) (ai) ([]) ([]) ([]))::(.mk (0) ([]) (ai) ([]) ([]) ([]))::(.mk (0) ([]) (ai) ([]) ([]) ([]))::(.mk (0) ([]) (ai) ([]) ([]) ([]))::(.mk (0) ([]) (ai) ([]) ([]) ([]))::(.mk (0) ([]) (ai) ([]) ([]) ([]))::(.mk (0) ([]) (ai) ([]) ([]) ([]))::[]) ([]))::(.mk (0) ([]) (ai) ([]) ([]) ([]))::(.mk (0) ([]) (ai) ([]) ([]) ([]))::(.mk (0) ([]) (ai) ([]) ([]) ([]))::(.mk (0) ([]) (ai) ([]) ([]) ([]))::(.mk (0) ([]) (ai) ([]) ([]) ([]))::(.mk (0) ([]) (ai) ([]) ([]) ([]))::(.mk (0) ([]) (ai) ([]) ([]) ([]))::(.mk (0) ([]) (ai) ([]) ([]) ([]))::[]) ([]))::[],([],([],[])))))))
theorem aka{f:FuncId}{fn:Func}{c:Code}{aQ bG:bt}{x y:au aQ.b3}{r q:au bG.b3}(d:Tryz.prog.funcs[f]? = J fn)(aj:fn.body=J c)(a:(fn.name == "runtime.NumGoroutine")=ai)(an:(fe fn.ntmps c&&dz aQ.n fn.ntmps)=ae)(e:ky (mo (au bG.b3)) fn aQ bG x J=J r)(g:ky (mo (au bG.b3)) fn aQ bG y J=J q):fb f aQ bG (hF aQ.b3 bG.b3 [(x,r),(y,q)]):=by
 refine(z5 (px:=mo (au bG.b3)) (F:=λx=>ky (mo (au bG.b3)) fn aQ bG x J) d aj a follows an (λab i aS j=>?_) (λ_=>rfl)).le (zY ?_)
 .have h:=(DZ (au bG.b3) ab i aS j).sA;exact zG
 .intro z k;rcases ek.1 k with h|h
  .subst h;exact e
  .cases List.mem_singleton.1 h;exact g
def aeg:b7:=⟨[4,105,0,1,4,105,0,1,4,120,0,1,3,128,0,0,0,0,0,0,1],[]⟩
end Go.Proofs.YtcoaaebppfbbnaaGreatDoor
