/- Texts of the proof,one behind the other: Tw,Pa,Lc,Na,Lm,Ar,Shp,Sr,Dg,Nc,Eb,Fc,Es,Ix,En,Ep,Ac. -/
import Derived.Test.YthndhaolemgbdaaGreatDoorQ4
import Derived.Test.YthndhaolemgbdaaGreatDoorProg
import Derived.KernelRfl
import Derived.Lib.Bytealg
import Derived.Shelf.Strings.Replace
set_option linter.all false
namespace Go.Proofs.YthndhaolemgbdaaGreatDoor
open Go.Ax
def signsL:List (Int×Str):=[(4,[65,78,68]),(5,[79,82]),(6,[61]),(7,[60,62]),(8,[60]),(9,[60,61]),(10,[62]),(11,[62,61]),(12,[43]),(13,[45]),(14,[42])]
def wordsL:List Str:=[[65,68,68],[65,78,68],[65,83,67],[66,79,79,76],[66,89],[66,89,84,69,83],[67,72,69,67,75],[67,82,69,65,84,69],[68,69,76,69,84,69],[68,69,83,67],[68,82,79,80],[70,65,76,83,69],[70,82,79,77],[73,78,68,69,88],[73,78,83,69,82,84],[73,78,84],[73,78,84,79],[73,83],[75,69,89],[76,73,77,73,84],[78,79,84],[78,85,76,76],[79,78],[79,82],[79,82,68,69,82],[80,82,73,77,65,82,89],[82,69,70,69,82,69,78,67,69,83],[83,69,76,69,67,84],[83,69,84],[84,65,66,76,69],[84,69,88,84],[84,82,85,69],[85,78,73,81,85,69],[85,80,68,65,84,69],[86,65,76,85,69,83],[87,72,69,82,69]]
def kindsL:List Str:=[[],[],[66,79,79,76],[73,78,84],[84,69,88,84],[66,89,84,69,83]]
def ttL:List (Nat×Ax.Ty):=[
 (1,.fn),
 (3,.int .i64),
 (4,.bool),
 (5,.int .u8),
 (9,.str),
 (21,.int .i32),
 (23,.st (some .val) [(0,3),(1,3),(2,9)] [.int .i64 0,.int .i64 0,.str []]),
 (24,.sl .expr),
 (26,.st (some .expr) [(0,3),(1,23),(4,9),(5,24)] [.int .i64 0,.int .i64 0,.int .i64 0,.str [],.str [],.sl .expr [] .nil]),
 (29,.int .i64),
 (34,.sl .str),
 (38,.fn),
 (39,.sl .col),
 (40,.sl .exprs),
 (41,.sl .set),
 (42,.sl .bool),
 (44,.st (some .stmt) [(0,3),(1,9),(2,9),(3,39),(4,34),(5,24),(6,40),(7,41),(8,4),(9,26),(15,34),(16,42),(17,3)] [.int .i64 0,.str [],.str [],.sl .col [] .nil,.sl .str [] .nil,.sl .expr [] .nil,.sl .exprs [] .nil,.sl .set [] .nil,.bool false,.int .i64 0,.int .i64 0,.int .i64 0,.str [],.str [],.sl .expr [] .nil,.sl .str [] .nil,.sl .bool [] .nil,.int .i64 0]),
 (63,.sl .tok),
 (67,.st (some .tok) [(0,3),(1,3),(2,9),(3,3)] [.int .i64 0,.int .i64 0,.str [],.int .i64 0]),
 (68,.int .u64),
 (71,.sl .int),
 (77,.ptr),
 (78,.sl .byte),
 (80,.st none [(0,77),(1,78)] [.nilp,.sl .byte [] .nil]),
 (82,.st none [(0,80)] [.nilp,.sl .byte [] .nil]),
 (83,.fn),
 (89,.st (some .set) [(0,9),(1,26)] [.str [],.int .i64 0,.int .i64 0,.int .i64 0,.str [],.str [],.sl .expr [] .nil]),
 (94,.fn),
 (100,.st (some .num) [(0,4),(1,71)] [.bool false,.sl .int [] .nil]),
 (106,.fn),
 (111,.st (some .col) [(0,9),(1,3),(2,4),(3,4),(4,9)] [.str [],.int .i64 0,.bool false,.bool false,.str []]),
 (118,.fn),
 (120,.fn),
 (121,.ptr),
 (126,.st none [(0,63),(1,3)] [.sl .tok [] .nil,.int .i64 0]),
 (128,.st none [(0,126),(2,4),(3,3)] [.sl .tok [] .nil,.int .i64 0,.bool false,.int .i64 0]),
 (130,.st (some .got) [(0,3),(1,4)] [.int .i64 0,.bool false]),
 (135,.fn),
 (144,.fn),
 (145,.ptr),
 (147,.map),
 (148,.ptr),
 (158,.fn),
 (164,.ptr),
 (176,.st (some .pair) [(0,9),(1,3)] [.str [],.int .i64 0]),
 (188,.arr 2 .str),
 (191,.arr 6 .str),
 (194,.ptr),
 (201,.sl .pair),
 (202,.int .u64),
 (221,.arr 36 .str),
 (226,.arr 256 .byte),
 (228,.st none [(0,5),(1,5)] [.int .u8 0,.int .u8 0]),
 (230,.int .u32),
 (233,.fn)]
def elT:Ck→TypeId
 |.byte=>5
 |.int=>3
 |.u64=>202
 |.str=>9
 |.bool=>4
 |.val=>23
 |.tok=>67
 |.col=>111
 |.expr=>26
 |.num=>100
 |.set=>89
 |.stmt=>44
 |.got=>130
 |.pair=>176
 |.exprs=>24
 |.strs=>34
 |.bytes=>78
 |_=>0
theorem An:(ttL.all fun p=>Eu Tryz.prog elT (Bd ttL) p.1)=true:=by kernel_rfl
def glT:Nat→Option Gv:=tbl [(0,.map signsL),(1,.arr .str kindsL),(2,.arr .str wordsL),(3,.num .i64)]
theorem follows:Tryz.prog.follows .mixedOrders=true:=by kernel_rfl
end Go.Proofs.YthndhaolemgbdaaGreatDoor
namespace Go.Proofs.YthndhaolemgbdaaGreatDoor.Lp
open Go.Sx Go.RowKit
abbrev Tok:=Go.Ax.Tok
def pre(l m:List UInt8):Bool:=decide (m.length≤l.length)&&decide (l.take m.length=m)
theorem Ahu(a b c d:Int) (h : 0≤a∧a≤c) (h' : 0≤b∧b≤d) : 0≤a*b∧a*b≤c*d :=
 ⟨Int.mul_nonneg h.1 h'.1,Int.mul_le_mul h.2 h'.2 h'.1 (by omega)⟩
theorem Ajh(x y:Int):x*y=(x / 4294967296)*(y / 4294967296)*18446744073709551616+((x / 4294967296)*(y % 4294967296)+(x % 4294967296)*(y / 4294967296))*4294967296+(x % 4294967296)*(y % 4294967296):=by
 have hx:=Int.mul_ediv_add_emod x 4294967296
 have hy:=Int.mul_ediv_add_emod y 4294967296
 generalize x / 4294967296=p at *
 generalize x % 4294967296=q at *
 generalize y / 4294967296=r at *
 generalize y % 4294967296=s at *
 rw [←hx,←hy]
 simp only [Int.add_mul,Int.mul_add]
 have e1 : 4294967296*p*(4294967296*r)=p*r*18446744073709551616:=by
  rw [Int.mul_assoc,Int.mul_left_comm p,←Int.mul_assoc]
  omega
 have e2 : 4294967296*p*s=p*s*4294967296:=by rw [Int.mul_assoc];omega
 have e3:q*(4294967296*r)=q*r*4294967296:=by rw [Int.mul_left_comm];omega
 omega
def inI(n:Int):Prop := -9223372036854775808≤n∧n≤9223372036854775807
instance (n:Int):Decidable (inI n):=by unfold inI;infer_instance
def Sl(n:Int):Int:=if n<0 then -n else n
def vis(c:Int):Bool:=decide (32≤c)&&decide (c≤126)
def visF(l:List UInt8):Bool:=l.all fun b=>vis b.toNat
theorem A6w(l:List UInt8) (j:Int) (h : 0≤j∧j<l.length):l.drop j.toNat=l.getD j.toNat 0::l.drop (j+1).toNat:=by
 have h1:j.toNat<l.length:=by omega
 have h2:(j+1).toNat=j.toNat+1:=by omega
 rw [h2,List.drop_eq_getElem_cons h1]
 simp [List.getD_eq_getElem?_getD,h1]
theorem Amx(p:Int→Bool) (l:List UInt8) (j:Int) (h : 0≤j∧j<l.length):((l.drop j.toNat).all fun b=>p b.toNat)=(p (byt l j)&&(l.drop (j+1).toNat).all fun b=>p b.toNat):=by
 rw [A6w l j h]
 rfl
def rightF(k n:Int) (s:List UInt8):Bool :=
 if k=1 then n == 0&&decide (s=[]) else if k=2 then(n == 0||n == 1)&&decide (s=[]) else if k=3 then decide (s=[])
 else if k=4 then n == 0&&decide ((s.length:Int)≤1000)&&visF s else if k=5 then n == 0&&decide ((s.length:Int)≤1000) else false
def Z3(k n:Int) (s:List UInt8):Int:=if rightF k n s then 0 else 2
def isUp(c:Int):Bool:=decide (65≤c)&&decide (c≤90)
def isLo(c:Int):Bool:=decide (97≤c)&&decide (c≤122)
def isDi(c:Int):Bool:=decide (48≤c)&&decide (c≤57)
def isIn(c:Int):Bool:=isLo c||isDi c||c == 95
def runTo(p:Int→Bool) (l:List UInt8) (i:Int):Int:=i+((l.drop i.toNat).takeWhile fun b=>p b.toNat).length
theorem Kn(l:List UInt8) (j:Int) (h : 0≤j∧j<l.length):l.drop j.toNat=l.getD j.toNat 0::l.drop (j+1).toNat:=by
 have h1:j.toNat<l.length:=by omega
 have h2:(j+1).toNat=j.toNat+1:=by omega
 rw [h2,List.drop_eq_getElem_cons h1]
 simp [List.getD_eq_getElem?_getD,h1]
theorem runTo_yes{p:Int→Bool}{l:List UInt8}{j:Int}(h : 0≤j∧j<l.length) (hp:p (byt l j)=true):runTo p l (j+1)=runTo p l j:=by
 unfold runTo
 rw [Kn l j h]
 have:p ((l.getD j.toNat 0).toNat:Int)=true:=hp
 simp only [List.takeWhile_cons,this,if_true,Zf1]
 omega
theorem runTo_no{p:Int→Bool}{l:List UInt8}{j:Int}(h : 0≤j∧j<l.length) (hp:p (byt l j)=false):runTo p l j=j:=by
 unfold runTo
 rw [Kn l j h]
 have:p ((l.getD j.toNat 0).toNat:Int)=false:=hp
 simp only [List.takeWhile_cons,this,Zj2,if_false,Zi1]
 omega
theorem runTo_end{p:Int→Bool}{l:List UInt8}{j:Int}(h:(l.length:Int)≤j):runTo p l j=j:=by
 unfold runTo
 rw [Zk1 (by omega)]
 simp
def aloneF(l:List UInt8) (i:Int):Bool:=i == l.length || !isIn (byt l i) && !isUp (byt l i)
def dg(c:Int):Int:=IntKind.i64.wrap (IntKind.u8.wrap (c-48))
theorem Bpb(c:Int) : 0≤dg c∧dg c≤255:=by
 have e1:IntKind.u8.wrap (c-48)=(c-48) % 256:=by simp [IntKind.wrap,IntKind.bits,IntKind.signed]
 unfold dg
 rw [e1,IntWalk.i64_in _ (by omega)]
 omega
theorem Bln(c:Int) (h : 48≤c∧c≤303):dg c=c-48:=by
 have e1:IntKind.u8.wrap (c-48)=(c-48) % 256:=by simp [IntKind.wrap,IntKind.bits,IntKind.signed]
 unfold dg
 rw [e1,IntWalk.i64_in _ (by omega)]
 omega
def numGo:List UInt8→Int→Option Int
 |[],n=>some n
 |c::r,n=>if inI (n*10)∧inI (n*10+dg c.toNat) then numGo r (n*10+dg c.toNat) else none
theorem inI_dg(c:Int):inI (dg c):=by have:=Bpb c;unfold inI;omega
def qGo:List UInt8→List UInt8→Int→List UInt8×Int
 |[],_,_=>([], -1)
 |[c],acc,i=>if c=39 then(acc,i+1) else([], -1)
 |c::d::r,acc,i=>if c=39 then(if d=39 then qGo r (acc++[39]) (i+2) else(acc,i+1)) else qGo (d::r) (acc++[c]) (i+1)
theorem Aa4{l:List UInt8}{j:Int}{c:UInt8}:byt l j=(c.toNat:Int)↔l.getD j.toNat 0=c:=by
 unfold byt
 rw [←UInt8.toNat_inj]
 omega
theorem q_end{l acc:List UInt8}{j:Int}(h:(l.length:Int)≤j):qGo (l.drop j.toNat) acc j=([], -1):=by
 rw [Zk1 (by omega)]
 rfl
theorem q_last{l acc:List UInt8}{j:Int}(h : 0≤j) (hl:j+1=l.length) (hc:byt l j=39):qGo (l.drop j.toNat) acc j=(acc,j+1):=by
 rw [Kn l j (by omega),(Aa4 (c:=39)).1 hc,Zk1 (by omega)]
 rfl
theorem q_close{l acc:List UInt8}{j:Int}(h : 0≤j) (hl:j+1<l.length) (hc:byt l j=39) (hd:byt l (j+1)≠39):qGo (l.drop j.toNat) acc j=(acc,j+1):=by
 have hd':¬l.getD (j+1).toNat 0=39:=fun hh=>hd ((Aa4 (c:=39)).2 hh)
 rw [Kn l j (by omega),(Aa4 (c:=39)).1 hc,Kn l (j+1) (by omega)]
 simp only [qGo,if_true,if_neg hd']
theorem q_two{l acc:List UInt8}{j:Int}(h : 0≤j) (hl:j+1<l.length) (hc:byt l j=39) (hd:byt l (j+1)=39):qGo (l.drop j.toNat) acc j=qGo (l.drop (j+1+1).toNat) (acc++[39]) (j+1+1):=by
 rw [Kn l j (by omega),(Aa4 (c:=39)).1 hc,Kn l (j+1) (by omega),(Aa4 (c:=39)).1 hd]
 simp only [qGo,if_true]
 rw [show j+2=j+1+1 by omega]
theorem q_other{l acc:List UInt8}{j:Int}(h : 0≤j) (hl:j<l.length) (hc:¬byt l j=39):qGo (l.drop j.toNat) acc j=qGo (l.drop (j+1).toNat) (acc++[l.getD j.toNat 0]) (j+1):=by
 have hc':¬l.getD j.toNat 0=39:=fun hh=>hc ((Aa4 (c:=39)).2 hh)
 rw [Kn l j (by omega)]
 cases hd:l.drop (j+1).toNat with
 |nil=>simp only [qGo,if_neg hc']
 |cons d r=>simp only [qGo,if_neg hc']
def hexD(c:Int):Option Int:=if 48≤c∧c≤57 then some (c-48) else if 97≤c∧c≤102 then some (c-87) else none
theorem hexD_lt{c n:Int}(h:hexD c=some n) : 0≤n∧n≤15:=by
 unfold hexD at h
 split at h
 ·cases h;omega
 ·split at h
  ·cases h;omega
  ·cases h
def unGo:List UInt8→List UInt8→Option (List UInt8)
 |[],acc=>some acc
 |[_],_=>none
 |a::b::r,acc=>match hexD a.toNat,hexD b.toNat with
  |some x,some y=>unGo r (acc++[UInt8.ofNat (x*16+y).toNat])
  |_,_=>none
theorem Bjh:∀a b:Fin 16,IntKind.u8.wrap (((BitVec.ofInt IntKind.u8.bits (IntKind.u8.wrap ((a.val:Int)*2 ^ min (4:Int).toNat IntKind.u8.bits)) ||| BitVec.ofInt IntKind.u8.bits (b.val:Int)).toNat:Nat):Int)=((a.val*16+b.val:Nat):Int):=by decide +kernel
theorem joinhex'{x y:Int}(hx : 0≤x∧x≤15) (hy : 0≤y∧y≤15):IntKind.u8.wrap (((BitVec.ofInt IntKind.u8.bits (IntKind.u8.wrap (x*2 ^ min (4:Int).toNat IntKind.u8.bits)) ||| BitVec.ofInt IntKind.u8.bits y).toNat:Nat):Int)=((UInt8.ofNat (x*16+y).toNat).toNat:Int):=by
 obtain⟨a,rfl⟩:=Int.eq_ofNat_of_zero_le hx.1
 obtain⟨b,rfl⟩:=Int.eq_ofNat_of_zero_le hy.1
 have:=Bjh ⟨a,by omega⟩ ⟨b,by omega⟩
 simp only at this
 rw [this]
 rw [show((a:Int)*16+(b:Int)).toNat=a*16+b by omega,UInt8.toNat_ofNat']
 omega
theorem un_step{l acc:List UInt8}{j:Int}(h : 0≤j) (hl:j+1<l.length):unGo (l.drop j.toNat) acc=match hexD (byt l j),hexD (byt l (j+1)) with
  |some x,some y=>unGo (l.drop (j+2).toNat) (acc++[UInt8.ofNat (x*16+y).toNat])
  |_,_=>none:=by
 rw [Kn l j (by omega),Kn l (j+1) (by omega),show j+1+1=j+2 by omega]
 rfl
def signs:List UInt8:=[40,41,44,42,61,60,62,43,45,59]
def signF(l:List UInt8):Int:=if pre l [60,62]||pre l [60,61]||pre l [62,61] then 2 else if 0≤Lib.indexByte signs (byt l 0).toNat.toUInt8 then 1 else 0
def idx(x:List UInt8):List (List UInt8)→Int→Int
 |[],_ => -1
 |l::r,i=>if x=l then i else idx x r (i+1)
theorem idx_ge(x:List UInt8):∀(ls:List (List UInt8)) (i:Int),0≤i→(0≤idx x ls i↔x∈ls)
 |[],i,_=>by simp [idx]
 |l::r,i,h=>by
  by_cases hx:x=l
  ·simp [idx,hx,h]
  ·simp [idx,hx,idx_ge x r (i+1) (by omega)]
def wordF(l:List UInt8):Bool:=wordsL.contains l
def nameF(l:List UInt8):Bool := !decide (l=[])&&decide ((l.length:Int)≤30)&&isLo (byt l 0)&&(runTo isIn l 0 == l.length)
def tokF(l:List UInt8) (i:Int):Option (Int×List UInt8×Int×Int) :=
 if pre (l.drop i.toNat) [120,39] then
  let n:=Lib.indexByte (l.drop (i+2).toNat) 39
  if n<0 then none else
  let x:=cut l (i+2) (i+2+n)
  match(if x.length % 2=0 then unGo x [] else none) with
  |none=>none
  |some b=>if 1000<(b.length:Int) then none else some (5,b,0,i+3+n)
 else if isUp (byt l i) then
  if wordF (cut l i (runTo isUp l i))&&aloneF l (runTo isUp l i) then some (1,cut l i (runTo isUp l i),0,runTo isUp l i) else none
 else if isLo (byt l i) then
  if nameF (cut l i (runTo isIn l i))&&aloneF l (runTo isIn l i) then some (2,cut l i (runTo isIn l i),0,runTo isIn l i) else none
 else if isDi (byt l i) then
  match numGo (cut l i (runTo isDi l i)) 0 with
  |none=>none
  |some n=>if(decide (cut l i (runTo isDi l i)=[48])||byt (cut l i (runTo isDi l i)) 0 != 48)&&aloneF l (runTo isDi l i) then some (3,cut l i (runTo isDi l i),n,runTo isDi l i) else none
 else if byt l i=39 then
  let q:=qGo (l.drop (i+1).toNat) [] (i+1)
  if rightF 4 0 q.1 then(if q.2<0 then none else some (4,q.1,0,q.2)) else none
 else if signF (l.drop i.toNat)=0 then none else some (6,cut l i (i+signF (l.drop i.toNat)),0,i+signF (l.drop i.toNat))
theorem runTo_range(p:Int→Bool) (l:List UInt8) (i:Int) (h : 0≤i∧i≤l.length):i≤runTo p l i∧runTo p l i≤l.length:=by
 unfold runTo
 have h1:=(List.takeWhile_prefix (fun b:UInt8=>p b.toNat) (l:=l.drop i.toNat)).length_le
 rw [Za2] at h1
 omega
theorem runTo_gt{p:Int→Bool}{l:List UInt8}{i:Int}(h : 0≤i∧i<l.length) (hp:p (byt l i)=true):i+1≤runTo p l i:=by
 have h1:=runTo_yes h hp
 have h2:=runTo_range p l (i+1) (by omega)
 omega
theorem cut_length(l:List UInt8) (a b:Int) (h : 0≤a∧a≤b∧b≤l.length):((cut l a b).length:Int)=b-a:=by
 unfold cut
 rw [List.length_take,Za2]
 omega
theorem signF_in(l:List UInt8) (h : 0<l.length):signF l=0∨signF l=1∨(signF l=2∧2≤l.length):=by
 unfold signF
 split
 ·rename_i hp
  right;right
  refine⟨rfl,?_⟩
  simp only [pre,Zd2,Zb1,Zg1,Zf1,Zi1] at hp
  omega
 ·split
  ·exact .inr (.inl rfl)
  ·exact .inl rfl
theorem qGo_in:∀(n:Nat) (l acc:List UInt8) (i:Int),l.length≤n→0≤i→(qGo l acc i).2 = -1∨(i+1≤(qGo l acc i).2∧(qGo l acc i).2≤i+l.length)
 |n,[],acc,i,_,h=>by left;rfl
 |n,[c],acc,i,_,h=>by
  simp only [qGo]
  split
  ·right;simp
  ·left;rfl
 |0,_::_::_,_,_,hn,_=>by simp at hn
 |n+1,c::d::r,acc,i,hn,h=>by
  simp only [Zf1] at hn ⊢
  simp only [qGo]
  split
  ·split
   ·rcases qGo_in n r (acc++[39]) (i+2) (by omega) (by omega) with h1|h1
    ·exact .inl h1
    ·right;omega
   ·right;simp;omega
  ·rcases qGo_in n (d::r) (acc++[c]) (i+1) (by simp;omega) (by omega) with h1|h1
   ·exact .inl h1
   ·right;simp at h1;omega
theorem indexByte_in:∀(l:List UInt8) (c:UInt8),Lib.indexByte l c = -1∨(0≤Lib.indexByte l c∧Lib.indexByte l c<l.length)
 |[],c =>.inl rfl
 |b::l,c=>by
  simp only [Lib.indexByte,Zf1]
  split
  ·right;omega
  ·rcases indexByte_in l c with h|h
   ·left;simp [h]
   ·right
    have:¬((Lib.indexByte l c == -1)=true):=by simp;omega
    rw [if_neg this]
    omega
def blankF(c:Int):Bool:=decide (0≤Lib.indexByte [32,9,10,13] c.toNat.toUInt8)
def allGo:Nat→List UInt8→Int→List Tok→Except Int (List Tok)
 |0,_,_,acc =>.ok acc
 |f+1,l,i,acc =>
  if(l.length:Int)≤i then .ok acc
  else if blankF (byt l i) then allGo f l (i+1) acc
  else match tokF l i with
   |none =>.error i
   |some (k,s,n,e)=>allGo f l e (acc++[⟨k,i,s,n⟩])
def allF(l:List UInt8):Except Int (List Tok):=allGo (l.length+1) l 0 []
theorem tok_end{l:List UInt8}{i:Int}(h0 : 0≤i∧i<l.length) {k:Int}{s:List UInt8}{n e:Int}(h:tokF l i=some (k,s,n,e)):i<e∧e≤l.length:=by
 unfold tokF at h
 split at h
 ·rename_i hx
  have hdl:(l.drop i.toNat).length=l.length-i.toNat:=Za2
  have h2 : 2≤(l.drop i.toNat).length:=by
   simp only [pre,Zb1,Zg1,Zf1,Zi1] at hx
   omega
  have hdl2:(l.drop (i+2).toNat).length=l.length-(i+2).toNat:=Za2
  have hib:=indexByte_in (l.drop (i+2).toNat) 39
  simp only at h
  split at h
  ·cases h
  ·split at h
   ·cases h
   ·split at h
    ·cases h
    ·cases h;omega
 ·split at h
  ·rename_i hu
   have hr:=runTo_range isUp l i (by omega)
   have hg:=runTo_gt h0 hu
   split at h
   ·cases h;omega
   ·cases h
  ·split at h
   ·rename_i hlo
    have hr:=runTo_range isIn l i (by omega)
    have hg:=runTo_gt (p:=isIn) h0 (by simp [isIn,hlo])
    split at h
    ·cases h;omega
    ·cases h
   ·split at h
    ·rename_i hd
     have hr:=runTo_range isDi l i (by omega)
     have hg:=runTo_gt h0 hd
     split at h
     ·cases h
     ·split at h
      ·cases h;omega
      ·cases h
    ·split at h
     ·have hqi:=qGo_in _ (l.drop (i+1).toNat) [] (i+1) (Zn1 _) (by omega)
      have hdl:(l.drop (i+1).toNat).length=l.length-(i+1).toNat:=Za2
      simp only at h
      split at h
      ·split at h
       ·cases h
       ·cases h;omega
      ·cases h
     ·split at h
      ·cases h
      ·have hdl:(l.drop i.toNat).length=l.length-i.toNat:=Za2
       have hs:=signF_in (l.drop i.toNat) (by omega)
       cases h
       omega
def signsI:List Int:=[40,41,44,42,61,60,62,43,45,59]
def Bi(c:Int):Int :=
 if isUp c then 1 else if isLo c then 2 else if isDi c then 3 else if c=95 then 4 else if c=39 then 5
 else if c=32∨c=9∨c=10∨c=13 then 6 else if signsI.contains c then 7 else 0
def Ce(c:Int):Bool:=decide (1≤Bi c)&&decide (Bi c≤4)
def Lu:List UInt8→Int→Option Int
 |[],n=>some n
 |c::r,n=>if Bi c.toNat≠3∨922337203685477580<n∨(n=922337203685477580∧7<(c.toNat:Int)-48) then none else Lu r (10*n+((c.toNat:Int)-48))
def Xs(l:List UInt8):Int:=match Lu l 0 with
 |none => -1
 |some n=>if 1<(l.length:Int)∧byt l 0=48 then -1 else n
theorem Bq0{c:Int}(h:Bi c=3) : 48≤c∧c≤57:=by
 unfold Bi at h
 split at h
 ·omega
 ·split at h
  ·omega
  ·split at h
   ·rename_i hd;simpa [isDi] using hd
   ·(repeat' split at h)<;>omega
def Bnu(j c:Int):Bool:=decide (Bi c=2)||(!decide (j=0)&&(decide (Bi c=3)||decide (Bi c=4)))
def Ba2:List UInt8→Int→Bool
 |[],_=>true
 |c::r,j=>Bnu j c.toNat&&Ba2 r (j+1)
def rnameF(l:List UInt8):Bool:=Ba2 l 0&&(decide (1≤(l.length:Int))&&decide ((l.length:Int)≤30))
def Anw(l:List UInt8) (i:Int):Prop:=cut l i (runTo Ce l i)=[120]∧runTo Ce l i<l.length∧byt l (runTo Ce l i)=39
instance (l:List UInt8) (i:Int):Decidable (Anw l i):=by unfold Anw;infer_instance
def Aow(l:List UInt8) (i:Int):Prop:=i+1<l.length∧(cut l i (i+2)=[60,62]∨cut l i (i+2)=[60,61]∨cut l i (i+2)=[62,61])
instance (l:List UInt8) (i:Int):Decidable (Aow l i):=by unfold Aow;infer_instance
def Avn(l:List UInt8) (i:Int):Option (Int×List UInt8×Int×Int) :=
 if Anw l i then
  let t:=runTo Ce l i
  let q:=runTo (fun c => !decide (c=39)) l (t+1)
  if q=l.length then none else
  match(if(cut l (t+1) q).length % 2=0 then unGo (cut l (t+1) q) [] else none) with
  |none=>none
  |some b=>if 1000<(b.length:Int) then none else some (5,b,0,q+1)
 else if Bi (byt l i)=1 then(if wordF (cut l i (runTo Ce l i)) then some (1,cut l i (runTo Ce l i),0,runTo Ce l i) else none)
 else if Bi (byt l i)=2 then(if rnameF (cut l i (runTo Ce l i)) then some (2,cut l i (runTo Ce l i),0,runTo Ce l i) else none)
 else if Bi (byt l i)=3 then(if 0≤Xs (cut l i (runTo Ce l i)) then some (3,cut l i (runTo Ce l i),Xs (cut l i (runTo Ce l i)),runTo Ce l i) else none)
 else if Bi (byt l i)=5 then
  let q:=qGo (l.drop (i+1).toNat) [] (i+1)
  if ¬q.2 = -1∧Z3 4 0 q.1=0 then some (4,q.1,0,q.2) else none
 else if Bi (byt l i)=7 then(if Aow l i then some (6,cut l i (i+2),0,i+2) else some (6,cut l i (i+1),0,i+1))
 else none
theorem Avz{l:List UInt8}{i:Int}(h0 : 0≤i∧i<l.length) {k:Int}{s:List UInt8}{n e:Int}(h:Avn l i=some (k,s,n,e)):i<e∧e≤l.length:=by
 unfold Avn at h
 have hr:=runTo_range Ce l i (by omega)
 split at h
 ·rename_i hx
  have hx1:=hx.2.1
  have hq:=runTo_range (fun c => !decide (c=39)) l (runTo Ce l i+1) (by omega)
  simp only at h
  split at h
  ·cases h
  ·split at h
   ·cases h
   ·split at h
    ·cases h
    ·cases h;omega
 ·have hg:∀c:Int,1≤c∧c≤4→Bi (byt l i)=c→i+1≤runTo Ce l i:=fun c hc he=>runTo_gt h0 (by simp [Ce];omega)
  split at h
  ·rename_i h1
   have:=hg 1 (by omega) h1
   split at h
   ·cases h;omega
   ·cases h
  ·split at h
   ·rename_i h1
    have:=hg 2 (by omega) h1
    split at h
    ·cases h;omega
    ·cases h
   ·split at h
    ·rename_i h1
     have:=hg 3 (by omega) h1
     split at h
     ·cases h;omega
     ·cases h
    ·split at h
     ·have hqi:=qGo_in _ (l.drop (i+1).toNat) [] (i+1) (Zn1 _) (by omega)
      have hdl:(l.drop (i+1).toNat).length=l.length-(i+1).toNat:=Za2
      simp only at h
      split at h
      ·rename_i h2
       cases h
       have:=h2.1
       omega
      ·cases h
     ·split at h
      ·split at h
       ·rename_i h2
        have:=h2.1
        cases h;omega
       ·cases h;omega
      ·cases h
def Sv:Nat→List UInt8→Int→List Tok→Except Int (List Tok)
 |0,_,_,acc =>.ok acc
 |f+1,l,i,acc =>
  if(l.length:Int)≤i then .ok acc
  else if Bi (byt l i)=6 then Sv f l (i+1) acc
  else match Avn l i with
   |none =>.error i
   |some (k,s,n,e)=>Sv f l e (acc++[⟨k,i,s,n⟩])
def Bly(l:List UInt8):Except Int (List Tok):=Sv (l.length+1) l 0 []
theorem of256{p:Int→Prop}(h:∀n:Fin 256,p (n.val:Int)) (c:Int) (hc : 0≤c∧c≤255):p c:=by
 have:=h ⟨c.toNat,by omega⟩
 simpa [Int.toNat_of_nonneg hc.1] using this
theorem Bms:∀n:Fin 256,Ce (n.val:Int)=(isUp (n.val:Int)||isIn (n.val:Int)):=by decide +kernel
theorem Bbh:∀n:Fin 256,blankF (n.val:Int)=decide (Bi (n.val:Int)=6):=by decide +kernel
theorem Be1:∀n:Fin 256,decide (0≤Lib.indexByte signs (n.val:Int).toNat.toUInt8)=decide (Bi (n.val:Int)=7):=by decide +kernel
theorem Asj(c:Int) (hc : 0≤c∧c≤255):Ce c=(isUp c||isIn c):=of256 (p:=fun c=>Ce c=(isUp c||isIn c)) Bms c hc
theorem Bc5(c:Int) (hc : 0≤c∧c≤255):blankF c=decide (Bi c=6):=of256 (p:=fun c=>blankF c=decide (Bi c=6)) Bbh c hc
theorem Bin(c:Int) (hc : 0≤c∧c≤255):decide (0≤Lib.indexByte signs c.toNat.toUInt8)=decide (Bi c=7):=of256 (p:=fun c=>decide (0≤Lib.indexByte signs c.toNat.toUInt8)=decide (Bi c=7)) Be1 c hc
theorem u8_range(b:UInt8) : 0≤(b.toNat:Int)∧(b.toNat:Int)≤255:=by
 have:=b.toNat_lt
 omega
def tw(p:Int→Bool) (m:List UInt8):List UInt8:=m.takeWhile fun b=>p b.toNat
theorem Gp(p:Int→Bool) (l:List UInt8) (i:Int):runTo p l i=i+(tw p (l.drop i.toNat)).length:=rfl
theorem Aly(p:Int→Bool):∀m:List UInt8,(tw p m).length≤m.length
 |[]=>by simp [tw]
 |x::m=>by
  have:=Aly p m
  unfold tw at *
  simp only [List.takeWhile_cons]
  split<;>simp<;>omega
theorem tw_take(p:Int→Bool):∀m:List UInt8,m.take (tw p m).length=tw p m
 |[]=>by simp [tw]
 |x::m=>by
  have:=tw_take p m
  unfold tw at *
  simp only [List.takeWhile_cons]
  split
  ·simp [this]
  ·simp
theorem V8(p:Int→Bool) (l:List UInt8) (i:Int) (h : 0≤i):cut l i (runTo p l i)=tw p (l.drop i.toNat):=by
 unfold cut
 rw [Gp,show(i+((tw p (l.drop i.toNat)).length:Int)).toNat-i.toNat=(tw p (l.drop i.toNat)).length by omega]
 exact tw_take p _
theorem Axu{p q:Int→Bool}(hpq:∀b:UInt8,p b.toNat=true→q b.toNat=true):∀m:List UInt8,tw q m=tw p m++tw q (m.drop (tw p m).length)
 |[]=>by simp [tw]
 |x::m=>by
  have ih:=Axu hpq m
  unfold tw at *
  cases hp:p x.toNat with
  |true=>simp [hp,hpq x hp];exact ih
  |false=>simp [hp]
theorem Bbw(p:Int→Bool):∀m:List UInt8,(tw p m).all (fun b=>p b.toNat)=true
 |[]=>by simp [tw]
 |x::m=>by
  have ih:=Bbw p m
  unfold tw at *
  cases hp:p x.toNat with
  |true=>simp only [List.takeWhile_cons,hp,if_true,Zv1,Bool.true_and];exact ih
  |false=>simp [hp]
theorem Ays{q:Int→Bool}(m:List UInt8):tw q m=[]↔m=[]∨q (byt m 0)=false:=by
 cases m with
 |nil=>simp [tw]
 |cons x m =>
  have:byt (x::m) 0=(x.toNat:Int):=rfl
  rw [this]
  cases hq:q x.toNat<;>simp [tw,hq]
theorem Yi(l:List UInt8) (i:Int) (h : 0≤i) (j:Nat):byt (l.drop i.toNat) j=byt l (i+j):=by
 unfold byt
 rw [List.getD_eq_getElem?_getD,List.getD_eq_getElem?_getD,List.getElem?_drop,show i.toNat+(j:Int).toNat=(i+j).toNat by omega]
theorem Aqg{p:Int→Bool}(hp:∀b:UInt8,p b.toNat=true→Ce b.toNat=true) (l:List UInt8) (i:Int) (h : 0≤i∧i≤l.length):aloneF l (runTo p l i)=true↔tw p (l.drop i.toNat)=tw Ce (l.drop i.toNat):=by
 have hs:=Axu hp (l.drop i.toNat)
 have hr:=runTo_range p l i h
 have hdd:(l.drop i.toNat).drop (tw p (l.drop i.toNat)).length=l.drop (runTo p l i).toNat:=by
  rw [List.drop_drop,Gp]
  congr 1
  omega
 rw [hdd] at hs
 have h1:tw p (l.drop i.toNat)=tw Ce (l.drop i.toNat)↔tw Ce (l.drop (runTo p l i).toNat)=[]:=by
  rw [hs]
  simp
 rw [h1,Ays]
 have h2:l.drop (runTo p l i).toNat=[]↔runTo p l i=l.length:=by
  rw [List.drop_eq_nil_iff];omega
 have h3:byt (l.drop (runTo p l i).toNat) 0=byt l (runTo p l i):=by
  have:=Yi l (runTo p l i) (by omega) 0
  simpa using this
 rw [h2,h3]
 have hb:=Ace l (runTo p l i)
 simp only [aloneF,Zd2,beq_iff_eq,Zb1,Bool.not_eq_true',Asj _ hb,Bool.or_eq_false_iff]
 constructor
 ·rintro(h|⟨h,h'⟩)
  ·exact .inl h
  ·exact .inr ⟨h',h⟩
 ·rintro(h|⟨h,h'⟩)
  ·exact .inl h
  ·exact .inr ⟨h',h⟩
theorem Akj{p:Int→Bool}(hp:∀b:UInt8,p b.toNat=true→Ce b.toNat=true) (l:List UInt8) (i:Int) (h : 0≤i∧i≤l.length) {α:Type}(f:List UInt8→Int→Option α) (hf:∀x j,f x j≠none→x.all (fun b=>p b.toNat)=true) :
  (if aloneF l (runTo p l i) then f (cut l i (runTo p l i)) (runTo p l i) else none)=f (cut l i (runTo Ce l i)) (runTo Ce l i):=by
 by_cases ha:aloneF l (runTo p l i)=true
 ·have he:=(Aqg hp l i h).1 ha
  have hre:runTo p l i=runTo Ce l i:=by rw [Gp,Gp,he]
  rw [if_pos ha,hre]
 ·rw [if_neg ha]
  by_cases hn:f (cut l i (runTo Ce l i)) (runTo Ce l i)=none
  ·exact hn.symm
  ·exfalso
   apply ha
   rw [Aqg hp l i h]
   have hall:=hf _ _ hn
   rw [V8 _ _ _ h.1] at hall
   have key:∀m:List UInt8,(tw Ce m).all (fun b=>p b.toNat)=true→tw p m=tw Ce m:=by
    intro m
    induction m with
    |nil=>simp [tw]
    |cons x m ih =>
     unfold tw at *
     intro hm
     cases hq:Ce x.toNat with
     |true =>
      simp only [List.takeWhile_cons,hq,if_true,Zv1,Zb1] at hm ⊢
      rw [if_pos hm.1,ih hm.2]
     |false =>
      have:p x.toNat=false:=by
       cases hpx:p x.toNat with
       |false=>rfl
       |true=>rw [hp x hpx] at hq;cases hq
      simp [hq,this]
   exact key _ hall
theorem Bhk:wordsL.all (fun w=>w.all fun b=>isUp b.toNat)=true:=by decide +kernel
theorem word_up{x:List UInt8}(h:wordF x=true):x.all (fun b=>isUp b.toNat)=true:=by
 have:=Zg2.1 Bhk x (by simpa [wordF] using h)
 exact this
theorem Bjg(l:List UInt8):∀j:Int,0<j→Ba2 l j=l.all fun b=>isIn b.toNat:=by
 induction l with
 |nil=>intro j _;rfl
 |cons c l ih =>
  intro j hj
  have hc:=u8_range c
  have key:∀n:Fin 256,(decide (Bi (n.val:Int)=2)||(decide (Bi (n.val:Int)=3)||decide (Bi (n.val:Int)=4)))=isIn (n.val:Int):=by decide +kernel
  have hk:=of256 (p:=fun c=>(decide (Bi c=2)||(decide (Bi c=3)||decide (Bi c=4)))=isIn c) key c.toNat hc
  simp only [Ba2,Zv1,ih (j+1) (by omega),Bnu,show decide (j=0)=false by simp;omega,Zs1,Bool.true_and,hk]
theorem okGo_zero(c:UInt8) (l:List UInt8):Ba2 (c::l) 0=(isLo c.toNat&&l.all fun b=>isIn b.toNat):=by
 have hc:=u8_range c
 have key:∀n:Fin 256,decide (Bi (n.val:Int)=2)=isLo (n.val:Int):=by decide +kernel
 have hk:=of256 (p:=fun c=>decide (Bi c=2)=isLo c) key c.toNat hc
 simp only [Ba2,Bnu,decide_true,Zt1,Bool.false_and,Bool.or_false,hk]
 rw [Bjg l (0+1) (by omega)]
theorem tw_full{p:Int→Bool}:∀m:List UInt8,(tw p m).length=m.length↔m.all (fun b=>p b.toNat)=true
 |[]=>by simp [tw]
 |x::m=>by
  have ih:=tw_full (p:=p) m
  unfold tw at *
  cases hp:p x.toNat with
  |true=>simp only [List.takeWhile_cons,hp,if_true,Zf1,Zv1,Bool.true_and,←ih];omega
  |false=>simp [hp]
theorem lo_in{c:Int}(h:isLo c=true):isIn c=true:=by simp [isIn,h]
theorem name_eq(x:List UInt8):nameF x=rnameF x:=by
 cases x with
 |nil=>rfl
 |cons c x =>
  have hrun:(runTo isIn (c::x) 0 == ((c::x).length:Int))=(c::x).all fun b=>isIn b.toNat:=by
   rw [Bool.eq_iff_iff,←tw_full,beq_iff_eq,Gp]
   simp only [Int.toNat_zero,Zq1]
   omega
  have hb:byt (c::x) 0=(c.toNat:Int):=rfl
  simp only [nameF,rnameF,okGo_zero,hrun,hb]
  rw [Bool.eq_iff_iff]
  simp only [Zb1,Bool.not_eq_true',Zg1,decide_eq_false_iff_not,Zv1,Zf1]
  constructor
  ·rintro⟨⟨⟨_,h1⟩,h2⟩,h3⟩
   exact⟨⟨h2,h3.2⟩,by omega,h1⟩
  ·rintro⟨⟨h2,h3⟩,_,h1⟩
   exact⟨⟨⟨by simp,h1⟩,h2⟩,lo_in h2,h3⟩
theorem Blf{x:List UInt8}(h:nameF x=true):x.all (fun b=>isIn b.toNat)=true:=by
 simp only [nameF,Zb1,beq_iff_eq] at h
 rw [←tw_full]
 have:=h.2
 rw [Gp] at this
 simp only [Int.toNat_zero,Zq1] at this
 omega
theorem Blz{c:UInt8}(h:isDi c.toNat=true) : 48≤(c.toNat:Int)∧(c.toNat:Int)≤57:=by
 simpa [isDi] using h
theorem cls_di{c:UInt8}(h:isDi c.toNat=true):Bi c.toNat=3:=by
 have key:∀n:Fin 256,isDi (n.val:Int)=true→Bi (n.val:Int)=3:=by decide +kernel
 exact of256 (p:=fun c=>isDi c=true→Bi c=3) key c.toNat (u8_range c) h
theorem Bml{c:UInt8}(h:Bi c.toNat=3):isDi c.toNat=true:=by
 have:=Bq0 h
 simp [isDi];omega
theorem Bfn{c:UInt8}(h:isDi c.toNat=true) {n:Int}(hn : 0≤n):(inI (n*10)∧inI (n*10+dg c.toNat))↔¬(Bi c.toNat≠3∨922337203685477580<n∨(n=922337203685477580∧7<(c.toNat:Int)-48)):=by
 have hb:=Blz h
 rw [Bln _ (by omega),cls_di h]
 unfold inI
 constructor
 ·rintro⟨h1,h2⟩ (h3|h3|h3)
  ·exact h3 rfl
  ·omega
  ·omega
 ·intro h3
  have h4:¬(922337203685477580<n):=fun h=>h3 (.inr (.inl h))
  have h5:¬(n=922337203685477580∧7<(c.toNat:Int)-48):=fun h=>h3 (.inr (.inr h))
  omega
theorem Bci:∀(x:List UInt8) (n:Int),0≤n→x.all (fun b=>isDi b.toNat)=true→Lu x n=numGo x n∧∀m,numGo x n=some m→0≤m
 |[],n,hn,_=>⟨rfl,fun m h=>by simp only [numGo,Za1] at h;omega⟩
 |c::x,n,hn,hx=>by
  simp only [Zv1,Zb1] at hx
  have hb:=Blz hx.1
  have hs:=Bfn hx.1 hn
  have hd:dg c.toNat=(c.toNat:Int)-48:=Bln _ (by omega)
  simp only [Lu,numGo]
  by_cases hc:Bi c.toNat≠3∨922337203685477580<n∨(n=922337203685477580∧7<(c.toNat:Int)-48)
  ·rw [if_pos hc,if_neg (fun h=>hs.1 h hc)]
   exact⟨rfl,fun m h=>by cases h⟩
  ·rw [if_neg hc,if_pos (hs.2 hc),hd,show 10*n+((c.toNat:Int)-48)=n*10+((c.toNat:Int)-48) by omega]
   exact Bci x _ (by omega) hx.2
theorem Aur:∀(x:List UInt8) (n:Int),Lu x n≠none→x.all (fun b=>isDi b.toNat)=true
 |[],_,_=>rfl
 |c::x,n,h=>by
  simp only [Lu] at h
  split at h
  ·exact absurd rfl h
  ·rename_i hc
   have h3:Bi c.toNat=3:=by
    by_cases h3:Bi c.toNat=3
    ·exact h3
    ·exact absurd (.inl h3) hc
   simp only [Zv1,Zb1]
   exact⟨Bml h3,Aur x _ h⟩
def Ana(x:List UInt8) (j:Int):Option (Int×List UInt8×Int×Int):=if 0≤Xs x then some (3,x,Xs x,j) else none
theorem Az8{x:List UInt8}{j:Int}(h:Ana x j≠none):x.all (fun b=>isDi b.toNat)=true:=by
 unfold Ana at h
 split at h
 ·rename_i h0
  unfold Xs at h0
  split at h0
  ·omega
  ·rename_i n hn
   exact Aur x 0 (by rw [hn];simp)
 ·exact absurd rfl h
theorem Bqk{x:List UInt8}(hne:x≠[]):(decide (x=[48])||byt x 0 != 48)=true↔¬(1<(x.length:Int)∧byt x 0=48):=by
 cases x with
 |nil=>exact absurd rfl hne
 |cons c x =>
  have hb:byt (c::x) 0=(c.toNat:Int):=rfl
  have hc:(c.toNat:Int)=48↔c=48:=by rw [←UInt8.toNat_inj];simp;omega
  rw [hb]
  simp only [Zd2,Zg1,bne_iff_ne,ne_eq,Ze2,Zf1,hc]
  constructor
  ·rintro(⟨_,h⟩|h) ⟨h1,h2⟩
   ·subst h;simp at h1
   ·exact h h2
  ·intro h
   by_cases h2:c=48
   ·left
    refine⟨h2,?_⟩
    cases x with
    |nil=>rfl
    |cons d x=>exact absurd ⟨by simp;omega,h2⟩ h
   ·exact .inr h2
theorem Bn1{x:List UInt8}(hne:x≠[]) (hx:x.all (fun b=>isDi b.toNat)=true) (a:Bool) (j:Int) :
  (match numGo x 0 with
  |none=>none
  |some n=>if(decide (x=[48])||byt x 0 != 48)&&a then some ((3:Int),x,n,j) else none)=if a then Ana x j else none:=by
 obtain⟨h1,h2⟩:=Bci x 0 (by omega) hx
 unfold Ana Xs
 rw [h1]
 cases hn:numGo x 0 with
 |none=>cases a<;>simp
 |some n =>
  have hp:=h2 n hn
  cases hl:(decide (x=[48])||byt x 0 != 48) with
  |true =>
   have:=(Bqk hne).1 hl
   cases a<;>simp [this,hp]
  |false =>
   have : 1<(x.length:Int)∧byt x 0=48:=by
    by_cases hh : 1<(x.length:Int)∧byt x 0=48
    ·exact hh
    ·rw [(Bqk hne).2 hh] at hl;cases hl
   cases a<;>simp [this]
theorem Aj2(l:List UInt8) (i:Int) (h : 0≤i∧i<l.length):Anw l i↔pre (l.drop i.toNat) [120,39]=true:=by
 have hdl:(l.drop i.toNat).length=l.length-i.toNat:=Za2
 have hb1:=Yi l i h.1 1
 unfold Anw
 rw [V8 _ _ _ h.1,Gp]
 generalize l.drop i.toNat=m at *
 have w120:Ce ((120:UInt8).toNat:Int)=true:=by decide +kernel
 have w39:Ce ((39:UInt8).toNat:Int)=false:=by decide +kernel
 match m with
 |[]=>simp at hdl;omega
 |[a] =>
  simp only [List.length_singleton] at hdl
  constructor
  ·rintro⟨h1,h2,_⟩
   rw [h1] at h2
   simp at h2
   omega
  ·intro h;simp [pre] at h
 |a::b::r =>
  have hbb:byt (a::b::r) ((1:Nat):Int)=(b.toNat:Int):=rfl
  constructor
  ·rintro⟨h1,h2,h3⟩
   rw [h1] at h3
   have hb:b=39:=by
    have:byt l (i+(([120]:List UInt8).length:Int))=(b.toNat:Int):=by rw [←hbb,hb1];rfl
    rw [this] at h3
    rw [←UInt8.toNat_inj];simp;omega
   have ha:a=120:=by
    unfold tw at h1
    cases hw:Ce a.toNat with
    |true=>simp [hw] at h1;exact h1.1
    |false=>simp [hw] at h1
   subst hb;subst ha
   simp [pre]
  ·intro h
   simp only [pre,Zb1,Zg1,Zf1,Zi1,List.take_succ_cons,List.take_zero,Ze2,and_true] at h
   obtain⟨_,rfl,rfl⟩:=h
   have e1:tw Ce (120::39::r)=[120]:=by
    unfold tw
    rw [List.takeWhile_cons,if_pos w120,List.takeWhile_cons,if_neg (by rw [w39];simp)]
   rw [e1]
   refine⟨rfl,?_,?_⟩
   ·simp only [Zf1] at hdl ⊢
    simp
    omega
   ·have:byt l (i+(([120]:List UInt8).length:Int))=(((39:UInt8).toNat:Nat):Int):=by
     rw [←hbb,hb1];rfl
    rw [this];rfl
theorem Axm:∀m:List UInt8,Lib.indexByte m 39=if(tw (fun c => !decide (c=39)) m).length=m.length then -1 else((tw (fun c => !decide (c=39)) m).length:Int)
 |[]=>rfl
 |b::m=>by
  have ih:=Axm m
  have hl:=Aly (fun c => !decide (c=39)) m
  by_cases hb:b=39
  ·subst hb
   rfl
  ·have hne:¬((b.toNat:Int)=39):=fun h=>hb (by rw [←UInt8.toNat_inj];simp;omega)
   have e1:tw (fun c => !decide (c=39)) (b::m)=b::tw (fun c => !decide (c=39)) m:=by
    unfold tw
    rw [List.takeWhile_cons,if_pos (by simp [hne])]
   have e2:(b == 39)=false:=by simpa using hb
   rw [Lib.indexByte,e1,ih,e2]
   simp only [Zj2,if_false,Zf1]
   by_cases hf:(tw (fun c => !decide (c=39)) m).length=m.length
   ·simp [hf]
   ·have:¬((((tw (fun c => !decide (c=39)) m).length:Int) == -1)=true):=by simp
    rw [if_neg hf,if_neg this,if_neg (by omega)]
    omega
theorem A4k(l:List UInt8) (i:Int) (h : 0≤i∧i<l.length) (a b:UInt8):pre (l.drop i.toNat) [a,b]=true↔i+1<l.length∧cut l i (i+2)=[a,b]:=by
 unfold pre cut
 have hdl:(l.drop i.toNat).length=l.length-i.toNat:=Za2
 rw [show(i+2).toNat-i.toNat=2 by omega]
 simp only [Zb1,Zg1,Zf1,Zi1,hdl]
 constructor
 ·rintro⟨h1,h2⟩;exact⟨by omega,h2⟩
 ·rintro⟨h1,h2⟩;exact⟨by omega,h2⟩
theorem Anz{m:List UInt8}{a b:UInt8}(h:pre m [a,b]=true):byt m 0=a.toNat:=by
 simp only [pre,Zb1,Zg1,Zf1,Zi1] at h
 obtain⟨_,h2⟩:=h
 cases m with
 |nil=>cases h2
 |cons c m=>simp at h2;rw [←h2.1];rfl
theorem Bdh(l:List UInt8) (i:Int) (h : 0≤i∧i<l.length):(if signF (l.drop i.toNat)=0 then none else some ((6:Int),cut l i (i+signF (l.drop i.toNat)),(0:Int),i+signF (l.drop i.toNat))) =
  if Bi (byt l i)=7 then(if Aow l i then some (6,cut l i (i+2),0,i+2) else some (6,cut l i (i+1),0,i+1)) else none:=by
 have hb0:byt (l.drop i.toNat) 0=byt l i:=by simpa using Yi l i h.1 0
 have hb:=Ace l i
 have hs:=Bin (byt l i) hb
 have htwo:Aow l i↔(pre (l.drop i.toNat) [60,62]||pre (l.drop i.toNat) [60,61]||pre (l.drop i.toNat) [62,61])=true:=by
  simp only [Zd2,A4k l i h,Aow]
  constructor
  ·rintro⟨h1,h2|h2|h2⟩
   ·exact .inl (.inl ⟨h1,h2⟩)
   ·exact .inl (.inr ⟨h1,h2⟩)
   ·exact .inr ⟨h1,h2⟩
  ·rintro((⟨h1,h2⟩|⟨h1,h2⟩)|⟨h1,h2⟩)
   ·exact⟨h1,.inl h2⟩
   ·exact⟨h1,.inr (.inl h2)⟩
   ·exact⟨h1,.inr (.inr h2)⟩
 unfold signF
 by_cases h2:Aow l i
 ·have h2':=htwo.1 h2
  have hc:byt l i=60∨byt l i=62:=by
   rw [←hb0]
   simp only [Zd2] at h2'
   rcases h2' with (h|h)|h
   ·left;rw [Anz h];rfl
   ·left;rw [Anz h];rfl
   ·right;rw [Anz h];rfl
  have hc7:Bi (byt l i)=7:=by
   rcases hc with h|h<;>rw [h]<;>decide +kernel
  rw [if_pos h2',if_neg (by omega),if_pos hc7,if_pos h2]
 ·have h2':¬_:=fun h=>h2 (htwo.2 h)
  rw [if_neg h2',if_neg h2,hb0]
  by_cases hc7:Bi (byt l i)=7
  ·have h0 : 0≤Lib.indexByte signs (byt l i).toNat.toUInt8:=by
    rw [Ze1 hc7] at hs;exact of_decide_eq_true hs
   rw [if_pos h0,if_neg (by omega),if_pos hc7]
  ·have h0:¬ 0≤Lib.indexByte signs (byt l i).toNat.toUInt8:=by
    rw [Zd1 hc7] at hs;exact of_decide_eq_false hs
   rw [if_neg h0,if_pos rfl,if_neg hc7]
theorem up_wd(b:UInt8) (h:isUp b.toNat=true):Ce b.toNat=true:=by rw [Asj _ (u8_range b),h];rfl
theorem in_wd(b:UInt8) (h:isIn b.toNat=true):Ce b.toNat=true:=by rw [Asj _ (u8_range b),h,Bool.or_true]
theorem di_in(b:UInt8) (h:isDi b.toNat=true):isIn b.toNat=true:=by simp [isIn,h]
theorem A4p{α:Type}(p q:Bool) (x : α):(if(p&&q)=true then some x else none)=if q=true then(if p=true then some x else none) else none:=by
 cases p<;>cases q<;>rfl
theorem Bmm(l:List UInt8) (i:Int) (h : 0≤i∧i<l.length):tokF l i=Avn l i:=by
 have hb:=Ace l i
 unfold tokF Avn
 by_cases hx:Anw l i
 ·have hx':=(Aj2 l i h).1 hx
  rw [if_pos hx,if_pos hx']
  have hr1:runTo Ce l i=i+1:=by
   rw [Gp,←V8 _ _ _ h.1,hx.1];rfl
  have hlt:i+1<l.length:=by have:=hx.2.1;omega
  have hdl:(l.drop (i+2).toNat).length=l.length-(i+2).toNat:=Za2
  have htl:=Aly (fun c => !decide (c=39)) (l.drop (i+2).toNat)
  rw [hr1]
  simp only
  rw [show i+1+1=i+2 by omega,Axm,Gp]
  by_cases hf:(tw (fun c => !decide (c=39)) (l.drop (i+2).toNat)).length=(l.drop (i+2).toNat).length
  ·rw [if_pos hf,if_pos (by omega),if_pos (by omega)]
  ·rw [if_neg hf,if_neg (show ¬((tw (fun c => !decide (c=39)) (l.drop (i+2).toNat)).length:Int)<0 by omega),if_neg (show ¬i+2+((tw (fun c => !decide (c=39)) (l.drop (i+2).toNat)).length:Int)=l.length by omega)]
   rw [show i+3+((tw (fun c => !decide (c=39)) (l.drop (i+2).toNat)).length:Int)=i+2+((tw (fun c => !decide (c=39)) (l.drop (i+2).toNat)).length:Int)+1 by omega]
 ·have hx':¬pre (l.drop i.toNat) [120,39]=true:=fun hh=>hx ((Aj2 l i h).2 hh)
  rw [if_neg hx,if_neg hx']
  have cls:∀n:Fin 256,Bi (n.val:Int)=if isUp (n.val:Int) then 1 else if isLo (n.val:Int) then 2 else if isDi (n.val:Int) then 3 else if(n.val:Int)=39 then 5 else if Bi (n.val:Int)=7 then 7 else if Bi (n.val:Int)=6 then 6 else if Bi (n.val:Int)=4 then 4 else 0:=by decide +kernel
  have hcls:=of256 (p:=fun c=>Bi c=if isUp c then 1 else if isLo c then 2 else if isDi c then 3 else if c=39 then 5 else if Bi c=7 then 7 else if Bi c=6 then 6 else if Bi c=4 then 4 else 0) cls (byt l i) hb
  have h' : 0≤i∧i≤l.length:=by omega
  cases hu:isUp (byt l i) with
  |true =>
   rw [hu] at hcls
   have h1:Bi (byt l i)=1:=hcls
   rw [if_pos rfl,if_pos h1,A4p]
   exact Akj up_wd l i h' (fun x j=>if wordF x then some ((1:Int),x,(0:Int),j) else none) (fun x j hn=>by
    by_cases hw:wordF x=true
    ·exact word_up hw
    ·simp [hw] at hn)
  |false =>
   rw [hu] at hcls
   rw [if_neg (by simp)]
   cases hlo:isLo (byt l i) with
   |true =>
    rw [hlo] at hcls
    have h1:Bi (byt l i)=2:=hcls
    rw [if_pos rfl,if_neg (show ¬Bi (byt l i)=1 by omega),if_pos h1,A4p]
    have:=Akj in_wd l i h' (fun x j=>if nameF x then some ((2:Int),x,(0:Int),j) else none) (fun x j hn=>by
     by_cases hw:nameF x=true
     ·exact Blf hw
     ·simp [hw] at hn)
    rw [this,name_eq]
   |false =>
    rw [hlo] at hcls
    rw [if_neg (by simp)]
    cases hd:isDi (byt l i) with
    |true =>
     rw [hd] at hcls
     have h1:Bi (byt l i)=3:=hcls
     rw [if_pos rfl,if_neg (show ¬Bi (byt l i)=1 by omega),if_neg (show ¬Bi (byt l i)=2 by omega),if_pos h1]
     have hrg:=runTo_gt h hd
     have hne:cut l i (runTo isDi l i)≠[]:=by
      have:=cut_length l i (runTo isDi l i) (by have:=runTo_range isDi l i h';omega)
      intro h0
      rw [h0] at this
      simp at this
      omega
     have hall:(cut l i (runTo isDi l i)).all (fun b=>isDi b.toNat)=true:=by rw [V8 _ _ _ h.1];exact Bbw _ _
     refine(Bn1 hne hall _ _).trans ?_
     exact Akj (fun b hb=>in_wd b (di_in b hb)) l i h' Ana (fun x j hn=>Az8 hn)
    |false =>
     rw [hd] at hcls
     rw [if_neg (by simp)]
     by_cases hq:byt l i=39
     ·have h1:Bi (byt l i)=5:=by rw [hq];decide +kernel
      rw [if_pos hq,if_neg (show ¬Bi (byt l i)=1 by omega),if_neg (show ¬Bi (byt l i)=2 by omega),if_neg (show ¬Bi (byt l i)=3 by omega),if_pos h1]
      have hqi:=qGo_in _ (l.drop (i+1).toNat) [] (i+1) (Zn1 _) (by omega)
      simp only
      generalize qGo (l.drop (i+1).toNat) [] (i+1)=q at *
      unfold Z3
      cases hr:rightF 4 0 q.1 with
      |true =>
       by_cases hn:q.2<0
       ·have:q.2 = -1:=by omega
        simp [this]
       ·have:¬q.2 = -1:=by omega
        simp [this,hn]
      |false=>simp
     ·have h1:¬Bi (byt l i)=1∧¬Bi (byt l i)=2∧¬Bi (byt l i)=3∧¬Bi (byt l i)=5:=by
       simp only [Zj2,if_false,if_neg hq] at hcls
       split at hcls
       ·omega
       ·split at hcls
        ·omega
        ·split at hcls<;>omega
      rw [if_neg hq,if_neg h1.1,if_neg h1.2.1,if_neg h1.2.2.1,if_neg h1.2.2.2]
      exact Bdh l i h
theorem Anf(l:List UInt8):∀(f:Nat) (i:Int) (acc:List Tok),0≤i→allGo f l i acc=Sv f l i acc
 |0,_,_,_=>rfl
 |f+1,i,acc,hi=>by
  simp only [allGo,Sv]
  by_cases he:(l.length:Int)≤i
  ·rw [if_pos he,if_pos he]
  ·rw [if_neg he,if_neg he,Bc5 _ (Ace l i)]
   by_cases hb:Bi (byt l i)=6
   ·rw [if_pos (by simp [hb]),if_pos hb]
    exact Anf l f _ _ (by omega)
   ·rw [if_neg (by simp [hb]),if_neg hb,Bmm l i (by omega)]
    cases ht:Avn l i with
    |none=>rfl
    |some r =>
     obtain⟨k,s,n,e⟩:=r
     have:=Avz (by omega) ht
     exact Anf l f _ _ (by omega)
theorem Blc(l:List UInt8):allF l=Bly l:=Anf l _ 0 [] (by omega)
def qS:List UInt8→List UInt8→Option (List UInt8×Nat)
 |[],_=>none
 |[c],acc=>if c=39 then some (acc,1) else none
 |c::d::r,acc=>if c=39 then(if d=39 then(qS r (acc++[39])).map fun x=>(x.1,x.2+2) else some (acc,1)) else(qS (d::r) (acc++[c])).map fun x=>(x.1,x.2+1)
theorem A0j:∀(f:Nat) (l acc:List UInt8) (i:Int),l.length≤f→qGo l acc i=match qS l acc with
  |none=>([], -1)
  |some (s,n)=>(s,i+(n:Int))
 |_,[],_,_,_=>rfl
 |_,[c],acc,i,_=>by
  by_cases hc:c=39<;>simp [qGo,qS,hc]
 |0,c::d::r,_,_,h=>by simp at h
 |f+1,c::d::r,acc,i,h=>by
  simp only [Zf1] at h
  rw [qGo,qS]
  by_cases hc:c=39
  ·rw [if_pos hc,if_pos hc]
   by_cases hd:d=39
   ·rw [if_pos hd,if_pos hd,A0j f r (acc++[39]) (i+2) (by omega)]
    cases qS r (acc++[39]) with
    |none=>rfl
    |some x=>simp;omega
   ·rw [if_neg hd,if_neg hd];rfl
  ·rw [if_neg hc,if_neg hc,A0j f (d::r) (acc++[c]) (i+1) (by simp;omega)]
   cases qS (d::r) (acc++[c]) with
   |none=>rfl
   |some x=>simp;omega
theorem Ame:∀(f:Nat) (l acc s:List UInt8) (n:Nat),l.length≤f→qS l acc=some (s,n)→1≤n∧n≤l.length
 |_,[],_,_,_,_,h=>by cases h
 |_,[c],acc,s,n,_,h=>by
  by_cases hc:c=39<;>simp [qS,hc] at h
  simp [←h.2]
 |0,c::d::r,_,_,_,h,_=>by simp at h
 |f+1,c::d::r,acc,s,n,hl,h=>by
  simp only [Zf1] at hl ⊢
  rw [qS] at h
  by_cases hc:c=39
  ·rw [if_pos hc] at h
   by_cases hd:d=39
   ·rw [if_pos hd] at h
    obtain⟨⟨s',n'⟩,hq,he⟩:=Option.map_eq_some_iff.1 h
    have:=Ame f r (acc++[39]) s' n' (by omega) hq
    simp at he;omega
   ·rw [if_neg hd] at h
    simp at h;omega
  ·rw [if_neg hc] at h
   obtain⟨⟨s',n'⟩,hq,he⟩:=Option.map_eq_some_iff.1 h
   have:=Ame f (d::r) (acc++[c]) s' n' (by simp;omega) hq
   simp at he this;omega
theorem Azr:∀(f:Nat) (l acc s:List UInt8) (n:Nat) (t:List UInt8),l.length≤f→(∀c b,t=c::b→c≠39)→qS l acc=some (s,n)→qS (l++t) acc=some (s,n)
 |_,[],_,_,_,_,_,_,h=>by cases h
 |_,[c],acc,s,n,t,_,ht,h=>by
  by_cases hc:c=39<;>simp [qS,hc] at h
  cases t with
  |nil=>simp [qS,hc,h]
  |cons d t=>simp [qS,hc,ht d t rfl,h]
 |0,c::d::r,_,_,_,_,h,_,_=>by simp at h
 |f+1,c::d::r,acc,s,n,t,hl,ht,h=>by
  simp only [Zf1] at hl
  simp only [Zb2]
  rw [qS] at h ⊢
  by_cases hc:c=39
  ·rw [if_pos hc] at h ⊢
   by_cases hd:d=39
   ·rw [if_pos hd] at h ⊢
    obtain⟨⟨s',n'⟩,hq,he⟩:=Option.map_eq_some_iff.1 h
    rw [Azr f r (acc++[39]) s' n' t (by omega) ht hq]
    exact congrArg some he
   ·rw [if_neg hd] at h ⊢
    exact h
  ·rw [if_neg hc] at h ⊢
   obtain⟨⟨s',n'⟩,hq,he⟩:=Option.map_eq_some_iff.1 h
   have:=Azr f (d::r) (acc++[c]) s' n' t (by simp;omega) ht hq
   simp only [Zb2] at this
   rw [this]
   exact congrArg some he
theorem Ate:∀(f:Nat) (l acc s:List UInt8) (n j:Nat),l.length≤f→n≤j→qS l acc=some (s,n)→qS (l.take j) acc=some (s,n)
 |_,[],_,_,_,_,_,_,h=>by cases h
 |_,[c],acc,s,n,j,_,hj,h=>by
  have hl:=Ame 1 [c] acc s n (by simp) h
  obtain⟨j,rfl⟩:∃i,j=i+1:=⟨j-1,by omega⟩
  simpa using h
 |0,c::d::r,_,_,_,_,h,_,_=>by simp at h
 |f+1,c::d::r,acc,s,n,j,hl,hj,h=>by
  have hn:=Ame (f+1) (c::d::r) acc s n hl h
  simp only [Zf1] at hl
  obtain⟨j,rfl⟩:∃i,j=i+1:=⟨j-1,by omega⟩
  rw [qS] at h
  by_cases hc:c=39
  ·rw [if_pos hc] at h
   by_cases hd:d=39
   ·rw [if_pos hd] at h
    obtain⟨⟨s',n'⟩,hq,he⟩:=Option.map_eq_some_iff.1 h
    simp only [Zp1] at he
    obtain⟨j,rfl⟩:∃i,j=i+1:=⟨j-1,by omega⟩
    simp only [List.take_succ_cons]
    rw [qS,if_pos hc,if_pos hd,Ate f r (acc++[39]) s' n' j (by omega) (by omega) hq]
    simp [he]
   ·rw [if_neg hd] at h
    cases j with
    |zero=>simp [qS,hc];simpa using h
    |succ j=>simp only [List.take_succ_cons];rw [qS,if_pos hc,if_neg hd];exact h
  ·rw [if_neg hc] at h
   obtain⟨⟨s',n'⟩,hq,he⟩:=Option.map_eq_some_iff.1 h
   simp only [Zp1] at he
   have hn':=Ame f (d::r) (acc++[c]) s' n' (by simp;omega) hq
   obtain⟨j,rfl⟩:∃i,j=i+1:=⟨j-1,by omega⟩
   have:=Ate f (d::r) (acc++[c]) s' n' (j+1) (by simp;omega) (by omega) hq
   simp only [List.take_succ_cons] at this ⊢
   rw [qS,if_neg hc,this]
   simp [he]
theorem tw_app{p:Int→Bool}(t:List UInt8) (ht:∀c b,t=c::b→p c.toNat=false):∀m:List UInt8,tw p (m++t)=tw p m
 |[]=>by
  cases t with
  |nil=>rfl
  |cons c t=>simp [tw,ht c t rfl]
 |x::m=>by
  have ih:=tw_app t ht m
  unfold tw at *
  cases hp:p x.toNat with
  |true=>simp [hp];exact ih
  |false=>simp [hp]
theorem Ak8{p:Int→Bool}:∀(m:List UInt8) (j:Nat),tw p (m.take j)=(tw p m).take j
 |[],j=>by simp [tw]
 |x::m,0=>by simp [tw]
 |x::m,j+1=>by
  have ih:=Ak8 (p:=p) m j
  unfold tw at *
  cases hp:p x.toNat with
  |true=>simp [hp];exact ih
  |false=>simp [hp]
def nq(c:Int):Bool := !decide (c=39)
def twoS(m:List UInt8):Bool:=pre m [60,62]||pre m [60,61]||pre m [62,61]
def E5(m:List UInt8):Option (Int×List UInt8×Int×Nat) :=
 if pre m [120,39] then
  (if(tw nq (m.drop 2)).length=(m.drop 2).length then none else
  match(if(tw nq (m.drop 2)).length % 2=0 then unGo (tw nq (m.drop 2)) [] else none) with
  |none=>none
  |some b=>if 1000<(b.length:Int) then none else some (5,b,0,(tw nq (m.drop 2)).length+3))
 else if Bi (byt m 0)=1 then(if wordF (tw Ce m) then some (1,tw Ce m,0,(tw Ce m).length) else none)
 else if Bi (byt m 0)=2 then(if rnameF (tw Ce m) then some (2,tw Ce m,0,(tw Ce m).length) else none)
 else if Bi (byt m 0)=3 then(if 0≤Xs (tw Ce m) then some (3,tw Ce m,Xs (tw Ce m),(tw Ce m).length) else none)
 else if Bi (byt m 0)=5 then
  match qS (m.drop 1) [] with
  |none=>none
  |some (s,n)=>if Z3 4 0 s=0 then some (4,s,0,n+1) else none
 else if Bi (byt m 0)=7 then(if twoS m then some (6,m.take 2,0,2) else some (6,m.take 1,0,1))
 else none
theorem Bfq(l:List UInt8) (i:Int) (h : 0≤i∧i<l.length):Avn l i=(E5 (l.drop i.toNat)).map fun x=>(x.1,x.2.1,x.2.2.1,i+(x.2.2.2:Int)):=by
 have hb0:byt (l.drop i.toNat) 0=byt l i:=by simpa using Yi l i h.1 0
 have hdl:(l.drop i.toNat).length=l.length-i.toNat:=Za2
 have hd1:(l.drop i.toNat).drop 1=l.drop (i+1).toNat:=by rw [List.drop_drop];congr 1;omega
 have hd2:(l.drop i.toNat).drop 2=l.drop (i+2).toNat:=by rw [List.drop_drop];congr 1;omega
 unfold Avn E5
 by_cases hx:Anw l i
 ·rw [if_pos hx,if_pos ((Aj2 l i h).1 hx)]
  have hr1:runTo Ce l i=i+1:=by
   rw [Gp,←V8 _ _ _ h.1,hx.1];rfl
  have hlt:i+1<l.length:=by have:=hx.2.1;omega
  have hdl2:(l.drop (i+2).toNat).length=l.length-(i+2).toNat:=Za2
  rw [hr1]
  simp only
  rw [show i+1+1=i+2 by omega,hd2,V8 _ _ _ (by omega),Gp]
  change (if i+2+((tw nq (l.drop (i+2).toNat)).length:Int)=l.length then none else match(if(tw nq (l.drop (i+2).toNat)).length % 2=0 then unGo (tw nq (l.drop (i+2).toNat)) [] else none) with|none=>none|some b=>if 1000<(b.length:Int) then none else some ((5:Int),b,(0:Int),i+2+((tw nq (l.drop (i+2).toNat)).length:Int)+1))=_
  generalize tw nq (l.drop (i+2).toNat)=r at *
  by_cases hf:r.length=(l.drop (i+2).toNat).length
  ·rw [if_pos (show i+2+(r.length:Int)=l.length by omega),if_pos hf];rfl
  ·rw [if_neg (show ¬i+2+(r.length:Int)=l.length by omega),if_neg hf]
   generalize (if r.length % 2=0 then unGo r [] else none)=u
   cases u with
   |none=>rfl
   |some b =>
    by_cases hbig : 1000<(b.length:Int)
    ·simp only [if_pos hbig];rfl
    ·simp only [if_neg hbig,Zl2,Za1,Zp1,true_and]
     omega
 ·rw [if_neg hx,if_neg (fun hh=>hx ((Aj2 l i h).2 hh)),hb0,V8 _ _ _ h.1,Gp]
  split
  ·split<;>rfl
  ·split
   ·split<;>rfl
   ·split
    ·split<;>rfl
    ·split
     ·rw [hd1,A0j _ _ _ _ (Zn1 _)]
      cases qS (l.drop (i+1).toNat) [] with
      |none=>rfl
      |some x =>
       obtain⟨s,n⟩:=x
       by_cases hk:Z3 4 0 s=0
       ·simp only [if_pos hk]
        rw [if_pos ⟨by omega,hk⟩]
        simp;omega
       ·simp [hk]
     ·split
      ·have htwo:Aow l i↔twoS (l.drop i.toNat)=true:=by
        simp only [twoS,Zd2,A4k l i h,Aow]
        constructor
        ·rintro⟨h1,h2|h2|h2⟩
         ·exact .inl (.inl ⟨h1,h2⟩)
         ·exact .inl (.inr ⟨h1,h2⟩)
         ·exact .inr ⟨h1,h2⟩
        ·rintro((⟨h1,h2⟩|⟨h1,h2⟩)|⟨h1,h2⟩)
         ·exact⟨h1,.inl h2⟩
         ·exact⟨h1,.inr (.inl h2)⟩
         ·exact⟨h1,.inr (.inr h2)⟩
       have hc:∀k:Nat,cut l i (i+k)=(l.drop i.toNat).take k:=fun k=>by
        unfold cut;congr 1;omega
       have h1:=hc 1
       have h2:=hc 2
       by_cases ht:Aow l i
       ·rw [if_pos ht,if_pos (htwo.1 ht)]
        simp only [Zl2]
        rw [←h2];rfl
       ·rw [if_neg ht,if_neg (fun hh=>ht (htwo.2 hh))]
        simp only [Zl2]
        rw [←h1];rfl
      ·rfl
theorem Agl{m x:List UInt8}{j:Nat}(h:pre (m.take j) x=true):pre m x=true:=by
 simp only [pre,Zb1,Zg1,List.length_take,List.take_take] at h ⊢
 have h2:=h.2
 rw [show min x.length j=x.length by omega] at h2
 exact⟨by omega,h2⟩
theorem Acc{m x:List UInt8}{j:Nat}(h:pre m x=true) (hj:x.length≤j):pre (m.take j) x=true:=by
 simp only [pre,Zb1,Zg1,List.length_take,List.take_take] at h ⊢
 refine⟨by omega,?_⟩
 rw [show min x.length j=x.length by omega]
 exact h.2
theorem Av0{m:List UInt8}{j:Nat}(h : 1≤j):byt (m.take j) 0=byt m 0:=by
 unfold byt
 simp [List.getD_eq_getElem?_getD,show 0<j by omega]
theorem A8j{m:List UInt8}{j:Nat}(h:twoS (m.take j)=true):twoS m=true:=by
 simp only [twoS,Zd2] at h ⊢
 exact h.imp (Or.imp Agl Agl) Agl
theorem A16{m:List UInt8}{j:Nat}(h:twoS m=true) (hj : 2≤j):twoS (m.take j)=true:=by
 simp only [twoS,Zd2] at h ⊢
 exact h.imp (Or.imp (fun h=>Acc h hj) (fun h=>Acc h hj)) (fun h=>Acc h hj)
theorem tokS_len{m:List UInt8}{k:Int}{s:List UInt8}{n:Int}{e:Nat}(h:E5 m=some (k,s,n,e)) : 1≤e∧e≤m.length:=by
 cases m with
 |nil=>exact absurd (h.symm.trans (show E5 []=none by decide +kernel)) (by simp)
 |cons c m =>
  have h0:(0:Int)≤0∧(0:Int)<((c::m).length:Int):=by simp
  have hr:=Bfq (c::m) 0 h0
  simp only [Int.toNat_zero,Zq1,h,Zl2] at hr
  have:=Avz h0 hr
  omega
theorem A74{m:List UInt8}{k:Int}{s:List UInt8}{n:Int}{e j:Nat}(h:E5 m=some (k,s,n,e)) (hj:e≤j):E5 (m.take j)=some (k,s,n,e):=by
 have hlen:=tokS_len h
 have hb:=Av0 (m:=m) (j:=j) (by omega)
 have htw:∀p:Int→Bool,(tw p m).length≤j→tw p (m.take j)=tw p m:=fun p hp=>by
  rw [Ak8,List.take_of_length_le hp]
 unfold E5 at h ⊢
 by_cases hx:pre m [120,39]=true
 ·rw [if_pos hx] at h
  have e3:∀r:List UInt8,(if r.length=(m.drop 2).length then none else match(if r.length % 2=0 then unGo r [] else none) with|none=>none|some b=>if 1000<(b.length:Int) then none else some ((5:Int),b,(0:Int),r.length+3))=some (k,s,n,e)→e=r.length+3∧r.length≠(m.drop 2).length:=by
   intro r hr
   split at hr
   ·cases hr
   ·rename_i hne
    split at hr
    ·cases hr
    ·split at hr
     ·cases hr
     ·simp only [Za1,Zp1] at hr
      exact⟨hr.2.2.2.symm,hne⟩
  obtain⟨he,hne⟩:=e3 _ h
  have hdt:(m.take j).drop 2=(m.drop 2).take (j-2):=by rw [List.drop_take]
  have hq:tw nq ((m.take j).drop 2)=tw nq (m.drop 2):=by
   rw [hdt,Ak8,List.take_of_length_le (by omega)]
  have hl:=Aly nq (m.drop 2)
  rw [if_pos (Acc hx (by simp;omega)),hq]
  have hne':¬(tw nq (m.drop 2)).length=((m.take j).drop 2).length:=by
   rw [hdt,List.length_take];omega
  rw [if_neg hne']
  rw [if_neg hne] at h
  exact h
 ·rw [if_neg hx] at h
  rw [if_neg (fun hh=>hx (Agl hh)),hb]
  have key:∀(b:Bool) (kk vv:Int),(if b=true then some (kk,tw Ce m,vv,(tw Ce m).length) else none)=some (k,s,n,e)→tw Ce (m.take j)=tw Ce m:=by
   intro b kk vv hh
   cases b
   ·cases hh
   ·simp only [if_true,Za1,Zp1] at hh
    exact htw Ce (by omega)
  split
  ·rename_i h1;rw [if_pos h1] at h;rw [key _ _ _ h];exact h
  ·rename_i h1;rw [if_neg h1] at h
   split
   ·rename_i h2;rw [if_pos h2] at h;rw [key _ _ _ h];exact h
   ·rename_i h2;rw [if_neg h2] at h
    split
    ·rename_i h3;rw [if_pos h3] at h
     have:tw Ce (m.take j)=tw Ce m:=by
      split at h
      ·simp only [Za1,Zp1] at h
       exact htw Ce (by omega)
      ·cases h
     rw [this];exact h
    ·rename_i h3;rw [if_neg h3] at h
     split
     ·rename_i h5;rw [if_pos h5] at h
      rw [List.drop_take]
      cases hq:qS (m.drop 1) [] with
      |none=>rw [hq] at h;cases h
      |some x =>
       obtain⟨s',n'⟩:=x
       rw [hq] at h
       have hle:n'≤j-1:=by
        simp only at h
        split at h
        ·simp only [Za1,Zp1] at h;omega
        ·cases h
       rw [Ate _ _ _ s' n' (j-1) (Zn1 _) hle hq]
       exact h
     ·rename_i h5;rw [if_neg h5] at h
      split
      ·rename_i h7;rw [if_pos h7] at h
       by_cases h2':twoS m=true
       ·rw [if_pos h2'] at h
        have : 2≤j:=by simp only [Za1,Zp1] at h;omega
        rw [if_pos (A16 h2' this),List.take_take,show min 2 j=2 by omega]
        exact h
       ·rw [if_neg h2'] at h
        rw [if_neg (fun hh=>h2' (A8j hh)),List.take_take,show min 1 j=1 by omega]
        exact h
      ·rename_i h7;rw [if_neg h7] at h;exact h
theorem Auy:∀n:Fin 256,Bi (n.val:Int)=6→Ce (n.val:Int)=false∧(n.val:Int)≠39∧(n.val:Int)≠61∧(n.val:Int)≠62:=by decide +kernel
theorem A32{c:UInt8}(h:Bi c.toNat=6):Ce c.toNat=false∧c≠39∧c≠61∧c≠62:=by
 have:=of256 (p:=fun c=>Bi c=6→Ce c=false∧c≠39∧c≠61∧c≠62) Auy c.toNat (u8_range c) h
 refine⟨this.1,?_,?_,?_⟩
 ·rintro rfl;exact this.2.1 rfl
 ·rintro rfl;exact this.2.2.1 rfl
 ·rintro rfl;exact this.2.2.2 rfl
theorem Asz{m:List UInt8}(hm:m≠[]) (c:UInt8) (b:List UInt8) {x y:UInt8}(h:c≠y):pre (m++c::b) [x,y]=pre m [x,y]:=by
 match m with
 |[]=>exact absurd rfl hm
 |[a] =>
  have:pre [a] [x,y]=false:=by simp [pre]
  rw [this]
  simp [pre,h]
 |a::a'::r=>simp [pre]
theorem Bel{m:List UInt8}(hm:m≠[]) {c:UInt8}(b:List UInt8) (hc:Bi c.toNat=6):twoS (m++c::b)=twoS m:=by
 have h:=A32 hc
 simp only [twoS,Asz hm c b h.2.2.1,Asz hm c b h.2.2.2]
theorem byt_app{m:List UInt8}(hm:m≠[]) (t:List UInt8):byt (m++t) 0=byt m 0:=by
 cases m with
 |nil=>exact absurd rfl hm
 |cons a m=>rfl
def Bbv(m:List UInt8):Prop:=byt m 0=39∨pre m [120,39]=true
theorem Bqb{c:Int}(h:Bi c=5):c=39:=by
 unfold Bi at h
 split at h; · omega
 split at h; · omega
 split at h; · omega
 split at h; · omega
 split at h; · assumption
 split at h; · omega
 split at h<;>omega
theorem Amt{m:List UInt8}(hm:m≠[]) {c:UInt8}(b:List UInt8) (hc:Bi c.toNat=6):(E5 m≠none∨¬Bbv m)→E5 (m++c::b)=E5 m:=by
 intro hor
 have hbl:=A32 hc
 have htw:tw Ce (m++c::b)=tw Ce m:=tw_app _ (fun d t hd=>by cases hd;exact hbl.1) m
 unfold E5 at hor ⊢
 rw [Asz hm c b hbl.2.1,htw,byt_app hm,Bel hm b hc]
 by_cases hx:pre m [120,39]=true
 ·rw [if_pos hx] at hor
  rw [if_pos hx,if_pos hx]
  have h2 : 2≤m.length:=by
   simp only [pre,Zb1,Zg1,Zf1,Zi1] at hx;omega
  have hd:(m++c::b).drop 2=m.drop 2++c::b:=by rw [List.drop_append_of_le_length h2]
  rcases hor with hor|hor
  ·have hne:¬(tw nq (m.drop 2)).length=(m.drop 2).length:=fun hh=>by rw [if_pos hh] at hor;exact hor rfl
   have hfull:∃r1 d r2,m.drop 2=r1++d::r2∧nq d.toNat=false:=by
    have hsp:∀x:List UInt8,(tw nq x).length≠x.length→∃r1 d r2,x=r1++d::r2∧nq d.toNat=false:=by
     intro x
     induction x with
     |nil=>intro h;simp [tw] at h
     |cons y x ih =>
      intro hne
      cases hy:nq y.toNat with
      |false=>exact⟨[],y,x,rfl,hy⟩
      |true =>
       have:(tw nq x).length≠x.length:=by
        unfold tw at hne ⊢
        simp [hy] at hne
        exact hne
       obtain⟨r1,d,r2,h1,h2⟩:=ih this
       exact⟨y::r1,d,r2,by rw [h1];rfl,h2⟩
    exact hsp _ hne
   have htq:tw nq ((m++c::b).drop 2)=tw nq (m.drop 2):=by
    obtain⟨r1,d,r2,h1,h2'⟩:=hfull
    rw [hd,h1,Zj1,Zb2]
    rw [tw_app (p:=nq) (d::(r2++c::b)) (fun x t hx=>by cases hx;exact h2') r1,tw_app (p:=nq) (d::r2) (fun x t hx=>by cases hx;exact h2') r1]
   have hl:=Aly nq (m.drop 2)
   have hne':¬(tw nq (m.drop 2)).length=((m++c::b).drop 2).length:=by
    rw [hd,Zh1];omega
   rw [htq,if_neg hne',if_neg hne]
  ·exact absurd (.inr hx) hor
 ·rw [if_neg hx] at hor
  rw [if_neg hx,if_neg hx]
  have ht1:(m++c::b).take 1=m.take 1:=by
   cases m with
   |nil=>exact absurd rfl hm
   |cons a m=>rfl
  have ht2:twoS m=true→(m++c::b).take 2=m.take 2:=fun h2=>by
   have : 2≤m.length:=by
    simp only [twoS,Zd2,pre,Zb1,Zg1,Zf1,Zi1] at h2
    omega
   rw [List.take_append_of_le_length this]
  by_cases h1:Bi (byt m 0)=1
  ·rw [if_pos h1,if_pos h1]
  ·by_cases h2:Bi (byt m 0)=2
   ·rw [if_neg h1,if_neg h1,if_pos h2,if_pos h2]
   ·by_cases h3:Bi (byt m 0)=3
    ·rw [if_neg h1,if_neg h1,if_neg h2,if_neg h2,if_pos h3,if_pos h3]
    ·rw [if_neg h1,if_neg h1,if_neg h2,if_neg h2,if_neg h3,if_neg h3]
     rw [if_neg h1,if_neg h2,if_neg h3] at hor
     by_cases h5:Bi (byt m 0)=5
     ·rw [if_pos h5] at hor
      rw [if_pos h5,if_pos h5]
      rcases hor with hor|hor
      ·have hd:(m++c::b).drop 1=m.drop 1++c::b:=by
        cases m with
        |nil=>exact absurd rfl hm
        |cons a m=>rfl
       cases hq:qS (m.drop 1) [] with
       |none=>rw [hq] at hor;exact absurd rfl hor
       |some x =>
        rw [hd,Azr _ _ _ x.1 x.2 (c::b) (Zn1 _) (fun d t hd=>by cases hd;exact hbl.2.1) hq]
      ·exact absurd (.inl (Bqb h5)) hor
     ·rw [if_neg h5,if_neg h5]
      by_cases h7:Bi (byt m 0)=7
      ·rw [if_pos h7,if_pos h7]
       by_cases h2':twoS m=true
       ·rw [if_pos h2',if_pos h2',ht2 h2']
       ·rw [if_neg h2',if_neg h2',ht1]
      ·rw [if_neg h7,if_neg h7]
inductive Sc:List UInt8→Int→List Tok→Prop where
 |nil {p:Int}:Sc [] p []
 |blank {c:UInt8}{r:List UInt8}{p:Int}{ts:List Tok}:Bi c.toNat=6→Sc r (p+1) ts→Sc (c::r) p ts
 |tok {m:List UInt8}{p:Int}{k:Int}{s:List UInt8}{n:Int}{e:Nat}{ts:List Tok}:Bi (byt m 0)≠6→E5 m=some (k,s,n,e)→Sc (m.drop e) (p+e) ts→Sc m p (⟨k,p,s,n⟩::ts)
inductive Er:List UInt8→Int→Int→Prop where
 |blank {c:UInt8}{r:List UInt8}{p j:Int}:Bi c.toNat=6→Er r (p+1) j→Er (c::r) p j
 |tok {m:List UInt8}{p:Int}{k:Int}{s:List UInt8}{n:Int}{e:Nat}{j:Int}:Bi (byt m 0)≠6→E5 m=some (k,s,n,e)→Er (m.drop e) (p+e) j→Er m p j
 |bad {m:List UInt8}{p:Int}:m≠[]→Bi (byt m 0)≠6→E5 m=none→Er m p p
theorem A1k(l:List UInt8):∀(f:Nat) (i:Int) (acc:List Tok),0≤i∧i≤l.length→(l.length:Int)-i<f→match Sv f l i acc with
  |.ok ts=>∃us,ts=acc++us∧Sc (l.drop i.toNat) i us
  |.error j=>Er (l.drop i.toNat) i j
 |0,i,acc,h,hf=>by omega
 |f+1,i,acc,h,hf=>by
  simp only [Sv]
  by_cases he:(l.length:Int)≤i
  ·rw [if_pos he]
   exact⟨[],by simp,by rw [Zk1 (by omega)];exact .nil⟩
  ·rw [if_neg he]
   have hb0:byt (l.drop i.toNat) 0=byt l i:=by simpa using Yi l i h.1 0
   have hcons:=Kn l i (by omega)
   by_cases hb:Bi (byt l i)=6
   ·rw [if_pos hb]
    have ih:=A1k l f (i+1) acc (by omega) (by omega)
    have hb':Bi ((l.getD i.toNat 0).toNat:Int)=6:=hb
    cases hr:Sv f l (i+1) acc with
    |ok ts =>
     rw [hr] at ih
     obtain⟨us,h1,h2⟩:=ih
     exact⟨us,h1,by rw [hcons];exact .blank hb' h2⟩
    |error j =>
     rw [hr] at ih
     show Er _ _ _
     rw [hcons]
     exact .blank hb' ih
   ·rw [if_neg hb]
    have hS:=Bfq l i (by omega)
    cases hS':E5 (l.drop i.toNat) with
    |none =>
     rw [hS'] at hS
     rw [hS]
     exact .bad (by rw [hcons];simp) (by rw [hb0];exact hb) hS'
    |some x =>
     obtain⟨k,s,n,e⟩:=x
     rw [hS'] at hS
     simp only [Zl2] at hS
     have hlen:=tokS_len hS'
     have hdl:(l.drop i.toNat).length=l.length-i.toNat:=Za2
     rw [hS]
     simp only
     have ih:=A1k l f (i+(e:Int)) (acc++[⟨k,i,s,n⟩]) (by omega) (by omega)
     have hdd:l.drop (i+(e:Int)).toNat=(l.drop i.toNat).drop e:=by rw [List.drop_drop];congr 1;omega
     rw [hdd] at ih
     cases hr:Sv f l (i+(e:Int)) (acc++[⟨k,i,s,n⟩]) with
     |ok ts =>
      rw [hr] at ih
      obtain⟨us,h1,h2⟩:=ih
      exact⟨⟨k,i,s,n⟩::us,by rw [h1];simp,.tok (by rw [hb0];exact hb) hS' h2⟩
     |error j =>
      rw [hr] at ih
      exact .tok (by rw [hb0];exact hb) hS' ih
theorem Afe:E5 []=none:=by decide +kernel
theorem Sc.det{m:List UInt8}{p:Int}{ts:List Tok}(h:Sc m p ts):∀{us:List Tok},Sc m p us→ts=us:=by
 induction h with
 |nil =>
  intro us h
  cases h with
  |nil=>rfl
  |tok _ h2 _=>rw [Afe] at h2;cases h2
 |blank hc _ ih =>
  intro us h
  cases h with
  |blank _ h2=>exact ih h2
  |tok h1 _ _=>exact absurd hc h1
 |tok h1 h2 _ ih =>
  intro us h
  cases h with
  |nil=>rw [Afe] at h2;cases h2
  |blank hc _=>exact absurd hc h1
  |tok _ h3 h4 =>
   rw [h2] at h3
   cases h3
   rw [ih h4]
theorem Sc.not_er{m:List UInt8}{p:Int}{ts:List Tok}(h:Sc m p ts):∀{j:Int},¬Er m p j:=by
 induction h with
 |nil =>
  intro j h
  cases h with
  |tok _ h2 _=>rw [Afe] at h2;cases h2
  |bad h _ _=>exact h rfl
 |blank hc _ ih =>
  intro j h
  cases h with
  |blank _ h2=>exact ih h2
  |tok h1 _ _=>exact absurd hc h1
  |bad _ h1 _=>exact absurd hc h1
 |tok h1 h2 _ ih =>
  intro j h
  cases h with
  |blank hc _=>exact absurd hc h1
  |tok _ h3 h4 =>
   rw [h2] at h3
   cases h3
   exact ih h4
  |bad _ _ h3=>rw [h2] at h3;cases h3
theorem Er.det{m:List UInt8}{p j:Int}(h:Er m p j):∀{i:Int},Er m p i→j=i:=by
 induction h with
 |blank hc _ ih =>
  intro i h
  cases h with
  |blank _ h2=>exact ih h2
  |tok h1 _ _=>exact absurd hc h1
  |bad _ h1 _=>exact absurd hc h1
 |tok h1 h2 _ ih =>
  intro i h
  cases h with
  |blank hc _=>exact absurd hc h1
  |tok _ h3 h4 =>
   rw [h2] at h3
   cases h3
   exact ih h4
  |bad _ _ h3=>rw [h2] at h3;cases h3
 |bad h0 h1 h2 =>
  intro i h
  cases h with
  |blank hc _=>exact absurd hc h1
  |tok _ h3 _=>rw [h2] at h3;cases h3
  |bad _ _ _=>rfl
theorem allF_sc(l:List UInt8):match allF l with
  |.ok ts=>Sc l 0 ts
  |.error j=>Er l 0 j:=by
 rw [Blc,Bly]
 have h:=A1k l (l.length+1) 0 [] (by omega) (by omega)
 cases hr:Sv (l.length+1) l 0 [] with
 |ok ts =>
  rw [hr] at h
  obtain⟨us,h1,h2⟩:=h
  simp only [Zf2] at h1
  subst h1
  simpa using h2
 |error j=>rw [hr] at h;simpa using h
theorem allF_of_sc{l:List UInt8}{ts:List Tok}(h:Sc l 0 ts):allF l = .ok ts:=by
 have h2:=allF_sc l
 cases hr:allF l with
 |ok us=>rw [hr] at h2;rw [h.det h2]
 |error j=>rw [hr] at h2;exact absurd h2 h.not_er
def Bl8(d:Int) (t:Tok):Tok:=⟨t.kind,t.pos+d,t.s,t.n⟩
theorem Sc.off{m:List UInt8}{p:Int}{ts:List Tok}(h:Sc m p ts) (d:Int):Sc m (p+d) (ts.map (Bl8 d)):=by
 induction h with
 |nil=>exact .nil
 |blank hc _ ih=>exact .blank hc (by rw [show ∀x:Int,x+d+1=x+1+d from fun x=>by omega];exact ih)
 |tok h1 h2 _ ih=>exact .tok h1 h2 (by rw [show ∀x y:Int,x+d+y=x+y+d from fun x y=>by omega];exact ih)
theorem Er.off{m:List UInt8}{p j:Int}(h:Er m p j) (d:Int):Er m (p+d) (j+d):=by
 induction h with
 |blank hc _ ih=>exact .blank hc (by rw [show ∀x:Int,x+d+1=x+1+d from fun x=>by omega];exact ih)
 |tok h1 h2 _ ih=>exact .tok h1 h2 (by rw [show ∀x y:Int,x+d+y=x+y+d from fun x y=>by omega];exact ih)
 |bad h0 h1 h2=>exact .bad h0 h1 h2
theorem Ap1{m:List UInt8}{x:Int×List UInt8×Int×Nat}(h:E5 m=some x):m≠[]:=by
 rintro rfl;rw [Afe] at h;cases h
theorem Sc.app{a:List UInt8}{p:Int}{ts:List Tok}(h:Sc a p ts) {c:UInt8}(hc:Bi c.toNat=6) (b:List UInt8):∀{us:List Tok},Sc b (p+a.length+1) us→Sc (a++c::b) p (ts++us):=by
 induction h with
 |nil=>intro us hb;exact .blank hc (by simpa using hb)
 |blank hx _ ih =>
  intro us hb
  refine .blank hx (ih ?_)
  rename_i r p _ _
  rw [show p+1+(r.length:Int)+1=p+((r.length+1:Nat):Int)+1 by omega]
  exact hb
 |tok h1 h2 _ ih =>
  intro us hb
  have hm:=Ap1 h2
  have hl:=tokS_len h2
  refine .tok (by rw [byt_app hm];exact h1) ((Amt hm b hc (.inl (by rw [h2];simp))).trans h2) ?_
  rw [List.drop_append_of_le_length hl.2]
  refine ih ?_
  rename_i m p _ _ _ e _ _
  rw [Za2,show p+(e:Int)+((m.length-e:Nat):Int)+1=p+(m.length:Int)+1 by omega]
  exact hb
theorem Er.app{a:List UInt8}{p j:Int}(h:Er a p j) {c:UInt8}(hc:Bi c.toNat=6) (b:List UInt8):∃i:Nat,j=p+i∧i<a.length∧(Bbv (a.drop i)∨Er (a++c::b) p j):=by
 induction h with
 |blank hx _ ih =>
  obtain⟨i,h1,h2,h3⟩:=ih
  refine⟨i+1,by omega,by simp;omega,?_⟩
  exact h3.imp (fun h=>h) (fun h =>.blank hx h)
 |tok h1 h2 _ ih =>
  obtain⟨i,h3,h4,h5⟩:=ih
  have hm:=Ap1 h2
  have hl:=tokS_len h2
  rename_i m p _ _ _ e _ _
  rw [Za2] at h4
  refine⟨e+i,by omega,by omega,?_⟩
  rw [List.drop_drop] at h5
  refine h5.imp (fun h=>h) (fun h =>?_)
  refine .tok (by rw [byt_app hm];exact h1) ((Amt hm b hc (.inl (by rw [h2];simp))).trans h2) ?_
  rw [List.drop_append_of_le_length hl.2]
  exact h
 |bad h0 h1 h2 =>
  rename_i m p
  refine⟨0,by omega,List.length_pos_iff.2 h0,?_⟩
  by_cases ho:Bbv m
  ·exact .inl ho
  ·right
   exact .bad (by simp) (by rw [byt_app h0];exact h1) ((Amt h0 b hc (.inr ho)).trans h2)
theorem Sc.le{m:List UInt8}{p:Int}{ts:List Tok}(h:Sc m p ts):∀t,t∈ts→p≤t.pos:=by
 induction h with
 |nil=>intro t h;cases h
 |blank _ _ ih=>intro t h;have:=ih t h;omega
 |tok _ _ _ ih =>
  intro t h
  simp only [List.mem_cons] at h
  rcases h with rfl|h
  ·exact Int.le_refl _
  ·have:=ih t h;omega
theorem Sc.part{m:List UInt8}{p:Int}{ts:List Tok}(h:Sc m p ts):∀(k:Nat) (t:Tok),ts[k]? = some t→∃A:Nat,t.pos=p+A∧A<m.length∧Sc (m.take A) p (ts.take k)∧Sc (m.drop A) t.pos (ts.drop k):=by
 induction h with
 |nil=>intro k t h;simp at h
 |blank hc _ ih =>
  intro k t h
  obtain⟨A,h1,h2,h3,h4⟩:=ih k t h
  exact⟨A+1,by omega,by simp;omega,by rw [List.take_succ_cons];exact .blank hc h3,h4⟩
 |tok h1 h2 h3 ih =>
  intro k t h
  have hl:=tokS_len h2
  rename_i m p _ _ _ e _
  cases k with
  |zero =>
   simp only [List.getElem?_cons_zero,Za1] at h
   subst h
   exact⟨0,by simp,by omega,by simp;exact .nil,by simp;exact .tok h1 h2 h3⟩
  |succ k =>
   obtain⟨A,h4,h5,h6,h7⟩:=ih k t (by simpa using h)
   rw [Za2] at h5
   refine⟨e+A,by omega,by omega,?_,by rw [←List.drop_drop];exact h7⟩
   rw [List.take_succ_cons]
   refine .tok (by rw [Av0 (by omega)];exact h1) (A74 h2 (by omega)) ?_
   rw [List.drop_take,show e+A-e=A by omega]
   exact h6
theorem Sc.next{m:List UInt8}{p:Int}{t:Tok}{ts:List Tok}(h:Sc m p (t::ts)) (ht:t.pos=p):∀u,u∈ts→p<u.pos:=by
 cases h with
 |blank hc h2=>have:=h2.le t (by simp);omega
 |tok _ h2 h3 =>
  intro u hu
  have:=h3.le u hu
  have:=tokS_len h2
  omega
end Go.Proofs.YthndhaolemgbdaaGreatDoor.Lp
namespace Go.Ax
theorem FnOk.ofIs{P:Program}{el:Ck→TypeId}{gl:Nat→Option Gv}{f:FuncId}{sa sr:List Sg}{F:FT sa sr}(he:Sx.Enters P f) (ho:Cg 0 sr=[]) (h:∀x r,F x=some r→∃(us:List Value) (v:Value),(∀X vs,Reps X (De 0 sa x) vs→vs=us)∧Sx.Con P f us [] (fun _=>True) (Sx.Is v)∧∀X,BdL sa x→Rep X (Rg (De 0 sr r)) v):FnOk P el gl f sa sr F:=by
 refine⟨he,fun x r hx w M vs hM hgl hr =>?_⟩
 obtain⟨us,v,h1,h2,h3⟩:=h x r hx
 obtain rfl:=h1 _ _ hr
 refine(h2.calls w (fun _ _=>trivial)).mono ?_
 rintro en w' ⟨u,L',F',rfl,⟨rfl,_,_⟩,_,hb⟩
 refine⟨u,⟨fun _=>0,fun _=>Option.none⟩,rfl,Chg.of_below hb,fun p g o hp =>?_,fun p q g o o' hp =>?_,h3 _ (Aev hr)⟩
 ·rw [ho] at hp;cases hp
 ·rw [ho] at hp;cases hp
end Go.Ax
namespace Go.Proofs.YthndhaolemgbdaaGreatDoor
open Go.Ax
open Go.Sx (Con S Is Apn Blx)
end Go.Proofs.YthndhaolemgbdaaGreatDoor
namespace Go.Proofs.YthndhaolemgbdaaGreatDoor
open Go.Ax
def W1:Sig:=⟨20,[(0,.str),(2,.bool),(5,.int .i64),(6,.int .i64)],[],[],0,0,0,[],[]⟩
abbrev He:=Str×Bool×Int×Int
def Mi{R:Type}(rec:He→Option R) (kx:Ex→He→Option R) (v:He):Option R:=match v with
 |(v,v1,v2,v3) =>
 cond (decide (v3<v2)) (
  chk (inb v3 v.length) (
  cond (decide ((bat v v3)<32)) (
   kx .ret (v,false,v2,v3)) (
   chk (inb v3 v.length) (
   cond (decide (126<(bat v v3))) (
    kx .ret (v,false,v2,v3)) (
    rec (v,v1,v2,(wr .i64 (v3+1)))))))) (
  kx (.exit 0) (v,v1,v2,v3))
def I2(R:Type) (k:Nat):Px R:=⟨Bd ttL,glT,Au [],Am [],Aw [(2,Be k W1 (Mi))],tbl []⟩
theorem Arr(R:Type) (k:Nat):∀(fr:List Fr) (rec:He→Option R) (kx:Ex→He→Option R) (v:He),Bn (I2 R k) W1 (lp Tryz.f169 0) fr rec kx v=Mi rec kx v
 |fr,rec,kx,(v,v1,v2,v3)=>by kernel_rfl
def Afz(k:Nat) (x:HV [.str]):Option (HV [.bool]):=match x with
 |s =>
 A0 (fun rec=>Mi rec (fun e vz=>match vz with|(_,v5,_,_)=>match e with
  |.ret =>
  some v5
  |.exit 0 =>
  some true
  |_=>none)) k (s,false,(s.length:Int),0)
theorem A2s(k:Nat):∀(x:HV [.str]),Cs (I2 _ k) Tryz.f169 [.str] [.bool] x some=Afz k x
 |s=>by kernel_rfl
theorem Awr(k:Nat):FnOk Tryz.prog elT glT 169 [.str] [.bool] (Afz k):=by
 refine A3 Tryz.func169 rfl (by kernel_rfl) follows (by kernel_rfl) (n:=1) (by kernel_rfl) (px:=I2 _ k) (fun cx hP hel hgl =>?_) (A2s k)
 have hp0:PxOk cx (I2 (HV [.bool]) k):=⟨fun t=>by rw [hP,hel];exact Av An t,by rw [hgl];rfl⟩
 have hc0:Al cx (I2 (HV [.bool]) k):=Af rfl Aj
 have hq0:CallQOk cx (I2 (HV [.bool]) k):=Ab rfl rfl Ah Ae
 have hlvisible_0:A8 cx (I2 (HV [.bool]) k) (lp Tryz.f169 0):=Ba hp0 hc0 hq0 (by rw [hP];exact follows) (k:=k) (s:=W1) (step:=Mi) (fun _ _=>by kernel_rfl) (by kernel_rfl) (Arr _ k) (Az (n:=0) (by kernel_rfl) Ay)
 exact⟨hp0,hc0,hq0,(Cj Ay hlvisible_0)⟩
def vis(b:UInt8):Bool:=decide (32≤b.toNat)&&decide (b.toNat≤126)
def Mw(s:Str):Bool:=s.all vis
def Ahy:FT [.str] [.bool]:=fun x=>some (Mw x)
theorem Af7{R:Type}{kx:Ex→He→Option R}{s:Str}{a b:Option R}(hs:ln s.length) (h1:∀r j,kx .ret (s,false,r,j)=a) (h2:∀q r j,kx (.exit 0) (s,q,r,j)=b):∀(k i:Nat) q,i≤s.length→s.length-i<k→A0 (fun rec=>Mi rec kx) k (s,q,(s.length:Int),(i:Int))=cond ((s.drop i).all vis) b a
 |0,i,q,_,h=>by omega
 |k+1,i,q,hi,h=>by
  rw [Br]
  by_cases hl:i<s.length
  ·have ih:=Af7 hs h1 h2 k (i+1) q (by omega) (by omega)
   simp only [Mi,Bf hl hs,ih,h1,Bb hl,D8 hl,Bl hl,Zv1,chk,Ai,Bool.cond_decide]
   rw [if_pos (by omega)]
   simp only [vis]
   split
   ·rw [Zd1 (by omega)];rfl
   ·split
    ·rw [Ze1 (by omega),Zd1 (by omega)];rfl
    ·rw [Ze1 (by omega),Ze1 (by omega)];rfl
  ·simp only [Mi,h2,Bool.cond_decide]
   rw [if_neg (by omega),Zk1 (by omega)]
   rfl
theorem A0h:FnOk Tryz.prog elT glT 169 [.str] [.bool] Ahy :=.fin 0 Awr fun x r hb hx=>⟨x.length+1,by
 simp only [Ahy,Za1] at hx
 have:=Af7 (a:=some false) (b:=some true) hb (kx:=fun e v=>match v with|(_,v5,_,_)=>match e with|.ret=>some v5|.exit 0=>some true|_=>none) (fun _ _=>rfl) (fun _ _ _=>rfl) (x.length+1) 0 false (Nat.zero_le _) (by omega)
 refine Eq.trans this ?_
 rw [←hx,Zq1,Mw]
 cases x.all vis<;>rfl⟩
def Un(R:Type):Px R:=⟨Bd ttL,glT,Au [(169,As [.str] [.bool] Ahy)],Am [],Aw [],tbl []⟩
def Rs(x:HV [.sv .val]):Option (HV [.bool]):=match x with
 |v =>
 cond (decide (v.kind=1)) (
  cond (decide (v.n=0)) (
  some (decide (v.s=[]))) (
  some false)) (
  cond (decide (v.kind=2)) (
  cond (decide (v.n=0)) (
   some (decide (v.s=[]))) (
   cond (decide (v.n=1)) (
   some (decide (v.s=[]))) (
   some false))) (
  cond (decide (v.kind=3)) (
   some (decide (v.s=[]))) (
   cond (decide (v.kind=4)) (
   cond (decide (v.n=0)) (
    cond (decide ((v.s.length:Int)≤1000)) (
    some (Mw v.s)) (
    some false)) (
    some false)) (
   cond (decide (v.kind=5)) (
    cond (decide (v.n=0)) (
    some (decide ((v.s.length:Int)≤1000))) (
    some false)) (
    some false)))))
theorem A9c:∀(x:HV [.sv .val]),Cs (Un _) Tryz.f147 [.sv .val] [.bool] x some=Rs x
 |v=>by kernel_rfl
theorem Ayx:FnOk Tryz.prog elT glT 147 [.sv .val] [.bool] (Rs):=by
 refine A3 Tryz.func147 rfl (by kernel_rfl) follows (by kernel_rfl) (n:=0) (by kernel_rfl) (px:=Un _) (fun cx hP hel hgl =>?_) (A9c)
 have hp0:PxOk cx (Un (HV [.bool])):=⟨fun t=>by rw [hP,hel];exact Av An t,by rw [hgl];rfl⟩
 have hc0:Al cx (Un (HV [.bool])):=Af rfl (Aa (A7 (by rw [hP,hel,hgl];exact A0h) (by kernel_rfl)) Aj)
 have hq0:CallQOk cx (Un (HV [.bool])):=Ab rfl rfl Ah Ae
 exact⟨hp0,hc0,hq0,Ay⟩
def Cy(v:Val):Bool :=
 cond (decide (v.kind=1)) (
  cond (decide (v.n=0)) (
  (decide (v.s=[]))) (
  false)) (
  cond (decide (v.kind=2)) (
  cond (decide (v.n=0)) (
   (decide (v.s=[]))) (
   cond (decide (v.n=1)) (
   (decide (v.s=[]))) (
   false))) (
  cond (decide (v.kind=3)) (
   (decide (v.s=[]))) (
   cond (decide (v.kind=4)) (
   cond (decide (v.n=0)) (
    cond (decide ((v.s.length:Int)≤1000)) (
    (Mw v.s)) (
    false)) (
    false)) (
   cond (decide (v.kind=5)) (
    cond (decide (v.n=0)) (
    (decide ((v.s.length:Int)≤1000))) (
    false)) (
    false)))))
theorem Ayv(x:HV [.sv .val]):Rs x=some (Cy x):=by
 first
  |exact rfl
  |simp only [Rs,Cy,B7]
def Ak7:FT [.sv .val] [.bool]:=fun x=>some (Cy x)
theorem Apz:FnOk Tryz.prog elT glT 147 [.sv .val] [.bool] Ak7 :=.fin0 Ayx fun x _ _ hx=>(Ayv x).trans hx
def Uj(R:Type):Px R:=⟨Bd ttL,glT,Au [(147,As [.sv .val] [.bool] Ak7)],Am [],Aw [],tbl []⟩
def Sd(x:HV [.sv .val]):Option (HV [.int .i64]):=match x with
 |v =>
 cond (!(Cy v)) (
  some 2) (
  some 0)
theorem A7y:∀(x:HV [.sv .val]),Cs (Uj _) Tryz.f95 [.sv .val] [.int .i64] x some=Sd x
 |v=>by kernel_rfl
theorem Azv:FnOk Tryz.prog elT glT 95 [.sv .val] [.int .i64] (Sd):=by
 refine A3 Tryz.func95 rfl (by kernel_rfl) follows (by kernel_rfl) (n:=0) (by kernel_rfl) (px:=Uj _) (fun cx hP hel hgl =>?_) (A7y)
 have hp0:PxOk cx (Uj (HV [.int .i64])):=⟨fun t=>by rw [hP,hel];exact Av An t,by rw [hgl];rfl⟩
 have hc0:Al cx (Uj (HV [.int .i64])):=Af rfl (Aa (A7 (by rw [hP,hel,hgl];exact Apz) (by kernel_rfl)) Aj)
 have hq0:CallQOk cx (Uj (HV [.int .i64])):=Ab rfl rfl Ah Ae
 exact⟨hp0,hc0,hq0,Ay⟩
def W6(v:Val):Int :=
 cond (!(Cy v)) (
  2) (
  0)
theorem Azp(x:HV [.sv .val]):Sd x=some (W6 x):=by
 first
  |exact rfl
  |simp only [Sd,W6,B7]
def Amm:FT [.sv .val] [.int .i64]:=fun x=>some (W6 x)
theorem Aph:FnOk Tryz.prog elT glT 95 [.sv .val] [.int .i64] Amm :=.fin0 Azv fun x _ _ hx=>(Azp x).trans hx
def Afr(R:Type):Px R:=⟨Bd ttL,glT,Au [],Am [],Aw [],tbl []⟩
def Ab9(x:HV [.int .i64,.int .i64]):Option (HV [.int .i64,.int .i64]):=match x with
 |(a,b) =>
 cond (!decide ((decide (a<(wr .i64 (a+b))))=(decide (0<b)))) (
  some (0,20)) (
  some ((wr .i64 (a+b)),0))
theorem Bla:∀(x:HV [.int .i64,.int .i64]),Cs (Afr _) Tryz.f195 [.int .i64,.int .i64] [.int .i64,.int .i64] x some=Ab9 x
 |(a,b)=>by kernel_rfl
theorem Bge:FnOk Tryz.prog elT glT 195 [.int .i64,.int .i64] [.int .i64,.int .i64] (Ab9):=by
 refine A3 Tryz.func195 rfl (by kernel_rfl) follows (by kernel_rfl) (n:=0) (by kernel_rfl) (px:=Afr _) (fun cx hP hel hgl =>?_) (Bla)
 have hp0:PxOk cx (Afr (HV [.int .i64,.int .i64])):=⟨fun t=>by rw [hP,hel];exact Av An t,by rw [hgl];rfl⟩
 have hc0:Al cx (Afr (HV [.int .i64,.int .i64])):=Af rfl Aj
 have hq0:CallQOk cx (Afr (HV [.int .i64,.int .i64])):=Ab rfl rfl Ah Ae
 exact⟨hp0,hc0,hq0,Ay⟩
def Ay5(a:Int) (b:Int):Int×Int :=
 cond (!decide ((decide (a<(wr .i64 (a+b))))=(decide (0<b)))) (
  (0,20)) (
  ((wr .i64 (a+b)),0))
theorem Be2(x:HV [.int .i64,.int .i64]):Ab9 x=some (Ay5 x.1 x.2):=by
 first
  |exact rfl
  |simp only [Ab9,Ay5,B7]
def Bh0:FT [.int .i64,.int .i64] [.int .i64,.int .i64]:=fun x=>some (Ay5 x.1 x.2)
theorem Bji:FnOk Tryz.prog elT glT 195 [.int .i64,.int .i64] [.int .i64,.int .i64] Bh0 :=.fin0 Bge fun x _ _ hx=>(Be2 x).trans hx
def Aat(R:Type):Px R:=⟨Bd ttL,glT,Au [],Am [],Aw [],tbl []⟩
def Wf(x:HV [.int .i64]):Option (HV [.int .u64]):=match x with
 |n =>
 cond (decide (n<0)) (
  some (wr .u64 (0-(wr .u64 n)))) (
  some (wr .u64 n))
theorem Bbr:∀(x:HV [.int .i64]),Cs (Aat _) Tryz.f170 [.int .i64] [.int .u64] x some=Wf x
 |n=>by kernel_rfl
theorem A61:FnOk Tryz.prog elT glT 170 [.int .i64] [.int .u64] (Wf):=by
 refine A3 Tryz.func170 rfl (by kernel_rfl) follows (by kernel_rfl) (n:=0) (by kernel_rfl) (px:=Aat _) (fun cx hP hel hgl =>?_) (Bbr)
 have hp0:PxOk cx (Aat (HV [.int .u64])):=⟨fun t=>by rw [hP,hel];exact Av An t,by rw [hgl];rfl⟩
 have hc0:Al cx (Aat (HV [.int .u64])):=Af rfl Aj
 have hq0:CallQOk cx (Aat (HV [.int .u64])):=Ab rfl rfl Ah Ae
 exact⟨hp0,hc0,hq0,Ay⟩
def Ft(n:Int):Int :=
 cond (decide (n<0)) (
  (wr .u64 (0-(wr .u64 n)))) (
  (wr .u64 n))
theorem Ba8(x:HV [.int .i64]):Wf x=some (Ft x):=by
 first
  |exact rfl
  |simp only [Wf,Ft,B7]
def Atd:FT [.int .i64] [.int .u64]:=fun x=>some (Ft x)
theorem Av2:FnOk Tryz.prog elT glT 170 [.int .i64] [.int .u64] Atd :=.fin0 A61 fun x _ _ hx=>(Ba8 x).trans hx
def Aaz(R:Type):Px R:=⟨Bd ttL,glT,Au [],Am [],Aw [],tbl []⟩
def Vn(x:HV [.int .u64,.int .u64]):Option (HV [.int .u64,.int .u64]):=match x with
 |(a,b) =>
 some ((wr .u64 ((wr .u64 ((wr .u64 ((Nq .u64 a 32)*(Nq .u64 b 32)))+(Nq .u64 (wr .u64 ((wr .u64 ((Nq .u64 a 32)*(Od .u64 b 4294967295)))+(Nq .u64 (wr .u64 ((Od .u64 a 4294967295)*(Od .u64 b 4294967295))) 32))) 32)))+(Nq .u64 (wr .u64 ((Od .u64 (wr .u64 ((wr .u64 ((Nq .u64 a 32)*(Od .u64 b 4294967295)))+(Nq .u64 (wr .u64 ((Od .u64 a 4294967295)*(Od .u64 b 4294967295))) 32))) 4294967295)+(wr .u64 ((Od .u64 a 4294967295)*(Nq .u64 b 32))))) 32))),(wr .u64 (a*b)))
theorem Bf7:∀(x:HV [.int .u64,.int .u64]),Cs (Aaz _) Tryz.f201 [.int .u64,.int .u64] [.int .u64,.int .u64] x some=Vn x
 |(a,b)=>by kernel_rfl
theorem A7l:FnOk Tryz.prog elT glT 201 [.int .u64,.int .u64] [.int .u64,.int .u64] (Vn):=by
 refine A3 Tryz.func201 rfl (by kernel_rfl) follows (by kernel_rfl) (n:=0) (by kernel_rfl) (px:=Aaz _) (fun cx hP hel hgl =>?_) (Bf7)
 have hp0:PxOk cx (Aaz (HV [.int .u64,.int .u64])):=⟨fun t=>by rw [hP,hel];exact Av An t,by rw [hgl];rfl⟩
 have hc0:Al cx (Aaz (HV [.int .u64,.int .u64])):=Af rfl Aj
 have hq0:CallQOk cx (Aaz (HV [.int .u64,.int .u64])):=Ab rfl rfl Ah Ae
 exact⟨hp0,hc0,hq0,Ay⟩
def Pr(a:Int) (b:Int):Int×Int :=
 ((wr .u64 ((wr .u64 ((wr .u64 ((Nq .u64 a 32)*(Nq .u64 b 32)))+(Nq .u64 (wr .u64 ((wr .u64 ((Nq .u64 a 32)*(Od .u64 b 4294967295)))+(Nq .u64 (wr .u64 ((Od .u64 a 4294967295)*(Od .u64 b 4294967295))) 32))) 32)))+(Nq .u64 (wr .u64 ((Od .u64 (wr .u64 ((wr .u64 ((Nq .u64 a 32)*(Od .u64 b 4294967295)))+(Nq .u64 (wr .u64 ((Od .u64 a 4294967295)*(Od .u64 b 4294967295))) 32))) 4294967295)+(wr .u64 ((Od .u64 a 4294967295)*(Nq .u64 b 32))))) 32))),(wr .u64 (a*b)))
theorem Bat(x:HV [.int .u64,.int .u64]):Vn x=some (Pr x.1 x.2):=by
 first
  |exact rfl
  |simp only [Vn,Pr,B7]
def A6h:FT [.int .u64,.int .u64] [.int .u64,.int .u64]:=fun x=>some (Pr x.1 x.2)
theorem Bdt:FnOk Tryz.prog elT glT 201 [.int .u64,.int .u64] [.int .u64,.int .u64] A6h :=.fin0 A7l fun x _ _ hx=>(Bat x).trans hx
def Agd(R:Type):Px R:=⟨Bd ttL,glT,Au [(170,As [.int .i64] [.int .u64] Atd),(201,As [.int .u64,.int .u64] [.int .u64,.int .u64] A6h)],Am [],Aw [],tbl []⟩
def Abv(x:HV [.int .i64,.int .i64]):Option (HV [.int .i64,.int .i64]):=match x with
 |(a,b) =>
 let j1:=fun(p3:Bool) =>
  cond (p3) (
  some (0,20)) (
  cond (!decide ((decide (a<0))=(decide (b<0)))) (
   some ((wr .i64 (wr .u64 (0-(Pr (Ft a) (Ft b)).2))),0)) (
   some ((wr .i64 ((Pr (Ft a) (Ft b)).2)),0)))
 let j:=fun(p:Bool) =>
  cond (p) (
  j1 true) (
  cond (decide ((Pr (Ft a) (Ft b)).2=9223372036854775808)) (
   j1 (!(!decide ((decide (a<0))=(decide (b<0)))))) (
   j1 false))
 cond (decide (0<(Pr (Ft a) (Ft b)).1)) (
  j true) (
  j (decide (9223372036854775808<(Pr (Ft a) (Ft b)).2)))
theorem Bjv:∀(x:HV [.int .i64,.int .i64]),Cs (Agd _) Tryz.f194 [.int .i64,.int .i64] [.int .i64,.int .i64] x some=Abv x
 |(a,b)=>by kernel_rfl
theorem Be9:FnOk Tryz.prog elT glT 194 [.int .i64,.int .i64] [.int .i64,.int .i64] (Abv):=by
 refine A3 Tryz.func194 rfl (by kernel_rfl) follows (by kernel_rfl) (n:=0) (by kernel_rfl) (px:=Agd _) (fun cx hP hel hgl =>?_) (Bjv)
 have hp0:PxOk cx (Agd (HV [.int .i64,.int .i64])):=⟨fun t=>by rw [hP,hel];exact Av An t,by rw [hgl];rfl⟩
 have hc0:Al cx (Agd (HV [.int .i64,.int .i64])):=Af rfl (Aa (A7 (by rw [hP,hel,hgl];exact Av2) (by kernel_rfl)) (Aa (A7 (by rw [hP,hel,hgl];exact Bdt) (by kernel_rfl)) Aj))
 have hq0:CallQOk cx (Agd (HV [.int .i64,.int .i64])):=Ab rfl rfl Ah Ae
 exact⟨hp0,hc0,hq0,Ay⟩
def Axb(a:Int) (b:Int):Int×Int :=
 let j1:=fun(p3:Bool) =>
  cond (p3) (
  (0,20)) (
  cond (!decide ((decide (a<0))=(decide (b<0)))) (
   ((wr .i64 (wr .u64 (0-(Pr (Ft a) (Ft b)).2))),0)) (
   ((wr .i64 ((Pr (Ft a) (Ft b)).2)),0)))
 let j:=fun(p:Bool) =>
  cond (p) (
  j1 true) (
  cond (decide ((Pr (Ft a) (Ft b)).2=9223372036854775808)) (
   j1 (!(!decide ((decide (a<0))=(decide (b<0)))))) (
   j1 false))
 cond (decide (0<(Pr (Ft a) (Ft b)).1)) (
  j true) (
  j (decide (9223372036854775808<(Pr (Ft a) (Ft b)).2)))
theorem Bcl(x:HV [.int .i64,.int .i64]):Abv x=some (Axb x.1 x.2):=by
 first
  |exact rfl
  |simp only [Abv,Axb,B7]
def Bch:FT [.int .i64,.int .i64] [.int .i64,.int .i64]:=fun x=>some (Axb x.1 x.2)
theorem Bk1:FnOk Tryz.prog elT glT 194 [.int .i64,.int .i64] [.int .i64,.int .i64] Bch :=.fin0 Be9 fun x _ _ hx=>(Bcl x).trans hx
end Go.Proofs.YthndhaolemgbdaaGreatDoor
namespace Go.Proofs.YthndhaolemgbdaaGreatDoor
open Go.Ax
theorem Avu{i:Int}{n:Nat}(h : 0≤i∧i<n):inb i n=true:=by simp [inb,h]
def Y9(R:Type):Px R:=⟨Bd ttL,glT,Au [],Am [],Aw [],tbl []⟩
def Xh(x:HV [.int .u8]):Option (HV [.bool]):=match x with
 |c =>
 cond (decide (97≤c)) (
  some (decide (c≤122))) (
  some false)
theorem Bgg:∀(x:HV [.int .u8]),Cs (Y9 _) Tryz.f109 [.int .u8] [.bool] x some=Xh x
 |c=>by kernel_rfl
theorem A7s:FnOk Tryz.prog elT glT 109 [.int .u8] [.bool] (Xh):=by
 refine A3 Tryz.func109 rfl (by kernel_rfl) follows (by kernel_rfl) (n:=0) (by kernel_rfl) (px:=Y9 _) (fun cx hP hel hgl =>?_) (Bgg)
 have hp0:PxOk cx (Y9 (HV [.bool])):=⟨fun t=>by rw [hP,hel];exact Av An t,by rw [hgl];rfl⟩
 have hc0:Al cx (Y9 (HV [.bool])):=Af rfl Aj
 have hq0:CallQOk cx (Y9 (HV [.bool])):=Ab rfl rfl Ah Ae
 exact⟨hp0,hc0,hq0,Ay⟩
def Afs(c:Int):Bool :=
 cond (decide (97≤c)) (
  (decide (c≤122))) (
  false)
theorem Bbg(x:HV [.int .u8]):Xh x=some (Afs x):=by
 first
  |exact rfl
  |simp only [Xh,Afs,B7]
def Aj1:FT [.int .u8] [.bool]:=fun x=>some (Afs x)
theorem Ane:FnOk Tryz.prog elT glT 109 [.int .u8] [.bool] Aj1 :=.fin0 A7s fun x _ _ hx=>(Bbg x).trans hx
def Aaf(R:Type):Px R:=⟨Bd ttL,glT,Au [],Am [],Aw [],tbl []⟩
def Xa(x:HV [.int .u8]):Option (HV [.bool]):=match x with
 |c =>
 cond (decide (48≤c)) (
  some (decide (c≤57))) (
  some false)
theorem Bdw:∀(x:HV [.int .u8]),Cs (Aaf _) Tryz.f154 [.int .u8] [.bool] x some=Xa x
 |c=>by kernel_rfl
theorem A7q:FnOk Tryz.prog elT glT 154 [.int .u8] [.bool] (Xa):=by
 refine A3 Tryz.func154 rfl (by kernel_rfl) follows (by kernel_rfl) (n:=0) (by kernel_rfl) (px:=Aaf _) (fun cx hP hel hgl =>?_) (Bdw)
 have hp0:PxOk cx (Aaf (HV [.bool])):=⟨fun t=>by rw [hP,hel];exact Av An t,by rw [hgl];rfl⟩
 have hc0:Al cx (Aaf (HV [.bool])):=Af rfl Aj
 have hq0:CallQOk cx (Aaf (HV [.bool])):=Ab rfl rfl Ah Ae
 exact⟨hp0,hc0,hq0,Ay⟩
def Afh(c:Int):Bool :=
 cond (decide (48≤c)) (
  (decide (c≤57))) (
  false)
theorem A8f(x:HV [.int .u8]):Xa x=some (Afh x):=by
 first
  |exact rfl
  |simp only [Xa,Afh,B7]
def Akh:FT [.int .u8] [.bool]:=fun x=>some (Afh x)
theorem Ale:FnOk Tryz.prog elT glT 154 [.int .u8] [.bool] Akh :=.fin0 A7q fun x _ _ hx=>(A8f x).trans hx
def Yq(R:Type):Px R:=⟨Bd ttL,glT,Au [(109,As [.int .u8] [.bool] Aj1),(154,As [.int .u8] [.bool] Akh)],Am [],Aw [],tbl []⟩
def V9(x:HV [.int .u8]):Option (HV [.bool]):=match x with
 |c =>
 cond ((Afs c)) (
  some true) (
  cond ((Afh c)) (
  some true) (
  some (decide (c=95))))
theorem Bb0:∀(x:HV [.int .u8]),Cs (Yq _) Tryz.f111 [.int .u8] [.bool] x some=V9 x
 |c=>by kernel_rfl
theorem Ba4:FnOk Tryz.prog elT glT 111 [.int .u8] [.bool] (V9):=by
 refine A3 Tryz.func111 rfl (by kernel_rfl) follows (by kernel_rfl) (n:=0) (by kernel_rfl) (px:=Yq _) (fun cx hP hel hgl =>?_) (Bb0)
 have hp0:PxOk cx (Yq (HV [.bool])):=⟨fun t=>by rw [hP,hel];exact Av An t,by rw [hgl];rfl⟩
 have hc0:Al cx (Yq (HV [.bool])):=Af rfl (Aa (A7 (by rw [hP,hel,hgl];exact Ane) (by kernel_rfl)) (Aa (A7 (by rw [hP,hel,hgl];exact Ale) (by kernel_rfl)) Aj))
 have hq0:CallQOk cx (Yq (HV [.bool])):=Ab rfl rfl Ah Ae
 exact⟨hp0,hc0,hq0,Ay⟩
def Ai8(c:Int):Bool :=
 cond ((Afs c)) (
  true) (
  cond ((Afh c)) (
  true) (
  (decide (c=95))))
theorem A6x(x:HV [.int .u8]):V9 x=some (Ai8 x):=by
 first
  |exact rfl
  |simp only [V9,Ai8,B7]
def Akd:FT [.int .u8] [.bool]:=fun x=>some (Ai8 x)
theorem Amh:FnOk Tryz.prog elT glT 111 [.int .u8] [.bool] Akd :=.fin0 Ba4 fun x _ _ hx=>(A6x x).trans hx
theorem Anm(c:Int):Afs c=Lp.isLo c:=by simp only [Afs,Lp.isLo];cases decide (97≤c)<;>rfl
theorem Ak9(c:Int):Afh c=Lp.isDi c:=by simp only [Afh,Lp.isDi];cases decide (48≤c)<;>rfl
theorem Amb(c:Int):Ai8 c=Lp.isIn c:=by
 simp only [Ai8,Lp.isIn,Anm,Ak9]
 cases Lp.isLo c<;>cases Lp.isDi c<;>rfl
def Ac7:Sig:=⟨21,[(0,.str),(1,.int .i64)],[(2,.fn 111 [])],[],40,40,200,[],[]⟩
abbrev K7:=Str×Int
def Wd{R:Type}(rec:K7→Option R) (kx:Ex→K7→Option R) (v:K7):Option R:=match v with
 |(v,v1) =>
 cond (decide (v1<(v.length:Int))) (
  chk (inb v1 v.length) (
  cond ((Ai8 (bat v v1))) (
   rec (v,(wr .i64 (v1+1)))) (
   kx (.exit 0) (v,v1)))) (
  kx (.exit 0) (v,v1))
def L4(R:Type) (k:Nat):Px R:=⟨Bd ttL,glT,Au [(111,As [.int .u8] [.bool] Akd)],Am [],Aw [(1,Be k Ac7 (Wd))],tbl []⟩
noncomputable def Aaa (R:Type) (k:Nat):Px R:=⟨Bd ttL,glT,Au [(109,As [.int .u8] [.bool] Aj1),(110,Bg 40 200 (L4 R k) Tryz.f110)],Am [],Aw [],tbl []⟩
theorem A3f(R:Type) (k:Nat):∀(fr:List Fr) (rec:K7→Option R) (kx:Ex→K7→Option R) (v:K7),Bn (L4 R k) Ac7 (lp Tryz.f110 0) fr rec kx v=Wd rec kx v
 |fr,rec,kx,(v,v1)=>by kernel_rfl
def Ado(k:Nat) (x:HV [.str]):Option (HV [.bool]):=match x with
 |s =>
 let j1:=fun(p:Bool) =>
  let j:=fun(p1:Bool) =>
  cond (p1) (
   A0 (fun rec=>Wd rec (fun e vz=>match vz with|(_,v3)=>match e with
   |.exit 0 =>
    some (decide (v3=(s.length:Int)))
   |_=>none)) k (s,0)) (
   some false)
  cond (p) (
  chk (inb 0 s.length) (
   j (Afs (bat s 0)))) (
  j false)
 cond (!decide (s=[])) (
  j1 (decide ((s.length:Int)≤30))) (
  j1 false)
theorem Bgm(k:Nat):∀(x:HV [.str]),Cs (Aaa _ k) Tryz.f63 [.str] [.bool] x some=Ado k x
 |s=>by kernel_rfl
theorem A89(k:Nat):FnOk Tryz.prog elT glT 63 [.str] [.bool] (Ado k):=by
 refine A3 Tryz.func63 rfl (by kernel_rfl) follows (by kernel_rfl) (n:=0) (by kernel_rfl) (px:=Aaa _ k) (fun cx hP hel hgl =>?_) (Bgm k)
 have hp1:PxOk cx (L4 (HV [.bool]) k):=⟨fun t=>by rw [hP,hel];exact Av An t,by rw [hgl];rfl⟩
 have hc1:Al cx (L4 (HV [.bool]) k):=Af rfl (Aa (A7 (by rw [hP,hel,hgl];exact Amh) (by kernel_rfl)) Aj)
 have hq1:CallQOk cx (L4 (HV [.bool]) k):=Ab rfl rfl Ah Ae
 have hllname_0:A8 cx (L4 (HV [.bool]) k) (lp Tryz.f110 0):=Ba hp1 hc1 hq1 (by rw [hP];exact follows) (k:=k) (s:=Ac7) (step:=Wd) (fun _ _=>by kernel_rfl) (by kernel_rfl) (A3f _ k) (Az (n:=0) (by kernel_rfl) Ay)
 have hp0:PxOk cx (Aaa (HV [.bool]) k):=⟨fun t=>by rw [hP,hel];exact Av An t,by rw [hgl];rfl⟩
 have hc0:Al cx (Aaa (HV [.bool]) k):=Af rfl (Aa (A7 (by rw [hP,hel,hgl];exact Ane) (by kernel_rfl)) (Aa (Bv hp1 hc1 hq1 (by rw [hP];exact follows) (by rw [hP];exact Tryz.func110) rfl (by kernel_rfl) (by kernel_rfl) (n:=1) (by kernel_rfl) ((Cj Ay hllname_0))) Aj))
 have hq0:CallQOk cx (Aaa (HV [.bool]) k):=Ab rfl rfl Ah Ae
 exact⟨hp0,hc0,hq0,Ay⟩
abbrev B1 (s:Str):Bool:=Lp.nameF s
def V5:FT [.str] [.bool]:=fun x=>some (B1 x)
theorem Afw{R:Type}{kx:Ex→K7→Option R}{s:Str}  {a:Int→Option R}(hs:ln s.length) (h1:∀j,kx (.exit 0) (s,j)=a j):∀(k i:Nat),i≤s.length→s.length-i<k→A0 (fun rec=>Wd rec kx) k (s,(i:Int))=a (Lp.runTo Lp.isIn s i)
 |0,i,_,h=>absurd h (Zm1 _)
 |k+1,i,hi,h=>by
  rw [Br]
  by_cases hl:i<s.length
  ·have ih:=Afw  hs h1 k (i+1) (by omega) (by omega)
   have eb:Sx.byt s (i:Int)=(s[i].toNat:Int):=D8 hl
   simp only [Wd,Bf hl hs,ih,h1,D8 hl,Bl hl,Amb]
   rw [Ze1 (show(i:Int)<(s.length:Int) by omega)]
   cases hp:Lp.isIn (s[i].toNat:Int) with
   |true =>
    have:=Lp.runTo_yes (p:=Lp.isIn) (l:=s) (j:=i) (by omega) (by rw [eb];exact hp)
    rw [←this]
    rfl
   |false =>
    have:=Lp.runTo_no (p:=Lp.isIn) (l:=s) (j:=i) (by omega) (by rw [eb];exact hp)
    rw [this]
    rfl
  ·have:=Lp.runTo_end (p:=Lp.isIn) (l:=s) (j:=i) (by omega)
   simp only [Wd,h1]
   rw [Zd1 (by omega),this]
   rfl
theorem Zd:FnOk Tryz.prog elT glT 63 [.str] [.bool] V5 :=.fin 0 A89 fun s r hb hx=>⟨s.length+1,by
 simp only [V5,Za1] at hx
 rw [←hx]
 simp only [Ado,B1,Lp.nameF]
 by_cases he:s=[]
 ·rw [Ze1 he];rfl
 ·rw [Zd1 he]
  simp only [Zs1,Ai,Bool.true_and]
  by_cases h30:(s.length:Int)≤30
  ·have hp : 0<s.length:=List.length_pos_iff.2 he
   rw [Ze1 h30,Avu (by omega),Anm]
   simp only [chk,Ai,Bool.true_and]
   have eb:bat s 0=Sx.byt s 0:=rfl
   rw [eb]
   cases Lp.isLo (Sx.byt s 0) with
   |false=>rfl
   |true =>
    simp only [Ai,Bool.true_and]
    exact Afw (s:=s) (a:=fun j=>some (decide (j=(s.length:Int)))) hb (fun _=>rfl) (s.length+1) 0 (Nat.zero_le _) (by omega)
  ·rw [Zd1 h30]
   rfl⟩
end Go.Proofs.YthndhaolemgbdaaGreatDoor
namespace Go.Proofs.YthndhaolemgbdaaGreatDoor
open Go.Ax
theorem wru(n:Int):wr .u64 n=n % 18446744073709551616:=by simp [wr,IntKind.wrap,IntKind.bits,IntKind.signed]
theorem wri(n:Int):wr .i64 n=if 9223372036854775808≤n % 18446744073709551616 then n % 18446744073709551616-18446744073709551616 else n % 18446744073709551616:=by
 simp [wr,IntKind.wrap,IntKind.bits,IntKind.signed]
theorem N3{n:Int}(h : 0≤n∧n≤18446744073709551615):wr .u64 n=n:=by rw [wru];omega
theorem At6{a:Int}(h : 0≤a∧a≤18446744073709551615):Od .u64 a 4294967295=a % 4294967296:=by
 obtain⟨n,rfl⟩:=Int.eq_ofNat_of_zero_le h.1
 have hn:n<18446744073709551616:=by omega
 have e2:(BitVec.ofInt IntKind.u64.bits (n:Int) &&& BitVec.ofInt IntKind.u64.bits 4294967295).toNat=n % 4294967296:=by
  show(BitVec.ofInt 64 (n:Int) &&& BitVec.ofInt 64 ((4294967295:Nat):Int)).toNat=n % 4294967296
  rw [BitVec.toNat_and,BitVec.ofInt_natCast,BitVec.ofInt_natCast,BitVec.toNat_ofNat,BitVec.toNat_ofNat]
  rw [Nat.mod_eq_of_lt hn,Nat.mod_eq_of_lt (by decide)]
  exact Nat.and_two_pow_sub_one_eq_mod n 32
 show wr .u64 _=_
 simp only [e2]
 rw [N3 (by omega)]
 omega
theorem Bkh{a:Int}:Nq .u64 a 32=a / 4294967296:=by
 show a.fdiv (2 ^ min (32:Int).toNat IntKind.u64.bits)=_
 rw [show(2:Int) ^ min (32:Int).toNat IntKind.u64.bits=4294967296 from by decide]
 exact Int.fdiv_eq_ediv_of_nonneg _ (by omega)
theorem Ahu(a b c d:Int) (h : 0≤a∧a≤c) (h' : 0≤b∧b≤d) : 0≤a*b∧a*b≤c*d :=
 ⟨Int.mul_nonneg h.1 h'.1,Int.mul_le_mul h.2 h'.2 h'.1 (by omega)⟩
theorem Ajh(x y:Int):x*y=(x / 4294967296)*(y / 4294967296)*18446744073709551616+((x / 4294967296)*(y % 4294967296)+(x % 4294967296)*(y / 4294967296))*4294967296+(x % 4294967296)*(y % 4294967296):=by
 have hx:=Int.mul_ediv_add_emod x 4294967296
 have hy:=Int.mul_ediv_add_emod y 4294967296
 generalize x / 4294967296=p at *
 generalize x % 4294967296=q at *
 generalize y / 4294967296=r at *
 generalize y % 4294967296=s at *
 rw [←hx,←hy]
 simp only [Int.add_mul,Int.mul_add]
 have e1 : 4294967296*p*(4294967296*r)=p*r*18446744073709551616:=by
  rw [Int.mul_assoc,Int.mul_left_comm p,←Int.mul_assoc]
  omega
 have e2 : 4294967296*p*s=p*s*4294967296:=by rw [Int.mul_assoc];omega
 have e3:q*(4294967296*r)=q*r*4294967296:=by rw [Int.mul_left_comm];omega
 omega
theorem Bh9(x y:Int) (hx : 0≤x∧x≤18446744073709551615) (hy : 0≤y∧y≤18446744073709551615):Pr x y=(x*y / 18446744073709551616,x*y % 18446744073709551616):=by
 have b00:=Ahu (x % 4294967296) (y % 4294967296) 4294967295 4294967295 (by omega) (by omega)
 have b10:=Ahu (x / 4294967296) (y % 4294967296) 4294967295 4294967295 (by omega) (by omega)
 have b01:=Ahu (x % 4294967296) (y / 4294967296) 4294967295 4294967295 (by omega) (by omega)
 have b11:=Ahu (x / 4294967296) (y / 4294967296) 4294967295 4294967295 (by omega) (by omega)
 have sp:=Ajh x y
 simp only [Pr,Bkh,At6 hx,At6 hy]
 generalize (x % 4294967296)*(y % 4294967296)=p00 at *
 generalize (x / 4294967296)*(y % 4294967296)=p10 at *
 generalize (x % 4294967296)*(y / 4294967296)=p01 at *
 generalize (x / 4294967296)*(y / 4294967296)=p11 at *
 rw [N3 (n:=p00) (by omega),N3 (n:=p10) (by omega),N3 (n:=p11) (by omega),N3 (n:=p01) (by omega)]
 rw [N3 (n:=p10+p00 / 4294967296) (by omega)]
 rw [At6 (by omega)]
 rw [N3 (n:=(p10+p00 / 4294967296) % 4294967296+p01) (by omega)]
 rw [N3 (n:=p11+(p10+p00 / 4294967296) / 4294967296) (by omega)]
 rw [N3 (n:=p11+(p10+p00 / 4294967296) / 4294967296+((p10+p00 / 4294967296) % 4294967296+p01) / 4294967296) (by omega),wru]
 rw [Zp1]
 constructor<;>omega
def Ad5(n:Int):Int×Int:=if -9223372036854775808≤n∧n≤9223372036854775807 then(n,0) else(0,20)
def Sl(n:Int):Int:=if n<0 then -n else n
theorem Auk{n:Int}(h:inI n):Ft n=Sl n:=by
 simp only [inI] at h
 simp only [Ft,Sl,Bool.cond_decide,wru]
 split<;>omega
theorem As0{q r:Int}(h:inI q) (hr:r=q):(r,(0:Int))=Ad5 q:=by
 simp only [inI] at h
 rw [hr,Ad5,if_pos h]
theorem Ar1{q:Int}(h:¬inI q):((0:Int),(20:Int))=Ad5 q:=by
 simp only [inI] at h
 rw [Ad5,if_neg h]
theorem Bm7{a b:Int}(ha:inI a) (hb:inI b):Ay5 a b=Ad5 (a+b):=by
 simp only [inI] at ha hb
 simp only [Ay5,wri]
 by_cases h1 : 0<b
 ·rw [Ze1 h1]
  by_cases h2:a+b≤9223372036854775807
  ·have e:(a+b) % 18446744073709551616<9223372036854775808∨9223372036854775808≤(a+b) % 18446744073709551616:=by omega
   rw [←As0 (q:=a+b) (r:=if 9223372036854775808≤(a+b) % 18446744073709551616 then(a+b) % 18446744073709551616-18446744073709551616 else(a+b) % 18446744073709551616) (by simp only [inI];omega) (by split<;>omega)]
   rw [Ze1 (p:=a<_) (by split<;>omega)]
   rfl
  ·rw [←Ar1 (q:=a+b) (by simp only [inI];omega)]
   rw [Zd1 (p:=a<_) (by split<;>omega)]
   rfl
 ·rw [Zd1 h1]
  by_cases h2 : -9223372036854775808≤a+b
  ·rw [←As0 (q:=a+b) (r:=if 9223372036854775808≤(a+b) % 18446744073709551616 then(a+b) % 18446744073709551616-18446744073709551616 else(a+b) % 18446744073709551616) (by simp only [inI];omega) (by split<;>omega)]
   rw [Zd1 (p:=a<_) (by split<;>omega)]
   rfl
  ·rw [←Ar1 (q:=a+b) (by simp only [inI];omega)]
   rw [Ze1 (p:=a<_) (by split<;>omega)]
   rfl
theorem Bor{a b:Int}(ha:inI a) (hb:inI b):Axb a b=Ad5 (a*b):=by
 have ha':=ha;have hb':=hb
 simp only [inI] at ha' hb'
 have hA : 0≤Sl a∧Sl a≤9223372036854775808:=by unfold Sl;split<;>omega
 have hB : 0≤Sl b∧Sl b≤9223372036854775808:=by unfold Sl;split<;>omega
 have hbd:=Ahu _ _ _ _ hA hB
 have hsg:a*b=if decide (a<0)=decide (b<0) then Sl a*Sl b else -(Sl a*Sl b):=by
  unfold Sl
  by_cases h1:a<0<;>by_cases h2:b<0<;>simp [h1,h2,Int.neg_mul,Int.mul_neg]
 simp only [Axb,Auk ha,Auk hb,Bh9 _ _ (show 0≤Sl a∧Sl a≤18446744073709551615 by omega) (show 0≤Sl b∧Sl b≤18446744073709551615 by omega)]
 clear ha hb ha' hb' hA hB
 generalize Sl a*Sl b=p at *
 generalize a*b=q at *
 by_cases hs:decide (a<0)=decide (b<0)
 ·rw [if_pos hs] at hsg
  rw [Ze1 hs]
  by_cases h1:p<9223372036854775808
  ·rw [Zd1 (show ¬ 0<p / 18446744073709551616 by omega),Zd1 (show ¬ 9223372036854775808<p % 18446744073709551616 by omega),Zd1 (show ¬p % 18446744073709551616=9223372036854775808 by omega)]
   refine(show _=(wr .i64 (p % 18446744073709551616),(0:Int)) from rfl).trans (As0 (by simp only [inI];omega) ?_)
   rw [wri];split<;>omega
  ·rw [←Ar1 (q:=q) (by simp only [inI];omega)]
   by_cases h2 : 0<p / 18446744073709551616
   ·rw [Ze1 h2];rfl
   ·rw [Zd1 h2]
    by_cases h3 : 9223372036854775808<p % 18446744073709551616
    ·rw [Ze1 h3];rfl
    ·rw [Zd1 h3,Ze1 (show p % 18446744073709551616=9223372036854775808 by omega)];rfl
 ·rw [if_neg hs] at hsg
  rw [Zd1 hs]
  by_cases h1:p≤9223372036854775808
  ·rw [Zd1 (show ¬ 0<p / 18446744073709551616 by omega),Zd1 (show ¬ 9223372036854775808<p % 18446744073709551616 by omega)]
   have:Ad5 q=(wr .i64 (wr .u64 (0-p % 18446744073709551616)),(0:Int)):=by
    refine(As0 (by simp only [inI];omega) ?_).symm
    rw [wri,wru];split<;>omega
   rw [this]
   cases decide (p % 18446744073709551616=9223372036854775808)<;>rfl
  ·rw [←Ar1 (q:=q) (by simp only [inI];omega)]
   by_cases h2 : 0<p / 18446744073709551616
   ·rw [Ze1 h2];rfl
   ·rw [Zd1 h2,Ze1 (show 9223372036854775808<p % 18446744073709551616 by omega)];rfl
end Go.Proofs.YthndhaolemgbdaaGreatDoor
namespace Go.Proofs
open Go.Shelf
def Tryz.laysRA_ren:Go.Shelf.Ren:=⟨fun|155=>150|154=>171|138=>187|165=>153|143=>188|166=>104|197=>189|169=>41|195=>197|218=>198|240=>152|241=>173|219=>199|260=>200|276=>172|277=>190|217=>174|225=>203|224=>204|267=>205|266=>191|314=>207|n=>n,fun|9=>9|3=>3|4=>4|72=>80|0=>0|76=>154|105=>216|21=>21|5=>5|70=>77|20=>20|37=>78|75=>153|127=>148|164=>205|46=>68|119=>226|139=>229|138=>228|146=>231|51=>230|80=>84|n=>n,fun|1=>3|3=>4|4=>5|n=>n⟩
theorem Tryz.laysRA:Go.Proofs.Lays.n155 Tryz.prog Tryz.laysRA_ren:={
 mixed:=by kernel_rfl
 f138:=Tryz.func187.trans (congrArg some (by kernel_rfl))
 f143:=Tryz.func188.trans (congrArg some (by kernel_rfl))
 f154:=Tryz.func171.trans (congrArg some (by kernel_rfl))
 f155:=Tryz.func150.trans (congrArg some (by kernel_rfl))
 f165:=Tryz.func153.trans (congrArg some (by kernel_rfl))
 f166:=Tryz.func104.trans (congrArg some (by kernel_rfl))
 f169:=Tryz.func41.trans (congrArg some (by kernel_rfl))
 f195:=Tryz.func197.trans (congrArg some (by kernel_rfl))
 f197:=Tryz.func189.trans (congrArg some (by kernel_rfl))
 f217:=Tryz.func174.trans (congrArg some (by kernel_rfl))
 f218:=Tryz.func198.trans (congrArg some (by kernel_rfl))
 f219:=Tryz.func199.trans (congrArg some (by kernel_rfl))
 f224:=Tryz.func204.trans (congrArg some (by kernel_rfl))
 f225:=Tryz.func203.trans (congrArg some (by kernel_rfl))
 f240:=Tryz.func152.trans (congrArg some (by kernel_rfl))
 f241:=Tryz.func173.trans (congrArg some (by kernel_rfl))
 f260:=Tryz.func200.trans (congrArg some (by kernel_rfl))
 f266:=Tryz.func191.trans (congrArg some (by kernel_rfl))
 f267:=Tryz.func205.trans (congrArg some (by kernel_rfl))
 f276:=Tryz.func172.trans (congrArg some (by kernel_rfl))
 f277:=Tryz.func190.trans (congrArg some (by kernel_rfl))
 f314:=Tryz.func207.trans (congrArg some (by kernel_rfl))
 t0:=Tryz.underlying0
 a0:=Tryz.isAgg0
 z0:=Tryz.sizeOf0
 v0:=Tryz.zeroValue0
 t3:=Tryz.underlying3
 a3:=Tryz.isAgg3
 z3:=Tryz.sizeOf3
 v3:=Tryz.zeroValue3
 t4:=Tryz.underlying4
 a4:=Tryz.isAgg4
 z4:=Tryz.sizeOf4
 v4:=Tryz.zeroValue4
 t5:=Tryz.underlying5
 a5:=Tryz.isAgg5
 z5:=Tryz.sizeOf5
 v5:=Tryz.zeroValue5
 t9:=Tryz.underlying9
 a9:=Tryz.isAgg9
 z9:=Tryz.sizeOf9
 v9:=Tryz.zeroValue9
 t20:=Tryz.underlying20
 a20:=Tryz.isAgg20
 z20:=Tryz.sizeOf20
 v20:=Tryz.zeroValue20
 t21:=Tryz.underlying21
 a21:=Tryz.isAgg21
 z21:=Tryz.sizeOf21
 v21:=Tryz.zeroValue21
 t37:=Tryz.underlying78
 a37:=Tryz.isAgg78
 z37:=Tryz.sizeOf78
 v37:=Tryz.zeroValue78
 t46:=Tryz.underlying68
 a46:=Tryz.isAgg68
 z46:=Tryz.sizeOf68
 v46:=Tryz.zeroValue68
 t51:=Tryz.underlying230
 a51:=Tryz.isAgg230
 z51:=Tryz.sizeOf230
 v51:=Tryz.zeroValue230
 t70:=Tryz.underlying77
 a70:=Tryz.isAgg77
 z70:=Tryz.sizeOf77
 v70:=Tryz.zeroValue77
 t72:=Tryz.underlying80
 a72:=Tryz.isAgg80
 z72:=Tryz.sizeOf80
 v72:=Tryz.zeroValue80
 t75:=Tryz.underlying153
 a75:=Tryz.isAgg153
 z75:=Tryz.sizeOf153
 v75:=Tryz.zeroValue153
 t76:=Tryz.underlying154
 a76:=Tryz.isAgg154
 z76:=Tryz.sizeOf154
 v76:=Tryz.zeroValue154
 t105:=Tryz.underlying216
 a105:=Tryz.isAgg216
 z105:=Tryz.sizeOf216
 v105:=Tryz.zeroValue216
 t119:=Tryz.underlying226
 a119:=Tryz.isAgg226
 z119:=Tryz.sizeOf226
 t127:=Tryz.underlying148
 a127:=Tryz.isAgg148
 z127:=Tryz.sizeOf148
 v127:=Tryz.zeroValue148
 t138:=Tryz.underlying228
 a138:=Tryz.isAgg228
 z138:=Tryz.sizeOf228
 v138:=Tryz.zeroValue228
 t139:=Tryz.underlying229
 a139:=Tryz.isAgg229
 z139:=Tryz.sizeOf229
 v139:=Tryz.zeroValue229
 t146:=Tryz.underlying231
 a146:=Tryz.isAgg231
 z146:=Tryz.sizeOf231
 v146:=Tryz.zeroValue231
 t164:=Tryz.underlying205
 a164:=Tryz.isAgg205
 z164:=Tryz.sizeOf205
 v164:=Tryz.zeroValue205
 g1:=by kernel_rfl
 g3:=by kernel_rfl
 g4:=by kernel_rfl }
theorem Tryz.extraRA:Builder.Extra Tryz.prog Tryz.laysRA_ren:={
 sizeBuilder:=by kernel_rfl
 liesBuilder:=by kernel_rfl
 t5:=Tryz.laysRA.t5
 a5:=Tryz.laysRA.a5
 z5:=Tryz.laysRA.z5
 v5:=Tryz.laysRA.v5
 infoByte:=by kernel_rfl
 cellsByte:=by kernel_rfl
 sizeByte:=by kernel_rfl
 neB5:=by decide }
end Go.Proofs
namespace Go.Proofs.YthndhaolemgbdaaGreatDoor
open Go.Ax
def Aoa(s old new:Str):Option Str:=cond (decide (s.length<4294967281)&&decide (1≤old.length)&&decide (s.length+Lib.count s old*new.length≤140737488355328)&&decide ((Lib.replaceAll s old new).length≤maxLen)) (some (Lib.replaceAll s old new)) none
def Ang:FT [.str,.str,.str] [.str]:=fun x=>Aoa x.1 x.2.1 x.2.2
theorem Baq:FnOk Tryz.prog elT glT 150 [.str,.str,.str] [.str] Ang:=by
 refine⟨Sx.enters_of Tryz.func150 rfl (by kernel_rfl),fun x r hx w M vs hM hgl hr =>?_⟩
 obtain⟨s,old,new⟩:=x
 simp only [Ang,Aoa] at hx
 cases hc:decide (s.length<4294967281)&&decide (1≤old.length)&&decide (s.length+Lib.count s old*new.length≤140737488355328)&&decide ((Lib.replaceAll s old new).length≤maxLen) with
 |false=>rw [hc] at hx;cases hx
 |true =>
  rw [hc] at hx
  have hx:some (Lib.replaceAll s old new)=some r:=hx
  simp only [Za1] at hx
  subst hx
  simp only [Zb1,Zg1] at hc
  obtain⟨⟨⟨h1,h2⟩,h3⟩,h4⟩:=hc
  simp only [De,D6,Reps,Rep] at hr
  obtain⟨u,us,rfl,⟨rfl,_⟩,u2,us2,rfl,⟨rfl,_⟩,u3,us3,rfl,⟨rfl,_⟩,rfl⟩:=hr
  obtain⟨m,hm⟩:=hgl.2.2 3 .i64 rfl
  have c:=Any.strings_ReplaceAll Tryz.laysRA Tryz.extraRA ⟨s.toArray⟩ ⟨old.toArray⟩ ⟨new.toArray⟩ m w (by simpa [ByteArray.size] using h1) (hm w (Chg.refl _ _)) (by simpa [ByteArray.size] using h2) (by simpa [ByteArray.size,Lib.countB] using h3)
  refine Calls.mono (show Calls Tryz.prog 150 _ w _ from c) ?_
  rintro en w' ⟨rfl,hb⟩
  refine⟨_,⟨fun _=>0,fun _=>Option.none⟩,rfl,Chg.of_below hb,fun p g o hp=>(by simp [Cg] at hp),fun p q g o o2 hp=>(by simp [Cg] at hp),?_⟩
  simp only [Rg,De,D6,Rep]
  exact⟨by simp,h4⟩
end Go.Proofs.YthndhaolemgbdaaGreatDoor
namespace Go.Proofs.YthndhaolemgbdaaGreatDoor
open Go.Ax
def pw:Nat→Int
 |0=>1
 |n+1=>10*pw n
def val:List Int→Int
 |[]=>0
 |x::l=>x+10*val l
def dg(l:List Int):Bool:=l.all fun x=>decide (0≤x)&&decide (x≤9)
theorem Aj6{x:Int}{l:List Int}:dg (x::l)=true↔(0≤x∧x≤9)∧dg l=true:=by
 simp [dg]
theorem Beg:∀{l:List Int},dg l=true→0≤val l
 |[],_=>by simp [val]
 |x::l,h=>by have h:=Aj6.1 h;have:=Beg h.2;simp only [val];omega
def N8(n:Nat):List Int:=if h:n=0 then [] else((n % 10:Nat):Int)::N8 (n / 10)
termination_by n
decreasing_by omega
theorem Mj:N8 0=[]:=by rw [N8];simp
theorem Ur{n:Nat}(h:¬n=0):N8 n=((n % 10:Nat):Int)::N8 (n / 10):=by rw [N8];simp [h]
theorem Bcn(n:Nat):val (N8 n)=(n:Int):=by
 induction n using Nat.strongRecOn with
 |ind n ih =>
  by_cases h:n=0
  ·subst h;rw [Mj];rfl
  ·rw [Ur h,val,ih (n / 10) (by omega)];omega
theorem A41(n:Nat):dg (N8 n)=true:=by
 induction n using Nat.strongRecOn with
 |ind n ih =>
  by_cases h:n=0
  ·subst h;rw [Mj];rfl
  ·rw [Ur h];exact Aj6.2 ⟨by omega,ih (n / 10) (by omega)⟩
theorem Amc:∀(k n:Nat),(n:Int)<pw k→(N8 n).length≤k
 |0,n,h=>by
  have:n=0:=by simp only [pw] at h;omega
  subst this;rw [Mj];exact Zn1 _
 |k+1,n,h=>by
  by_cases h0:n=0
  ·subst h0;rw [Mj];simp
  ·have:=Amc k (n / 10) (by simp only [pw] at h;omega)
   rw [Ur h0]
   simp only [Zf1]
   omega
end Go.Proofs.YthndhaolemgbdaaGreatDoor
namespace Go.Proofs.YthndhaolemgbdaaGreatDoor
open Go.Ax
abbrev hexL:Str:=[48,49,50,51,52,53,54,55,56,57,97,98,99,100,101,102]
def A60(n:Nat):Str:=[hexL.getD (n / 16) 0,hexL.getD (n % 16) 0]
def Si(s:Str):Str:=s.flatMap fun b=>A60 b.toNat
def Bp5(n:Nat):Bool:=inb (Nq .u8 (n:Int) 4) 16&&inb (Od .u8 (n:Int) 15) 16&&decide ([(UInt8.ofNat ((bat hexL (Nq .u8 (n:Int) 4)):Int).toNat),(UInt8.ofNat ((bat hexL (Od .u8 (n:Int) 15)):Int).toNat)]=A60 n)
theorem Bnm:((List.range 256).all Bp5)=true:=by kernel_rfl
theorem hx(b:UInt8):inb (Nq .u8 (b.toNat:Int) 4) 16=true∧inb (Od .u8 (b.toNat:Int) 15) 16=true∧[(UInt8.ofNat ((bat hexL (Nq .u8 (b.toNat:Int) 4)):Int).toNat),(UInt8.ofNat ((bat hexL (Od .u8 (b.toNat:Int) 15)):Int).toNat)]=A60 b.toNat:=by
 have h:=Zg2.1 Bnm b.toNat (List.mem_range.2 b.toNat_lt)
 simp only [Bp5,Zb1,Zg1] at h
 exact⟨h.1.1,h.1.2,h.2⟩
theorem Ano(s:Str):(Si s).length=2*s.length:=by
 induction s with
 |nil=>rfl
 |cons b l ih=>simp only [Si,List.flatMap_cons,A60,Zh1,Zf1,Zi1] at ih ⊢;omega
def Aip:Sig:=⟨26,[(0,.str),(3,.sl .byte true),(6,.int .i64),(7,.int .i64)],[],[],0,0,0,[],[]⟩
abbrev Pk:=Str×List UInt8×Int×Int
def Ad1{R:Type}(rec:Pk→Option R) (kx:Ex→Pk→Option R) (v:Pk):Option R:=match v with
 |(v,v1,v2,v3) =>
 cond (decide (v3<v2)) (
  chk (inb v3 v.length) (
  chk (inb (Nq .u8 (bat v v3) 4) 16) (
   chk (inb v3 v.length) (
   chk (inb (Od .u8 (bat v v3) 15) 16) (
    chk (decide (v1.length+2≤A1)) (
    rec (v,(v1++[(UInt8.ofNat ((bat [48,49,50,51,52,53,54,55,56,57,97,98,99,100,101,102] (Nq .u8 (bat v v3) 4)):Int).toNat),(UInt8.ofNat ((bat [48,49,50,51,52,53,54,55,56,57,97,98,99,100,101,102] (Od .u8 (bat v v3) 15)):Int).toNat)]),v2,(wr .i64 (v3+1))))))))) (
  kx (.exit 0) (v,v1,v2,v3))
def Vk(R:Type) (k:Nat):Px R:=⟨Bd ttL,glT,Au [],Am [],Aw [(3,Be k Aip (Ad1))],tbl []⟩
theorem A9s(R:Type) (k:Nat):∀(fr:List Fr) (rec:Pk→Option R) (kx:Ex→Pk→Option R) (v:Pk),Bn (Vk R k) Aip (lp Tryz.f151 0) fr rec kx v=Ad1 rec kx v
 |fr,rec,kx,(v,v1,v2,v3)=>by kernel_rfl
def Agu(k:Nat) (x:HV [.str]):Option (HV [.str]):=match x with
 |s =>
 A0 (fun rec=>Ad1 rec (fun e vz=>match vz with|(_,v5,_,_)=>match e with
  |.exit 0 =>
  some v5
  |_=>none)) k (s,[],(s.length:Int),0)
theorem Bi8(k:Nat):∀(x:HV [.str]),Cs (Vk _ k) Tryz.f151 [.str] [.str] x some=Agu k x
 |s=>by kernel_rfl
theorem Bf1(k:Nat):FnOk Tryz.prog elT glT 151 [.str] [.str] (Agu k):=by
 refine A3 Tryz.func151 rfl (by kernel_rfl) follows (by kernel_rfl) (n:=1) (by kernel_rfl) (px:=Vk _ k) (fun cx hP hel hgl =>?_) (Bi8 k)
 have hp0:PxOk cx (Vk (HV [.str]) k):=⟨fun t=>by rw [hP,hel];exact Av An t,by rw [hgl];rfl⟩
 have hc0:Al cx (Vk (HV [.str]) k):=Af rfl Aj
 have hq0:CallQOk cx (Vk (HV [.str]) k):=Ab rfl rfl Ah Ae
 have hlvhex_0:A8 cx (Vk (HV [.str]) k) (lp Tryz.f151 0):=Ba hp0 hc0 hq0 (by rw [hP];exact follows) (k:=k) (s:=Aip) (step:=Ad1) (fun _ _=>by kernel_rfl) (by kernel_rfl) (A9s _ k) (Az (n:=0) (by kernel_rfl) Ay)
 exact⟨hp0,hc0,hq0,(Cj Ay hlvhex_0)⟩
def Bd4(s:Str):Option Str:=cond (decide (s.length≤3000)) (some (Si s)) none
def Ayw:FT [.str] [.str]:=fun x=>Bd4 x
theorem Aqu{R:Type}{kx:Ex→Pk→Option R}{s:Str}{b:Str→Option R}(hs:s.length≤3000) (h2:∀out j,kx (.exit 0) (s,out,(s.length:Int),j)=b out):∀(k i:Nat) (out:Str),i≤s.length→s.length-i<k→out.length≤2*i→A0 (fun rec=>Ad1 rec kx) k (s,out,(s.length:Int),(i:Int))=b (out++Si (s.drop i))
 |0,i,_,_,h,_=>absurd h (Zm1 _)
 |k+1,i,out,hi,h,ho=>by
  rw [Br]
  by_cases hl:i<s.length
  ·obtain⟨h3,h4,h5⟩:=hx (s[i]'hl)
   have hn:ln s.length:=by simp only [ln];omega
   have ih:=Aqu hs h2 k (i+1) (out++A60 (s[i]'hl).toNat) (by omega) (by omega) (by simp only [Zh1,A60,Zf1,Zi1];omega)
   simp only [Ad1,Bf hl hn,D8 hl,Bl hl,h3,h4,h5,ih,h2]
   rw [Ze1 (show(i:Int)<(s.length:Int) by omega),Ze1 (show out.length+2≤A1 by simp only [A1];omega),Bb hl]
   simp only [chk,Ai,Si,List.flatMap_cons,Zj1]
  ·simp only [Ad1,h2]
   rw [Zd1 (show ¬(i:Int)<(s.length:Int) by omega),Zk1 (by omega)]
   simp [Si]
theorem Bjb:FnOk Tryz.prog elT glT 151 [.str] [.str] Ayw :=.fin 0 Bf1 fun s r hb hx=>⟨3001,by
 simp only [Ayw,Bd4] at hx
 by_cases hs:s.length≤3000
 ·rw [Ze1 hs] at hx
  simp only [Agu]
  exact(Aqu (b:=some) hs (fun _ _=>rfl) 3001 0 [] (Nat.zero_le _) (by omega) (by simp)).trans hx
 ·rw [Zd1 hs] at hx
  cases hx⟩
def dch(d:Int):UInt8:=UInt8.ofNat (48+d).toNat
def txt(l:List Int):Str:=(l.map dch).reverse
def Awt(n:Int):Str:=let t:=if n=0 then [48] else txt (N8 n.natAbs)
 if n<0 then 45::t else t
theorem Aau(d:Int) (l:List Int):txt (d::l)=txt l++[dch d]:=by simp [txt]
theorem Bls{d:Int}(h : 0≤d∧d≤9):UInt8.ofNat ((wr .u8 (wr .u64 (48+d))):Int).toNat=dch d:=by
 have e:wr .u8 (wr .u64 (48+d))=48+d:=by
  rw [N3 (by omega)]
  simp only [wr,IntKind.wrap,IntKind.bits,IntKind.signed]
  simp
  omega
 rw [e];rfl
theorem A49(l:List Int):(txt l).length=l.length:=by simp [txt]
theorem Bcw(n:Int):txt (N8 (n.natAbs / 10))++[dch ((n.natAbs % 10:Nat):Int)]=if n=0 then [48] else txt (N8 n.natAbs):=by
 by_cases h0:n=0
 ·subst h0
  rw [if_pos rfl,show(0:Int).natAbs / 10=0 from rfl,Mj]
  rfl
 ·rw [if_neg h0,Ur (n:=n.natAbs) (by omega),Aau]
def Xm:Sig:=⟨32,[(0,.int .i64),(3,.sl .byte true),(4,.int .u64)],[],[],0,0,0,[],[]⟩
abbrev Hk:=Int×List UInt8×Int
def K6{R:Type}(rec:Hk→Option R) (kx:Ex→Hk→Option R) (v:Hk):Option R:=match v with
 |(v,v1,v2) =>
 cond (decide (0<v2)) (
  chk (decide (1+v1.length≤A1)) (
  rec (v,([(UInt8.ofNat ((wr .u8 (wr .u64 (48+(Int.tmod v2 10)))):Int).toNat)]++v1),(wr .u64 (Int.tdiv v2 10))))) (
  kx (.exit 0) (v,v1,v2))
def Il(R:Type) (k:Nat):Px R:=⟨Bd ttL,glT,Au [(170,As [.int .i64] [.int .u64] Atd)],Am [],Aw [(3,Be k Xm (K6))],tbl []⟩
theorem As7(R:Type) (k:Nat):∀(fr:List Fr) (rec:Hk→Option R) (kx:Ex→Hk→Option R) (v:Hk),Bn (Il R k) Xm (lp Tryz.f149 0) fr rec kx v=K6 rec kx v
 |fr,rec,kx,(v,v1,v2)=>by kernel_rfl
def Xd(k:Nat) (x:HV [.int .i64]):Option (HV [.str]):=match x with
 |n =>
 A0 (fun rec=>K6 rec (fun e vz=>match vz with|(v3,v4,_)=>match e with
  |.exit 0 =>
  cond (decide (v3<0)) (
   chk (decide ([45].length+v4.length≤Gy)) (
   some ([45]++v4))) (
   some v4)
  |_=>none)) k (n,[(UInt8.ofNat ((wr .u8 (wr .u64 (48+(Int.tmod (Ft n) 10)))):Int).toNat)],(wr .u64 (Int.tdiv (Ft n) 10)))
theorem A0x(k:Nat):∀(x:HV [.int .i64]),Cs (Il _ k) Tryz.f149 [.int .i64] [.str] x some=Xd k x
 |n=>by kernel_rfl
theorem Avl(k:Nat):FnOk Tryz.prog elT glT 149 [.int .i64] [.str] (Xd k):=by
 refine A3 Tryz.func149 rfl (by kernel_rfl) follows (by kernel_rfl) (n:=1) (by kernel_rfl) (px:=Il _ k) (fun cx hP hel hgl =>?_) (A0x k)
 have hp0:PxOk cx (Il (HV [.str]) k):=⟨fun t=>by rw [hP,hel];exact Av An t,by rw [hgl];rfl⟩
 have hc0:Al cx (Il (HV [.str]) k):=Af rfl (Aa (A7 (by rw [hP,hel,hgl];exact Av2) (by kernel_rfl)) Aj)
 have hq0:CallQOk cx (Il (HV [.str]) k):=Ab rfl rfl Ah Ae
 have hlvdigits_0:A8 cx (Il (HV [.str]) k) (lp Tryz.f149 0):=Ba hp0 hc0 hq0 (by rw [hP];exact follows) (k:=k) (s:=Xm) (step:=K6) (fun _ _=>by kernel_rfl) (by kernel_rfl) (As7 _ k) (Az (n:=0) (by kernel_rfl) Ay)
 exact⟨hp0,hc0,hq0,(Cj Ay hlvdigits_0)⟩
abbrev Asb (n:Int):Str:=Awt n
def Ail:FT [.int .i64] [.str]:=fun x=>some (Asb x)
theorem Bqq{n:Int}(h:inI n):Ft n=(n.natAbs:Int):=by
 rw [Auk h]
 simp only [Sl]
 split<;>omega
theorem Aem{R:Type}{kx:Ex→Hk→Option R}{n:Int}{b:Str→Option R}(h2:∀out x,kx (.exit 0) (n,out,x)=b out):∀(k a:Nat) (out:Str),(a:Int)≤18446744073709551615→(N8 a).length<k→out.length+(N8 a).length≤1000→A0 (fun rec=>K6 rec kx) k (n,out,(a:Int))=b (txt (N8 a)++out)
 |0,a,out,_,h,_=>absurd h (Zm1 _)
 |k+1,a,out,ha,h,ho=>by
  rw [Br]
  by_cases h0:a=0
  ·subst h0
   simp only [K6,h2]
   rw [Zd1 (by omega),Mj]
   rfl
  ·have hd:=Ur h0
   rw [hd,Zf1] at h ho
   have e1:Int.tmod (a:Int) 10=((a % 10:Nat):Int):=rfl
   have e2:wr .u64 (Int.tdiv (a:Int) 10)=((a / 10:Nat):Int):=by
    have:Int.tdiv (a:Int) 10=((a / 10:Nat):Int):=rfl
    rw [this,N3 (by omega)]
   have ih:=Aem h2 k (a / 10) ([dch ((a % 10:Nat):Int)]++out) (by omega) (by omega) (by simp only [Zh1,Zf1,Zi1];omega)
   simp only [K6,e1,e2,Bls (show 0≤((a % 10:Nat):Int)∧((a % 10:Nat):Int)≤9 by omega),ih]
   rw [Ze1 (show(0:Int)<(a:Int) by omega),Ze1 (show 1+out.length≤A1 by simp only [A1];omega),hd,Aau]
   simp [chk]
theorem A14:FnOk Tryz.prog elT glT 149 [.int .i64] [.str] Ail :=.fin 0 Avl fun n r hb hx=>⟨30,by
 have hb:=Dr hb
 simp only [Ail,Za1] at hx
 subst hx
 have hl:(N8 (n.natAbs / 10)).length≤20:=Amc 20 _ (by
  simp only [inI] at hb
  have:pw 20=100000000000000000000:=by kernel_rfl
  omega)
 have e1:Int.tmod (n.natAbs:Int) 10=((n.natAbs % 10:Nat):Int):=rfl
 have e2:wr .u64 (Int.tdiv (n.natAbs:Int) 10)=((n.natAbs / 10:Nat):Int):=by
  have:Int.tdiv (n.natAbs:Int) 10=((n.natAbs / 10:Nat):Int):=rfl
  simp only [inI] at hb
  rw [this,N3 (by omega)]
 simp only [Xd,Bqq hb,e1,e2,Bls (show 0≤((n.natAbs % 10:Nat):Int)∧((n.natAbs % 10:Nat):Int)≤9 by omega)]
 refine(Aem (b:=fun out=>cond (decide (n<0)) (chk (decide ([45].length+out.length≤Gy)) (some ([45]++out))) (some out)) (fun _ _=>rfl) 30 (n.natAbs / 10) [dch ((n.natAbs % 10:Nat):Int)] (by simp only [inI] at hb;omega) (by omega) (by simp only [Zf1,Zi1];omega)).trans ?_
 have et:=Bcw n
 have hlen:(txt (N8 (n.natAbs / 10))++[dch ((n.natAbs % 10:Nat):Int)]).length≤21:=by
  rw [Zh1,A49];simp only [Zf1,Zi1];omega
 have hc:decide ([45].length+(txt (N8 (n.natAbs / 10))++[dch ((n.natAbs % 10:Nat):Int)]).length≤Gy)=true:=Ze1 (by simp only [Zf1,Zi1,Gy];omega)
 simp only [hc,chk,Ai]
 rw [et]
 simp only [Asb,Awt]
 by_cases h:n<0
 ·rw [Ze1 h,if_pos h];rfl
 ·rw [Zd1 h,if_neg h];rfl⟩
def quo:Str→Str
 |[]=>[]
 |b::l=>if b=39 then 39::39::quo l else b::quo l
theorem Auc(s:Str):(quo s).length≤2*s.length:=by
 induction s with
 |nil=>simp [quo]
 |cons b l ih =>
  simp only [quo]
  split<;>simp only [Zf1]<;>omega
theorem Ap2:∀s:Str,(Lib.index s [39] = -1∧quo s=s)∨∃i:Nat,Lib.index s [39]=(i:Int)∧i<s.length∧quo s=s.take i++[39,39]++quo (s.drop (i+1))
 |[] =>.inl ⟨rfl,rfl⟩
 |b::l=>by
  by_cases h:b=39
  ·subst h
   refine .inr ⟨0,rfl,by simp,by simp [quo]⟩
  ·have hp:List.isPrefixOf [39] (b::l)=false:=by
    simp only [List.isPrefixOf,Bool.and_true]
    exact beq_eq_false_iff_ne.2 (Ne.symm h)
   rcases Ap2 l with ⟨h1,h2⟩|⟨i,h1,h2,h3⟩
   ·left
    refine⟨?_,by simp only [quo,if_neg h,h2]⟩
    unfold Lib.index
    rw [hp,h1]
    rfl
   ·right
    refine⟨i+1,?_,by simpa using h2,?_⟩
    ·unfold Lib.index
     rw [hp,h1]
     have:((i:Int) == -1)=false:=beq_eq_false_iff_ne.2 (by omega)
     simp [this]
    ·simp only [quo,if_neg h,h3,List.take_succ_cons,List.drop_succ_cons,Zb2]
theorem Arm:∀(f:Nat) (s:Str),s.length<f→Lib.replaceK [39] [39,39] (Lib.countFrom [39] f s) s=quo s
 |0,s,h=>absurd h (Zm1 _)
 |f+1,s,h=>by
  rcases Ap2 s with ⟨h1,h2⟩|⟨i,h1,h2,h3⟩
  ·simp only [Lib.countFrom,h1]
   exact h2.symm
  ·have hn:((i:Int) == -1)=false:=beq_eq_false_iff_ne.2 (by omega)
   have ih:=Arm f (s.drop (i+1)) (by rw [Za2];omega)
   have e:Lib.countFrom [39] (f+1) s=Lib.countFrom [39] f (s.drop (i+1))+1:=by
    simp only [Lib.countFrom,h1,hn,Int.toNat_natCast,Zf1,Zi1]
    simp [Nat.add_comm]
   rw [e,Lib.replaceK_hit _ _ _ _ i h1]
   simp only [Zf1,Zi1,Nat.zero_add]
   rw [ih,h3]
theorem Bh2(s:Str):Lib.replaceAll s [39] [39,39]=quo s:=by
 have e:Lib.replaceNum s [39] (-1)=Lib.countFrom [39] (s.length+1) s:=by
  unfold Lib.replaceNum
  rw [if_pos (.inl (by decide))]
  rfl
 have hc:=Arm (s.length+1) s (by omega)
 rw [←e] at hc
 exact hc
theorem Az9{s:Str}(h:s.length≤3000):Aoa s [39] [39,39]=some (quo s):=by
 have h1:=Lib.countB_mul_le ⟨#[39]⟩ (by decide) s.length ⟨s.toArray⟩ (Zn1 _)
 have h2:Lib.count s [39]*1≤s.length:=h1
 have h3:=Auc s
 simp only [Aoa,Bh2]
 rw [Ze1 (show s.length<4294967281 by omega),Ze1 (show 1≤([39]:Str).length by decide),Ze1 (show s.length+Lib.count s [39]*([39,39]:Str).length≤140737488355328 by simp only [Zf1,Zi1];omega),Ze1 (show(quo s).length≤maxLen by simp only [maxLen];omega)]
 rfl
def Vd(R:Type):Px R:=⟨Bd ttL,glT,Au [(147,As [.sv .val] [.bool] Ak7),(149,As [.int .i64] [.str] Ail),(150,As [.str,.str,.str] [.str] Ang),(151,As [.str] [.str] Ayw)],Am [],Aw [],tbl []⟩
def X8(x:HV [.sv .val]):Option (HV [.str]):=match x with
 |v =>
 cond (!(Cy v)) (
  some []) (
  cond (decide (v.kind=2)) (
  chk (inb v.n 2) (
   some (at' .str [[70,65,76,83,69],[84,82,85,69]] v.n))) (
  cond (decide (v.kind=3)) (
   some (Asb v.n)) (
   cond (decide (v.kind=4)) (
   (Aoa v.s [39] [39,39]).bind fun x =>
    chk (decide ([39].length+x.length≤Gy)) (
    chk (decide (([39]++x).length+[39].length≤Gy)) (
     some (([39]++x)++[39])))) (
   cond (decide (v.kind=5)) (
    (Bd4 v.s).bind fun x1 =>
    chk (decide ([120,39].length+x1.length≤Gy)) (
     chk (decide (([120,39]++x1).length+[39].length≤Gy)) (
     some (([120,39]++x1)++[39])))) (
    some [78,85,76,76])))))
theorem A72:∀(x:HV [.sv .val]),Cs (Vd _) Tryz.f98 [.sv .val] [.str] x some=X8 x
 |v=>by kernel_rfl
theorem A0y:FnOk Tryz.prog elT glT 98 [.sv .val] [.str] (X8):=by
 refine A3 Tryz.func98 rfl (by kernel_rfl) follows (by kernel_rfl) (n:=0) (by kernel_rfl) (px:=Vd _) (fun cx hP hel hgl =>?_) (A72)
 have hp0:PxOk cx (Vd (HV [.str])):=⟨fun t=>by rw [hP,hel];exact Av An t,by rw [hgl];rfl⟩
 have hc0:Al cx (Vd (HV [.str])):=Af rfl (Aa (A7 (by rw [hP,hel,hgl];exact Apz) (by kernel_rfl)) (Aa (A7 (by rw [hP,hel,hgl];exact A14) (by kernel_rfl)) (Aa (A7 (by rw [hP,hel,hgl];exact Baq) (by kernel_rfl)) (Aa (A7 (by rw [hP,hel,hgl];exact Bjb) (by kernel_rfl)) Aj))))
 have hq0:CallQOk cx (Vd (HV [.str])):=Ab rfl rfl Ah Ae
 exact⟨hp0,hc0,hq0,Ay⟩
def B8(v:Val):Str:=cond (Cy v) (if v.kind=2 then(if v.n=0 then [70,65,76,83,69] else [84,82,85,69]) else if v.kind=3 then Awt v.n else if v.kind=4 then 39::(quo v.s++[39]) else if v.kind=5 then 120::39::(Si v.s++[39]) else [78,85,76,76]) []
def Afd:FT [.sv .val] [.str]:=fun x=>some (B8 x)
theorem S8{v:Val}(h:Cy v=true) (hk:v.kind=4∨v.kind=5):v.s.length≤1000:=by
 rcases hk with h4|h5
 ·simp [Cy,h4] at h
  omega
 ·simp [Cy,h5] at h
  omega
theorem A0f{v:Val}(h:Cy v=true) (hk:v.kind=2):v.n=0∨v.n=1:=by
 by_cases h0:v.n=0
 ·exact .inl h0
 ·by_cases h1:v.n=1
  ·exact .inr h1
  ·simp [Cy,hk,h0,h1] at h
theorem Apc:FnOk Tryz.prog elT glT 98 [.sv .val] [.str] Afd :=.fin0 A0y fun v r _ hx=>by
 simp only [Afd,Za1] at hx
 subst hx
 simp only [X8,B8]
 cases hr:Cy v with
 |false=>rfl
 |true =>
  simp only [Zt1,Ak,Ai]
  by_cases k2:v.kind=2
  ·rw [Ze1 k2,if_pos k2]
   rcases A0f hr k2 with h|h<;>rw [h]<;>rfl
  ·rw [Zd1 k2,if_neg k2]
   by_cases k3:v.kind=3
   ·rw [Ze1 k3,if_pos k3];rfl
   ·rw [Zd1 k3,if_neg k3]
    by_cases k4:v.kind=4
    ·have hl:=S8 hr (.inl k4)
     have hq:=Auc v.s
     rw [Ze1 k4,if_pos k4]
     simp only [Ai,Ak,Az9 (show v.s.length≤3000 by omega),Zc1]
     refine(A50 (Ze1 ?_)).trans ((A50 (Ze1 ?_)).trans rfl)
     ·simp only [Zf1,Zi1,Gy];omega
     ·simp only [Zh1,Zf1,Zi1,Gy];omega
    ·rw [Zd1 k4,if_neg k4]
     by_cases k5:v.kind=5
     ·have hl:=S8 hr (.inr k5)
      have hh:=Ano v.s
      have hv:Bd4 v.s=some (Si v.s):=by simp only [Bd4];rw [Ze1 (by omega)];rfl
      rw [Ze1 k5,if_pos k5]
      simp only [Ai,Ak,hv,Zc1]
      refine(A50 (Ze1 ?_)).trans ((A50 (Ze1 ?_)).trans rfl)
      ·simp only [Zf1,Zi1,Gy];omega
      ·simp only [Zh1,Zf1,Zi1,Gy];omega
     ·rw [Zd1 k5,if_neg k5];rfl
end Go.Proofs.YthndhaolemgbdaaGreatDoor
namespace Go.Proofs.YthndhaolemgbdaaGreatDoor
open Go.Ax
def Y7(R:Type):Px R:=⟨Bd ttL,glT,Au [],Am [],Aw [],tbl []⟩
def Wc(x:HV [.int .i64]):Option (HV [.int .i64]):=match x with
 |kind =>
 let j1:=fun(p1:Bool) =>
  cond (p1) (
  some 0) (
  let j:=fun(p5:Bool) =>
   cond (p5) (
   some 1) (
   cond (!decide ((Vl signsL kind)=[])) (
    some 2) (
    some (-1)))
  cond (decide (kind=3)) (
   j true) (
   cond (decide (kind=15)) (
   j true) (
   j (decide (kind=16)))))
 cond (decide (kind=1)) (
  j1 true) (
  j1 (decide (kind=2)))
theorem Bev:∀(x:HV [.int .i64]),Cs (Y7 _) Tryz.f94 [.int .i64] [.int .i64] x some=Wc x
 |kind=>by kernel_rfl
theorem A7p:FnOk Tryz.prog elT glT 94 [.int .i64] [.int .i64] (Wc):=by
 refine A3 Tryz.func94 rfl (by kernel_rfl) follows (by kernel_rfl) (n:=0) (by kernel_rfl) (px:=Y7 _) (fun cx hP hel hgl =>?_) (Bev)
 have hp0:PxOk cx (Y7 (HV [.int .i64])):=⟨fun t=>by rw [hP,hel];exact Av An t,by rw [hgl];rfl⟩
 have hc0:Al cx (Y7 (HV [.int .i64])):=Af rfl Aj
 have hq0:CallQOk cx (Y7 (HV [.int .i64])):=Ab rfl rfl Ah Ae
 exact⟨hp0,hc0,hq0,Ay⟩
def Jf(kind:Int):Int :=
 let j1:=fun(p1:Bool) =>
  cond (p1) (
  0) (
  let j:=fun(p5:Bool) =>
   cond (p5) (
   1) (
   cond (!decide ((Vl signsL kind)=[])) (
    2) (
    (-1)))
  cond (decide (kind=3)) (
   j true) (
   cond (decide (kind=15)) (
   j true) (
   j (decide (kind=16)))))
 cond (decide (kind=1)) (
  j1 true) (
  j1 (decide (kind=2)))
theorem A7g(x:HV [.int .i64]):Wc x=some (Jf x):=by
 first
  |exact rfl
  |simp only [Wc,Jf,B7]
def Atc:FT [.int .i64] [.int .i64]:=fun x=>some (Jf x)
theorem Ax8:FnOk Tryz.prog elT glT 94 [.int .i64] [.int .i64] Atc :=.fin0 A7p fun x _ _ hx=>(A7g x).trans hx
end Go.Proofs.YthndhaolemgbdaaGreatDoor
namespace Go.Proofs.YthndhaolemgbdaaGreatDoor
open Go.Ax
mutual
def Bx:Xpr→Nat
 |.mk _ _ _ l=>1+esizes l
def esizes:List Xpr→Nat
 |[]=>0
 |x::l=>1+Bx x+esizes l
end
theorem Eg:∀{l:List Xpr}{x:Xpr},x∈l→Bx x<esizes l
 |y::l,x,h=>by
  simp only [List.mem_cons] at h
  simp only [esizes]
  rcases h with rfl|h
  ·omega
  ·have:=Eg h;omega
theorem Pd:∀(l:List Xpr),l.length≤esizes l
 |[]=>by simp
 |x::l=>by have:=Pd l;simp only [esizes,Zf1];omega
theorem F2(e:Xpr) : 0<Bx e:=by cases e;simp only [Bx];omega
theorem Hz(e:Xpr):Bx e=1+esizes e.l:=by cases e;simp only [Bx,Xpr.l]
theorem Ait{e:Xpr}(h:BdExpr e):ln e.l.length∧∀x,x∈e.l→BdExpr x:=by
 obtain⟨_,_,_,_,_,_,_,h4,h5⟩:=h
 exact⟨h4,h5⟩
theorem Bpl{e:Xpr}(h:BdExpr e):A5e e.v∧inI e.kind∧ln e.name.length:=by
 obtain⟨_,_,_,_,h1,h2,h3,_,_⟩:=h
 exact⟨h2,h1,h3⟩
def Yn:Sig:=⟨19,[(0,.sl .expr false),(4,.int .i64),(7,.int .i64),(8,.int .i64)],[(1,.fn 97 [.ptr 1 0])],[(1,.cells [.int .i64])],80,80,400,[],[]⟩
abbrev I9:=List Xpr×Int×Int×Int×Int
def P3{R:Type}(rf:FT [.sv .expr,.int .i64] [.bool]) (rec:I9→Option R) (kx:Ex→I9→Option R) (v:I9):Option R:=match v with
 |(v,v1,v2,v3,w) =>
 cond (decide (v3<v2)) (
  chk (inb v3 v.length) (
  (rf ((at' .expr v v3),(wr .i64 (w-1)))).bind fun x =>
   cond (!x) (
   kx .ret (v,v3,v2,v3,w)) (
   rec (v,v1,v2,(wr .i64 (v3+1)),w)))) (
  kx (.exit 0) (v,v1,v2,v3,w))
def Ia(R:Type) (_k:Nat) (rf:FT [.sv .expr,.int .i64] [.bool]):Px R:=⟨Bd ttL,glT,Au [(39,As [.sv .expr,.int .i64] [.bool] rf)],Am [],Aw [],tbl []⟩
noncomputable def Gs (R:Type) (k:Nat) (rf:FT [.sv .expr,.int .i64] [.bool]):Px R:=⟨Bd ttL,glT,Au [(97,Bg 120 600 (Ia R k rf) Tryz.f97)],Am [],Aw [(2,Be k Yn (P3 rf))],tbl []⟩
noncomputable def Sb (R:Type) (k:Nat) (rf:FT [.sv .expr,.int .i64] [.bool]):Px R:=⟨Bd ttL,glT,Au [(148,Bg 80 400 (Gs R k rf) Tryz.f148)],Am [],Aw [],tbl []⟩
noncomputable def S4 (R:Type) (k:Nat) (rf:FT [.sv .expr,.int .i64] [.bool]):Px R:=⟨Bd ttL,glT,Au [(95,As [.sv .val] [.int .i64] Amm),(63,As [.str] [.bool] V5),(96,Bg 40 200 (Sb R k rf) Tryz.f96)],Am [(94,Abu [.int .i64] [.int .i64] Atc)],Aw [],tbl []⟩
theorem Aw9(R:Type) (k:Nat) (rf:FT [.sv .expr,.int .i64] [.bool]):∀(fr:List Fr) (rec:I9→Option R) (kx:Ex→I9→Option R) (v:I9),Bn (Gs R k rf) Yn (lp Tryz.f148 0) fr rec kx v=P3 rf rec kx v
 |fr,rec,kx,(v,v1,v2,v3,w)=>by kernel_rfl
def G5(k:Nat) (rf:FT [.sv .expr,.int .i64] [.bool]) (x:HV [.sv .expr,.int .i64]):Option (HV [.bool]):=match x with
 |(e,most) =>
 cond (decide (most=0)) (
  some false) (
  cond (!decide ((e.l.length:Int)=(Jf e.kind))) (
  some false) (
  let j2:=fun(_:Unit) =>
   let j1:=fun(_:Unit) =>
   A0 (fun rec=>P3 rf rec (fun e vz=>match vz with|(_,v5,_,_,_)=>match e with
    |.ret =>
    some (!(decide (0≤v5)))
    |.exit 0 =>
    some true
    |_=>none)) k (e.l,0,(e.l.length:Int),0,most)
   let j:=fun(p5:Bool) =>
   cond (p5) (
    some false) (
    cond (!decide (e.kind=2)) (
    cond (!decide (e.name=[])) (
     some false) (
     j1 ())) (
    j1 ()))
   cond (decide (e.kind=2)) (
   j (!(B1 e.name))) (
   j false)
  cond (decide (e.kind=1)) (
   cond (!decide ((W6 e.v)=0)) (
   some false) (
   cond (decide (e.v.kind=3)) (
    cond (decide (e.v.n<0)) (
    some false) (
    j2 ())) (
    j2 ()))) (
   cond (!decide (e.v=(Val.mk 0 0 []))) (
   some false) (
   j2 ()))))
theorem A7v(k:Nat) (rf:FT [.sv .expr,.int .i64] [.bool]):∀(x:HV [.sv .expr,.int .i64]),Cs (S4 _ k rf) Tryz.f39 [.sv .expr,.int .i64] [.bool] x some=G5 k rf x
 |(e,most)=>by kernel_rfl
theorem Azo(k:Nat) (rf:FT [.sv .expr,.int .i64] [.bool]) (hrf:FnOk Tryz.prog elT glT 39 [.sv .expr,.int .i64] [.bool] rf):FnOk Tryz.prog elT glT 39 [.sv .expr,.int .i64] [.bool] (G5 k rf):=by
 refine A3 Tryz.func39 rfl (by kernel_rfl) follows (by kernel_rfl) (n:=0) (by kernel_rfl) (px:=S4 _ k rf) (fun cx hP hel hgl =>?_) (A7v k rf)
 have hp3:PxOk cx (Ia (HV [.bool]) k rf):=⟨fun t=>by rw [hP,hel];exact Av An t,by rw [hgl];rfl⟩
 have hc3:Al cx (Ia (HV [.bool]) k rf):=Af rfl (Aa (A7 (by rw [hP,hel,hgl];exact hrf) (by kernel_rfl)) Aj)
 have hq3:CallQOk cx (Ia (HV [.bool]) k rf):=Ab rfl rfl Ah Ae
 have hp2:PxOk cx (Gs (HV [.bool]) k rf):=⟨fun t=>by rw [hP,hel];exact Av An t,by rw [hgl];rfl⟩
 have hc2:Al cx (Gs (HV [.bool]) k rf):=Af rfl (Aa (Bv hp3 hc3 hq3 (by rw [hP];exact follows) (by rw [hP];exact Tryz.func97) rfl (by kernel_rfl) (by kernel_rfl) (n:=0) (by kernel_rfl) (Ay)) Aj)
 have hq2:CallQOk cx (Gs (HV [.bool]) k rf):=Ab rfl rfl Ah Ae
 have hleright_0:A8 cx (Gs (HV [.bool]) k rf) (lp Tryz.f148 0):=Ba hp2 hc2 hq2 (by rw [hP];exact follows) (k:=k) (s:=Yn) (step:=P3 rf) (fun _ _=>by kernel_rfl) (by kernel_rfl) (Aw9 _ k rf) (Az (n:=0) (by kernel_rfl) Ay)
 have hp1:PxOk cx (Sb (HV [.bool]) k rf):=⟨fun t=>by rw [hP,hel];exact Av An t,by rw [hgl];rfl⟩
 have hc1:Al cx (Sb (HV [.bool]) k rf):=Af rfl (Aa (Bv hp2 hc2 hq2 (by rw [hP];exact follows) (by rw [hP];exact Tryz.func148) rfl (by kernel_rfl) (by kernel_rfl) (n:=1) (by kernel_rfl) ((Cj Ay hleright_0))) Aj)
 have hq1:CallQOk cx (Sb (HV [.bool]) k rf):=Ab rfl rfl Ah Ae
 have hp0:PxOk cx (S4 (HV [.bool]) k rf):=⟨fun t=>by rw [hP,hel];exact Av An t,by rw [hgl];rfl⟩
 have hc0:Al cx (S4 (HV [.bool]) k rf):=Af rfl (Aa (A7 (by rw [hP,hel,hgl];exact Aph) (by kernel_rfl)) (Aa (A7 (by rw [hP,hel,hgl];exact Zd) (by kernel_rfl)) (Aa (Bv hp1 hc1 hq1 (by rw [hP];exact follows) (by rw [hP];exact Tryz.func96) rfl (by kernel_rfl) (by kernel_rfl) (n:=0) (by kernel_rfl) (Ay)) Aj)))
 have hq0:CallQOk cx (S4 (HV [.bool]) k rf):=Ab rfl rfl (Ahf (A2x (by rw [hP,hel,hgl];exact Ax8) (by kernel_rfl)) Ah) Ae
 exact⟨hp0,hc0,hq0,Ay⟩
def eok(k:Int) (v:Val) (nm:Str):Bool:=cond (decide (k=1)) (decide (W6 v=0) && !(decide (v.kind=3)&&decide (v.n<0))) (decide (v=⟨0,0,[]⟩))&&cond (decide (k=2)) (B1 nm) (decide (nm=[]))
mutual
def Bp:Xpr→Int→Bool
 |.mk k v nm l,m => !decide (m=0)&&decide ((l.length:Int)=Jf k)&&eok k v nm&&erights l (wr .i64 (m-1))
def erights:List Xpr→Int→Bool
 |[],_=>true
 |x::l,m=>Bp x m&&erights l m
end
def S5:FT [.sv .expr,.int .i64] [.bool]:=fun x=>some (Bp x.1 x.2)
theorem Ai4{R:Type}{rf:FT [.sv .expr,.int .i64] [.bool]}{kx:Ex→I9→Option R}{l:List Xpr}{m:Int}{a b:Option R}(hn:ln l.length) (hrf:∀x,x∈l→rf (x,wr .i64 (m-1))=some (Bp x (wr .i64 (m-1)))) (h1:∀(j:Nat),kx .ret (l,(j:Int),(l.length:Int),(j:Int),m)=a) (h2:∀q j,kx (.exit 0) (l,q,(l.length:Int),j,m)=b):∀(k i:Nat) q,i≤l.length→l.length-i<k→A0 (fun rec=>P3 rf rec kx) k (l,q,(l.length:Int),(i:Int),m)=cond (erights (l.drop i) (wr .i64 (m-1))) b a
 |0,i,q,_,h=>by omega
 |k+1,i,q,hi,h=>by
  rw [Br]
  by_cases hl:i<l.length
  ·have ih:=Ai4 hn hrf h1 h2 k (i+1) q (by omega) (by omega)
   simp only [P3,Bf hl hn,ih,h1,Bb hl,Bk (c :=.expr) hl,Bl hl,chk,Ai,Bool.cond_decide,erights,hrf _ (List.getElem_mem hl),Zc1]
   rw [if_pos (by omega)]
   cases Bp l[i] (wr .i64 (m-1))<;>rfl
  ·simp only [P3,h2,Bool.cond_decide]
   rw [if_neg (by omega),Zk1 (by omega)]
   rfl
theorem Aqo(e:Xpr) (m:Int):Bp e m=(!decide (m=0)&&decide ((e.l.length:Int)=Jf e.kind)&&eok e.kind e.v e.name&&erights e.l (wr .i64 (m-1))):=by
 cases e
 simp only [Bp]
 rfl
theorem Anx(k:Nat):∀(n:Nat) (e:Xpr) (m:Int),BdExpr e→Bx e≤n→Bx e≤k→A0 (G5 k) n (e,m)=some (Bp e m)
 |0,e,m,_,h,_=>by have:=F2 e;omega
 |n+1,e,m,hb,h,hk=>by
  obtain⟨hb4,hb5⟩:=Ait hb
  rw [Hz] at h hk
  have hl:=Pd e.l
  have hrf:∀x,x∈e.l→∀m,A0 (G5 k) n (x,m)=some (Bp x m):=fun x hx m=>Anx k n x m (hb5 x hx) (by have:=Eg hx;omega) (by have:=Eg hx;omega)
  have hloop:=Ai4 (R:=Bool) (rf:=A0 (G5 k) n) (l:=e.l) (m:=m) (a:=some false) (b:=some true) (kx:=fun e v=>match v with
   |(_,v5,_,_,_)=>match e with
    |.ret=>some (!(decide (0≤v5)))
    |.exit 0=>some true
    |_=>none) hb4 (fun x hx=>hrf x hx _) (fun j=>by simp) (fun _ _=>rfl) k 0 0 (Nat.zero_le _) (by omega)
  have e0:((0:Nat):Int)=0:=rfl
  rw [e0] at hloop
  rw [Br,Aqo]
  simp only [G5] at hloop ⊢
  rw [hloop]
  simp only [Zq1,eok]
  by_cases hm:m=0
  ·simp [hm]
  ·rw [Zd1 hm]
   simp only [Ak,Zs1,Bool.true_and]
   by_cases hp:(e.l.length:Int)=Jf e.kind
   ·rw [Ze1 hp]
    by_cases h1:e.kind=1
    ·have h2:¬e.kind=2:=by omega
     rw [Ze1 h1,Zd1 h2]
     simp only [Ai,Ak,Zs1,Zt1,Bool.true_and]
     cases decide (W6 e.v=0)<;>cases decide (e.v.kind=3)<;>cases decide (e.v.n<0)<;>cases decide (e.name=[])<;>cases erights e.l (wr .i64 (m-1))<;>rfl
    ·rw [Zd1 h1]
     simp only [Ak,Zt1,Bool.true_and]
     cases decide (e.v=Val.mk 0 0 [])<;>cases decide (e.kind=2)<;>cases decide (e.name=[])<;>cases B1 e.name<;>cases erights e.l (wr .i64 (m-1))<;>rfl
   ·rw [Zd1 hp];rfl
theorem Tu:FnOk Tryz.prog elT glT 39 [.sv .expr,.int .i64] [.bool] S5:=by
 refine .fin (ι:=Nat) 0 (F:=fun n=>A0 (G5 n) n) (fun n=>FnOk.rec' (Sx.enters_of Tryz.func39 rfl rfl) (fun rf hrf=>Azo n rf hrf) n) fun(e,m) r hb hx=>⟨Bx e,?_⟩
 exact(Anx (Bx e) (Bx e) e m hb.1 (Zn1 _) (Zn1 _)).trans hx
def Aah(R:Type):Px R:=⟨Bd ttL,glT,Au [(39,As [.sv .expr,.int .i64] [.bool] S5)],Am [],Aw [],tbl []⟩
def Vz(x:HV [.sv .expr]):Option (HV [.int .i64]):=match x with
 |e =>
 cond (!(Bp e 30)) (
  some 2) (
  some 0)
theorem Bdc:∀(x:HV [.sv .expr]),Cs (Aah _) Tryz.f18 [.sv .expr] [.int .i64] x some=Vz x
 |e=>by kernel_rfl
theorem A66:FnOk Tryz.prog elT glT 18 [.sv .expr] [.int .i64] (Vz):=by
 refine A3 Tryz.func18 rfl (by kernel_rfl) follows (by kernel_rfl) (n:=0) (by kernel_rfl) (px:=Aah _) (fun cx hP hel hgl =>?_) (Bdc)
 have hp0:PxOk cx (Aah (HV [.int .i64])):=⟨fun t=>by rw [hP,hel];exact Av An t,by rw [hgl];rfl⟩
 have hc0:Al cx (Aah (HV [.int .i64])):=Af rfl (Aa (A7 (by rw [hP,hel,hgl];exact Tu) (by kernel_rfl)) Aj)
 have hq0:CallQOk cx (Aah (HV [.int .i64])):=Ab rfl rfl Ah Ae
 exact⟨hp0,hc0,hq0,Ay⟩
def Acs(e:Xpr):Int :=
 cond (!(Bp e 30)) (
  2) (
  0)
theorem A6l(x:HV [.sv .expr]):Vz x=some (Acs x):=by
 first
  |exact rfl
  |simp only [Vz,Acs,B7]
def A3z:FT [.sv .expr] [.int .i64]:=fun x=>some (Acs x)
theorem Bc3:FnOk Tryz.prog elT glT 18 [.sv .expr] [.int .i64] A3z :=.fin0 A66 fun x _ _ hx=>(A6l x).trans hx
def Ady:Sig:=⟨41,[(1,.int .i64),(5,.int .i64),(6,.int .i64)],[(2,.ptr 0 0)],[(0,.one (.sv .expr))],1,0,0,[],[]⟩
abbrev Me:=Int×Int×Int×Xpr
def Wm{R:Type}(rf:FT [.sv .expr,.int .i64] [.int .i64]) (rec:Me→Option R) (kx:Ex→Me→Option R) (v:Me):Option R:=match v with
 |(v,v1,v2,w) =>
 cond (decide (v2<(w.l.length:Int))) (
  cond (decide (v1<v)) (
  chk (inb v2 w.l.length) (
   (rf ((at' .expr w.l v2),(wr .i64 (v-v1)))).bind fun x =>
   rec (v,(wr .i64 (v1+x)),(wr .i64 (v2+1)),w))) (
  kx (.exit 0) (v,v1,v2,w))) (
  kx (.exit 0) (v,v1,v2,w))
def Pt(R:Type) (k:Nat) (rf:FT [.sv .expr,.int .i64] [.int .i64]):Px R:=⟨Bd ttL,glT,Au [(12,As [.sv .expr,.int .i64] [.int .i64] rf)],Am [],Aw [(3,Be k Ady (Wm rf))],tbl []⟩
theorem A24(R:Type) (k:Nat) (rf:FT [.sv .expr,.int .i64] [.int .i64]):∀(fr:List Fr) (rec:Me→Option R) (kx:Ex→Me→Option R) (v:Me),Bn (Pt R k rf) Ady (lp Tryz.f12 0) fr rec kx v=Wm rf rec kx v
 |fr,rec,kx,(v,v1,v2,w)=>by kernel_rfl
def Mg(k:Nat) (rf:FT [.sv .expr,.int .i64] [.int .i64]) (x:HV [.sv .expr,.int .i64]):Option (HV [.int .i64]):=match x with
 |(e,most) =>
 A0 (fun rec=>Wm rf rec (fun e vz=>match vz with|(_,v4,_,_)=>match e with
  |.exit 0 =>
  some v4
  |_=>none)) k (most,(wr .i64 (1+(wr .i64 (Int.tdiv (wr .i64 ((e.v.s.length:Int)+(e.name.length:Int))) 30)))),0,e)
theorem Ber(k:Nat) (rf:FT [.sv .expr,.int .i64] [.int .i64]):∀(x:HV [.sv .expr,.int .i64]),Cs (Pt _ k rf) Tryz.f12 [.sv .expr,.int .i64] [.int .i64] x some=Mg k rf x
 |(e,most)=>by kernel_rfl
theorem A7n(k:Nat) (rf:FT [.sv .expr,.int .i64] [.int .i64]) (hrf:FnOk Tryz.prog elT glT 12 [.sv .expr,.int .i64] [.int .i64] rf):FnOk Tryz.prog elT glT 12 [.sv .expr,.int .i64] [.int .i64] (Mg k rf):=by
 refine A3 Tryz.func12 rfl (by kernel_rfl) follows (by kernel_rfl) (n:=1) (by kernel_rfl) (px:=Pt _ k rf) (fun cx hP hel hgl =>?_) (Ber k rf)
 have hp0:PxOk cx (Pt (HV [.int .i64]) k rf):=⟨fun t=>by rw [hP,hel];exact Av An t,by rw [hgl];rfl⟩
 have hc0:Al cx (Pt (HV [.int .i64]) k rf):=Af rfl (Aa (A7 (by rw [hP,hel,hgl];exact hrf) (by kernel_rfl)) Aj)
 have hq0:CallQOk cx (Pt (HV [.int .i64]) k rf):=Ab rfl rfl Ah Ae
 have hlmuch1_0:A8 cx (Pt (HV [.int .i64]) k rf) (lp Tryz.f12 0):=Ba hp0 hc0 hq0 (by rw [hP];exact follows) (k:=k) (s:=Ady) (step:=Wm rf) (fun _ _=>by kernel_rfl) (by kernel_rfl) (A24 _ k rf) (Az (n:=0) (by kernel_rfl) Ay)
 exact⟨hp0,hc0,hq0,(Cj Ay hlmuch1_0)⟩
mutual
def Cz:Xpr→Int→Int
 |.mk _ v nm l,most=>muchL l most (wr .i64 (1+wr .i64 (Int.tdiv (wr .i64 ((v.s.length:Int)+(nm.length:Int))) 30)))
def muchL:List Xpr→Int→Int→Int
 |[],_,n=>n
 |x::l,most,n=>cond (decide (n<most)) (muchL l most (wr .i64 (n+Cz x (wr .i64 (most-n))))) n
end
def Ajy:FT [.sv .expr,.int .i64] [.int .i64]:=fun x=>some (Cz x.1 x.2)
theorem Am0{R:Type}{rf:FT [.sv .expr,.int .i64] [.int .i64]}{kx:Ex→Me→Option R}{e:Xpr}{most:Int}{g:Int→Option R}(hn:ln e.l.length) (hrf:∀x,x∈e.l→∀m,rf (x,m)=some (Cz x m)) (h2:∀n j,kx (.exit 0) (most,n,j,e)=g n):∀(k i:Nat) n,i≤e.l.length→e.l.length-i<k→A0 (fun rec=>Wm rf rec kx) k (most,n,(i:Int),e)=g (muchL (e.l.drop i) most n)
 |0,i,n,_,h=>by omega
 |k+1,i,n,hi,h=>by
  rw [Br]
  by_cases hl:i<e.l.length
  ·have ih:=fun n=>Am0 hn hrf h2 k (i+1) n (by omega) (by omega)
   simp only [Wm,Bf hl hn,ih,h2,Bb hl,Bk (c :=.expr) hl,Bl hl,chk,Ai,Bool.cond_decide,muchL,hrf _ (List.getElem_mem hl),Zc1]
   rw [if_pos (by omega)]
   split<;>rfl
  ·simp only [Wm,h2,Bool.cond_decide]
   rw [if_neg (by omega),Zk1 (by omega)]
   rfl
theorem Apy(k:Nat):∀(n:Nat) (e:Xpr) (m:Int),BdExpr e→Bx e≤n→Bx e≤k→A0 (Mg k) n (e,m)=some (Cz e m)
 |0,e,m,_,h,_=>by have:=F2 e;omega
 |n+1,.mk kd v nm l,m,hb,h,hk=>by
  obtain⟨_,_,_,_,hb1,hb2,hb3,hb4,hb5⟩:=hb
  simp only [Bx] at h hk
  have hl:=Pd l
  have hrf:∀x,x∈l→∀m,A0 (Mg k) n (x,m)=some (Cz x m):=fun x hx m=>Apy k n x m (hb5 x hx) (by have:=Eg hx;omega) (by have:=Eg hx;omega)
  rw [Br]
  simp only [Mg]
  refine(Am0 (e :=.mk kd v nm l) (g:=some) hb4 hrf ?_ k 0 _ (Nat.zero_le _) (by simp only [Xpr.l];omega)).trans ?_
  ·exact fun _ _=>rfl
  ·simp only [Cz,Xpr.l,Zq1,Xpr.v,Xpr.name]
theorem Amj:FnOk Tryz.prog elT glT 12 [.sv .expr,.int .i64] [.int .i64] Ajy:=by
 refine .fin (ι:=Nat) 0 (F:=fun n=>A0 (Mg n) n) (fun n=>FnOk.rec' (Sx.enters_of Tryz.func12 rfl rfl) (fun rf hrf=>A7n n rf hrf) n) fun(e,m) r hb hx=>⟨Bx e,?_⟩
 exact(Apy (Bx e) (Bx e) e m hb.1 (Zn1 _) (Zn1 _)).trans hx
end Go.Proofs.YthndhaolemgbdaaGreatDoor
namespace Go.Proofs.YthndhaolemgbdaaGreatDoor
open Go.Ax
mutual
def Je:Xpr→Xpr→Bool
 |.mk k v n l,.mk k' v' n' l'=>decide (k=k')&&decide (v=v')&&decide (n=n')&&xsames l l'
def xsames:List Xpr→List Xpr→Bool
 |[],[]=>true
 |x::l,y::m=>Je x y&&xsames l m
 |_,_=>false
end
mutual
theorem Aha:∀a b:Xpr,Je a b=true↔a=b
 |.mk k v n l,.mk k' v' n' l'=>by
  simp only [Je,Zb1,Zg1,xsames_iff l l',Xpr.mk.injEq]
  constructor
  ·rintro⟨⟨⟨h1,h2⟩,h3⟩,h4⟩;exact⟨h1,h2,h3,h4⟩
  ·rintro⟨h1,h2,h3,h4⟩;exact⟨⟨⟨h1,h2⟩,h3⟩,h4⟩
theorem xsames_iff:∀a b:List Xpr,xsames a b=true↔a=b
 |[],[]=>by simp [xsames]
 |x::l,y::m=>by simp only [xsames,Zb1,Aha x y,xsames_iff l m,Ze2]
 |[],_::_=>by simp [xsames]
 |_::_,[]=>by simp [xsames]
end
instance:DecidableEq Xpr:=fun a b=>decidable_of_iff (Je a b=true) (Aha a b)
theorem Mb(a b:Xpr):Je a b=decide (a=b):=by
 rw [Bool.eq_iff_iff,Aha,Zg1]
theorem Alc{a b:List Xpr}(h:xsames a b=true):a.length=b.length:=by rw [(xsames_iff a b).1 h]
theorem Axi(a b:Xpr):Je a b=(decide (a.kind=b.kind)&&decide (a.v=b.v)&&decide (a.name=b.name)&&xsames a.l b.l):=by
 cases a;cases b
 simp only [Je]
 rfl
def Aee:Sig:=⟨32,[(1,.sl .expr false),(6,.bool),(15,.sl .expr false),(16,.int .i64),(17,.int .i64)],[(2,.fn 20 [])],[],40,40,200,[],[]⟩
abbrev L2:=List Xpr×Bool×List Xpr×Int×Int
def Vr{R:Type}(rf:FT [.sv .expr,.sv .expr] [.bool]) (rec:L2→Option R) (kx:Ex→L2→Option R) (v:L2):Option R:=match v with
 |(v,v1,v2,v3,v4) =>
 cond (decide (v4<v3)) (
  chk (inb v4 v2.length) (
  chk (inb v4 v.length) (
   (rf ((at' .expr v2 v4),(at' .expr v v4))).bind fun x =>
   cond (!x) (
    kx .ret (v,false,v2,v3,v4)) (
    rec (v,v1,v2,v3,(wr .i64 (v4+1))))))) (
  kx (.exit 0) (v,v1,v2,v3,v4))
def Lq(R:Type) (k:Nat) (rf:FT [.sv .expr,.sv .expr] [.bool]):Px R:=⟨Bd ttL,glT,Au [(20,As [.sv .expr,.sv .expr] [.bool] rf)],Am [],Aw [(4,Be k Aee (Vr rf))],tbl []⟩
noncomputable def Aaj (R:Type) (k:Nat) (rf:FT [.sv .expr,.sv .expr] [.bool]):Px R:=⟨Bd ttL,glT,Au [(47,Bg 40 200 (Lq R k rf) Tryz.f47)],Am [],Aw [],tbl []⟩
theorem A0s(R:Type) (k:Nat) (rf:FT [.sv .expr,.sv .expr] [.bool]):∀(fr:List Fr) (rec:L2→Option R) (kx:Ex→L2→Option R) (v:L2),Bn (Lq R k rf) Aee (lp Tryz.f47 0) fr rec kx v=Vr rf rec kx v
 |fr,rec,kx,(v,v1,v2,v3,v4)=>by kernel_rfl
def Ij(k:Nat) (rf:FT [.sv .expr,.sv .expr] [.bool]) (x:HV [.sv .expr,.sv .expr]):Option (HV [.bool]):=match x with
 |(a,b) =>
 let j1:=fun(p:Bool) =>
  let j:=fun(p1:Bool) =>
  cond (p1) (
   cond (!decide ((a.l.length:Int)=(b.l.length:Int))) (
   some false) (
   A0 (fun rec=>Vr rf rec (fun e vz=>match vz with|(_,v6,_,_,_)=>match e with
    |.ret =>
    some v6
    |.exit 0 =>
    some true
    |_=>none)) k (b.l,false,a.l,(a.l.length:Int),0))) (
   some false)
  cond (p) (
  j (decide (a.name=b.name))) (
  j false)
 cond (decide (a.kind=b.kind)) (
  j1 (decide (a.v=b.v))) (
  j1 false)
theorem Bfu(k:Nat) (rf:FT [.sv .expr,.sv .expr] [.bool]):∀(x:HV [.sv .expr,.sv .expr]),Cs (Aaj _ k rf) Tryz.f20 [.sv .expr,.sv .expr] [.bool] x some=Ij k rf x
 |(a,b)=>by kernel_rfl
theorem A8r(k:Nat) (rf:FT [.sv .expr,.sv .expr] [.bool]) (hrf:FnOk Tryz.prog elT glT 20 [.sv .expr,.sv .expr] [.bool] rf):FnOk Tryz.prog elT glT 20 [.sv .expr,.sv .expr] [.bool] (Ij k rf):=by
 refine A3 Tryz.func20 rfl (by kernel_rfl) follows (by kernel_rfl) (n:=0) (by kernel_rfl) (px:=Aaj _ k rf) (fun cx hP hel hgl =>?_) (Bfu k rf)
 have hp1:PxOk cx (Lq (HV [.bool]) k rf):=⟨fun t=>by rw [hP,hel];exact Av An t,by rw [hgl];rfl⟩
 have hc1:Al cx (Lq (HV [.bool]) k rf):=Af rfl (Aa (A7 (by rw [hP,hel,hgl];exact hrf) (by kernel_rfl)) Aj)
 have hq1:CallQOk cx (Lq (HV [.bool]) k rf):=Ab rfl rfl Ah Ae
 have hlasame_0:A8 cx (Lq (HV [.bool]) k rf) (lp Tryz.f47 0):=Ba hp1 hc1 hq1 (by rw [hP];exact follows) (k:=k) (s:=Aee) (step:=Vr rf) (fun _ _=>by kernel_rfl) (by kernel_rfl) (A0s _ k rf) (Az (n:=0) (by kernel_rfl) Ay)
 have hp0:PxOk cx (Aaj (HV [.bool]) k rf):=⟨fun t=>by rw [hP,hel];exact Av An t,by rw [hgl];rfl⟩
 have hc0:Al cx (Aaj (HV [.bool]) k rf):=Af rfl (Aa (Bv hp1 hc1 hq1 (by rw [hP];exact follows) (by rw [hP];exact Tryz.func47) rfl (by kernel_rfl) (by kernel_rfl) (n:=1) (by kernel_rfl) ((Cj Ay hlasame_0))) Aj)
 have hq0:CallQOk cx (Aaj (HV [.bool]) k rf):=Ab rfl rfl Ah Ae
 exact⟨hp0,hc0,hq0,Ay⟩
def Aap(a b:Xpr):Bool:=Je a b
def Abm:FT [.sv .expr,.sv .expr] [.bool]:=fun x=>some (Aap x.1 x.2)
theorem A1d{R:Type}{rf:FT [.sv .expr,.sv .expr] [.bool]}{kx:Ex→L2→Option R}{l m:List Xpr}{c:Bool→Option R}(hn:ln l.length) (hm:l.length=m.length) (hrf:∀x,x∈l→∀y,y∈m→rf (x,y)=some (Je x y))
  (h1:∀i,kx .ret (m,false,l,(l.length:Int),i)=c false) (h2:∀q i,kx (.exit 0) (m,q,l,(l.length:Int),i)=c true) (k:Nat) (hk:l.length<k):A0 (fun rec=>Vr rf rec kx) k (m,false,l,(l.length:Int),0)=c (xsames l m):=by
 refine(Dk l.length (fun i=>(m,false,l,(l.length:Int),(i:Int))) (fun i=>c (xsames (l.drop i) (m.drop i))) (fun i hi rec hr =>?_) (fun rec =>?_) k 0 (Nat.zero_le _) (by omega)).trans (by rw [Zq1,Zq1])
 ·have hi2:i<m.length:=by omega
  simp only [Vr,Gm hi,Ai,Bl hi,Bl hi2,chk,Bk (c :=.expr) hi,Bk (c :=.expr) hi2,hrf _ (List.getElem_mem hi) _ (List.getElem_mem hi2),Zc1,Bf hi hn,hr,h1,Bb hi,Bb hi2,xsames]
  cases Je l[i] m[i]<;>rfl
 ·simp only [Vr,Gh,Ak,h2]
  rw [Zk1 (Zn1 _),Zk1 (by omega)]
  rfl
theorem Aq5(k:Nat):∀(n:Nat) (a b:Xpr),BdExpr a→BdExpr b→Bx a≤n→Bx a≤k→A0 (Ij k) n (a,b)=some (Je a b)
 |0,a,b,_,_,h,_=>by have:=F2 a;omega
 |n+1,a,b,ha,hb,h,hk=>by
  obtain⟨hb4,hb5⟩:=Ait ha
  obtain⟨hc4,hc5⟩:=Ait hb
  rw [Hz] at h hk
  have hl:=Pd a.l
  have hrf:∀x,x∈a.l→∀y,y∈b.l→A0 (Ij k) n (x,y)=some (Je x y):=fun x hx y hy=>Aq5 k n x y (hb5 x hx) (hc5 y hy) (by have:=Eg hx;omega) (by have:=Eg hx;omega)
  rw [Br,Axi]
  simp only [Ij]
  by_cases hlen:a.l.length=b.l.length
  ·have hloop:=A1d (R:=Bool) (rf:=A0 (Ij k) n) (l:=a.l) (m:=b.l) (c:=some) (kx:=fun e v=>match v with
    |(_,v6,_,_,_)=>match e with
     |.ret=>some v6
     |.exit 0=>some true
     |_=>none) hb4 hlen hrf (fun _=>rfl) (fun _ _=>rfl) k (by omega)
   rw [hloop,Ze1 (show(a.l.length:Int)=(b.l.length:Int) by omega)]
   cases decide (a.kind=b.kind)<;>cases decide (a.v=b.v)<;>cases decide (a.name=b.name)<;>cases xsames a.l b.l<;>rfl
  ·have hno:xsames a.l b.l=false:=by
    cases hs:xsames a.l b.l with
    |false=>rfl
    |true=>exact absurd (Alc hs) hlen
   rw [hno,Zd1 (show ¬(a.l.length:Int)=(b.l.length:Int) by omega)]
   cases decide (a.kind=b.kind)<;>cases decide (a.v=b.v)<;>cases decide (a.name=b.name)<;>rfl
theorem Yz:FnOk Tryz.prog elT glT 20 [.sv .expr,.sv .expr] [.bool] Abm:=by
 refine .fin (ι:=Nat) 0 (F:=fun n=>A0 (Ij n) n) (fun n=>FnOk.rec' (Sx.enters_of Tryz.func20 rfl rfl) (fun rf hrf=>A8r n rf hrf) n) fun(a,b) r hb hx=>⟨Bx a,?_⟩
 exact(Aq5 (Bx a) (Bx a) a b hb.1 hb.2 (Zn1 _) (Zn1 _)).trans hx
def Ads:Sig:=⟨53,[(4,.bool),(5,.int .i64)],[(2,.ptr 0 0),(3,.ptr 1 0)],[(0,.one (.sv .expr)),(1,.one (.sv .expr))],2,0,0,[],[]⟩
abbrev Lw:=Bool×Int×Xpr×Xpr
def Vf{R:Type}(rf:FT [.sv .expr,.sv .expr] [.bool]) (rec:Lw→Option R) (kx:Ex→Lw→Option R) (v:Lw):Option R:=match v with
 |(v,v1,w,w1) =>
 cond (decide (v1<(w.l.length:Int))) (
  chk (inb v1 w.l.length) (
  chk (inb v1 w1.l.length) (
   (rf ((at' .expr w.l v1),(at' .expr w1.l v1))).bind fun x =>
   cond (!x) (
    kx .ret (false,v1,w,w1)) (
    rec (v,(wr .i64 (v1+1)),w,w1))))) (
  kx (.exit 0) (v,v1,w,w1))
def Qz(R:Type) (k:Nat) (rf:FT [.sv .expr,.sv .expr] [.bool]):Px R:=⟨Bd ttL,glT,Au [(21,As [.sv .expr,.sv .expr] [.bool] rf)],Am [],Aw [(4,Be k Ads (Vf rf))],tbl []⟩
theorem Az7(R:Type) (k:Nat) (rf:FT [.sv .expr,.sv .expr] [.bool]):∀(fr:List Fr) (rec:Lw→Option R) (kx:Ex→Lw→Option R) (v:Lw),Bn (Qz R k rf) Ads (lp Tryz.f21 0) fr rec kx v=Vf rf rec kx v
 |fr,rec,kx,(v,v1,w,w1)=>by kernel_rfl
def Iw(k:Nat) (rf:FT [.sv .expr,.sv .expr] [.bool]) (x:HV [.sv .expr,.sv .expr]):Option (HV [.bool]):=match x with
 |(a,b) =>
 let j:=fun(p:Bool) =>
  cond (p) (
  some false) (
  cond (!decide (a.name=b.name)) (
   some false) (
   cond (!decide ((a.l.length:Int)=(b.l.length:Int))) (
   some false) (
   A0 (fun rec=>Vf rf rec (fun e vz=>match vz with|(v2,_,_,_)=>match e with
    |.ret =>
    some v2
    |.exit 0 =>
    some true
    |_=>none)) k (false,0,a,b))))
 cond (!decide (a.kind=b.kind)) (
  j true) (
  j (!decide (a.v=b.v)))
theorem Bg1(k:Nat) (rf:FT [.sv .expr,.sv .expr] [.bool]):∀(x:HV [.sv .expr,.sv .expr]),Cs (Qz _ k rf) Tryz.f21 [.sv .expr,.sv .expr] [.bool] x some=Iw k rf x
 |(a,b)=>by kernel_rfl
theorem A8n(k:Nat) (rf:FT [.sv .expr,.sv .expr] [.bool]) (hrf:FnOk Tryz.prog elT glT 21 [.sv .expr,.sv .expr] [.bool] rf):FnOk Tryz.prog elT glT 21 [.sv .expr,.sv .expr] [.bool] (Iw k rf):=by
 refine A3 Tryz.func21 rfl (by kernel_rfl) follows (by kernel_rfl) (n:=1) (by kernel_rfl) (px:=Qz _ k rf) (fun cx hP hel hgl =>?_) (Bg1 k rf)
 have hp0:PxOk cx (Qz (HV [.bool]) k rf):=⟨fun t=>by rw [hP,hel];exact Av An t,by rw [hgl];rfl⟩
 have hc0:Al cx (Qz (HV [.bool]) k rf):=Af rfl (Aa (A7 (by rw [hP,hel,hgl];exact hrf) (by kernel_rfl)) Aj)
 have hq0:CallQOk cx (Qz (HV [.bool]) k rf):=Ab rfl rfl Ah Ae
 have hlrsame_0:A8 cx (Qz (HV [.bool]) k rf) (lp Tryz.f21 0):=Ba hp0 hc0 hq0 (by rw [hP];exact follows) (k:=k) (s:=Ads) (step:=Vf rf) (fun _ _=>by kernel_rfl) (by kernel_rfl) (Az7 _ k rf) (Az (n:=0) (by kernel_rfl) Ay)
 exact⟨hp0,hc0,hq0,(Cj Ay hlrsame_0)⟩
def Ae4(a b:Xpr):Bool:=Je a b
def Aj7:FT [.sv .expr,.sv .expr] [.bool]:=fun x=>some (Ae4 x.1 x.2)
theorem Ay1{R:Type}{rf:FT [.sv .expr,.sv .expr] [.bool]}{kx:Ex→Lw→Option R}{a b:Xpr}{c:Bool→Option R}(hn:ln a.l.length) (hm:a.l.length=b.l.length) (hrf:∀x,x∈a.l→∀y,y∈b.l→rf (x,y)=some (Je x y))
  (h1:∀i,kx .ret (false,i,a,b)=c false) (h2:∀q i,kx (.exit 0) (q,i,a,b)=c true) (k:Nat) (hk:a.l.length<k):A0 (fun rec=>Vf rf rec kx) k (false,0,a,b)=c (xsames a.l b.l):=by
 refine(Dk a.l.length (fun i=>(false,(i:Int),a,b)) (fun i=>c (xsames (a.l.drop i) (b.l.drop i))) (fun i hi rec hr =>?_) (fun rec =>?_) k 0 (Nat.zero_le _) (by omega)).trans (by rw [Zq1,Zq1])
 ·have hi2:i<b.l.length:=by omega
  simp only [Vf,Gm hi,Ai,Bl hi,Bl hi2,chk,Bk (c :=.expr) hi,Bk (c :=.expr) hi2,hrf _ (List.getElem_mem hi) _ (List.getElem_mem hi2),Zc1,Bf hi hn,hr,h1,Bb hi,Bb hi2,xsames]
  cases Je a.l[i] b.l[i]<;>rfl
 ·simp only [Vf,Gh,Ak,h2]
  rw [Zk1 (Zn1 _),Zk1 (by omega)]
  rfl
theorem Apd(k:Nat):∀(n:Nat) (a b:Xpr),BdExpr a→BdExpr b→Bx a≤n→Bx a≤k→A0 (Iw k) n (a,b)=some (Je a b)
 |0,a,b,_,_,h,_=>by have:=F2 a;omega
 |n+1,a,b,ha,hb,h,hk=>by
  obtain⟨hb4,hb5⟩:=Ait ha
  obtain⟨hc4,hc5⟩:=Ait hb
  rw [Hz] at h hk
  have hl:=Pd a.l
  have hrf:∀x,x∈a.l→∀y,y∈b.l→A0 (Iw k) n (x,y)=some (Je x y):=fun x hx y hy=>Apd k n x y (hb5 x hx) (hc5 y hy) (by have:=Eg hx;omega) (by have:=Eg hx;omega)
  rw [Br,Axi]
  simp only [Iw]
  by_cases hlen:a.l.length=b.l.length
  ·have hloop:=Ay1 (R:=Bool) (rf:=A0 (Iw k) n) (a:=a) (b:=b) (c:=some) (kx:=fun e v=>match v with
    |(v2,_,_,_)=>match e with
     |.ret=>some v2
     |.exit 0=>some true
     |_=>none) hb4 hlen hrf (fun _=>rfl) (fun _ _=>rfl) k (by omega)
   rw [hloop,Ze1 (show(a.l.length:Int)=(b.l.length:Int) by omega)]
   cases decide (a.kind=b.kind)<;>cases decide (a.v=b.v)<;>cases decide (a.name=b.name)<;>cases xsames a.l b.l<;>rfl
  ·have hno:xsames a.l b.l=false:=by
    cases hs:xsames a.l b.l with
    |false=>rfl
    |true=>exact absurd (Alc hs) hlen
   rw [hno,Zd1 (show ¬(a.l.length:Int)=(b.l.length:Int) by omega)]
   cases decide (a.kind=b.kind)<;>cases decide (a.v=b.v)<;>cases decide (a.name=b.name)<;>rfl
theorem Ak4:FnOk Tryz.prog elT glT 21 [.sv .expr,.sv .expr] [.bool] Aj7:=by
 refine .fin (ι:=Nat) 0 (F:=fun n=>A0 (Iw n) n) (fun n=>FnOk.rec' (Sx.enters_of Tryz.func21 rfl rfl) (fun rf hrf=>A8n n rf hrf) n) fun(a,b) r hb hx=>⟨Bx a,?_⟩
 exact(Apd (Bx a) (Bx a) a b hb.1 hb.2 (Zn1 _) (Zn1 _)).trans hx
end Go.Proofs.YthndhaolemgbdaaGreatDoor
namespace Go.Proofs.YthndhaolemgbdaaGreatDoor
open Go.Ax
def Ah4:Sig:=⟨19,[(0,.sl .str false),(1,.str),(4,.int .i64),(7,.int .i64),(8,.int .i64)],[],[],0,0,0,[],[]⟩
abbrev O1:=List Str×Str×Int×Int×Int
def Ad8{R:Type}(rec:O1→Option R) (kx:Ex→O1→Option R) (v:O1):Option R:=match v with
 |(v,v1,v2,v3,v4) =>
 cond (decide (v4<v3)) (
  chk (inb v4 v.length) (
  cond (decide (v1=(at' .str v v4))) (
   kx .ret (v,v1,v4,v3,v4)) (
   rec (v,v1,v2,v3,(wr .i64 (v4+1)))))) (
  kx (.exit 0) (v,v1,v2,v3,v4))
def V1(R:Type) (k:Nat):Px R:=⟨Bd ttL,glT,Au [],Am [],Aw [(2,Be k Ah4 (Ad8))],tbl []⟩
theorem A6t(R:Type) (k:Nat):∀(fr:List Fr) (rec:O1→Option R) (kx:Ex→O1→Option R) (v:O1),Bn (V1 R k) Ah4 (lp Tryz.f100 0) fr rec kx v=Ad8 rec kx v
 |fr,rec,kx,(v,v1,v2,v3,v4)=>by kernel_rfl
def Agv(k:Nat) (x:HV [.sl .str false,.str]):Option (HV [.int .i64]):=match x with
 |(l,s) =>
 A0 (fun rec=>Ad8 rec (fun e vz=>match vz with|(_,_,v7,_,_)=>match e with
  |.ret =>
  some v7
  |.exit 0 =>
  some (-1)
  |_=>none)) k (l,s,0,(l.length:Int),0)
theorem Bi4(k:Nat):∀(x:HV [.sl .str false,.str]),Cs (V1 _ k) Tryz.f100 [.sl .str false,.str] [.int .i64] x some=Agv k x
 |(l,s)=>by kernel_rfl
theorem Bc7(k:Nat):FnOk Tryz.prog elT glT 100 [.sl .str false,.str] [.int .i64] (Agv k):=by
 refine A3 Tryz.func100 rfl (by kernel_rfl) follows (by kernel_rfl) (n:=1) (by kernel_rfl) (px:=V1 _ k) (fun cx hP hel hgl =>?_) (Bi4 k)
 have hp0:PxOk cx (V1 (HV [.int .i64]) k):=⟨fun t=>by rw [hP,hel];exact Av An t,by rw [hgl];rfl⟩
 have hc0:Al cx (V1 (HV [.int .i64]) k):=Af rfl Aj
 have hq0:CallQOk cx (V1 (HV [.int .i64]) k):=Ab rfl rfl Ah Ae
 have hlsidx_0:A8 cx (V1 (HV [.int .i64]) k) (lp Tryz.f100 0):=Ba hp0 hc0 hq0 (by rw [hP];exact follows) (k:=k) (s:=Ah4) (step:=Ad8) (fun _ _=>by kernel_rfl) (by kernel_rfl) (A6t _ k) (Az (n:=0) (by kernel_rfl) Ay)
 exact⟨hp0,hc0,hq0,(Cj Ay hlsidx_0)⟩
def Boe(l:List Str) (s:Str):Int:=Lp.idx s l 0
def Azi:FT [.sl .str false,.str] [.int .i64]:=fun x=>some (Boe x.1 x.2)
theorem Apa{R:Type}{kx:Ex→O1→Option R}{l:List Str}{s:Str}{c:Int→Option R}(hl:ln l.length) (h1:∀(r:Int) (i:Int),kx .ret (l,s,r,(l.length:Int),i)=c r) (h2:∀q:Int,kx (.exit 0) (l,s,q,(l.length:Int),(l.length:Int))=c (-1)) :
  ∀(k i:Nat) (q:Int),i≤l.length→l.length-i<k→A0 (fun rec=>Ad8 rec kx) k (l,s,q,(l.length:Int),(i:Int))=c (Lp.idx s (l.drop i) i)
 |0,i,_,_,h=>absurd h (Zm1 _)
 |k+1,i,q,hi,h=>by
  rw [Br]
  by_cases hlt:i<l.length
  ·have ih:=Apa hl h1 h2 k (i+1) q (by omega) (by omega)
   have e1:decide ((i:Int)<(l.length:Int))=true:=Ze1 (by omega)
   have en:((i+1:Nat):Int)=(i:Int)+1:=by omega
   simp only [Ad8,e1,Ai,Bl hlt,chk,Bk (c :=.str) hlt,Bf hlt hl,ih,h1]
   rw [Bb hlt,Lp.idx,en]
   by_cases hx:s=l[i]
   ·rw [Ze1 hx,if_pos hx,Ai]
   ·rw [Zd1 hx,if_neg hx,Ak]
  ·have hi:i=l.length:=by omega
   subst hi
   simp only [Ad8,Zd1 (show ¬((l.length:Nat):Int)<(l.length:Int) by omega),Ak,h2,Zc2,Lp.idx]
theorem Bix:FnOk Tryz.prog elT glT 100 [.sl .str false,.str] [.int .i64] Azi :=.fin 0 Bc7 fun(l,s) r hb hx=>⟨l.length+1,by
 simp only [Azi,Za1] at hx
 rw [←hx]
 simp only [Agv]
 exact Apa (c:=fun q=>some q) hb.1.1 (fun _ _=>rfl) (fun _=>rfl) (l.length+1) 0 0 (Nat.zero_le _) (by omega)⟩
def Ae6(R:Type):Px R:=⟨Bd ttL,glT,Au [(100,As [.sl .str false,.str] [.int .i64] Azi)],Am [],Aw [],tbl []⟩
def Ab5(x:HV [.sl .str false,.str]):Option (HV [.bool]):=match x with
 |(l,s) =>
 some (decide (0≤(Boe l s)))
theorem Bjz:∀(x:HV [.sl .str false,.str]),Cs (Ae6 _) Tryz.f44 [.sl .str false,.str] [.bool] x some=Ab5 x
 |(l,s)=>by kernel_rfl
theorem Bhu:FnOk Tryz.prog elT glT 44 [.sl .str false,.str] [.bool] (Ab5):=by
 refine A3 Tryz.func44 rfl (by kernel_rfl) follows (by kernel_rfl) (n:=0) (by kernel_rfl) (px:=Ae6 _) (fun cx hP hel hgl =>?_) (Bjz)
 have hp0:PxOk cx (Ae6 (HV [.bool])):=⟨fun t=>by rw [hP,hel];exact Av An t,by rw [hgl];rfl⟩
 have hc0:Al cx (Ae6 (HV [.bool])):=Af rfl (Aa (A7 (by rw [hP,hel,hgl];exact Bix) (by kernel_rfl)) Aj)
 have hq0:CallQOk cx (Ae6 (HV [.bool])):=Ab rfl rfl Ah Ae
 exact⟨hp0,hc0,hq0,Ay⟩
def Au1(l:List Str) (s:Str):Bool :=
 (decide (0≤(Boe l s)))
theorem Bei(x:HV [.sl .str false,.str]):Ab5 x=some (Au1 x.1 x.2):=by
 first
  |exact rfl
  |simp only [Ab5,Au1,B7]
def Ay8:FT [.sl .str false,.str] [.bool]:=fun x=>some (Au1 x.1 x.2)
theorem A4r:FnOk Tryz.prog elT glT 44 [.sl .str false,.str] [.bool] Ay8 :=.fin0 Bhu fun x _ _ hx=>(Bei x).trans hx
theorem A6f(l:List Str) (s:Str):Au1 l s=l.contains s:=by
 have e:Au1 l s=decide (0≤Lp.idx s l 0):=rfl
 rw [e,Bool.eq_iff_iff,Zg1,Lp.idx_ge s l 0 (Int.le_refl 0)]
 simp
end Go.Proofs.YthndhaolemgbdaaGreatDoor
namespace Go.Proofs.YthndhaolemgbdaaGreatDoor
open Go.Ax
end Go.Proofs.YthndhaolemgbdaaGreatDoor
namespace Go.Proofs.YthndhaolemgbdaaGreatDoor
open Go.Ax
theorem Adg(k:Int):(Jf k=0∧(k=1∨k=2))∨(Jf k=1∧(k=3∨k=15∨k=16))∨(Jf k=2∧4≤k∧k≤14)∨Jf k = -1:=by
 by_cases h1:k=1
 ·subst h1;left;decide
 by_cases h2:k=2
 ·subst h2;left;decide
 by_cases h3:k=3
 ·subst h3;right;left;decide
 by_cases h15:k=15
 ·subst h15;right;left;decide
 by_cases h16:k=16
 ·subst h16;right;left;decide
 right;right
 by_cases h : 4≤k∧k≤14
 ·left
  refine⟨?_,h⟩
  have:k=4∨k=5∨k=6∨k=7∨k=8∨k=9∨k=10∨k=11∨k=12∨k=13∨k=14:=by omega
  rcases this with rfl|rfl|rfl|rfl|rfl|rfl|rfl|rfl|rfl|rfl|rfl<;>decide
 ·right
  have hm:Vl signsL k=[]:=by
   simp only [signsL,Vl]
   rw [Zd1 (by omega),Zd1 (by omega),Zd1 (by omega),Zd1 (by omega),Zd1 (by omega),Zd1 (by omega),Zd1 (by omega),Zd1 (by omega),Zd1 (by omega),Zd1 (by omega),Zd1 (by omega)]
  simp [Jf,hm,h1,h2,h3,h15,h16]
theorem Hr{e:Xpr}{m:Int}(h:Bp e m=true):(e.l.length:Int)=Jf e.kind∧eok e.kind e.v e.name=true∧erights e.l (wr .i64 (m-1))=true:=by
 rw [Aqo] at h
 simp only [Zb1,Zg1] at h
 exact⟨h.1.1.2,h.1.2,h.2⟩
end Go.Proofs.YthndhaolemgbdaaGreatDoor
namespace Go.Proofs.YthndhaolemgbdaaGreatDoor
open Go.Ax
def Ag5:Sig:=⟨26,[(0,.sl .col false),(1,.sl .col false),(4,.bool),(12,.int .i64),(13,.int .i64)],[],[],0,0,0,[],[]⟩
abbrev P7:=List Col×List Col×Bool×Int×Int
def Adx{R:Type}(rec:P7→Option R) (kx:Ex→P7→Option R) (v:P7):Option R:=match v with
 |(v,v1,v2,v3,v4) =>
 cond (decide (v4<v3)) (
  chk (inb v4 v.length) (
  chk (inb v4 v1.length) (
   cond (!decide ((at' .col v v4)=(at' .col v1 v4))) (
   kx .ret (v,v1,false,v3,v4)) (
   rec (v,v1,v2,v3,(wr .i64 (v4+1))))))) (
  kx (.exit 0) (v,v1,v2,v3,v4))
def Xl(R:Type) (k:Nat):Px R:=⟨Bd ttL,glT,Au [],Am [],Aw [(4,Be k Ag5 (Adx))],tbl []⟩
theorem A8k(R:Type) (k:Nat):∀(fr:List Fr) (rec:P7→Option R) (kx:Ex→P7→Option R) (v:P7),Bn (Xl R k) Ag5 (lp Tryz.f75 0) fr rec kx v=Adx rec kx v
 |fr,rec,kx,(v,v1,v2,v3,v4)=>by kernel_rfl
def Ah2(k:Nat) (x:HV [.sl .col false,.sl .col false]):Option (HV [.bool]):=match x with
 |(a,b) =>
 cond (!decide ((a.length:Int)=(b.length:Int))) (
  some false) (
  A0 (fun rec=>Adx rec (fun e vz=>match vz with|(_,_,v7,_,_)=>match e with
  |.ret =>
   some v7
  |.exit 0 =>
   some true
  |_=>none)) k (a,b,false,(a.length:Int),0))
theorem Bjx(k:Nat):∀(x:HV [.sl .col false,.sl .col false]),Cs (Xl _ k) Tryz.f75 [.sl .col false,.sl .col false] [.bool] x some=Ah2 k x
 |(a,b)=>by kernel_rfl
theorem Bb1(k:Nat):FnOk Tryz.prog elT glT 75 [.sl .col false,.sl .col false] [.bool] (Ah2 k):=by
 refine A3 Tryz.func75 rfl (by kernel_rfl) follows (by kernel_rfl) (n:=1) (by kernel_rfl) (px:=Xl _ k) (fun cx hP hel hgl =>?_) (Bjx k)
 have hp0:PxOk cx (Xl (HV [.bool]) k):=⟨fun t=>by rw [hP,hel];exact Av An t,by rw [hgl];rfl⟩
 have hc0:Al cx (Xl (HV [.bool]) k):=Af rfl Aj
 have hq0:CallQOk cx (Xl (HV [.bool]) k):=Ab rfl rfl Ah Ae
 have hlaeqc_0:A8 cx (Xl (HV [.bool]) k) (lp Tryz.f75 0):=Ba hp0 hc0 hq0 (by rw [hP];exact follows) (k:=k) (s:=Ag5) (step:=Adx) (fun _ _=>by kernel_rfl) (by kernel_rfl) (A8k _ k) (Az (n:=0) (by kernel_rfl) Ay)
 exact⟨hp0,hc0,hq0,(Cj Ay hlaeqc_0)⟩
def Blb(a b:List Col):Bool:=decide (a=b)
def A1t:FT [.sl .col false,.sl .col false] [.bool]:=fun x=>some (Blb x.1 x.2)
theorem A93{R:Type}{kx:Ex→P7→Option R}{a b:List Col}{c:Bool→Option R}(hn:ln a.length) (he:a.length=b.length) (h1:∀i,kx .ret (a,b,false,(a.length:Int),i)=c false) (h2:∀q i,kx (.exit 0) (a,b,q,(a.length:Int),i)=c true) (k:Nat) (hk:a.length<k) :
  A0 (fun rec=>Adx rec kx) k (a,b,false,(a.length:Int),0)=c (decide (a=b)):=by
 refine(Dk a.length (fun i=>(a,b,false,(a.length:Int),(i:Int))) (fun i=>c (decide (a.drop i=b.drop i))) (fun i hi rec hr =>?_) (fun rec =>?_) k 0 (Nat.zero_le _) (by omega)).trans (by rw [Zq1,Zq1])
 ·have hi2:i<b.length:=by omega
  simp only [Adx,Gm hi,Ai,Bl hi,Bl hi2,chk,Bk (c :=.col) hi,Bk (c :=.col) hi2,Bf hi hn,hr,h1,Bb hi,Bb hi2,Ze2]
  by_cases hx:a[i]=b[i]
  ·rw [Ze1 hx]
   simp [hx]
  ·rw [Zd1 hx]
   simp [hx]
 ·simp only [Adx,Gh,Ak,h2]
  rw [Zk1 (Zn1 _),Zk1 (by omega)]
  rfl
theorem Bkb:FnOk Tryz.prog elT glT 75 [.sl .col false,.sl .col false] [.bool] A1t :=.fin 0 Bb1 fun(a,b) r hb hx=>⟨a.length+1,by
 simp only [A1t,Za1] at hx
 rw [←hx]
 simp only [Ah2,Blb]
 by_cases he:a.length=b.length
 ·rw [Ze1 (show(a.length:Int)=(b.length:Int) by omega),Zt1,Ak]
  exact A93 (c:=some) hb.1.1 he (fun _=>rfl) (fun _ _=>rfl) (a.length+1) (by omega)
 ·rw [Zd1 (show ¬(a.length:Int)=(b.length:Int) by omega),Zd1 (fun h=>he (by rw [h]))]
  rfl⟩
def Ah9:Sig:=⟨26,[(0,.sl .str false),(1,.sl .str false),(4,.bool),(12,.int .i64),(13,.int .i64)],[],[],0,0,0,[],[]⟩
abbrev O3:=List Str×List Str×Bool×Int×Int
def Ac3{R:Type}(rec:O3→Option R) (kx:Ex→O3→Option R) (v:O3):Option R:=match v with
 |(v,v1,v2,v3,v4) =>
 cond (decide (v4<v3)) (
  chk (inb v4 v.length) (
  chk (inb v4 v1.length) (
   cond (!decide ((at' .str v v4)=(at' .str v1 v4))) (
   kx .ret (v,v1,false,v3,v4)) (
   rec (v,v1,v2,v3,(wr .i64 (v4+1))))))) (
  kx (.exit 0) (v,v1,v2,v3,v4))
def Wl(R:Type) (k:Nat):Px R:=⟨Bd ttL,glT,Au [],Am [],Aw [(4,Be k Ah9 (Ac3))],tbl []⟩
theorem A6q(R:Type) (k:Nat):∀(fr:List Fr) (rec:O3→Option R) (kx:Ex→O3→Option R) (v:O3),Bn (Wl R k) Ah9 (lp Tryz.f76 0) fr rec kx v=Ac3 rec kx v
 |fr,rec,kx,(v,v1,v2,v3,v4)=>by kernel_rfl
def Ahv(k:Nat) (x:HV [.sl .str false,.sl .str false]):Option (HV [.bool]):=match x with
 |(a,b) =>
 cond (!decide ((a.length:Int)=(b.length:Int))) (
  some false) (
  A0 (fun rec=>Ac3 rec (fun e vz=>match vz with|(_,_,v7,_,_)=>match e with
  |.ret =>
   some v7
  |.exit 0 =>
   some true
  |_=>none)) k (a,b,false,(a.length:Int),0))
theorem Bj0(k:Nat):∀(x:HV [.sl .str false,.sl .str false]),Cs (Wl _ k) Tryz.f76 [.sl .str false,.sl .str false] [.bool] x some=Ahv k x
 |(a,b)=>by kernel_rfl
theorem Bgu(k:Nat):FnOk Tryz.prog elT glT 76 [.sl .str false,.sl .str false] [.bool] (Ahv k):=by
 refine A3 Tryz.func76 rfl (by kernel_rfl) follows (by kernel_rfl) (n:=1) (by kernel_rfl) (px:=Wl _ k) (fun cx hP hel hgl =>?_) (Bj0 k)
 have hp0:PxOk cx (Wl (HV [.bool]) k):=⟨fun t=>by rw [hP,hel];exact Av An t,by rw [hgl];rfl⟩
 have hc0:Al cx (Wl (HV [.bool]) k):=Af rfl Aj
 have hq0:CallQOk cx (Wl (HV [.bool]) k):=Ab rfl rfl Ah Ae
 have hlaeqs_0:A8 cx (Wl (HV [.bool]) k) (lp Tryz.f76 0):=Ba hp0 hc0 hq0 (by rw [hP];exact follows) (k:=k) (s:=Ah9) (step:=Ac3) (fun _ _=>by kernel_rfl) (by kernel_rfl) (A6q _ k) (Az (n:=0) (by kernel_rfl) Ay)
 exact⟨hp0,hc0,hq0,(Cj Ay hlaeqs_0)⟩
def Beb(a b:List Str):Bool:=decide (a=b)
def Az3:FT [.sl .str false,.sl .str false] [.bool]:=fun x=>some (Beb x.1 x.2)
theorem Bae{R:Type}{kx:Ex→O3→Option R}{a b:List Str}{c:Bool→Option R}(hn:ln a.length) (he:a.length=b.length) (h1:∀i,kx .ret (a,b,false,(a.length:Int),i)=c false) (h2:∀q i,kx (.exit 0) (a,b,q,(a.length:Int),i)=c true) (k:Nat) (hk:a.length<k) :
  A0 (fun rec=>Ac3 rec kx) k (a,b,false,(a.length:Int),0)=c (decide (a=b)):=by
 refine(Dk a.length (fun i=>(a,b,false,(a.length:Int),(i:Int))) (fun i=>c (decide (a.drop i=b.drop i))) (fun i hi rec hr =>?_) (fun rec =>?_) k 0 (Nat.zero_le _) (by omega)).trans (by rw [Zq1,Zq1])
 ·have hi2:i<b.length:=by omega
  simp only [Ac3,Gm hi,Ai,Bl hi,Bl hi2,chk,Bk (c :=.str) hi,Bk (c :=.str) hi2,Bf hi hn,hr,h1,Bb hi,Bb hi2,Ze2]
  by_cases hx:a[i]=b[i]
  ·rw [Ze1 hx]
   simp [hx]
  ·rw [Zd1 hx]
   simp [hx]
 ·simp only [Ac3,Gh,Ak,h2]
  rw [Zk1 (Zn1 _),Zk1 (by omega)]
  rfl
theorem Big:FnOk Tryz.prog elT glT 76 [.sl .str false,.sl .str false] [.bool] Az3 :=.fin 0 Bgu fun(a,b) r hb hx=>⟨a.length+1,by
 simp only [Az3,Za1] at hx
 rw [←hx]
 simp only [Ahv,Beb]
 by_cases he:a.length=b.length
 ·rw [Ze1 (show(a.length:Int)=(b.length:Int) by omega),Zt1,Ak]
  exact Bae (c:=some) hb.1.1 he (fun _=>rfl) (fun _ _=>rfl) (a.length+1) (by omega)
 ·rw [Zd1 (show ¬(a.length:Int)=(b.length:Int) by omega),Zd1 (fun h=>he (by rw [h]))]
  rfl⟩
def Aib:Sig:=⟨26,[(0,.sl .bool false),(1,.sl .bool false),(4,.bool),(12,.int .i64),(13,.int .i64)],[],[],0,0,0,[],[]⟩
abbrev Q4:=List Bool×List Bool×Bool×Int×Int
def Adh{R:Type}(rec:Q4→Option R) (kx:Ex→Q4→Option R) (v:Q4):Option R:=match v with
 |(v,v1,v2,v3,v4) =>
 cond (decide (v4<v3)) (
  chk (inb v4 v.length) (
  chk (inb v4 v1.length) (
   cond (!decide ((at' .bool v v4)=(at' .bool v1 v4))) (
   kx .ret (v,v1,false,v3,v4)) (
   rec (v,v1,v2,v3,(wr .i64 (v4+1))))))) (
  kx (.exit 0) (v,v1,v2,v3,v4))
def Vv(R:Type) (k:Nat):Px R:=⟨Bd ttL,glT,Au [],Am [],Aw [(4,Be k Aib (Adh))],tbl []⟩
theorem A6y(R:Type) (k:Nat):∀(fr:List Fr) (rec:Q4→Option R) (kx:Ex→Q4→Option R) (v:Q4),Bn (Vv R k) Aib (lp Tryz.f77 0) fr rec kx v=Adh rec kx v
 |fr,rec,kx,(v,v1,v2,v3,v4)=>by kernel_rfl
def Ag9(k:Nat) (x:HV [.sl .bool false,.sl .bool false]):Option (HV [.bool]):=match x with
 |(a,b) =>
 cond (!decide ((a.length:Int)=(b.length:Int))) (
  some false) (
  A0 (fun rec=>Adh rec (fun e vz=>match vz with|(_,_,v7,_,_)=>match e with
  |.ret =>
   some v7
  |.exit 0 =>
   some true
  |_=>none)) k (a,b,false,(a.length:Int),0))
theorem Bjr(k:Nat):∀(x:HV [.sl .bool false,.sl .bool false]),Cs (Vv _ k) Tryz.f77 [.sl .bool false,.sl .bool false] [.bool] x some=Ag9 k x
 |(a,b)=>by kernel_rfl
theorem Bc0(k:Nat):FnOk Tryz.prog elT glT 77 [.sl .bool false,.sl .bool false] [.bool] (Ag9 k):=by
 refine A3 Tryz.func77 rfl (by kernel_rfl) follows (by kernel_rfl) (n:=1) (by kernel_rfl) (px:=Vv _ k) (fun cx hP hel hgl =>?_) (Bjr k)
 have hp0:PxOk cx (Vv (HV [.bool]) k):=⟨fun t=>by rw [hP,hel];exact Av An t,by rw [hgl];rfl⟩
 have hc0:Al cx (Vv (HV [.bool]) k):=Af rfl Aj
 have hq0:CallQOk cx (Vv (HV [.bool]) k):=Ab rfl rfl Ah Ae
 have hlaeqb_0:A8 cx (Vv (HV [.bool]) k) (lp Tryz.f77 0):=Ba hp0 hc0 hq0 (by rw [hP];exact follows) (k:=k) (s:=Aib) (step:=Adh) (fun _ _=>by kernel_rfl) (by kernel_rfl) (A6y _ k) (Az (n:=0) (by kernel_rfl) Ay)
 exact⟨hp0,hc0,hq0,(Cj Ay hlaeqb_0)⟩
def Bkj(a b:List Bool):Bool:=decide (a=b)
def Az5:FT [.sl .bool false,.sl .bool false] [.bool]:=fun x=>some (Bkj x.1 x.2)
theorem A8x{R:Type}{kx:Ex→Q4→Option R}{a b:List Bool}{c:Bool→Option R}(hn:ln a.length) (he:a.length=b.length) (h1:∀i,kx .ret (a,b,false,(a.length:Int),i)=c false) (h2:∀q i,kx (.exit 0) (a,b,q,(a.length:Int),i)=c true) (k:Nat) (hk:a.length<k) :
  A0 (fun rec=>Adh rec kx) k (a,b,false,(a.length:Int),0)=c (decide (a=b)):=by
 refine(Dk a.length (fun i=>(a,b,false,(a.length:Int),(i:Int))) (fun i=>c (decide (a.drop i=b.drop i))) (fun i hi rec hr =>?_) (fun rec =>?_) k 0 (Nat.zero_le _) (by omega)).trans (by rw [Zq1,Zq1])
 ·have hi2:i<b.length:=by omega
  simp only [Adh,Gm hi,Ai,Bl hi,Bl hi2,chk,Bk (c :=.bool) hi,Bk (c :=.bool) hi2,Bf hi hn,hr,h1,Bb hi,Bb hi2,Ze2]
  by_cases hx:a[i]=b[i]
  ·rw [Ze1 hx]
   simp [hx]
  ·rw [Zd1 hx]
   simp [hx]
 ·simp only [Adh,Gh,Ak,h2]
  rw [Zk1 (Zn1 _),Zk1 (by omega)]
  rfl
theorem Bko:FnOk Tryz.prog elT glT 77 [.sl .bool false,.sl .bool false] [.bool] Az5 :=.fin 0 Bc0 fun(a,b) r hb hx=>⟨a.length+1,by
 simp only [Az5,Za1] at hx
 rw [←hx]
 simp only [Ag9,Bkj]
 by_cases he:a.length=b.length
 ·rw [Ze1 (show(a.length:Int)=(b.length:Int) by omega),Zt1,Ak]
  exact A8x (c:=some) hb.1.1 he (fun _=>rfl) (fun _ _=>rfl) (a.length+1) (by omega)
 ·rw [Zd1 (show ¬(a.length:Int)=(b.length:Int) by omega),Zd1 (fun h=>he (by rw [h]))]
  rfl⟩
instance:DecidableEq SetE:=fun a b=>decidable_of_iff (a.name=b.name∧a.e=b.e) (by
 cases a;cases b
 simp)
def Atz(a b:SetE):Bool:=decide (a.name=b.name)&&Je a.e b.e
theorem Auo(a b:SetE):Atz a b=decide (a=b):=by
 cases a;cases b
 simp only [Atz,Mb,SetE.mk.injEq,Bool.decide_and]
def Akt(a b:Stm):Bool:=decide (a.kind=b.kind)&&decide (a.name=b.name)&&decide (a.on=b.on)&&decide (a.has=b.has)&&decide (a.most=b.most)&&decide (a.whr=b.whr)&&(decide (a.cols=b.cols)&&decide (a.names=b.names)&&decide (a.order=b.order)&&decide (a.desc=b.desc)&&decide (a.l=b.l))&&decide (a.rows=b.rows)&&decide (a.sets=b.sets)
theorem Ao5(a b:Stm):Akt a b=true↔a=b:=by
 cases a;cases b
 simp only [Akt,Zb1,Zg1,Stm.mk.injEq]
 constructor
 ·rintro⟨⟨⟨⟨⟨⟨⟨⟨h1,h2⟩,h3⟩,h4⟩,h5⟩,h6⟩,⟨⟨⟨h7,h8⟩,h9⟩,h10⟩,h11⟩,h12⟩,h13⟩
  exact⟨h1,h2,h3,h7,h8,h11,h12,h13,h4,h6,h9,h10,h5⟩
 ·rintro⟨h1,h2,h3,h7,h8,h11,h12,h13,h4,h6,h9,h10,h5⟩
  exact⟨⟨⟨⟨⟨⟨⟨⟨h1,h2⟩,h3⟩,h4⟩,h5⟩,h6⟩,⟨⟨⟨h7,h8⟩,h9⟩,h10⟩,h11⟩,h12⟩,h13⟩
def Yw:Sig:=⟨32,[(1,.sl .set false),(6,.bool),(15,.sl .set false),(16,.int .i64),(17,.int .i64)],[(2,.fn 81 [])],[],40,40,600,[],[]⟩
abbrev Iv:=List SetE×Bool×List SetE×Int×Int
def Po{R:Type}(rec:Iv→Option R) (kx:Ex→Iv→Option R) (v:Iv):Option R:=match v with
 |(v36,v37,v38,v39,v40) =>
 cond (decide (v40<v39)) (
  chk (inb v40 v38.length) (
  chk (inb v40 v36.length) (
   cond (decide (((at' .set v38 v40).name)=((at' .set v36 v40).name))) (
   cond (!(Aap (Ng ((at' .set v38 v40).e)) (Ng ((at' .set v36 v40).e)))) (
    kx .ret (v36,false,v38,v39,v40)) (
    rec (v36,v37,v38,v39,(wr .i64 (v40+1))))) (
   kx .ret (v36,false,v38,v39,v40))))) (
  kx (.exit 0) (v36,v37,v38,v39,v40))
def Aa0:Sig:=⟨32,[(1,.sl .expr false),(6,.bool),(15,.sl .expr false),(16,.int .i64),(17,.int .i64)],[(2,.fn 20 [])],[(0,.one (.sv .stmt)),(1,.one (.sv .stmt))],120,120,600,[],[]⟩
abbrev Im:=List Xpr×Bool×List Xpr×Int×Int×Stm×Stm
def O0{R:Type}(rec:Im→Option R) (kx:Ex→Im→Option R) (v:Im):Option R:=match v with
 |(v17,v18,v19,v20,v21,w4,w5) =>
 cond (decide (v21<v20)) (
  chk (inb v21 v19.length) (
  chk (inb v21 v17.length) (
   cond (!(Aap (at' .expr v19 v21) (at' .expr v17 v21))) (
   kx .ret (v17,false,v19,v20,v21,w4,w5)) (
   rec (v17,v18,v19,v20,(wr .i64 (v21+1)),w4,w5))))) (
  kx (.exit 0) (v17,v18,v19,v20,v21,w4,w5))
def Aaq:Sig:=⟨32,[(1,.sl .exprs false),(6,.bool),(15,.sl .exprs false),(16,.int .i64),(17,.int .i64)],[(2,.fn 79 [])],[(0,.one (.sv .stmt)),(1,.one (.sv .stmt))],40,40,400,[],[]⟩
abbrev Iz:=List (List Xpr)×Bool×List (List Xpr)×Int×Int×Stm×Stm
def Pc{R:Type}(k:Nat) (rec:Iz→Option R) (kx:Ex→Iz→Option R) (v:Iz):Option R:=match v with
 |(v12,v13,v14,v15,v16,w2,w3) =>
 cond (decide (v16<v15)) (
  chk (inb v16 v14.length) (
  chk (inb v16 v12.length) (
   cond (!decide (((at' .exprs v14 v16).length:Int)=((at' .exprs v12 v16).length:Int))) (
   kx .ret (v12,false,v14,v15,v16,w2,w3)) (
   A0 (fun rc=>O0 rc (fun e vz=>match vz with|(_,v23,_,_,_,v27,v28)=>match e with
    |.ret =>
    cond (!v23) (
     kx .ret (v12,false,v14,v15,v16,v27,v28)) (
     rec (v12,v13,v14,v15,(wr .i64 (v16+1)),v27,v28))
    |.exit 0 =>
    rec (v12,v13,v14,v15,(wr .i64 (v16+1)),v27,v28)
    |_=>none)) k ((at' .exprs v12 v16),false,(at' .exprs v14 v16),((at' .exprs v14 v16).length:Int),0,w2,w3))))) (
  kx (.exit 0) (v12,v13,v14,v15,v16,w2,w3))
def Z9:Sig:=⟨32,[(1,.sl .expr false),(6,.bool),(15,.sl .expr false),(16,.int .i64),(17,.int .i64)],[(2,.fn 20 [])],[(0,.one (.sv .stmt)),(1,.one (.sv .stmt))],40,40,200,[],[]⟩
abbrev Iq:=List Xpr×Bool×List Xpr×Int×Int×Stm×Stm
def P4{R:Type}(rec:Iq→Option R) (kx:Ex→Iq→Option R) (v:Iq):Option R:=match v with
 |(v,v1,v2,v3,v4,w,w1) =>
 cond (decide (v4<v3)) (
  chk (inb v4 v2.length) (
  chk (inb v4 v.length) (
   cond (!(Aap (at' .expr v2 v4) (at' .expr v v4))) (
   kx .ret (v,false,v2,v3,v4,w,w1)) (
   rec (v,v1,v2,v3,(wr .i64 (v4+1)),w,w1))))) (
  kx (.exit 0) (v,v1,v2,v3,v4,w,w1))
def Jl(R:Type) (k:Nat):Px R:=⟨Bd ttL,glT,Au [(20,As [.sv .expr,.sv .expr] [.bool] Abm)],Am [],Aw [(4,Be k Z9 (P4))],tbl []⟩
def E8(R:Type) (k:Nat):Px R:=⟨Bd ttL,glT,Au [(20,As [.sv .expr,.sv .expr] [.bool] Abm)],Am [],Aw [(4,Be k Aa0 (O0))],tbl []⟩
noncomputable def M3 (R:Type) (k:Nat):Px R:=⟨Bd ttL,glT,Au [(47,Bg 120 600 (E8 R k) Tryz.f47)],Am [],Aw [],tbl []⟩
noncomputable def Jh (R:Type) (k:Nat):Px R:=⟨Bd ttL,glT,Au [(79,Bg 80 600 (M3 R k) Tryz.f79)],Am [],Aw [(4,Be k Aaq (Pc k))],tbl []⟩
def Mx(R:Type) (_k:Nat):Px R:=⟨Bd ttL,glT,Au [(20,As [.sv .expr,.sv .expr] [.bool] Abm)],Am [],Aw [],tbl []⟩
noncomputable def Jk (R:Type) (k:Nat):Px R:=⟨Bd ttL,glT,Au [(81,Bg 80 800 (Mx R k) Tryz.f81)],Am [],Aw [(4,Be k Yw (Po))],tbl []⟩
noncomputable def T9 (R:Type) (k:Nat):Px R:=⟨Bd ttL,glT,Au [(20,As [.sv .expr,.sv .expr] [.bool] Abm),(75,As [.sl .col false,.sl .col false] [.bool] A1t),(76,As [.sl .str false,.sl .str false] [.bool] Az3),(77,As [.sl .bool false,.sl .bool false] [.bool] Az5),(47,Bg 40 200 (Jl R k) Tryz.f47),(78,Bg 40 400 (Jh R k) Tryz.f78),(80,Bg 40 600 (Jk R k) Tryz.f80)],Am [],Aw [],tbl []⟩
theorem Awd(R:Type) (k:Nat):∀(fr:List Fr) (rec:Iq→Option R) (kx:Ex→Iq→Option R) (v:Iq),Bn (Jl R k) Z9 (lp Tryz.f47 0) fr rec kx v=P4 rec kx v
 |fr,rec,kx,(v,v1,v2,v3,v4,w,w1)=>by kernel_rfl
theorem Avx(R:Type) (k:Nat):∀(fr:List Fr) (rec:Im→Option R) (kx:Ex→Im→Option R) (v:Im),Bn (E8 R k) Aa0 (lp Tryz.f47 0) fr rec kx v=O0 rec kx v
 |fr,rec,kx,(v17,v18,v19,v20,v21,w4,w5)=>by kernel_rfl
theorem Au4(R:Type) (k:Nat):∀(fr:List Fr) (rec:Iz→Option R) (kx:Ex→Iz→Option R) (v:Iz),Bn (Jh R k) Aaq (lp Tryz.f78 0) fr rec kx v=Pc k rec kx v
 |fr,rec,kx,(v12,v13,v14,v15,v16,w2,w3)=>by kernel_rfl
theorem Ax6(R:Type) (k:Nat):∀(fr:List Fr) (rec:Iv→Option R) (kx:Ex→Iv→Option R) (v:Iv),Bn (Jk R k) Yw (lp Tryz.f80 0) fr rec kx v=Po rec kx v
 |fr,rec,kx,(v36,v37,v38,v39,v40)=>by kernel_rfl
def Ri(k:Nat) (x:HV [.sv .stmt,.sv .stmt]):Option (HV [.bool]):=match x with
 |(a,b) =>
 let j9:=fun(p6:Bool) =>
  let j8:=fun(p13:Bool) (q6:Stm) (q7:Stm) =>
  let j7:=fun(p14:Bool) =>
   let j6:=fun(p23:Bool) (q24:Stm) (q25:Stm) =>
   cond (p23) (
    cond (!decide ((q24.sets.length:Int)=(q25.sets.length:Int))) (
    some false) (
    A0 (fun rec=>Po rec (fun e vz=>match vz with|(_,v42,_,_,_)=>match e with
     |.ret =>
     some v42
     |.exit 0 =>
     some true
     |_=>none)) k (q25.sets,false,q24.sets,(q24.sets.length:Int),0))) (
    some false)
   cond (p14) (
   cond (!decide ((q6.rows.length:Int)=(q7.rows.length:Int))) (
    j6 false q6 q7) (
    A0 (fun rec=>Pc k rec (fun e vz=>match vz with|(_,v30,_,_,_,v34,v35)=>match e with
    |.ret =>
     j6 v30 v34 v35
    |.exit 0 =>
     j6 true v34 v35
    |_=>none)) k (q7.rows,false,q6.rows,(q6.rows.length:Int),0,q6,q7))) (
   j6 false q6 q7)
  cond (p6) (
   j7 p13) (
   j7 false)
  let j5:=fun(p7:Bool) =>
  let j4:=fun(p8:Bool) =>
   let j3:=fun(p9:Bool) =>
   cond (p9) (
    cond (!decide ((a.l.length:Int)=(b.l.length:Int))) (
    j8 false a b) (
    A0 (fun rec=>P4 rec (fun e vz=>match vz with|(_,v6,_,_,_,v10,v11)=>match e with
     |.ret =>
     j8 v6 v10 v11
     |.exit 0 =>
     j8 true v10 v11
     |_=>none)) k (b.l,false,a.l,(a.l.length:Int),0,a,b))) (
    j8 false a b)
   cond (p8) (
   j3 (Bkj a.desc b.desc)) (
   j3 false)
  cond (p7) (
   j4 (Beb a.order b.order)) (
   j4 false)
  cond ((Blb a.cols b.cols)) (
  j5 (Beb a.names b.names)) (
  j5 false)
 let j2:=fun(p:Bool) =>
  let j1:=fun(p1:Bool) =>
  let j:=fun(p2:Bool) =>
   cond (p2) (
   cond (decide (a.most=b.most)) (
    j9 (Aap (Ng a.whr) (Ng b.whr))) (
    j9 false)) (
   j9 false)
  cond (p1) (
   j (decide (a.has=b.has))) (
   j false)
  cond (p) (
  j1 (decide (a.on=b.on))) (
  j1 false)
 cond (decide (a.kind=b.kind)) (
  j2 (decide (a.name=b.name))) (
  j2 false)
theorem A6r(k:Nat):∀(x:HV [.sv .stmt,.sv .stmt]),Cs (T9 _ k) Tryz.f27 [.sv .stmt,.sv .stmt] [.bool] x some=Ri k x
 |(a,b)=>by kernel_rfl
theorem Ay7(k:Nat):FnOk Tryz.prog elT glT 27 [.sv .stmt,.sv .stmt] [.bool] (Ri k):=by
 refine A3 Tryz.func27 rfl (by kernel_rfl) follows (by kernel_rfl) (n:=0) (by kernel_rfl) (px:=T9 _ k) (fun cx hP hel hgl =>?_) (A6r k)
 have hp1:PxOk cx (Jl (HV [.bool]) k):=⟨fun t=>by rw [hP,hel];exact Av An t,by rw [hgl];rfl⟩
 have hc1:Al cx (Jl (HV [.bool]) k):=Af rfl (Aa (A7 (by rw [hP,hel,hgl];exact Yz) (by kernel_rfl)) Aj)
 have hq1:CallQOk cx (Jl (HV [.bool]) k):=Ab rfl rfl Ah Ae
 have hlastmts_0:A8 cx (Jl (HV [.bool]) k) (lp Tryz.f47 0):=Ba hp1 hc1 hq1 (by rw [hP];exact follows) (k:=k) (s:=Z9) (step:=P4) (fun _ _=>by kernel_rfl) (by kernel_rfl) (Awd _ k) (Az (n:=0) (by kernel_rfl) Ay)
 have hp4:PxOk cx (E8 (HV [.bool]) k):=⟨fun t=>by rw [hP,hel];exact Av An t,by rw [hgl];rfl⟩
 have hc4:Al cx (E8 (HV [.bool]) k):=Af rfl (Aa (A7 (by rw [hP,hel,hgl];exact Yz) (by kernel_rfl)) Aj)
 have hq4:CallQOk cx (E8 (HV [.bool]) k):=Ab rfl rfl Ah Ae
 have hlastmts_2:A8 cx (E8 (HV [.bool]) k) (lp Tryz.f47 0):=Ba hp4 hc4 hq4 (by rw [hP];exact follows) (k:=k) (s:=Aa0) (step:=O0) (fun _ _=>by kernel_rfl) (by kernel_rfl) (Avx _ k) (Az (n:=0) (by kernel_rfl) Ay)
 have hp3:PxOk cx (M3 (HV [.bool]) k):=⟨fun t=>by rw [hP,hel];exact Av An t,by rw [hgl];rfl⟩
 have hc3:Al cx (M3 (HV [.bool]) k):=Af rfl (Aa (Bv hp4 hc4 hq4 (by rw [hP];exact follows) (by rw [hP];exact Tryz.func47) rfl (by kernel_rfl) (by kernel_rfl) (n:=1) (by kernel_rfl) ((Cj Ay hlastmts_2))) Aj)
 have hq3:CallQOk cx (M3 (HV [.bool]) k):=Ab rfl rfl Ah Ae
 have hp2:PxOk cx (Jh (HV [.bool]) k):=⟨fun t=>by rw [hP,hel];exact Av An t,by rw [hgl];rfl⟩
 have hc2:Al cx (Jh (HV [.bool]) k):=Af rfl (Aa (Bv hp3 hc3 hq3 (by rw [hP];exact follows) (by rw [hP];exact Tryz.func79) rfl (by kernel_rfl) (by kernel_rfl) (n:=0) (by kernel_rfl) (Ay)) Aj)
 have hq2:CallQOk cx (Jh (HV [.bool]) k):=Ab rfl rfl Ah Ae
 have hlastmts_1:A8 cx (Jh (HV [.bool]) k) (lp Tryz.f78 0):=Ba hp2 hc2 hq2 (by rw [hP];exact follows) (k:=k) (s:=Aaq) (step:=Pc k) (fun _ _=>by kernel_rfl) (by kernel_rfl) (Au4 _ k) (Az (n:=0) (by kernel_rfl) Ay)
 have hp6:PxOk cx (Mx (HV [.bool]) k):=⟨fun t=>by rw [hP,hel];exact Av An t,by rw [hgl];rfl⟩
 have hc6:Al cx (Mx (HV [.bool]) k):=Af rfl (Aa (A7 (by rw [hP,hel,hgl];exact Yz) (by kernel_rfl)) Aj)
 have hq6:CallQOk cx (Mx (HV [.bool]) k):=Ab rfl rfl Ah Ae
 have hp5:PxOk cx (Jk (HV [.bool]) k):=⟨fun t=>by rw [hP,hel];exact Av An t,by rw [hgl];rfl⟩
 have hc5:Al cx (Jk (HV [.bool]) k):=Af rfl (Aa (Bv hp6 hc6 hq6 (by rw [hP];exact follows) (by rw [hP];exact Tryz.func81) rfl (by kernel_rfl) (by kernel_rfl) (n:=0) (by kernel_rfl) (Ay)) Aj)
 have hq5:CallQOk cx (Jk (HV [.bool]) k):=Ab rfl rfl Ah Ae
 have hlastmts_3:A8 cx (Jk (HV [.bool]) k) (lp Tryz.f80 0):=Ba hp5 hc5 hq5 (by rw [hP];exact follows) (k:=k) (s:=Yw) (step:=Po) (fun _ _=>by kernel_rfl) (by kernel_rfl) (Ax6 _ k) (Az (n:=0) (by kernel_rfl) Ay)
 have hp0:PxOk cx (T9 (HV [.bool]) k):=⟨fun t=>by rw [hP,hel];exact Av An t,by rw [hgl];rfl⟩
 have hc0:Al cx (T9 (HV [.bool]) k):=Af rfl (Aa (A7 (by rw [hP,hel,hgl];exact Yz) (by kernel_rfl)) (Aa (A7 (by rw [hP,hel,hgl];exact Bkb) (by kernel_rfl)) (Aa (A7 (by rw [hP,hel,hgl];exact Big) (by kernel_rfl)) (Aa (A7 (by rw [hP,hel,hgl];exact Bko) (by kernel_rfl)) (Aa (Bv hp1 hc1 hq1 (by rw [hP];exact follows) (by rw [hP];exact Tryz.func47) rfl (by kernel_rfl) (by kernel_rfl) (n:=1) (by kernel_rfl) ((Cj Ay hlastmts_0))) (Aa (Bv hp2 hc2 hq2 (by rw [hP];exact follows) (by rw [hP];exact Tryz.func78) rfl (by kernel_rfl) (by kernel_rfl) (n:=1) (by kernel_rfl) ((Cj Ay hlastmts_1))) (Aa (Bv hp5 hc5 hq5 (by rw [hP];exact follows) (by rw [hP];exact Tryz.func80) rfl (by kernel_rfl) (by kernel_rfl) (n:=1) (by kernel_rfl) ((Cj Ay hlastmts_3))) Aj)))))))
 have hq0:CallQOk cx (T9 (HV [.bool]) k):=Ab rfl rfl Ah Ae
 exact⟨hp0,hc0,hq0,Ay⟩
def A0d(a b:Stm):Bool:=Akt a b
def Avf:FT [.sv .stmt,.sv .stmt] [.bool]:=fun x=>some (A0d x.1 x.2)
theorem Af3{α:Type} [DecidableEq α] (x y : α) (l m:List α):decide (x::l=y::m)=(decide (x=y)&&decide (l=m)):=by
 simp only [Ze2,Bool.decide_and]
theorem Aop{R:Type}{kx:Ex→Iq→Option R}{l m:List Xpr}{s t:Stm}{c:Bool→Option R}(hn:ln l.length) (hm:l.length=m.length)
  (h1:∀i,kx .ret (m,false,l,(l.length:Int),i,s,t)=c false) (h2:∀q i,kx (.exit 0) (m,q,l,(l.length:Int),i,s,t)=c true) (k:Nat) (hk:l.length<k):A0 (fun rec=>P4 rec kx) k (m,false,l,(l.length:Int),0,s,t)=c (decide (l=m)):=by
 refine(Dk l.length (fun i=>(m,false,l,(l.length:Int),(i:Int),s,t)) (fun i=>c (decide (l.drop i=m.drop i))) (fun i hi rec hr =>?_) (fun rec =>?_) k 0 (Nat.zero_le _) (by omega)).trans (by rw [Zq1,Zq1])
 ·have hi2:i<m.length:=by omega
  simp only [P4,Gm hi,Ai,Bl hi,Bl hi2,chk,Bk (c :=.expr) hi,Bk (c :=.expr) hi2,Bf hi hn,hr,h1,Bb hi,Bb hi2,Af3,Aap,Mb]
  cases decide (l[i]=m[i])<;>rfl
 ·simp only [P4,Gh,Ak,h2]
  rw [Zk1 (Zn1 _),Zk1 (by omega)]
  rfl
theorem Aon{R:Type}{kx:Ex→Im→Option R}{l m:List Xpr}{s t:Stm}{c:Bool→Option R}(hn:ln l.length) (hm:l.length=m.length)
  (h1:∀i,kx .ret (m,false,l,(l.length:Int),i,s,t)=c false) (h2:∀q i,kx (.exit 0) (m,q,l,(l.length:Int),i,s,t)=c true) (k:Nat) (hk:l.length<k):A0 (fun rec=>O0 rec kx) k (m,false,l,(l.length:Int),0,s,t)=c (decide (l=m)):=by
 refine(Dk l.length (fun i=>(m,false,l,(l.length:Int),(i:Int),s,t)) (fun i=>c (decide (l.drop i=m.drop i))) (fun i hi rec hr =>?_) (fun rec =>?_) k 0 (Nat.zero_le _) (by omega)).trans (by rw [Zq1,Zq1])
 ·have hi2:i<m.length:=by omega
  simp only [O0,Gm hi,Ai,Bl hi,Bl hi2,chk,Bk (c :=.expr) hi,Bk (c :=.expr) hi2,Bf hi hn,hr,h1,Bb hi,Bb hi2,Af3,Aap,Mb]
  cases decide (l[i]=m[i])<;>rfl
 ·simp only [O0,Gh,Ak,h2]
  rw [Zk1 (Zn1 _),Zk1 (by omega)]
  rfl
theorem Aoq{R:Type}{kx:Ex→Iz→Option R}{l m:List (List Xpr)}{s t:Stm}{c:Bool→Option R}(hn:ln l.length) (hm:l.length=m.length) (hr0:∀x,x∈l→ln x.length) (k:Nat) (hkr:∀x,x∈l→List.length x<k)
  (h1:∀i,kx .ret (m,false,l,(l.length:Int),i,s,t)=c false) (h2:∀q i,kx (.exit 0) (m,q,l,(l.length:Int),i,s,t)=c true) (hk:l.length<k):A0 (fun rec=>Pc k rec kx) k (m,false,l,(l.length:Int),0,s,t)=c (decide (l=m)):=by
 refine(Dk l.length (fun i=>(m,false,l,(l.length:Int),(i:Int),s,t)) (fun i=>c (decide (l.drop i=m.drop i))) (fun i hi rec hr =>?_) (fun rec =>?_) k 0 (Nat.zero_le _) (by omega)).trans (by rw [Zq1,Zq1])
 ·have hi2:i<m.length:=by omega
  simp only [Pc,Gm hi,Ai,Bl hi,Bl hi2,chk,Bk (c :=.exprs) hi,Bk (c :=.exprs) hi2,Bf hi hn,Bb hi,Bb hi2,Af3]
  by_cases hlen:l[i].length=m[i].length
  ·rw [Ze1 (show(l[i].length:Int)=(m[i].length:Int) by omega),Zt1,Ak]
   rw [Aon (c:=fun b=>cond b (c (decide (l.drop (i+1)=m.drop (i+1)))) (c false)) (hr0 _ (List.getElem_mem hi)) hlen (fun _=>h1 _) (fun _ _=>hr) k (hkr _ (List.getElem_mem hi))]
   cases decide (l[i]=m[i])<;>rfl
  ·rw [Zd1 (show ¬(l[i].length:Int)=(m[i].length:Int) by omega),Zd1 (fun h=>hlen (by rw [h])),h1]
   rfl
 ·simp only [Pc,Gh,Ak,h2]
  rw [Zk1 (Zn1 _),Zk1 (by omega)]
  rfl
theorem Ao0{R:Type}{kx:Ex→Iv→Option R}{l m:List SetE}{c:Bool→Option R}(hn:ln l.length) (hm:l.length=m.length)
  (h1:∀i,kx .ret (m,false,l,(l.length:Int),i)=c false) (h2:∀q i,kx (.exit 0) (m,q,l,(l.length:Int),i)=c true) (k:Nat) (hk:l.length<k):A0 (fun rec=>Po rec kx) k (m,false,l,(l.length:Int),0)=c (decide (l=m)):=by
 refine(Dk l.length (fun i=>(m,false,l,(l.length:Int),(i:Int))) (fun i=>c (decide (l.drop i=m.drop i))) (fun i hi rec hr =>?_) (fun rec =>?_) k 0 (Nat.zero_le _) (by omega)).trans (by rw [Zq1,Zq1])
 ·have hi2:i<m.length:=by omega
  simp only [Po,Gm hi,Ai,Bl hi,Bl hi2,chk,Bk (c :=.set) hi,Bk (c :=.set) hi2,Bf hi hn,hr,h1,Bb hi,Bb hi2,Af3,Aap,←Auo,Atz,H7]
  cases decide (l[i].name=m[i].name)<;>cases Je l[i].e m[i].e<;>rfl
 ·simp only [Po,Gh,Ak,h2]
  rw [Zk1 (Zn1 _),Zk1 (by omega)]
  rfl
theorem At8{α:Type} [DecidableEq α] {l m:List α}(h:¬l.length=m.length):decide (l=m)=false:=Zd1 fun e=>h (by rw [e])
def Biv(s:Stm):Nat:=s.l.length+s.rows.length+s.sets.length+(s.rows.map List.length).sum
theorem A3y{l:List (List Xpr)}{x:List Xpr}(h:x∈l):x.length≤(l.map List.length).sum:=by
 induction l with
 |nil=>cases h
 |cons y l ih =>
  simp only [Zw1,List.sum_cons]
  rcases List.mem_cons.1 h with rfl|h
  ·omega
  ·have:=ih h;omega
theorem Bgo(k:Nat) (a b:Stm) (hb:BdStm a) (hk:Biv a<k):Ri k (a,b)=some (Akt a b):=by
 have hk2:=hk
 simp only [Biv] at hk2
 simp -zeta only [Ri,Aap,Mb,H7,Blb,Beb,Bkj]
 extract_lets j6 j9 j j1 j2
 have h6:∀q,j6 q a b=some (q&&decide (a.sets=b.sets)):=fun q=>by
  simp -zeta only [j6]
  cases q with
  |false=>rfl
  |true =>
   rw [Ai,Bool.true_and]
   by_cases hs:a.sets.length=b.sets.length
   ·rw [Ze1 (show(a.sets.length:Int)=(b.sets.length:Int) by omega),Zt1,Ak]
    exact Ao0 (c:=some) hb.sets.1 hs (fun _=>rfl) (fun _ _=>rfl) k (by omega)
   ·rw [Zd1 (show ¬(a.sets.length:Int)=(b.sets.length:Int) by omega),At8 hs]
    rfl
 have h9:∀p,j9 p=some (p&&(decide (a.cols=b.cols)&&decide (a.names=b.names)&&decide (a.order=b.order)&&decide (a.desc=b.desc)&&decide (a.l=b.l))&&decide (a.rows=b.rows)&&decide (a.sets=b.sets)):=fun p=>by
  simp -zeta only [j9]
  extract_lets j8 j3 j4 j5
  have h8:∀q,j8 q a b=some (p&&q&&decide (a.rows=b.rows)&&decide (a.sets=b.sets)):=fun q=>by
   simp -zeta only [j8]
   extract_lets j7
   have h7:∀q,j7 q=some (q&&decide (a.rows=b.rows)&&decide (a.sets=b.sets)):=fun q=>by
    simp -zeta only [j7]
    cases q with
    |false=>exact(h6 false).trans rfl
    |true =>
     rw [Ai,Bool.true_and]
     by_cases hs:a.rows.length=b.rows.length
     ·rw [Ze1 (show(a.rows.length:Int)=(b.rows.length:Int) by omega),Zt1,Ak]
      refine(Aoq (c:=fun q=>j6 q a b) hb.rows.1 hs (fun x hx=>(hb.rows.2 x hx).1) k (fun x hx=>by have:=A3y hx;omega) (fun _=>rfl) (fun _ _=>rfl) (by omega)).trans (h6 _)
     ·rw [Zd1 (show ¬(a.rows.length:Int)=(b.rows.length:Int) by omega),At8 hs]
      exact(h6 false).trans rfl
   cases p with
   |false=>exact(h7 false).trans rfl
   |true=>exact(h7 q).trans (by rw [Bool.true_and])
  have h3:∀q,j3 q=some (p&&(q&&decide (a.l=b.l))&&decide (a.rows=b.rows)&&decide (a.sets=b.sets)):=fun q=>by
   simp -zeta only [j3]
   cases q with
   |false=>exact h8 false
   |true =>
    rw [Ai,Bool.true_and]
    by_cases hs:a.l.length=b.l.length
    ·rw [Ze1 (show(a.l.length:Int)=(b.l.length:Int) by omega),Zt1,Ak]
     exact(Aop (c:=fun q=>j8 q a b) hb.l.1 hs (fun _=>rfl) (fun _ _=>rfl) k (by omega)).trans (h8 _)
    ·rw [Zd1 (show ¬(a.l.length:Int)=(b.l.length:Int) by omega),At8 hs]
     exact h8 false
  have h4:∀q,j4 q=some (p&&(q&&decide (a.desc=b.desc)&&decide (a.l=b.l))&&decide (a.rows=b.rows)&&decide (a.sets=b.sets)):=fun q=>by
   simp -zeta only [j4]
   cases q with
   |false=>exact h3 false
   |true=>exact(h3 _).trans (by rw [Bool.true_and])
  have h5:∀q,j5 q=some (p&&(q&&decide (a.order=b.order)&&decide (a.desc=b.desc)&&decide (a.l=b.l))&&decide (a.rows=b.rows)&&decide (a.sets=b.sets)):=fun q=>by
   simp -zeta only [j5]
   cases q with
   |false=>exact h4 false
   |true=>exact(h4 _).trans (by rw [Bool.true_and])
  cases decide (a.cols=b.cols) with
  |false=>exact h5 false
  |true=>exact(h5 _).trans (by simp only [Bool.true_and])
 simp -zeta only [j2,j1,j,Akt]
 cases decide (a.kind=b.kind) with
 |false=>exact(h9 false).trans rfl
 |true =>
  cases decide (a.name=b.name) with
  |false=>exact(h9 false).trans rfl
  |true =>
   cases decide (a.on=b.on) with
   |false=>exact(h9 false).trans rfl
   |true =>
    cases decide (a.has=b.has) with
    |false=>exact(h9 false).trans rfl
    |true =>
     cases decide (a.most=b.most) with
     |false=>exact(h9 false).trans rfl
     |true=>exact(h9 _).trans (by simp only [Bool.true_and])
theorem Bbi:FnOk Tryz.prog elT glT 27 [.sv .stmt,.sv .stmt] [.bool] Avf :=.fin 0 Ay7 fun(a,b) r hb hx=>⟨Biv a+1,(Bgo (Biv a+1) a b hb.1 (by omega)).trans hx⟩
end Go.Proofs.YthndhaolemgbdaaGreatDoor
