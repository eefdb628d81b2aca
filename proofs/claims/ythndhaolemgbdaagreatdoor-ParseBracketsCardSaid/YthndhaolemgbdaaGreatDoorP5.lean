/- Texts of the proof,one behind the other: Tw,Pa,Lc,Na,Lm,Ar,Shp,Sr,Dg,Nc,Eb,Fc,Es,Ix,En,Ep,Ac. -/
import Derived.Test.YthndhaolemgbdaaGreatDoorP4
import Derived.Test.YthndhaolemgbdaaGreatDoorProg
import Derived.KernelRfl
import Derived.Lib.Bytealg
import Derived.Shelf.Strings.Replace
set_option linter.all false
namespace Go.Proofs.YthndhaolemgbdaaGreatDoor
open Go.Ax
def signsL:List (Int×Str):=[(4,[65,78,68]),(5,[79,82]),(6,[61]),(7,[60,62]),(8,[60]),(9,[60,61]),(10,[62]),(11,[62,61]),(12,[43]),(13,[45]),(14,[42])]
def wordsL:List Str:=[[65,68,68],[65,78,68],[65,83,67],[66,79,79,76],[66,89],[66,89,84,69,83],[67,72,69,67,75],[67,82,69,65,84,69],[68,69,76,69,84,69],[68,69,83,67],[68,82,79,80],[70,65,76,83,69],[70,82,79,77],[73,78,68,69,88],[73,78,83,69,82,84],[73,78,84],[73,78,84,79],[73,83],[75,69,89],[76,73,77,73,84],[78,79,84],[78,85,76,76],[79,78],[79,82],[79,82,68,69,82],[80,82,73,77,65,82,89],[82,69,70,69,82,69,78,67,69,83],[83,69,76,69,67,84],[83,69,84],[84,65,66,76,69],[84,69,88,84],[84,82,85,69],[85,78,73,81,85,69],[85,80,68,65,84,69],[86,65,76,85,69,83],[87,72,69,82,69]]
def Am4:List Str:=[[],[],[66,79,79,76],[73,78,84],[84,69,88,84],[66,89,84,69,83]]
def ttL:List (Nat×Ax.Ty):=[
 (1,.fn),
 (3,.int .i64),
 (4,.bool),
 (5,.int .u8),
 (9,.str),
 (21,.int .i32),
 (23,.st (some .val) [(0,3),(1,3),(2,9)] [.int .i64 0,.int .i64 0,.str []]),
 (24,.sl .expr),
 (26,.st (some .expr) [(0,3),(1,23),(4,9),(5,24)] [.int .i64 0,.int .i64 0,.int .i64 0,.str [],.str [],.sl .expr [] .nil]),
 (29,.int .i64),
 (34,.sl .str),
 (38,.fn),
 (39,.sl .col),
 (40,.sl .exprs),
 (41,.sl .set),
 (42,.sl .bool),
 (44,.st (some .stmt) [(0,3),(1,9),(2,9),(3,39),(4,34),(5,24),(6,40),(7,41),(8,4),(9,26),(15,34),(16,42),(17,3)] [.int .i64 0,.str [],.str [],.sl .col [] .nil,.sl .str [] .nil,.sl .expr [] .nil,.sl .exprs [] .nil,.sl .set [] .nil,.bool false,.int .i64 0,.int .i64 0,.int .i64 0,.str [],.str [],.sl .expr [] .nil,.sl .str [] .nil,.sl .bool [] .nil,.int .i64 0]),
 (63,.sl .tok),
 (67,.st (some .tok) [(0,3),(1,3),(2,9),(3,3)] [.int .i64 0,.int .i64 0,.str [],.int .i64 0]),
 (68,.int .u64),
 (71,.sl .int),
 (77,.ptr),
 (78,.sl .byte),
 (80,.st none [(0,77),(1,78)] [.nilp,.sl .byte [] .nil]),
 (82,.st none [(0,80)] [.nilp,.sl .byte [] .nil]),
 (83,.fn),
 (89,.st (some .set) [(0,9),(1,26)] [.str [],.int .i64 0,.int .i64 0,.int .i64 0,.str [],.str [],.sl .expr [] .nil]),
 (94,.fn),
 (100,.st (some .num) [(0,4),(1,71)] [.bool false,.sl .int [] .nil]),
 (106,.fn),
 (111,.st (some .col) [(0,9),(1,3),(2,4),(3,4),(4,9)] [.str [],.int .i64 0,.bool false,.bool false,.str []]),
 (118,.fn),
 (120,.fn),
 (121,.ptr),
 (126,.st none [(0,63),(1,3)] [.sl .tok [] .nil,.int .i64 0]),
 (128,.st none [(0,126),(2,4),(3,3)] [.sl .tok [] .nil,.int .i64 0,.bool false,.int .i64 0]),
 (130,.st (some .got) [(0,3),(1,4)] [.int .i64 0,.bool false]),
 (135,.fn),
 (144,.fn),
 (145,.ptr),
 (147,.map),
 (148,.ptr),
 (158,.fn),
 (164,.ptr),
 (176,.st (some .pair) [(0,9),(1,3)] [.str [],.int .i64 0]),
 (188,.arr 2 .str),
 (191,.arr 6 .str),
 (194,.ptr),
 (201,.sl .pair),
 (202,.int .u64),
 (221,.arr 36 .str),
 (226,.arr 256 .byte),
 (228,.st none [(0,5),(1,5)] [.int .u8 0,.int .u8 0]),
 (230,.int .u32),
 (233,.fn)]
def elT:Ck→TypeId
 |.byte=>5
 |.int=>3
 |.u64=>202
 |.str=>9
 |.bool=>4
 |.val=>23
 |.tok=>67
 |.col=>111
 |.expr=>26
 |.num=>100
 |.set=>89
 |.stmt=>44
 |.got=>130
 |.pair=>176
 |.exprs=>24
 |.strs=>34
 |.bytes=>78
 |_=>0
theorem Al:(ttL.all fun p=>Dr Tryz.prog elT (A7 ttL) p.1)=true:=by kernel_rfl
def glT:Nat→Option Gv:=tbl [(0,.map signsL),(1,.arr .str Am4),(2,.arr .str wordsL),(3,.num .i64)]
theorem follows:Tryz.prog.follows .mixedOrders=true:=by kernel_rfl
end Go.Proofs.YthndhaolemgbdaaGreatDoor
namespace Go.Proofs.YthndhaolemgbdaaGreatDoor.Lp
open Go.Sx Go.RowKit
abbrev Tok:=Go.Ax.Tok
def pre(l m:List UInt8):Bool:=decide (m.length≤l.length)&&decide (l.take m.length=m)
theorem Aex(a b c d:Int) (h : 0≤a∧a≤c) (h' : 0≤b∧b≤d) : 0≤a*b∧a*b≤c*d :=
 ⟨Int.mul_nonneg h.1 h'.1,Int.mul_le_mul h.2 h'.2 h'.1 (by omega)⟩
theorem Ae5(x y:Int):x*y=(x / 4294967296)*(y / 4294967296)*18446744073709551616+((x / 4294967296)*(y % 4294967296)+(x % 4294967296)*(y / 4294967296))*4294967296+(x % 4294967296)*(y % 4294967296):=by
 have hx:=Int.mul_ediv_add_emod x 4294967296
 have hy:=Int.mul_ediv_add_emod y 4294967296
 generalize x / 4294967296=p at *
 generalize x % 4294967296=q at *
 generalize y / 4294967296=r at *
 generalize y % 4294967296=s at *
 rw [←hx,←hy]
 simp only [Int.add_mul,Int.mul_add]
 have e1 : 4294967296*p*(4294967296*r)=p*r*18446744073709551616:=by
  rw [Int.mul_assoc,Int.mul_left_comm p,←Int.mul_assoc]
  omega
 have e2 : 4294967296*p*s=p*s*4294967296:=by rw [Int.mul_assoc];omega
 have e3:q*(4294967296*r)=q*r*4294967296:=by rw [Int.mul_left_comm];omega
 omega
def inI(n:Int):Prop := -9223372036854775808≤n∧n≤9223372036854775807
instance (n:Int):Decidable (inI n):=by unfold inI;infer_instance
def O1(n:Int):Int:=if n<0 then -n else n
def vis(c:Int):Bool:=decide (32≤c)&&decide (c≤126)
def visF(l:List UInt8):Bool:=l.all fun b=>vis b.toNat
theorem Ays(l:List UInt8) (j:Int) (h : 0≤j∧j<l.length):l.drop j.toNat=l.getD j.toNat 0::l.drop (j+1).toNat:=by
 have h1:j.toNat<l.length:=by omega
 have h2:(j+1).toNat=j.toNat+1:=by omega
 rw [h2,List.drop_eq_getElem_cons h1]
 simp [List.getD_eq_getElem?_getD,h1]
theorem Ag4(p:Int→Bool) (l:List UInt8) (j:Int) (h : 0≤j∧j<l.length):((l.drop j.toNat).all fun b=>p b.toNat)=(p (byt l j)&&(l.drop (j+1).toNat).all fun b=>p b.toNat):=by
 rw [Ays l j h]
 rfl
def rightF(k n:Int) (s:List UInt8):Bool :=
 if k=1 then n == 0&&decide (s=[]) else if k=2 then(n == 0||n == 1)&&decide (s=[]) else if k=3 then decide (s=[])
 else if k=4 then n == 0&&decide ((s.length:Int)≤1000)&&visF s else if k=5 then n == 0&&decide ((s.length:Int)≤1000) else false
def Vd(k n:Int) (s:List UInt8):Int:=if rightF k n s then 0 else 2
def isUp(c:Int):Bool:=decide (65≤c)&&decide (c≤90)
def isLo(c:Int):Bool:=decide (97≤c)&&decide (c≤122)
def isDi(c:Int):Bool:=decide (48≤c)&&decide (c≤57)
def isIn(c:Int):Bool:=isLo c||isDi c||c == 95
def runTo(p:Int→Bool) (l:List UInt8) (i:Int):Int:=i+((l.drop i.toNat).takeWhile fun b=>p b.toNat).length
theorem Im(l:List UInt8) (j:Int) (h : 0≤j∧j<l.length):l.drop j.toNat=l.getD j.toNat 0::l.drop (j+1).toNat:=by
 have h1:j.toNat<l.length:=by omega
 have h2:(j+1).toNat=j.toNat+1:=by omega
 rw [h2,List.drop_eq_getElem_cons h1]
 simp [List.getD_eq_getElem?_getD,h1]
theorem runTo_yes{p:Int→Bool}{l:List UInt8}{j:Int}(h : 0≤j∧j<l.length) (hp:p (byt l j)=true):runTo p l (j+1)=runTo p l j:=by
 unfold runTo
 rw [Im l j h]
 have:p ((l.getD j.toNat 0).toNat:Int)=true:=hp
 simp only [List.takeWhile_cons,this,if_true,Zf1]
 omega
theorem runTo_no{p:Int→Bool}{l:List UInt8}{j:Int}(h : 0≤j∧j<l.length) (hp:p (byt l j)=false):runTo p l j=j:=by
 unfold runTo
 rw [Im l j h]
 have:p ((l.getD j.toNat 0).toNat:Int)=false:=hp
 simp only [List.takeWhile_cons,this,Zj2,if_false,Zi1]
 omega
theorem runTo_end{p:Int→Bool}{l:List UInt8}{j:Int}(h:(l.length:Int)≤j):runTo p l j=j:=by
 unfold runTo
 rw [Zk1 (by omega)]
 simp
def aloneF(l:List UInt8) (i:Int):Bool:=i == l.length || !isIn (byt l i) && !isUp (byt l i)
def dg(c:Int):Int:=IntKind.i64.wrap (IntKind.u8.wrap (c-48))
theorem Bht(c:Int) : 0≤dg c∧dg c≤255:=by
 have e1:IntKind.u8.wrap (c-48)=(c-48) % 256:=by simp [IntKind.wrap,IntKind.bits,IntKind.signed]
 unfold dg
 rw [e1,IntWalk.i64_in _ (by omega)]
 omega
theorem Bc3(c:Int) (h : 48≤c∧c≤303):dg c=c-48:=by
 have e1:IntKind.u8.wrap (c-48)=(c-48) % 256:=by simp [IntKind.wrap,IntKind.bits,IntKind.signed]
 unfold dg
 rw [e1,IntWalk.i64_in _ (by omega)]
 omega
def numGo:List UInt8→Int→Option Int
 |[],n=>some n
 |c::r,n=>if inI (n*10)∧inI (n*10+dg c.toNat) then numGo r (n*10+dg c.toNat) else none
theorem inI_dg(c:Int):inI (dg c):=by have:=Bht c;unfold inI;omega
def qGo:List UInt8→List UInt8→Int→List UInt8×Int
 |[],_,_=>([], -1)
 |[c],acc,i=>if c=39 then(acc,i+1) else([], -1)
 |c::d::r,acc,i=>if c=39 then(if d=39 then qGo r (acc++[39]) (i+2) else(acc,i+1)) else qGo (d::r) (acc++[c]) (i+1)
theorem Yy{l:List UInt8}{j:Int}{c:UInt8}:byt l j=(c.toNat:Int)↔l.getD j.toNat 0=c:=by
 unfold byt
 rw [←UInt8.toNat_inj]
 omega
theorem q_end{l acc:List UInt8}{j:Int}(h:(l.length:Int)≤j):qGo (l.drop j.toNat) acc j=([], -1):=by
 rw [Zk1 (by omega)]
 rfl
theorem q_last{l acc:List UInt8}{j:Int}(h : 0≤j) (hl:j+1=l.length) (hc:byt l j=39):qGo (l.drop j.toNat) acc j=(acc,j+1):=by
 rw [Im l j (by omega),(Yy (c:=39)).1 hc,Zk1 (by omega)]
 rfl
theorem q_close{l acc:List UInt8}{j:Int}(h : 0≤j) (hl:j+1<l.length) (hc:byt l j=39) (hd:byt l (j+1)≠39):qGo (l.drop j.toNat) acc j=(acc,j+1):=by
 have hd':¬l.getD (j+1).toNat 0=39:=fun hh=>hd ((Yy (c:=39)).2 hh)
 rw [Im l j (by omega),(Yy (c:=39)).1 hc,Im l (j+1) (by omega)]
 simp only [qGo,if_true,if_neg hd']
theorem q_two{l acc:List UInt8}{j:Int}(h : 0≤j) (hl:j+1<l.length) (hc:byt l j=39) (hd:byt l (j+1)=39):qGo (l.drop j.toNat) acc j=qGo (l.drop (j+1+1).toNat) (acc++[39]) (j+1+1):=by
 rw [Im l j (by omega),(Yy (c:=39)).1 hc,Im l (j+1) (by omega),(Yy (c:=39)).1 hd]
 simp only [qGo,if_true]
 rw [show j+2=j+1+1 by omega]
theorem q_other{l acc:List UInt8}{j:Int}(h : 0≤j) (hl:j<l.length) (hc:¬byt l j=39):qGo (l.drop j.toNat) acc j=qGo (l.drop (j+1).toNat) (acc++[l.getD j.toNat 0]) (j+1):=by
 have hc':¬l.getD j.toNat 0=39:=fun hh=>hc ((Yy (c:=39)).2 hh)
 rw [Im l j (by omega)]
 cases hd:l.drop (j+1).toNat with
 |nil=>simp only [qGo,if_neg hc']
 |cons d r=>simp only [qGo,if_neg hc']
def hexD(c:Int):Option Int:=if 48≤c∧c≤57 then some (c-48) else if 97≤c∧c≤102 then some (c-87) else none
theorem hexD_lt{c n:Int}(h:hexD c=some n) : 0≤n∧n≤15:=by
 unfold hexD at h
 split at h
 ·cases h;omega
 ·split at h
  ·cases h;omega
  ·cases h
def unGo:List UInt8→List UInt8→Option (List UInt8)
 |[],acc=>some acc
 |[_],_=>none
 |a::b::r,acc=>match hexD a.toNat,hexD b.toNat with
  |some x,some y=>unGo r (acc++[UInt8.ofNat (x*16+y).toNat])
  |_,_=>none
theorem Bbu:∀a b:Fin 16,IntKind.u8.wrap (((BitVec.ofInt IntKind.u8.bits (IntKind.u8.wrap ((a.val:Int)*2 ^ min (4:Int).toNat IntKind.u8.bits)) ||| BitVec.ofInt IntKind.u8.bits (b.val:Int)).toNat:Nat):Int)=((a.val*16+b.val:Nat):Int):=by decide +kernel
theorem joinhex'{x y:Int}(hx : 0≤x∧x≤15) (hy : 0≤y∧y≤15):IntKind.u8.wrap (((BitVec.ofInt IntKind.u8.bits (IntKind.u8.wrap (x*2 ^ min (4:Int).toNat IntKind.u8.bits)) ||| BitVec.ofInt IntKind.u8.bits y).toNat:Nat):Int)=((UInt8.ofNat (x*16+y).toNat).toNat:Int):=by
 obtain⟨a,rfl⟩:=Int.eq_ofNat_of_zero_le hx.1
 obtain⟨b,rfl⟩:=Int.eq_ofNat_of_zero_le hy.1
 have:=Bbu ⟨a,by omega⟩ ⟨b,by omega⟩
 simp only at this
 rw [this]
 rw [show((a:Int)*16+(b:Int)).toNat=a*16+b by omega,UInt8.toNat_ofNat']
 omega
theorem un_step{l acc:List UInt8}{j:Int}(h : 0≤j) (hl:j+1<l.length):unGo (l.drop j.toNat) acc=match hexD (byt l j),hexD (byt l (j+1)) with
  |some x,some y=>unGo (l.drop (j+2).toNat) (acc++[UInt8.ofNat (x*16+y).toNat])
  |_,_=>none:=by
 rw [Im l j (by omega),Im l (j+1) (by omega),show j+1+1=j+2 by omega]
 rfl
def signs:List UInt8:=[40,41,44,42,61,60,62,43,45,59]
def signF(l:List UInt8):Int:=if pre l [60,62]||pre l [60,61]||pre l [62,61] then 2 else if 0≤Lib.indexByte signs (byt l 0).toNat.toUInt8 then 1 else 0
def idx(x:List UInt8):List (List UInt8)→Int→Int
 |[],_ => -1
 |l::r,i=>if x=l then i else idx x r (i+1)
theorem idx_ge(x:List UInt8):∀(ls:List (List UInt8)) (i:Int),0≤i→(0≤idx x ls i↔x∈ls)
 |[],i,_=>by simp [idx]
 |l::r,i,h=>by
  by_cases hx:x=l
  ·simp [idx,hx,h]
  ·simp [idx,hx,idx_ge x r (i+1) (by omega)]
def wordF(l:List UInt8):Bool:=wordsL.contains l
def nameF(l:List UInt8):Bool := !decide (l=[])&&decide ((l.length:Int)≤30)&&isLo (byt l 0)&&(runTo isIn l 0 == l.length)
def tokF(l:List UInt8) (i:Int):Option (Int×List UInt8×Int×Int) :=
 if pre (l.drop i.toNat) [120,39] then
  let n:=Lib.indexByte (l.drop (i+2).toNat) 39
  if n<0 then none else
  let x:=cut l (i+2) (i+2+n)
  match(if x.length % 2=0 then unGo x [] else none) with
  |none=>none
  |some b=>if 1000<(b.length:Int) then none else some (5,b,0,i+3+n)
 else if isUp (byt l i) then
  if wordF (cut l i (runTo isUp l i))&&aloneF l (runTo isUp l i) then some (1,cut l i (runTo isUp l i),0,runTo isUp l i) else none
 else if isLo (byt l i) then
  if nameF (cut l i (runTo isIn l i))&&aloneF l (runTo isIn l i) then some (2,cut l i (runTo isIn l i),0,runTo isIn l i) else none
 else if isDi (byt l i) then
  match numGo (cut l i (runTo isDi l i)) 0 with
  |none=>none
  |some n=>if(decide (cut l i (runTo isDi l i)=[48])||byt (cut l i (runTo isDi l i)) 0 != 48)&&aloneF l (runTo isDi l i) then some (3,cut l i (runTo isDi l i),n,runTo isDi l i) else none
 else if byt l i=39 then
  let q:=qGo (l.drop (i+1).toNat) [] (i+1)
  if rightF 4 0 q.1 then(if q.2<0 then none else some (4,q.1,0,q.2)) else none
 else if signF (l.drop i.toNat)=0 then none else some (6,cut l i (i+signF (l.drop i.toNat)),0,i+signF (l.drop i.toNat))
theorem runTo_range(p:Int→Bool) (l:List UInt8) (i:Int) (h : 0≤i∧i≤l.length):i≤runTo p l i∧runTo p l i≤l.length:=by
 unfold runTo
 have h1:=(List.takeWhile_prefix (fun b:UInt8=>p b.toNat) (l:=l.drop i.toNat)).length_le
 rw [Za2] at h1
 omega
theorem runTo_gt{p:Int→Bool}{l:List UInt8}{i:Int}(h : 0≤i∧i<l.length) (hp:p (byt l i)=true):i+1≤runTo p l i:=by
 have h1:=runTo_yes h hp
 have h2:=runTo_range p l (i+1) (by omega)
 omega
theorem cut_length(l:List UInt8) (a b:Int) (h : 0≤a∧a≤b∧b≤l.length):((cut l a b).length:Int)=b-a:=by
 unfold cut
 rw [List.length_take,Za2]
 omega
theorem signF_in(l:List UInt8) (h : 0<l.length):signF l=0∨signF l=1∨(signF l=2∧2≤l.length):=by
 unfold signF
 split
 ·rename_i hp
  right;right
  refine⟨rfl,?_⟩
  simp only [pre,Zd2,Zb1,Zg1,Zf1,Zi1] at hp
  omega
 ·split
  ·exact .inr (.inl rfl)
  ·exact .inl rfl
theorem qGo_in:∀(n:Nat) (l acc:List UInt8) (i:Int),l.length≤n→0≤i→(qGo l acc i).2 = -1∨(i+1≤(qGo l acc i).2∧(qGo l acc i).2≤i+l.length)
 |n,[],acc,i,_,h=>by left;rfl
 |n,[c],acc,i,_,h=>by
  simp only [qGo]
  split
  ·right;simp
  ·left;rfl
 |0,_::_::_,_,_,hn,_=>by simp at hn
 |n+1,c::d::r,acc,i,hn,h=>by
  simp only [Zf1] at hn ⊢
  simp only [qGo]
  split
  ·split
   ·rcases qGo_in n r (acc++[39]) (i+2) (by omega) (by omega) with h1|h1
    ·exact .inl h1
    ·right;omega
   ·right;simp;omega
  ·rcases qGo_in n (d::r) (acc++[c]) (i+1) (by simp;omega) (by omega) with h1|h1
   ·exact .inl h1
   ·right;simp at h1;omega
theorem indexByte_in:∀(l:List UInt8) (c:UInt8),Lib.indexByte l c = -1∨(0≤Lib.indexByte l c∧Lib.indexByte l c<l.length)
 |[],c =>.inl rfl
 |b::l,c=>by
  simp only [Lib.indexByte,Zf1]
  split
  ·right;omega
  ·rcases indexByte_in l c with h|h
   ·left;simp [h]
   ·right
    have:¬((Lib.indexByte l c == -1)=true):=by simp;omega
    rw [if_neg this]
    omega
def blankF(c:Int):Bool:=decide (0≤Lib.indexByte [32,9,10,13] c.toNat.toUInt8)
def allGo:Nat→List UInt8→Int→List Tok→Except Int (List Tok)
 |0,_,_,acc =>.ok acc
 |f+1,l,i,acc =>
  if(l.length:Int)≤i then .ok acc
  else if blankF (byt l i) then allGo f l (i+1) acc
  else match tokF l i with
   |none =>.error i
   |some (k,s,n,e)=>allGo f l e (acc++[⟨k,i,s,n⟩])
def allF(l:List UInt8):Except Int (List Tok):=allGo (l.length+1) l 0 []
theorem tok_end{l:List UInt8}{i:Int}(h0 : 0≤i∧i<l.length) {k:Int}{s:List UInt8}{n e:Int}(h:tokF l i=some (k,s,n,e)):i<e∧e≤l.length:=by
 unfold tokF at h
 split at h
 ·rename_i hx
  have hdl:(l.drop i.toNat).length=l.length-i.toNat:=Za2
  have h2 : 2≤(l.drop i.toNat).length:=by
   simp only [pre,Zb1,Zg1,Zf1,Zi1] at hx
   omega
  have hdl2:(l.drop (i+2).toNat).length=l.length-(i+2).toNat:=Za2
  have hib:=indexByte_in (l.drop (i+2).toNat) 39
  simp only at h
  split at h
  ·cases h
  ·split at h
   ·cases h
   ·split at h
    ·cases h
    ·cases h;omega
 ·split at h
  ·rename_i hu
   have hr:=runTo_range isUp l i (by omega)
   have hg:=runTo_gt h0 hu
   split at h
   ·cases h;omega
   ·cases h
  ·split at h
   ·rename_i hlo
    have hr:=runTo_range isIn l i (by omega)
    have hg:=runTo_gt (p:=isIn) h0 (by simp [isIn,hlo])
    split at h
    ·cases h;omega
    ·cases h
   ·split at h
    ·rename_i hd
     have hr:=runTo_range isDi l i (by omega)
     have hg:=runTo_gt h0 hd
     split at h
     ·cases h
     ·split at h
      ·cases h;omega
      ·cases h
    ·split at h
     ·have hqi:=qGo_in _ (l.drop (i+1).toNat) [] (i+1) (Zn1 _) (by omega)
      have hdl:(l.drop (i+1).toNat).length=l.length-(i+1).toNat:=Za2
      simp only at h
      split at h
      ·split at h
       ·cases h
       ·cases h;omega
      ·cases h
     ·split at h
      ·cases h
      ·have hdl:(l.drop i.toNat).length=l.length-i.toNat:=Za2
       have hs:=signF_in (l.drop i.toNat) (by omega)
       cases h
       omega
def signsI:List Int:=[40,41,44,42,61,60,62,43,45,59]
def Bf(c:Int):Int :=
 if isUp c then 1 else if isLo c then 2 else if isDi c then 3 else if c=95 then 4 else if c=39 then 5
 else if c=32∨c=9∨c=10∨c=13 then 6 else if signsI.contains c then 7 else 0
def B3(c:Int):Bool:=decide (1≤Bf c)&&decide (Bf c≤4)
def Jw:List UInt8→Int→Option Int
 |[],n=>some n
 |c::r,n=>if Bf c.toNat≠3∨922337203685477580<n∨(n=922337203685477580∧7<(c.toNat:Int)-48) then none else Jw r (10*n+((c.toNat:Int)-48))
def Un(l:List UInt8):Int:=match Jw l 0 with
 |none => -1
 |some n=>if 1<(l.length:Int)∧byt l 0=48 then -1 else n
theorem Bh8{c:Int}(h:Bf c=3) : 48≤c∧c≤57:=by
 unfold Bf at h
 split at h
 ·omega
 ·split at h
  ·omega
  ·split at h
   ·rename_i hd;simpa [isDi] using hd
   ·(repeat' split at h)<;>omega
def Bei(j c:Int):Bool:=decide (Bf c=2)||(!decide (j=0)&&(decide (Bf c=3)||decide (Bf c=4)))
def Az5:List UInt8→Int→Bool
 |[],_=>true
 |c::r,j=>Bei j c.toNat&&Az5 r (j+1)
def rnameF(l:List UInt8):Bool:=Az5 l 0&&(decide (1≤(l.length:Int))&&decide ((l.length:Int)≤30))
def Ah1(l:List UInt8) (i:Int):Prop:=cut l i (runTo B3 l i)=[120]∧runTo B3 l i<l.length∧byt l (runTo B3 l i)=39
instance (l:List UInt8) (i:Int):Decidable (Ah1 l i):=by unfold Ah1;infer_instance
def Aj6(l:List UInt8) (i:Int):Prop:=i+1<l.length∧(cut l i (i+2)=[60,62]∨cut l i (i+2)=[60,61]∨cut l i (i+2)=[62,61])
instance (l:List UInt8) (i:Int):Decidable (Aj6 l i):=by unfold Aj6;infer_instance
def Aps(l:List UInt8) (i:Int):Option (Int×List UInt8×Int×Int) :=
 if Ah1 l i then
  let t:=runTo B3 l i
  let q:=runTo (fun c => !decide (c=39)) l (t+1)
  if q=l.length then none else
  match(if(cut l (t+1) q).length % 2=0 then unGo (cut l (t+1) q) [] else none) with
  |none=>none
  |some b=>if 1000<(b.length:Int) then none else some (5,b,0,q+1)
 else if Bf (byt l i)=1 then(if wordF (cut l i (runTo B3 l i)) then some (1,cut l i (runTo B3 l i),0,runTo B3 l i) else none)
 else if Bf (byt l i)=2 then(if rnameF (cut l i (runTo B3 l i)) then some (2,cut l i (runTo B3 l i),0,runTo B3 l i) else none)
 else if Bf (byt l i)=3 then(if 0≤Un (cut l i (runTo B3 l i)) then some (3,cut l i (runTo B3 l i),Un (cut l i (runTo B3 l i)),runTo B3 l i) else none)
 else if Bf (byt l i)=5 then
  let q:=qGo (l.drop (i+1).toNat) [] (i+1)
  if ¬q.2 = -1∧Vd 4 0 q.1=0 then some (4,q.1,0,q.2) else none
 else if Bf (byt l i)=7 then(if Aj6 l i then some (6,cut l i (i+2),0,i+2) else some (6,cut l i (i+1),0,i+1))
 else none
theorem Apg{l:List UInt8}{i:Int}(h0 : 0≤i∧i<l.length) {k:Int}{s:List UInt8}{n e:Int}(h:Aps l i=some (k,s,n,e)):i<e∧e≤l.length:=by
 unfold Aps at h
 have hr:=runTo_range B3 l i (by omega)
 split at h
 ·rename_i hx
  have hx1:=hx.2.1
  have hq:=runTo_range (fun c => !decide (c=39)) l (runTo B3 l i+1) (by omega)
  simp only at h
  split at h
  ·cases h
  ·split at h
   ·cases h
   ·split at h
    ·cases h
    ·cases h;omega
 ·have hg:∀c:Int,1≤c∧c≤4→Bf (byt l i)=c→i+1≤runTo B3 l i:=fun c hc he=>runTo_gt h0 (by simp [B3];omega)
  split at h
  ·rename_i h1
   have:=hg 1 (by omega) h1
   split at h
   ·cases h;omega
   ·cases h
  ·split at h
   ·rename_i h1
    have:=hg 2 (by omega) h1
    split at h
    ·cases h;omega
    ·cases h
   ·split at h
    ·rename_i h1
     have:=hg 3 (by omega) h1
     split at h
     ·cases h;omega
     ·cases h
    ·split at h
     ·have hqi:=qGo_in _ (l.drop (i+1).toNat) [] (i+1) (Zn1 _) (by omega)
      have hdl:(l.drop (i+1).toNat).length=l.length-(i+1).toNat:=Za2
      simp only at h
      split at h
      ·rename_i h2
       cases h
       have:=h2.1
       omega
      ·cases h
     ·split at h
      ·split at h
       ·rename_i h2
        have:=h2.1
        cases h;omega
       ·cases h;omega
      ·cases h
def O5:Nat→List UInt8→Int→List Tok→Except Int (List Tok)
 |0,_,_,acc =>.ok acc
 |f+1,l,i,acc =>
  if(l.length:Int)≤i then .ok acc
  else if Bf (byt l i)=6 then O5 f l (i+1) acc
  else match Aps l i with
   |none =>.error i
   |some (k,s,n,e)=>O5 f l e (acc++[⟨k,i,s,n⟩])
def Bdf(l:List UInt8):Except Int (List Tok):=O5 (l.length+1) l 0 []
theorem of256{p:Int→Prop}(h:∀n:Fin 256,p (n.val:Int)) (c:Int) (hc : 0≤c∧c≤255):p c:=by
 have:=h ⟨c.toNat,by omega⟩
 simpa [Int.toNat_of_nonneg hc.1] using this
theorem Bey:∀n:Fin 256,B3 (n.val:Int)=(isUp (n.val:Int)||isIn (n.val:Int)):=by decide +kernel
theorem A2w:∀n:Fin 256,blankF (n.val:Int)=decide (Bf (n.val:Int)=6):=by decide +kernel
theorem A5w:∀n:Fin 256,decide (0≤Lib.indexByte signs (n.val:Int).toNat.toUInt8)=decide (Bf (n.val:Int)=7):=by decide +kernel
theorem Aop(c:Int) (hc : 0≤c∧c≤255):B3 c=(isUp c||isIn c):=of256 (p:=fun c=>B3 c=(isUp c||isIn c)) Bey c hc
theorem A8q(c:Int) (hc : 0≤c∧c≤255):blankF c=decide (Bf c=6):=of256 (p:=fun c=>blankF c=decide (Bf c=6)) A2w c hc
theorem Bbn(c:Int) (hc : 0≤c∧c≤255):decide (0≤Lib.indexByte signs c.toNat.toUInt8)=decide (Bf c=7):=of256 (p:=fun c=>decide (0≤Lib.indexByte signs c.toNat.toUInt8)=decide (Bf c=7)) A5w c hc
theorem u8_range(b:UInt8) : 0≤(b.toNat:Int)∧(b.toNat:Int)≤255:=by
 have:=b.toNat_lt
 omega
def tw(p:Int→Bool) (m:List UInt8):List UInt8:=m.takeWhile fun b=>p b.toNat
theorem E7(p:Int→Bool) (l:List UInt8) (i:Int):runTo p l i=i+(tw p (l.drop i.toNat)).length:=rfl
theorem Ai7(p:Int→Bool):∀m:List UInt8,(tw p m).length≤m.length
 |[]=>by simp [tw]
 |x::m=>by
  have:=Ai7 p m
  unfold tw at *
  simp only [List.takeWhile_cons]
  split<;>simp<;>omega
theorem tw_take(p:Int→Bool):∀m:List UInt8,m.take (tw p m).length=tw p m
 |[]=>by simp [tw]
 |x::m=>by
  have:=tw_take p m
  unfold tw at *
  simp only [List.takeWhile_cons]
  split
  ·simp [this]
  ·simp
theorem To(p:Int→Bool) (l:List UInt8) (i:Int) (h : 0≤i):cut l i (runTo p l i)=tw p (l.drop i.toNat):=by
 unfold cut
 rw [E7,show(i+((tw p (l.drop i.toNat)).length:Int)).toNat-i.toNat=(tw p (l.drop i.toNat)).length by omega]
 exact tw_take p _
theorem Apj{p q:Int→Bool}(hpq:∀b:UInt8,p b.toNat=true→q b.toNat=true):∀m:List UInt8,tw q m=tw p m++tw q (m.drop (tw p m).length)
 |[]=>by simp [tw]
 |x::m=>by
  have ih:=Apj hpq m
  unfold tw at *
  cases hp:p x.toNat with
  |true=>simp [hp,hpq x hp];exact ih
  |false=>simp [hp]
theorem A34(p:Int→Bool):∀m:List UInt8,(tw p m).all (fun b=>p b.toNat)=true
 |[]=>by simp [tw]
 |x::m=>by
  have ih:=A34 p m
  unfold tw at *
  cases hp:p x.toNat with
  |true=>simp only [List.takeWhile_cons,hp,if_true,Zv1,Bool.true_and];exact ih
  |false=>simp [hp]
theorem Auv{q:Int→Bool}(m:List UInt8):tw q m=[]↔m=[]∨q (byt m 0)=false:=by
 cases m with
 |nil=>simp [tw]
 |cons x m =>
  have:byt (x::m) 0=(x.toNat:Int):=rfl
  rw [this]
  cases hq:q x.toNat<;>simp [tw,hq]
theorem Wl(l:List UInt8) (i:Int) (h : 0≤i) (j:Nat):byt (l.drop i.toNat) j=byt l (i+j):=by
 unfold byt
 rw [List.getD_eq_getElem?_getD,List.getD_eq_getElem?_getD,List.getElem?_drop,show i.toNat+(j:Int).toNat=(i+j).toNat by omega]
theorem Ala{p:Int→Bool}(hp:∀b:UInt8,p b.toNat=true→B3 b.toNat=true) (l:List UInt8) (i:Int) (h : 0≤i∧i≤l.length):aloneF l (runTo p l i)=true↔tw p (l.drop i.toNat)=tw B3 (l.drop i.toNat):=by
 have hs:=Apj hp (l.drop i.toNat)
 have hr:=runTo_range p l i h
 have hdd:(l.drop i.toNat).drop (tw p (l.drop i.toNat)).length=l.drop (runTo p l i).toNat:=by
  rw [List.drop_drop,E7]
  congr 1
  omega
 rw [hdd] at hs
 have h1:tw p (l.drop i.toNat)=tw B3 (l.drop i.toNat)↔tw B3 (l.drop (runTo p l i).toNat)=[]:=by
  rw [hs]
  simp
 rw [h1,Auv]
 have h2:l.drop (runTo p l i).toNat=[]↔runTo p l i=l.length:=by
  rw [List.drop_eq_nil_iff];omega
 have h3:byt (l.drop (runTo p l i).toNat) 0=byt l (runTo p l i):=by
  have:=Wl l (runTo p l i) (by omega) 0
  simpa using this
 rw [h2,h3]
 have hb:=X7 l (runTo p l i)
 simp only [aloneF,Zd2,beq_iff_eq,Zb1,Bool.not_eq_true',Aop _ hb,Bool.or_eq_false_iff]
 constructor
 ·rintro(h|⟨h,h'⟩)
  ·exact .inl h
  ·exact .inr ⟨h',h⟩
 ·rintro(h|⟨h,h'⟩)
  ·exact .inl h
  ·exact .inr ⟨h',h⟩
theorem Agf{p:Int→Bool}(hp:∀b:UInt8,p b.toNat=true→B3 b.toNat=true) (l:List UInt8) (i:Int) (h : 0≤i∧i≤l.length) {α:Type}(f:List UInt8→Int→Option α) (hf:∀x j,f x j≠none→x.all (fun b=>p b.toNat)=true) :
  (if aloneF l (runTo p l i) then f (cut l i (runTo p l i)) (runTo p l i) else none)=f (cut l i (runTo B3 l i)) (runTo B3 l i):=by
 by_cases ha:aloneF l (runTo p l i)=true
 ·have he:=(Ala hp l i h).1 ha
  have hre:runTo p l i=runTo B3 l i:=by rw [E7,E7,he]
  rw [if_pos ha,hre]
 ·rw [if_neg ha]
  by_cases hn:f (cut l i (runTo B3 l i)) (runTo B3 l i)=none
  ·exact hn.symm
  ·exfalso
   apply ha
   rw [Ala hp l i h]
   have hall:=hf _ _ hn
   rw [To _ _ _ h.1] at hall
   have key:∀m:List UInt8,(tw B3 m).all (fun b=>p b.toNat)=true→tw p m=tw B3 m:=by
    intro m
    induction m with
    |nil=>simp [tw]
    |cons x m ih =>
     unfold tw at *
     intro hm
     cases hq:B3 x.toNat with
     |true =>
      simp only [List.takeWhile_cons,hq,if_true,Zv1,Zb1] at hm ⊢
      rw [if_pos hm.1,ih hm.2]
     |false =>
      have:p x.toNat=false:=by
       cases hpx:p x.toNat with
       |false=>rfl
       |true=>rw [hp x hpx] at hq;cases hq
      simp [hq,this]
   exact key _ hall
theorem A47:wordsL.all (fun w=>w.all fun b=>isUp b.toNat)=true:=by decide +kernel
theorem word_up{x:List UInt8}(h:wordF x=true):x.all (fun b=>isUp b.toNat)=true:=by
 have:=Zg2.1 A47 x (by simpa [wordF] using h)
 exact this
theorem Bai(l:List UInt8):∀j:Int,0<j→Az5 l j=l.all fun b=>isIn b.toNat:=by
 induction l with
 |nil=>intro j _;rfl
 |cons c l ih =>
  intro j hj
  have hc:=u8_range c
  have key:∀n:Fin 256,(decide (Bf (n.val:Int)=2)||(decide (Bf (n.val:Int)=3)||decide (Bf (n.val:Int)=4)))=isIn (n.val:Int):=by decide +kernel
  have hk:=of256 (p:=fun c=>(decide (Bf c=2)||(decide (Bf c=3)||decide (Bf c=4)))=isIn c) key c.toNat hc
  simp only [Az5,Zv1,ih (j+1) (by omega),Bei,show decide (j=0)=false by simp;omega,Zs1,Bool.true_and,hk]
theorem okGo_zero(c:UInt8) (l:List UInt8):Az5 (c::l) 0=(isLo c.toNat&&l.all fun b=>isIn b.toNat):=by
 have hc:=u8_range c
 have key:∀n:Fin 256,decide (Bf (n.val:Int)=2)=isLo (n.val:Int):=by decide +kernel
 have hk:=of256 (p:=fun c=>decide (Bf c=2)=isLo c) key c.toNat hc
 simp only [Az5,Bei,decide_true,Zt1,Bool.false_and,Bool.or_false,hk]
 rw [Bai l (0+1) (by omega)]
theorem tw_full{p:Int→Bool}:∀m:List UInt8,(tw p m).length=m.length↔m.all (fun b=>p b.toNat)=true
 |[]=>by simp [tw]
 |x::m=>by
  have ih:=tw_full (p:=p) m
  unfold tw at *
  cases hp:p x.toNat with
  |true=>simp only [List.takeWhile_cons,hp,if_true,Zf1,Zv1,Bool.true_and,←ih];omega
  |false=>simp [hp]
theorem lo_in{c:Int}(h:isLo c=true):isIn c=true:=by simp [isIn,h]
theorem name_eq(x:List UInt8):nameF x=rnameF x:=by
 cases x with
 |nil=>rfl
 |cons c x =>
  have hrun:(runTo isIn (c::x) 0 == ((c::x).length:Int))=(c::x).all fun b=>isIn b.toNat:=by
   rw [Bool.eq_iff_iff,←tw_full,beq_iff_eq,E7]
   simp only [Int.toNat_zero,Zq1]
   omega
  have hb:byt (c::x) 0=(c.toNat:Int):=rfl
  simp only [nameF,rnameF,okGo_zero,hrun,hb]
  rw [Bool.eq_iff_iff]
  simp only [Zb1,Bool.not_eq_true',Zg1,decide_eq_false_iff_not,Zv1,Zf1]
  constructor
  ·rintro⟨⟨⟨_,h1⟩,h2⟩,h3⟩
   exact⟨⟨h2,h3.2⟩,by omega,h1⟩
  ·rintro⟨⟨h2,h3⟩,_,h1⟩
   exact⟨⟨⟨by simp,h1⟩,h2⟩,lo_in h2,h3⟩
theorem Baz{x:List UInt8}(h:nameF x=true):x.all (fun b=>isIn b.toNat)=true:=by
 simp only [nameF,Zb1,beq_iff_eq] at h
 rw [←tw_full]
 have:=h.2
 rw [E7] at this
 simp only [Int.toNat_zero,Zq1] at this
 omega
theorem Bde{c:UInt8}(h:isDi c.toNat=true) : 48≤(c.toNat:Int)∧(c.toNat:Int)≤57:=by
 simpa [isDi] using h
theorem cls_di{c:UInt8}(h:isDi c.toNat=true):Bf c.toNat=3:=by
 have key:∀n:Fin 256,isDi (n.val:Int)=true→Bf (n.val:Int)=3:=by decide +kernel
 exact of256 (p:=fun c=>isDi c=true→Bf c=3) key c.toNat (u8_range c) h
theorem Bdv{c:UInt8}(h:Bf c.toNat=3):isDi c.toNat=true:=by
 have:=Bh8 h
 simp [isDi];omega
theorem A6r{c:UInt8}(h:isDi c.toNat=true) {n:Int}(hn : 0≤n):(inI (n*10)∧inI (n*10+dg c.toNat))↔¬(Bf c.toNat≠3∨922337203685477580<n∨(n=922337203685477580∧7<(c.toNat:Int)-48)):=by
 have hb:=Bde h
 rw [Bc3 _ (by omega),cls_di h]
 unfold inI
 constructor
 ·rintro⟨h1,h2⟩ (h3|h3|h3)
  ·exact h3 rfl
  ·omega
  ·omega
 ·intro h3
  have h4:¬(922337203685477580<n):=fun h=>h3 (.inr (.inl h))
  have h5:¬(n=922337203685477580∧7<(c.toNat:Int)-48):=fun h=>h3 (.inr (.inr h))
  omega
theorem A4d:∀(x:List UInt8) (n:Int),0≤n→x.all (fun b=>isDi b.toNat)=true→Jw x n=numGo x n∧∀m,numGo x n=some m→0≤m
 |[],n,hn,_=>⟨rfl,fun m h=>by simp only [numGo,Za1] at h;omega⟩
 |c::x,n,hn,hx=>by
  simp only [Zv1,Zb1] at hx
  have hb:=Bde hx.1
  have hs:=A6r hx.1 hn
  have hd:dg c.toNat=(c.toNat:Int)-48:=Bc3 _ (by omega)
  simp only [Jw,numGo]
  by_cases hc:Bf c.toNat≠3∨922337203685477580<n∨(n=922337203685477580∧7<(c.toNat:Int)-48)
  ·rw [if_pos hc,if_neg (fun h=>hs.1 h hc)]
   exact⟨rfl,fun m h=>by cases h⟩
  ·rw [if_neg hc,if_pos (hs.2 hc),hd,show 10*n+((c.toNat:Int)-48)=n*10+((c.toNat:Int)-48) by omega]
   exact A4d x _ (by omega) hx.2
theorem Aq3:∀(x:List UInt8) (n:Int),Jw x n≠none→x.all (fun b=>isDi b.toNat)=true
 |[],_,_=>rfl
 |c::x,n,h=>by
  simp only [Jw] at h
  split at h
  ·exact absurd rfl h
  ·rename_i hc
   have h3:Bf c.toNat=3:=by
    by_cases h3:Bf c.toNat=3
    ·exact h3
    ·exact absurd (.inl h3) hc
   simp only [Zv1,Zb1]
   exact⟨Bdv h3,Aq3 x _ h⟩
def Ain(x:List UInt8) (j:Int):Option (Int×List UInt8×Int×Int):=if 0≤Un x then some (3,x,Un x,j) else none
theorem Av3{x:List UInt8}{j:Int}(h:Ain x j≠none):x.all (fun b=>isDi b.toNat)=true:=by
 unfold Ain at h
 split at h
 ·rename_i h0
  unfold Un at h0
  split at h0
  ·omega
  ·rename_i n hn
   exact Aq3 x 0 (by rw [hn];simp)
 ·exact absurd rfl h
theorem Bg6{x:List UInt8}(hne:x≠[]):(decide (x=[48])||byt x 0 != 48)=true↔¬(1<(x.length:Int)∧byt x 0=48):=by
 cases x with
 |nil=>exact absurd rfl hne
 |cons c x =>
  have hb:byt (c::x) 0=(c.toNat:Int):=rfl
  have hc:(c.toNat:Int)=48↔c=48:=by rw [←UInt8.toNat_inj];simp;omega
  rw [hb]
  simp only [Zd2,Zg1,bne_iff_ne,ne_eq,Ze2,Zf1,hc]
  constructor
  ·rintro(⟨_,h⟩|h) ⟨h1,h2⟩
   ·subst h;simp at h1
   ·exact h h2
  ·intro h
   by_cases h2:c=48
   ·left
    refine⟨h2,?_⟩
    cases x with
    |nil=>rfl
    |cons d x=>exact absurd ⟨by simp;omega,h2⟩ h
   ·exact .inr h2
theorem Bdq{x:List UInt8}(hne:x≠[]) (hx:x.all (fun b=>isDi b.toNat)=true) (a:Bool) (j:Int) :
  (match numGo x 0 with
  |none=>none
  |some n=>if(decide (x=[48])||byt x 0 != 48)&&a then some ((3:Int),x,n,j) else none)=if a then Ain x j else none:=by
 obtain⟨h1,h2⟩:=A4d x 0 (by omega) hx
 unfold Ain Un
 rw [h1]
 cases hn:numGo x 0 with
 |none=>cases a<;>simp
 |some n =>
  have hp:=h2 n hn
  cases hl:(decide (x=[48])||byt x 0 != 48) with
  |true =>
   have:=(Bg6 hne).1 hl
   cases a<;>simp [this,hp]
  |false =>
   have : 1<(x.length:Int)∧byt x 0=48:=by
    by_cases hh : 1<(x.length:Int)∧byt x 0=48
    ·exact hh
    ·rw [(Bg6 hne).2 hh] at hl;cases hl
   cases a<;>simp [this]
theorem Afz(l:List UInt8) (i:Int) (h : 0≤i∧i<l.length):Ah1 l i↔pre (l.drop i.toNat) [120,39]=true:=by
 have hdl:(l.drop i.toNat).length=l.length-i.toNat:=Za2
 have hb1:=Wl l i h.1 1
 unfold Ah1
 rw [To _ _ _ h.1,E7]
 generalize l.drop i.toNat=m at *
 have w120:B3 ((120:UInt8).toNat:Int)=true:=by decide +kernel
 have w39:B3 ((39:UInt8).toNat:Int)=false:=by decide +kernel
 match m with
 |[]=>simp at hdl;omega
 |[a] =>
  simp only [List.length_singleton] at hdl
  constructor
  ·rintro⟨h1,h2,_⟩
   rw [h1] at h2
   simp at h2
   omega
  ·intro h;simp [pre] at h
 |a::b::r =>
  have hbb:byt (a::b::r) ((1:Nat):Int)=(b.toNat:Int):=rfl
  constructor
  ·rintro⟨h1,h2,h3⟩
   rw [h1] at h3
   have hb:b=39:=by
    have:byt l (i+(([120]:List UInt8).length:Int))=(b.toNat:Int):=by rw [←hbb,hb1];rfl
    rw [this] at h3
    rw [←UInt8.toNat_inj];simp;omega
   have ha:a=120:=by
    unfold tw at h1
    cases hw:B3 a.toNat with
    |true=>simp [hw] at h1;exact h1.1
    |false=>simp [hw] at h1
   subst hb;subst ha
   simp [pre]
  ·intro h
   simp only [pre,Zb1,Zg1,Zf1,Zi1,List.take_succ_cons,List.take_zero,Ze2,and_true] at h
   obtain⟨_,rfl,rfl⟩:=h
   have e1:tw B3 (120::39::r)=[120]:=by
    unfold tw
    rw [List.takeWhile_cons,if_pos w120,List.takeWhile_cons,if_neg (by rw [w39];simp)]
   rw [e1]
   refine⟨rfl,?_,?_⟩
   ·simp only [Zf1] at hdl ⊢
    simp
    omega
   ·have:byt l (i+(([120]:List UInt8).length:Int))=(((39:UInt8).toNat:Nat):Int):=by
     rw [←hbb,hb1];rfl
    rw [this];rfl
theorem Ar2:∀m:List UInt8,Lib.indexByte m 39=if(tw (fun c => !decide (c=39)) m).length=m.length then -1 else((tw (fun c => !decide (c=39)) m).length:Int)
 |[]=>rfl
 |b::m=>by
  have ih:=Ar2 m
  have hl:=Ai7 (fun c => !decide (c=39)) m
  by_cases hb:b=39
  ·subst hb
   rfl
  ·have hne:¬((b.toNat:Int)=39):=fun h=>hb (by rw [←UInt8.toNat_inj];simp;omega)
   have e1:tw (fun c => !decide (c=39)) (b::m)=b::tw (fun c => !decide (c=39)) m:=by
    unfold tw
    rw [List.takeWhile_cons,if_pos (by simp [hne])]
   have e2:(b == 39)=false:=by simpa using hb
   rw [Lib.indexByte,e1,ih,e2]
   simp only [Zj2,if_false,Zf1]
   by_cases hf:(tw (fun c => !decide (c=39)) m).length=m.length
   ·simp [hf]
   ·have:¬((((tw (fun c => !decide (c=39)) m).length:Int) == -1)=true):=by simp
    rw [if_neg hf,if_neg this,if_neg (by omega)]
    omega
theorem Awj(l:List UInt8) (i:Int) (h : 0≤i∧i<l.length) (a b:UInt8):pre (l.drop i.toNat) [a,b]=true↔i+1<l.length∧cut l i (i+2)=[a,b]:=by
 unfold pre cut
 have hdl:(l.drop i.toNat).length=l.length-i.toNat:=Za2
 rw [show(i+2).toNat-i.toNat=2 by omega]
 simp only [Zb1,Zg1,Zf1,Zi1,hdl]
 constructor
 ·rintro⟨h1,h2⟩;exact⟨by omega,h2⟩
 ·rintro⟨h1,h2⟩;exact⟨by omega,h2⟩
theorem Ajb{m:List UInt8}{a b:UInt8}(h:pre m [a,b]=true):byt m 0=a.toNat:=by
 simp only [pre,Zb1,Zg1,Zf1,Zi1] at h
 obtain⟨_,h2⟩:=h
 cases m with
 |nil=>cases h2
 |cons c m=>simp at h2;rw [←h2.1];rfl
theorem A5g(l:List UInt8) (i:Int) (h : 0≤i∧i<l.length):(if signF (l.drop i.toNat)=0 then none else some ((6:Int),cut l i (i+signF (l.drop i.toNat)),(0:Int),i+signF (l.drop i.toNat))) =
  if Bf (byt l i)=7 then(if Aj6 l i then some (6,cut l i (i+2),0,i+2) else some (6,cut l i (i+1),0,i+1)) else none:=by
 have hb0:byt (l.drop i.toNat) 0=byt l i:=by simpa using Wl l i h.1 0
 have hb:=X7 l i
 have hs:=Bbn (byt l i) hb
 have htwo:Aj6 l i↔(pre (l.drop i.toNat) [60,62]||pre (l.drop i.toNat) [60,61]||pre (l.drop i.toNat) [62,61])=true:=by
  simp only [Zd2,Awj l i h,Aj6]
  constructor
  ·rintro⟨h1,h2|h2|h2⟩
   ·exact .inl (.inl ⟨h1,h2⟩)
   ·exact .inl (.inr ⟨h1,h2⟩)
   ·exact .inr ⟨h1,h2⟩
  ·rintro((⟨h1,h2⟩|⟨h1,h2⟩)|⟨h1,h2⟩)
   ·exact⟨h1,.inl h2⟩
   ·exact⟨h1,.inr (.inl h2)⟩
   ·exact⟨h1,.inr (.inr h2)⟩
 unfold signF
 by_cases h2:Aj6 l i
 ·have h2':=htwo.1 h2
  have hc:byt l i=60∨byt l i=62:=by
   rw [←hb0]
   simp only [Zd2] at h2'
   rcases h2' with (h|h)|h
   ·left;rw [Ajb h];rfl
   ·left;rw [Ajb h];rfl
   ·right;rw [Ajb h];rfl
  have hc7:Bf (byt l i)=7:=by
   rcases hc with h|h<;>rw [h]<;>decide +kernel
  rw [if_pos h2',if_neg (by omega),if_pos hc7,if_pos h2]
 ·have h2':¬_:=fun h=>h2 (htwo.2 h)
  rw [if_neg h2',if_neg h2,hb0]
  by_cases hc7:Bf (byt l i)=7
  ·have h0 : 0≤Lib.indexByte signs (byt l i).toNat.toUInt8:=by
    rw [Ze1 hc7] at hs;exact of_decide_eq_true hs
   rw [if_pos h0,if_neg (by omega),if_pos hc7]
  ·have h0:¬ 0≤Lib.indexByte signs (byt l i).toNat.toUInt8:=by
    rw [Zd1 hc7] at hs;exact of_decide_eq_false hs
   rw [if_neg h0,if_pos rfl,if_neg hc7]
theorem up_wd(b:UInt8) (h:isUp b.toNat=true):B3 b.toNat=true:=by rw [Aop _ (u8_range b),h];rfl
theorem in_wd(b:UInt8) (h:isIn b.toNat=true):B3 b.toNat=true:=by rw [Aop _ (u8_range b),h,Bool.or_true]
theorem di_in(b:UInt8) (h:isDi b.toNat=true):isIn b.toNat=true:=by simp [isIn,h]
theorem Aya{α:Type}(p q:Bool) (x : α):(if(p&&q)=true then some x else none)=if q=true then(if p=true then some x else none) else none:=by
 cases p<;>cases q<;>rfl
theorem Bfl(l:List UInt8) (i:Int) (h : 0≤i∧i<l.length):tokF l i=Aps l i:=by
 have hb:=X7 l i
 unfold tokF Aps
 by_cases hx:Ah1 l i
 ·have hx':=(Afz l i h).1 hx
  rw [if_pos hx,if_pos hx']
  have hr1:runTo B3 l i=i+1:=by
   rw [E7,←To _ _ _ h.1,hx.1];rfl
  have hlt:i+1<l.length:=by have:=hx.2.1;omega
  have hdl:(l.drop (i+2).toNat).length=l.length-(i+2).toNat:=Za2
  have htl:=Ai7 (fun c => !decide (c=39)) (l.drop (i+2).toNat)
  rw [hr1]
  simp only
  rw [show i+1+1=i+2 by omega,Ar2,E7]
  by_cases hf:(tw (fun c => !decide (c=39)) (l.drop (i+2).toNat)).length=(l.drop (i+2).toNat).length
  ·rw [if_pos hf,if_pos (by omega),if_pos (by omega)]
  ·rw [if_neg hf,if_neg (show ¬((tw (fun c => !decide (c=39)) (l.drop (i+2).toNat)).length:Int)<0 by omega),if_neg (show ¬i+2+((tw (fun c => !decide (c=39)) (l.drop (i+2).toNat)).length:Int)=l.length by omega)]
   rw [show i+3+((tw (fun c => !decide (c=39)) (l.drop (i+2).toNat)).length:Int)=i+2+((tw (fun c => !decide (c=39)) (l.drop (i+2).toNat)).length:Int)+1 by omega]
 ·have hx':¬pre (l.drop i.toNat) [120,39]=true:=fun hh=>hx ((Afz l i h).2 hh)
  rw [if_neg hx,if_neg hx']
  have cls:∀n:Fin 256,Bf (n.val:Int)=if isUp (n.val:Int) then 1 else if isLo (n.val:Int) then 2 else if isDi (n.val:Int) then 3 else if(n.val:Int)=39 then 5 else if Bf (n.val:Int)=7 then 7 else if Bf (n.val:Int)=6 then 6 else if Bf (n.val:Int)=4 then 4 else 0:=by decide +kernel
  have hcls:=of256 (p:=fun c=>Bf c=if isUp c then 1 else if isLo c then 2 else if isDi c then 3 else if c=39 then 5 else if Bf c=7 then 7 else if Bf c=6 then 6 else if Bf c=4 then 4 else 0) cls (byt l i) hb
  have h' : 0≤i∧i≤l.length:=by omega
  cases hu:isUp (byt l i) with
  |true =>
   rw [hu] at hcls
   have h1:Bf (byt l i)=1:=hcls
   rw [if_pos rfl,if_pos h1,Aya]
   exact Agf up_wd l i h' (fun x j=>if wordF x then some ((1:Int),x,(0:Int),j) else none) (fun x j hn=>by
    by_cases hw:wordF x=true
    ·exact word_up hw
    ·simp [hw] at hn)
  |false =>
   rw [hu] at hcls
   rw [if_neg (by simp)]
   cases hlo:isLo (byt l i) with
   |true =>
    rw [hlo] at hcls
    have h1:Bf (byt l i)=2:=hcls
    rw [if_pos rfl,if_neg (show ¬Bf (byt l i)=1 by omega),if_pos h1,Aya]
    have:=Agf in_wd l i h' (fun x j=>if nameF x then some ((2:Int),x,(0:Int),j) else none) (fun x j hn=>by
     by_cases hw:nameF x=true
     ·exact Baz hw
     ·simp [hw] at hn)
    rw [this,name_eq]
   |false =>
    rw [hlo] at hcls
    rw [if_neg (by simp)]
    cases hd:isDi (byt l i) with
    |true =>
     rw [hd] at hcls
     have h1:Bf (byt l i)=3:=hcls
     rw [if_pos rfl,if_neg (show ¬Bf (byt l i)=1 by omega),if_neg (show ¬Bf (byt l i)=2 by omega),if_pos h1]
     have hrg:=runTo_gt h hd
     have hne:cut l i (runTo isDi l i)≠[]:=by
      have:=cut_length l i (runTo isDi l i) (by have:=runTo_range isDi l i h';omega)
      intro h0
      rw [h0] at this
      simp at this
      omega
     have hall:(cut l i (runTo isDi l i)).all (fun b=>isDi b.toNat)=true:=by rw [To _ _ _ h.1];exact A34 _ _
     refine(Bdq hne hall _ _).trans ?_
     exact Agf (fun b hb=>in_wd b (di_in b hb)) l i h' Ain (fun x j hn=>Av3 hn)
    |false =>
     rw [hd] at hcls
     rw [if_neg (by simp)]
     by_cases hq:byt l i=39
     ·have h1:Bf (byt l i)=5:=by rw [hq];decide +kernel
      rw [if_pos hq,if_neg (show ¬Bf (byt l i)=1 by omega),if_neg (show ¬Bf (byt l i)=2 by omega),if_neg (show ¬Bf (byt l i)=3 by omega),if_pos h1]
      have hqi:=qGo_in _ (l.drop (i+1).toNat) [] (i+1) (Zn1 _) (by omega)
      simp only
      generalize qGo (l.drop (i+1).toNat) [] (i+1)=q at *
      unfold Vd
      cases hr:rightF 4 0 q.1 with
      |true =>
       by_cases hn:q.2<0
       ·have:q.2 = -1:=by omega
        simp [this]
       ·have:¬q.2 = -1:=by omega
        simp [this,hn]
      |false=>simp
     ·have h1:¬Bf (byt l i)=1∧¬Bf (byt l i)=2∧¬Bf (byt l i)=3∧¬Bf (byt l i)=5:=by
       simp only [Zj2,if_false,if_neg hq] at hcls
       split at hcls
       ·omega
       ·split at hcls
        ·omega
        ·split at hcls<;>omega
      rw [if_neg hq,if_neg h1.1,if_neg h1.2.1,if_neg h1.2.2.1,if_neg h1.2.2.2]
      exact A5g l i h
theorem Ahp(l:List UInt8):∀(f:Nat) (i:Int) (acc:List Tok),0≤i→allGo f l i acc=O5 f l i acc
 |0,_,_,_=>rfl
 |f+1,i,acc,hi=>by
  simp only [allGo,O5]
  by_cases he:(l.length:Int)≤i
  ·rw [if_pos he,if_pos he]
  ·rw [if_neg he,if_neg he,A8q _ (X7 l i)]
   by_cases hb:Bf (byt l i)=6
   ·rw [if_pos (by simp [hb]),if_pos hb]
    exact Ahp l f _ _ (by omega)
   ·rw [if_neg (by simp [hb]),if_neg hb,Bfl l i (by omega)]
    cases ht:Aps l i with
    |none=>rfl
    |some r =>
     obtain⟨k,s,n,e⟩:=r
     have:=Apg (by omega) ht
     exact Ahp l f _ _ (by omega)
theorem Bct(l:List UInt8):allF l=Bdf l:=Ahp l _ 0 [] (by omega)
def qS:List UInt8→List UInt8→Option (List UInt8×Nat)
 |[],_=>none
 |[c],acc=>if c=39 then some (acc,1) else none
 |c::d::r,acc=>if c=39 then(if d=39 then(qS r (acc++[39])).map fun x=>(x.1,x.2+2) else some (acc,1)) else(qS (d::r) (acc++[c])).map fun x=>(x.1,x.2+1)
theorem Ave:∀(f:Nat) (l acc:List UInt8) (i:Int),l.length≤f→qGo l acc i=match qS l acc with
  |none=>([], -1)
  |some (s,n)=>(s,i+(n:Int))
 |_,[],_,_,_=>rfl
 |_,[c],acc,i,_=>by
  by_cases hc:c=39<;>simp [qGo,qS,hc]
 |0,c::d::r,_,_,h=>by simp at h
 |f+1,c::d::r,acc,i,h=>by
  simp only [Zf1] at h
  rw [qGo,qS]
  by_cases hc:c=39
  ·rw [if_pos hc,if_pos hc]
   by_cases hd:d=39
   ·rw [if_pos hd,if_pos hd,Ave f r (acc++[39]) (i+2) (by omega)]
    cases qS r (acc++[39]) with
    |none=>rfl
    |some x=>simp;omega
   ·rw [if_neg hd,if_neg hd];rfl
  ·rw [if_neg hc,if_neg hc,Ave f (d::r) (acc++[c]) (i+1) (by simp;omega)]
   cases qS (d::r) (acc++[c]) with
   |none=>rfl
   |some x=>simp;omega
theorem Ai3:∀(f:Nat) (l acc s:List UInt8) (n:Nat),l.length≤f→qS l acc=some (s,n)→1≤n∧n≤l.length
 |_,[],_,_,_,_,h=>by cases h
 |_,[c],acc,s,n,_,h=>by
  by_cases hc:c=39<;>simp [qS,hc] at h
  simp [←h.2]
 |0,c::d::r,_,_,_,h,_=>by simp at h
 |f+1,c::d::r,acc,s,n,hl,h=>by
  simp only [Zf1] at hl ⊢
  rw [qS] at h
  by_cases hc:c=39
  ·rw [if_pos hc] at h
   by_cases hd:d=39
   ·rw [if_pos hd] at h
    obtain⟨⟨s',n'⟩,hq,he⟩:=Option.map_eq_some_iff.1 h
    have:=Ai3 f r (acc++[39]) s' n' (by omega) hq
    simp at he;omega
   ·rw [if_neg hd] at h
    simp at h;omega
  ·rw [if_neg hc] at h
   obtain⟨⟨s',n'⟩,hq,he⟩:=Option.map_eq_some_iff.1 h
   have:=Ai3 f (d::r) (acc++[c]) s' n' (by simp;omega) hq
   simp at he this;omega
theorem Auw:∀(f:Nat) (l acc s:List UInt8) (n:Nat) (t:List UInt8),l.length≤f→(∀c b,t=c::b→c≠39)→qS l acc=some (s,n)→qS (l++t) acc=some (s,n)
 |_,[],_,_,_,_,_,_,h=>by cases h
 |_,[c],acc,s,n,t,_,ht,h=>by
  by_cases hc:c=39<;>simp [qS,hc] at h
  cases t with
  |nil=>simp [qS,hc,h]
  |cons d t=>simp [qS,hc,ht d t rfl,h]
 |0,c::d::r,_,_,_,_,h,_,_=>by simp at h
 |f+1,c::d::r,acc,s,n,t,hl,ht,h=>by
  simp only [Zf1] at hl
  simp only [Zb2]
  rw [qS] at h ⊢
  by_cases hc:c=39
  ·rw [if_pos hc] at h ⊢
   by_cases hd:d=39
   ·rw [if_pos hd] at h ⊢
    obtain⟨⟨s',n'⟩,hq,he⟩:=Option.map_eq_some_iff.1 h
    rw [Auw f r (acc++[39]) s' n' t (by omega) ht hq]
    exact congrArg some he
   ·rw [if_neg hd] at h ⊢
    exact h
  ·rw [if_neg hc] at h ⊢
   obtain⟨⟨s',n'⟩,hq,he⟩:=Option.map_eq_some_iff.1 h
   have:=Auw f (d::r) (acc++[c]) s' n' t (by simp;omega) ht hq
   simp only [Zb2] at this
   rw [this]
   exact congrArg some he
theorem Aoi:∀(f:Nat) (l acc s:List UInt8) (n j:Nat),l.length≤f→n≤j→qS l acc=some (s,n)→qS (l.take j) acc=some (s,n)
 |_,[],_,_,_,_,_,_,h=>by cases h
 |_,[c],acc,s,n,j,_,hj,h=>by
  have hl:=Ai3 1 [c] acc s n (by simp) h
  obtain⟨j,rfl⟩:∃i,j=i+1:=⟨j-1,by omega⟩
  simpa using h
 |0,c::d::r,_,_,_,_,h,_,_=>by simp at h
 |f+1,c::d::r,acc,s,n,j,hl,hj,h=>by
  have hn:=Ai3 (f+1) (c::d::r) acc s n hl h
  simp only [Zf1] at hl
  obtain⟨j,rfl⟩:∃i,j=i+1:=⟨j-1,by omega⟩
  rw [qS] at h
  by_cases hc:c=39
  ·rw [if_pos hc] at h
   by_cases hd:d=39
   ·rw [if_pos hd] at h
    obtain⟨⟨s',n'⟩,hq,he⟩:=Option.map_eq_some_iff.1 h
    simp only [Zp1] at he
    obtain⟨j,rfl⟩:∃i,j=i+1:=⟨j-1,by omega⟩
    simp only [List.take_succ_cons]
    rw [qS,if_pos hc,if_pos hd,Aoi f r (acc++[39]) s' n' j (by omega) (by omega) hq]
    simp [he]
   ·rw [if_neg hd] at h
    cases j with
    |zero=>simp [qS,hc];simpa using h
    |succ j=>simp only [List.take_succ_cons];rw [qS,if_pos hc,if_neg hd];exact h
  ·rw [if_neg hc] at h
   obtain⟨⟨s',n'⟩,hq,he⟩:=Option.map_eq_some_iff.1 h
   simp only [Zp1] at he
   have hn':=Ai3 f (d::r) (acc++[c]) s' n' (by simp;omega) hq
   obtain⟨j,rfl⟩:∃i,j=i+1:=⟨j-1,by omega⟩
   have:=Aoi f (d::r) (acc++[c]) s' n' (j+1) (by simp;omega) (by omega) hq
   simp only [List.take_succ_cons] at this ⊢
   rw [qS,if_neg hc,this]
   simp [he]
theorem tw_app{p:Int→Bool}(t:List UInt8) (ht:∀c b,t=c::b→p c.toNat=false):∀m:List UInt8,tw p (m++t)=tw p m
 |[]=>by
  cases t with
  |nil=>rfl
  |cons c t=>simp [tw,ht c t rfl]
 |x::m=>by
  have ih:=tw_app t ht m
  unfold tw at *
  cases hp:p x.toNat with
  |true=>simp [hp];exact ih
  |false=>simp [hp]
theorem Agw{p:Int→Bool}:∀(m:List UInt8) (j:Nat),tw p (m.take j)=(tw p m).take j
 |[],j=>by simp [tw]
 |x::m,0=>by simp [tw]
 |x::m,j+1=>by
  have ih:=Agw (p:=p) m j
  unfold tw at *
  cases hp:p x.toNat with
  |true=>simp [hp];exact ih
  |false=>simp [hp]
def nq(c:Int):Bool := !decide (c=39)
def twoS(m:List UInt8):Bool:=pre m [60,62]||pre m [60,61]||pre m [62,61]
def Dt(m:List UInt8):Option (Int×List UInt8×Int×Nat) :=
 if pre m [120,39] then
  (if(tw nq (m.drop 2)).length=(m.drop 2).length then none else
  match(if(tw nq (m.drop 2)).length % 2=0 then unGo (tw nq (m.drop 2)) [] else none) with
  |none=>none
  |some b=>if 1000<(b.length:Int) then none else some (5,b,0,(tw nq (m.drop 2)).length+3))
 else if Bf (byt m 0)=1 then(if wordF (tw B3 m) then some (1,tw B3 m,0,(tw B3 m).length) else none)
 else if Bf (byt m 0)=2 then(if rnameF (tw B3 m) then some (2,tw B3 m,0,(tw B3 m).length) else none)
 else if Bf (byt m 0)=3 then(if 0≤Un (tw B3 m) then some (3,tw B3 m,Un (tw B3 m),(tw B3 m).length) else none)
 else if Bf (byt m 0)=5 then
  match qS (m.drop 1) [] with
  |none=>none
  |some (s,n)=>if Vd 4 0 s=0 then some (4,s,0,n+1) else none
 else if Bf (byt m 0)=7 then(if twoS m then some (6,m.take 2,0,2) else some (6,m.take 1,0,1))
 else none
theorem A50(l:List UInt8) (i:Int) (h : 0≤i∧i<l.length):Aps l i=(Dt (l.drop i.toNat)).map fun x=>(x.1,x.2.1,x.2.2.1,i+(x.2.2.2:Int)):=by
 have hb0:byt (l.drop i.toNat) 0=byt l i:=by simpa using Wl l i h.1 0
 have hdl:(l.drop i.toNat).length=l.length-i.toNat:=Za2
 have hd1:(l.drop i.toNat).drop 1=l.drop (i+1).toNat:=by rw [List.drop_drop];congr 1;omega
 have hd2:(l.drop i.toNat).drop 2=l.drop (i+2).toNat:=by rw [List.drop_drop];congr 1;omega
 unfold Aps Dt
 by_cases hx:Ah1 l i
 ·rw [if_pos hx,if_pos ((Afz l i h).1 hx)]
  have hr1:runTo B3 l i=i+1:=by
   rw [E7,←To _ _ _ h.1,hx.1];rfl
  have hlt:i+1<l.length:=by have:=hx.2.1;omega
  have hdl2:(l.drop (i+2).toNat).length=l.length-(i+2).toNat:=Za2
  rw [hr1]
  simp only
  rw [show i+1+1=i+2 by omega,hd2,To _ _ _ (by omega),E7]
  change (if i+2+((tw nq (l.drop (i+2).toNat)).length:Int)=l.length then none else match(if(tw nq (l.drop (i+2).toNat)).length % 2=0 then unGo (tw nq (l.drop (i+2).toNat)) [] else none) with|none=>none|some b=>if 1000<(b.length:Int) then none else some ((5:Int),b,(0:Int),i+2+((tw nq (l.drop (i+2).toNat)).length:Int)+1))=_
  generalize tw nq (l.drop (i+2).toNat)=r at *
  by_cases hf:r.length=(l.drop (i+2).toNat).length
  ·rw [if_pos (show i+2+(r.length:Int)=l.length by omega),if_pos hf];rfl
  ·rw [if_neg (show ¬i+2+(r.length:Int)=l.length by omega),if_neg hf]
   generalize (if r.length % 2=0 then unGo r [] else none)=u
   cases u with
   |none=>rfl
   |some b =>
    by_cases hbig : 1000<(b.length:Int)
    ·simp only [if_pos hbig];rfl
    ·simp only [if_neg hbig,Zl2,Za1,Zp1,true_and]
     omega
 ·rw [if_neg hx,if_neg (fun hh=>hx ((Afz l i h).2 hh)),hb0,To _ _ _ h.1,E7]
  split
  ·split<;>rfl
  ·split
   ·split<;>rfl
   ·split
    ·split<;>rfl
    ·split
     ·rw [hd1,Ave _ _ _ _ (Zn1 _)]
      cases qS (l.drop (i+1).toNat) [] with
      |none=>rfl
      |some x =>
       obtain⟨s,n⟩:=x
       by_cases hk:Vd 4 0 s=0
       ·simp only [if_pos hk]
        rw [if_pos ⟨by omega,hk⟩]
        simp;omega
       ·simp [hk]
     ·split
      ·have htwo:Aj6 l i↔twoS (l.drop i.toNat)=true:=by
        simp only [twoS,Zd2,Awj l i h,Aj6]
        constructor
        ·rintro⟨h1,h2|h2|h2⟩
         ·exact .inl (.inl ⟨h1,h2⟩)
         ·exact .inl (.inr ⟨h1,h2⟩)
         ·exact .inr ⟨h1,h2⟩
        ·rintro((⟨h1,h2⟩|⟨h1,h2⟩)|⟨h1,h2⟩)
         ·exact⟨h1,.inl h2⟩
         ·exact⟨h1,.inr (.inl h2)⟩
         ·exact⟨h1,.inr (.inr h2)⟩
       have hc:∀k:Nat,cut l i (i+k)=(l.drop i.toNat).take k:=fun k=>by
        unfold cut;congr 1;omega
       have h1:=hc 1
       have h2:=hc 2
       by_cases ht:Aj6 l i
       ·rw [if_pos ht,if_pos (htwo.1 ht)]
        simp only [Zl2]
        rw [←h2];rfl
       ·rw [if_neg ht,if_neg (fun hh=>ht (htwo.2 hh))]
        simp only [Zl2]
        rw [←h1];rfl
      ·rfl
theorem Ac7{m x:List UInt8}{j:Nat}(h:pre (m.take j) x=true):pre m x=true:=by
 simp only [pre,Zb1,Zg1,List.length_take,List.take_take] at h ⊢
 have h2:=h.2
 rw [show min x.length j=x.length by omega] at h2
 exact⟨by omega,h2⟩
theorem Yu{m x:List UInt8}{j:Nat}(h:pre m x=true) (hj:x.length≤j):pre (m.take j) x=true:=by
 simp only [pre,Zb1,Zg1,List.length_take,List.take_take] at h ⊢
 refine⟨by omega,?_⟩
 rw [show min x.length j=x.length by omega]
 exact h.2
theorem Aou{m:List UInt8}{j:Nat}(h : 1≤j):byt (m.take j) 0=byt m 0:=by
 unfold byt
 simp [List.getD_eq_getElem?_getD,show 0<j by omega]
theorem A2p{m:List UInt8}{j:Nat}(h:twoS (m.take j)=true):twoS m=true:=by
 simp only [twoS,Zd2] at h ⊢
 exact h.imp (Or.imp Ac7 Ac7) Ac7
theorem Ate{m:List UInt8}{j:Nat}(h:twoS m=true) (hj : 2≤j):twoS (m.take j)=true:=by
 simp only [twoS,Zd2] at h ⊢
 exact h.imp (Or.imp (fun h=>Yu h hj) (fun h=>Yu h hj)) (fun h=>Yu h hj)
theorem tokS_len{m:List UInt8}{k:Int}{s:List UInt8}{n:Int}{e:Nat}(h:Dt m=some (k,s,n,e)) : 1≤e∧e≤m.length:=by
 cases m with
 |nil=>exact absurd (h.symm.trans (show Dt []=none by decide +kernel)) (by simp)
 |cons c m =>
  have h0:(0:Int)≤0∧(0:Int)<((c::m).length:Int):=by simp
  have hr:=A50 (c::m) 0 h0
  simp only [Int.toNat_zero,Zq1,h,Zl2] at hr
  have:=Apg h0 hr
  omega
theorem A08{m:List UInt8}{k:Int}{s:List UInt8}{n:Int}{e j:Nat}(h:Dt m=some (k,s,n,e)) (hj:e≤j):Dt (m.take j)=some (k,s,n,e):=by
 have hlen:=tokS_len h
 have hb:=Aou (m:=m) (j:=j) (by omega)
 have htw:∀p:Int→Bool,(tw p m).length≤j→tw p (m.take j)=tw p m:=fun p hp=>by
  rw [Agw,List.take_of_length_le hp]
 unfold Dt at h ⊢
 by_cases hx:pre m [120,39]=true
 ·rw [if_pos hx] at h
  have e3:∀r:List UInt8,(if r.length=(m.drop 2).length then none else match(if r.length % 2=0 then unGo r [] else none) with|none=>none|some b=>if 1000<(b.length:Int) then none else some ((5:Int),b,(0:Int),r.length+3))=some (k,s,n,e)→e=r.length+3∧r.length≠(m.drop 2).length:=by
   intro r hr
   split at hr
   ·cases hr
   ·rename_i hne
    split at hr
    ·cases hr
    ·split at hr
     ·cases hr
     ·simp only [Za1,Zp1] at hr
      exact⟨hr.2.2.2.symm,hne⟩
  obtain⟨he,hne⟩:=e3 _ h
  have hdt:(m.take j).drop 2=(m.drop 2).take (j-2):=by rw [List.drop_take]
  have hq:tw nq ((m.take j).drop 2)=tw nq (m.drop 2):=by
   rw [hdt,Agw,List.take_of_length_le (by omega)]
  have hl:=Ai7 nq (m.drop 2)
  rw [if_pos (Yu hx (by simp;omega)),hq]
  have hne':¬(tw nq (m.drop 2)).length=((m.take j).drop 2).length:=by
   rw [hdt,List.length_take];omega
  rw [if_neg hne']
  rw [if_neg hne] at h
  exact h
 ·rw [if_neg hx] at h
  rw [if_neg (fun hh=>hx (Ac7 hh)),hb]
  have key:∀(b:Bool) (kk vv:Int),(if b=true then some (kk,tw B3 m,vv,(tw B3 m).length) else none)=some (k,s,n,e)→tw B3 (m.take j)=tw B3 m:=by
   intro b kk vv hh
   cases b
   ·cases hh
   ·simp only [if_true,Za1,Zp1] at hh
    exact htw B3 (by omega)
  split
  ·rename_i h1;rw [if_pos h1] at h;rw [key _ _ _ h];exact h
  ·rename_i h1;rw [if_neg h1] at h
   split
   ·rename_i h2;rw [if_pos h2] at h;rw [key _ _ _ h];exact h
   ·rename_i h2;rw [if_neg h2] at h
    split
    ·rename_i h3;rw [if_pos h3] at h
     have:tw B3 (m.take j)=tw B3 m:=by
      split at h
      ·simp only [Za1,Zp1] at h
       exact htw B3 (by omega)
      ·cases h
     rw [this];exact h
    ·rename_i h3;rw [if_neg h3] at h
     split
     ·rename_i h5;rw [if_pos h5] at h
      rw [List.drop_take]
      cases hq:qS (m.drop 1) [] with
      |none=>rw [hq] at h;cases h
      |some x =>
       obtain⟨s',n'⟩:=x
       rw [hq] at h
       have hle:n'≤j-1:=by
        simp only at h
        split at h
        ·simp only [Za1,Zp1] at h;omega
        ·cases h
       rw [Aoi _ _ _ s' n' (j-1) (Zn1 _) hle hq]
       exact h
     ·rename_i h5;rw [if_neg h5] at h
      split
      ·rename_i h7;rw [if_pos h7] at h
       by_cases h2':twoS m=true
       ·rw [if_pos h2'] at h
        have : 2≤j:=by simp only [Za1,Zp1] at h;omega
        rw [if_pos (Ate h2' this),List.take_take,show min 2 j=2 by omega]
        exact h
       ·rw [if_neg h2'] at h
        rw [if_neg (fun hh=>h2' (A2p hh)),List.take_take,show min 1 j=1 by omega]
        exact h
      ·rename_i h7;rw [if_neg h7] at h;exact h
theorem Aru:∀n:Fin 256,Bf (n.val:Int)=6→B3 (n.val:Int)=false∧(n.val:Int)≠39∧(n.val:Int)≠61∧(n.val:Int)≠62:=by decide +kernel
theorem Axl{c:UInt8}(h:Bf c.toNat=6):B3 c.toNat=false∧c≠39∧c≠61∧c≠62:=by
 have:=of256 (p:=fun c=>Bf c=6→B3 c=false∧c≠39∧c≠61∧c≠62) Aru c.toNat (u8_range c) h
 refine⟨this.1,?_,?_,?_⟩
 ·rintro rfl;exact this.2.1 rfl
 ·rintro rfl;exact this.2.2.1 rfl
 ·rintro rfl;exact this.2.2.2 rfl
theorem Ans{m:List UInt8}(hm:m≠[]) (c:UInt8) (b:List UInt8) {x y:UInt8}(h:c≠y):pre (m++c::b) [x,y]=pre m [x,y]:=by
 match m with
 |[]=>exact absurd rfl hm
 |[a] =>
  have:pre [a] [x,y]=false:=by simp [pre]
  rw [this]
  simp [pre,h]
 |a::a'::r=>simp [pre]
theorem A8d{m:List UInt8}(hm:m≠[]) {c:UInt8}(b:List UInt8) (hc:Bf c.toNat=6):twoS (m++c::b)=twoS m:=by
 have h:=Axl hc
 simp only [twoS,Ans hm c b h.2.2.1,Ans hm c b h.2.2.2]
theorem byt_app{m:List UInt8}(hm:m≠[]) (t:List UInt8):byt (m++t) 0=byt m 0:=by
 cases m with
 |nil=>exact absurd rfl hm
 |cons a m=>rfl
def A4c(m:List UInt8):Prop:=byt m 0=39∨pre m [120,39]=true
theorem Bhs{c:Int}(h:Bf c=5):c=39:=by
 unfold Bf at h
 split at h; · omega
 split at h; · omega
 split at h; · omega
 split at h; · omega
 split at h; · assumption
 split at h; · omega
 split at h<;>omega
theorem Agz{m:List UInt8}(hm:m≠[]) {c:UInt8}(b:List UInt8) (hc:Bf c.toNat=6):(Dt m≠none∨¬A4c m)→Dt (m++c::b)=Dt m:=by
 intro hor
 have hbl:=Axl hc
 have htw:tw B3 (m++c::b)=tw B3 m:=tw_app _ (fun d t hd=>by cases hd;exact hbl.1) m
 unfold Dt at hor ⊢
 rw [Ans hm c b hbl.2.1,htw,byt_app hm,A8d hm b hc]
 by_cases hx:pre m [120,39]=true
 ·rw [if_pos hx] at hor
  rw [if_pos hx,if_pos hx]
  have h2 : 2≤m.length:=by
   simp only [pre,Zb1,Zg1,Zf1,Zi1] at hx;omega
  have hd:(m++c::b).drop 2=m.drop 2++c::b:=by rw [List.drop_append_of_le_length h2]
  rcases hor with hor|hor
  ·have hne:¬(tw nq (m.drop 2)).length=(m.drop 2).length:=fun hh=>by rw [if_pos hh] at hor;exact hor rfl
   have hfull:∃r1 d r2,m.drop 2=r1++d::r2∧nq d.toNat=false:=by
    have hsp:∀x:List UInt8,(tw nq x).length≠x.length→∃r1 d r2,x=r1++d::r2∧nq d.toNat=false:=by
     intro x
     induction x with
     |nil=>intro h;simp [tw] at h
     |cons y x ih =>
      intro hne
      cases hy:nq y.toNat with
      |false=>exact⟨[],y,x,rfl,hy⟩
      |true =>
       have:(tw nq x).length≠x.length:=by
        unfold tw at hne ⊢
        simp [hy] at hne
        exact hne
       obtain⟨r1,d,r2,h1,h2⟩:=ih this
       exact⟨y::r1,d,r2,by rw [h1];rfl,h2⟩
    exact hsp _ hne
   have htq:tw nq ((m++c::b).drop 2)=tw nq (m.drop 2):=by
    obtain⟨r1,d,r2,h1,h2'⟩:=hfull
    rw [hd,h1,Zj1,Zb2]
    rw [tw_app (p:=nq) (d::(r2++c::b)) (fun x t hx=>by cases hx;exact h2') r1,tw_app (p:=nq) (d::r2) (fun x t hx=>by cases hx;exact h2') r1]
   have hl:=Ai7 nq (m.drop 2)
   have hne':¬(tw nq (m.drop 2)).length=((m++c::b).drop 2).length:=by
    rw [hd,Zh1];omega
   rw [htq,if_neg hne',if_neg hne]
  ·exact absurd (.inr hx) hor
 ·rw [if_neg hx] at hor
  rw [if_neg hx,if_neg hx]
  have ht1:(m++c::b).take 1=m.take 1:=by
   cases m with
   |nil=>exact absurd rfl hm
   |cons a m=>rfl
  have ht2:twoS m=true→(m++c::b).take 2=m.take 2:=fun h2=>by
   have : 2≤m.length:=by
    simp only [twoS,Zd2,pre,Zb1,Zg1,Zf1,Zi1] at h2
    omega
   rw [List.take_append_of_le_length this]
  by_cases h1:Bf (byt m 0)=1
  ·rw [if_pos h1,if_pos h1]
  ·by_cases h2:Bf (byt m 0)=2
   ·rw [if_neg h1,if_neg h1,if_pos h2,if_pos h2]
   ·by_cases h3:Bf (byt m 0)=3
    ·rw [if_neg h1,if_neg h1,if_neg h2,if_neg h2,if_pos h3,if_pos h3]
    ·rw [if_neg h1,if_neg h1,if_neg h2,if_neg h2,if_neg h3,if_neg h3]
     rw [if_neg h1,if_neg h2,if_neg h3] at hor
     by_cases h5:Bf (byt m 0)=5
     ·rw [if_pos h5] at hor
      rw [if_pos h5,if_pos h5]
      rcases hor with hor|hor
      ·have hd:(m++c::b).drop 1=m.drop 1++c::b:=by
        cases m with
        |nil=>exact absurd rfl hm
        |cons a m=>rfl
       cases hq:qS (m.drop 1) [] with
       |none=>rw [hq] at hor;exact absurd rfl hor
       |some x =>
        rw [hd,Auw _ _ _ x.1 x.2 (c::b) (Zn1 _) (fun d t hd=>by cases hd;exact hbl.2.1) hq]
      ·exact absurd (.inl (Bhs h5)) hor
     ·rw [if_neg h5,if_neg h5]
      by_cases h7:Bf (byt m 0)=7
      ·rw [if_pos h7,if_pos h7]
       by_cases h2':twoS m=true
       ·rw [if_pos h2',if_pos h2',ht2 h2']
       ·rw [if_neg h2',if_neg h2',ht1]
      ·rw [if_neg h7,if_neg h7]
inductive Sc:List UInt8→Int→List Tok→Prop where
 |nil {p:Int}:Sc [] p []
 |blank {c:UInt8}{r:List UInt8}{p:Int}{ts:List Tok}:Bf c.toNat=6→Sc r (p+1) ts→Sc (c::r) p ts
 |tok {m:List UInt8}{p:Int}{k:Int}{s:List UInt8}{n:Int}{e:Nat}{ts:List Tok}:Bf (byt m 0)≠6→Dt m=some (k,s,n,e)→Sc (m.drop e) (p+e) ts→Sc m p (⟨k,p,s,n⟩::ts)
inductive Er:List UInt8→Int→Int→Prop where
 |blank {c:UInt8}{r:List UInt8}{p j:Int}:Bf c.toNat=6→Er r (p+1) j→Er (c::r) p j
 |tok {m:List UInt8}{p:Int}{k:Int}{s:List UInt8}{n:Int}{e:Nat}{j:Int}:Bf (byt m 0)≠6→Dt m=some (k,s,n,e)→Er (m.drop e) (p+e) j→Er m p j
 |bad {m:List UInt8}{p:Int}:m≠[]→Bf (byt m 0)≠6→Dt m=none→Er m p p
theorem Ash(l:List UInt8):∀(f:Nat) (i:Int) (acc:List Tok),0≤i∧i≤l.length→(l.length:Int)-i<f→match O5 f l i acc with
  |.ok ts=>∃us,ts=acc++us∧Sc (l.drop i.toNat) i us
  |.error j=>Er (l.drop i.toNat) i j
 |0,i,acc,h,hf=>by omega
 |f+1,i,acc,h,hf=>by
  simp only [O5]
  by_cases he:(l.length:Int)≤i
  ·rw [if_pos he]
   exact⟨[],by simp,by rw [Zk1 (by omega)];exact .nil⟩
  ·rw [if_neg he]
   have hb0:byt (l.drop i.toNat) 0=byt l i:=by simpa using Wl l i h.1 0
   have hcons:=Im l i (by omega)
   by_cases hb:Bf (byt l i)=6
   ·rw [if_pos hb]
    have ih:=Ash l f (i+1) acc (by omega) (by omega)
    have hb':Bf ((l.getD i.toNat 0).toNat:Int)=6:=hb
    cases hr:O5 f l (i+1) acc with
    |ok ts =>
     rw [hr] at ih
     obtain⟨us,h1,h2⟩:=ih
     exact⟨us,h1,by rw [hcons];exact .blank hb' h2⟩
    |error j =>
     rw [hr] at ih
     show Er _ _ _
     rw [hcons]
     exact .blank hb' ih
   ·rw [if_neg hb]
    have hS:=A50 l i (by omega)
    cases hS':Dt (l.drop i.toNat) with
    |none =>
     rw [hS'] at hS
     rw [hS]
     exact .bad (by rw [hcons];simp) (by rw [hb0];exact hb) hS'
    |some x =>
     obtain⟨k,s,n,e⟩:=x
     rw [hS'] at hS
     simp only [Zl2] at hS
     have hlen:=tokS_len hS'
     have hdl:(l.drop i.toNat).length=l.length-i.toNat:=Za2
     rw [hS]
     simp only
     have ih:=Ash l f (i+(e:Int)) (acc++[⟨k,i,s,n⟩]) (by omega) (by omega)
     have hdd:l.drop (i+(e:Int)).toNat=(l.drop i.toNat).drop e:=by rw [List.drop_drop];congr 1;omega
     rw [hdd] at ih
     cases hr:O5 f l (i+(e:Int)) (acc++[⟨k,i,s,n⟩]) with
     |ok ts =>
      rw [hr] at ih
      obtain⟨us,h1,h2⟩:=ih
      exact⟨⟨k,i,s,n⟩::us,by rw [h1];simp,.tok (by rw [hb0];exact hb) hS' h2⟩
     |error j =>
      rw [hr] at ih
      exact .tok (by rw [hb0];exact hb) hS' ih
theorem Aba:Dt []=none:=by decide +kernel
theorem Sc.det{m:List UInt8}{p:Int}{ts:List Tok}(h:Sc m p ts):∀{us:List Tok},Sc m p us→ts=us:=by
 induction h with
 |nil =>
  intro us h
  cases h with
  |nil=>rfl
  |tok _ h2 _=>rw [Aba] at h2;cases h2
 |blank hc _ ih =>
  intro us h
  cases h with
  |blank _ h2=>exact ih h2
  |tok h1 _ _=>exact absurd hc h1
 |tok h1 h2 _ ih =>
  intro us h
  cases h with
  |nil=>rw [Aba] at h2;cases h2
  |blank hc _=>exact absurd hc h1
  |tok _ h3 h4 =>
   rw [h2] at h3
   cases h3
   rw [ih h4]
theorem Sc.not_er{m:List UInt8}{p:Int}{ts:List Tok}(h:Sc m p ts):∀{j:Int},¬Er m p j:=by
 induction h with
 |nil =>
  intro j h
  cases h with
  |tok _ h2 _=>rw [Aba] at h2;cases h2
  |bad h _ _=>exact h rfl
 |blank hc _ ih =>
  intro j h
  cases h with
  |blank _ h2=>exact ih h2
  |tok h1 _ _=>exact absurd hc h1
  |bad _ h1 _=>exact absurd hc h1
 |tok h1 h2 _ ih =>
  intro j h
  cases h with
  |blank hc _=>exact absurd hc h1
  |tok _ h3 h4 =>
   rw [h2] at h3
   cases h3
   exact ih h4
  |bad _ _ h3=>rw [h2] at h3;cases h3
theorem Er.det{m:List UInt8}{p j:Int}(h:Er m p j):∀{i:Int},Er m p i→j=i:=by
 induction h with
 |blank hc _ ih =>
  intro i h
  cases h with
  |blank _ h2=>exact ih h2
  |tok h1 _ _=>exact absurd hc h1
  |bad _ h1 _=>exact absurd hc h1
 |tok h1 h2 _ ih =>
  intro i h
  cases h with
  |blank hc _=>exact absurd hc h1
  |tok _ h3 h4 =>
   rw [h2] at h3
   cases h3
   exact ih h4
  |bad _ _ h3=>rw [h2] at h3;cases h3
 |bad h0 h1 h2 =>
  intro i h
  cases h with
  |blank hc _=>exact absurd hc h1
  |tok _ h3 _=>rw [h2] at h3;cases h3
  |bad _ _ _=>rfl
theorem allF_sc(l:List UInt8):match allF l with
  |.ok ts=>Sc l 0 ts
  |.error j=>Er l 0 j:=by
 rw [Bct,Bdf]
 have h:=Ash l (l.length+1) 0 [] (by omega) (by omega)
 cases hr:O5 (l.length+1) l 0 [] with
 |ok ts =>
  rw [hr] at h
  obtain⟨us,h1,h2⟩:=h
  simp only [Zf2] at h1
  subst h1
  simpa using h2
 |error j=>rw [hr] at h;simpa using h
theorem allF_of_sc{l:List UInt8}{ts:List Tok}(h:Sc l 0 ts):allF l = .ok ts:=by
 have h2:=allF_sc l
 cases hr:allF l with
 |ok us=>rw [hr] at h2;rw [h.det h2]
 |error j=>rw [hr] at h2;exact absurd h2 h.not_er
def Bed(d:Int) (t:Tok):Tok:=⟨t.kind,t.pos+d,t.s,t.n⟩
theorem Sc.off{m:List UInt8}{p:Int}{ts:List Tok}(h:Sc m p ts) (d:Int):Sc m (p+d) (ts.map (Bed d)):=by
 induction h with
 |nil=>exact .nil
 |blank hc _ ih=>exact .blank hc (by rw [show ∀x:Int,x+d+1=x+1+d from fun x=>by omega];exact ih)
 |tok h1 h2 _ ih=>exact .tok h1 h2 (by rw [show ∀x y:Int,x+d+y=x+y+d from fun x y=>by omega];exact ih)
theorem Er.off{m:List UInt8}{p j:Int}(h:Er m p j) (d:Int):Er m (p+d) (j+d):=by
 induction h with
 |blank hc _ ih=>exact .blank hc (by rw [show ∀x:Int,x+d+1=x+1+d from fun x=>by omega];exact ih)
 |tok h1 h2 _ ih=>exact .tok h1 h2 (by rw [show ∀x y:Int,x+d+y=x+y+d from fun x y=>by omega];exact ih)
 |bad h0 h1 h2=>exact .bad h0 h1 h2
theorem Akz{m:List UInt8}{x:Int×List UInt8×Int×Nat}(h:Dt m=some x):m≠[]:=by
 rintro rfl;rw [Aba] at h;cases h
theorem Sc.app{a:List UInt8}{p:Int}{ts:List Tok}(h:Sc a p ts) {c:UInt8}(hc:Bf c.toNat=6) (b:List UInt8):∀{us:List Tok},Sc b (p+a.length+1) us→Sc (a++c::b) p (ts++us):=by
 induction h with
 |nil=>intro us hb;exact .blank hc (by simpa using hb)
 |blank hx _ ih =>
  intro us hb
  refine .blank hx (ih ?_)
  rename_i r p _ _
  rw [show p+1+(r.length:Int)+1=p+((r.length+1:Nat):Int)+1 by omega]
  exact hb
 |tok h1 h2 _ ih =>
  intro us hb
  have hm:=Akz h2
  have hl:=tokS_len h2
  refine .tok (by rw [byt_app hm];exact h1) ((Agz hm b hc (.inl (by rw [h2];simp))).trans h2) ?_
  rw [List.drop_append_of_le_length hl.2]
  refine ih ?_
  rename_i m p _ _ _ e _ _
  rw [Za2,show p+(e:Int)+((m.length-e:Nat):Int)+1=p+(m.length:Int)+1 by omega]
  exact hb
theorem Er.app{a:List UInt8}{p j:Int}(h:Er a p j) {c:UInt8}(hc:Bf c.toNat=6) (b:List UInt8):∃i:Nat,j=p+i∧i<a.length∧(A4c (a.drop i)∨Er (a++c::b) p j):=by
 induction h with
 |blank hx _ ih =>
  obtain⟨i,h1,h2,h3⟩:=ih
  refine⟨i+1,by omega,by simp;omega,?_⟩
  exact h3.imp (fun h=>h) (fun h =>.blank hx h)
 |tok h1 h2 _ ih =>
  obtain⟨i,h3,h4,h5⟩:=ih
  have hm:=Akz h2
  have hl:=tokS_len h2
  rename_i m p _ _ _ e _ _
  rw [Za2] at h4
  refine⟨e+i,by omega,by omega,?_⟩
  rw [List.drop_drop] at h5
  refine h5.imp (fun h=>h) (fun h =>?_)
  refine .tok (by rw [byt_app hm];exact h1) ((Agz hm b hc (.inl (by rw [h2];simp))).trans h2) ?_
  rw [List.drop_append_of_le_length hl.2]
  exact h
 |bad h0 h1 h2 =>
  rename_i m p
  refine⟨0,by omega,List.length_pos_iff.2 h0,?_⟩
  by_cases ho:A4c m
  ·exact .inl ho
  ·right
   exact .bad (by simp) (by rw [byt_app h0];exact h1) ((Agz h0 b hc (.inr ho)).trans h2)
theorem Sc.le{m:List UInt8}{p:Int}{ts:List Tok}(h:Sc m p ts):∀t,t∈ts→p≤t.pos:=by
 induction h with
 |nil=>intro t h;cases h
 |blank _ _ ih=>intro t h;have:=ih t h;omega
 |tok _ _ _ ih =>
  intro t h
  simp only [List.mem_cons] at h
  rcases h with rfl|h
  ·exact Int.le_refl _
  ·have:=ih t h;omega
theorem Sc.part{m:List UInt8}{p:Int}{ts:List Tok}(h:Sc m p ts):∀(k:Nat) (t:Tok),ts[k]? = some t→∃A:Nat,t.pos=p+A∧A<m.length∧Sc (m.take A) p (ts.take k)∧Sc (m.drop A) t.pos (ts.drop k):=by
 induction h with
 |nil=>intro k t h;simp at h
 |blank hc _ ih =>
  intro k t h
  obtain⟨A,h1,h2,h3,h4⟩:=ih k t h
  exact⟨A+1,by omega,by simp;omega,by rw [List.take_succ_cons];exact .blank hc h3,h4⟩
 |tok h1 h2 h3 ih =>
  intro k t h
  have hl:=tokS_len h2
  rename_i m p _ _ _ e _
  cases k with
  |zero =>
   simp only [List.getElem?_cons_zero,Za1] at h
   subst h
   exact⟨0,by simp,by omega,by simp;exact .nil,by simp;exact .tok h1 h2 h3⟩
  |succ k =>
   obtain⟨A,h4,h5,h6,h7⟩:=ih k t (by simpa using h)
   rw [Za2] at h5
   refine⟨e+A,by omega,by omega,?_,by rw [←List.drop_drop];exact h7⟩
   rw [List.take_succ_cons]
   refine .tok (by rw [Aou (by omega)];exact h1) (A08 h2 (by omega)) ?_
   rw [List.drop_take,show e+A-e=A by omega]
   exact h6
theorem Sc.next{m:List UInt8}{p:Int}{t:Tok}{ts:List Tok}(h:Sc m p (t::ts)) (ht:t.pos=p):∀u,u∈ts→p<u.pos:=by
 cases h with
 |blank hc h2=>have:=h2.le t (by simp);omega
 |tok _ h2 h3 =>
  intro u hu
  have:=h3.le u hu
  have:=tokS_len h2
  omega
end Go.Proofs.YthndhaolemgbdaaGreatDoor.Lp
namespace Go.Ax
theorem FnOk.ofIs{P:Program}{el:Ck→TypeId}{gl:Nat→Option Gv}{f:FuncId}{sa sr:List Sg}{F:FT sa sr}(he:Sx.Enters P f) (ho:B4 0 sr=[]) (h:∀x r,F x=some r→∃(us:List Value) (v:Value),(∀X vs,Reps X (Cq 0 sa x) vs→vs=us)∧Sx.Con P f us [] (fun _=>True) (Sx.Is v)∧∀X,BdL sa x→Rep X (Nz (Cq 0 sr r)) v):FnOk P el gl f sa sr F:=by
 refine⟨he,fun x r hx w M vs hM hgl hr =>?_⟩
 obtain⟨us,v,h1,h2,h3⟩:=h x r hx
 obtain rfl:=h1 _ _ hr
 refine(h2.calls w (fun _ _=>trivial)).mono ?_
 rintro en w' ⟨u,L',F',rfl,⟨rfl,_,_⟩,_,hb⟩
 refine⟨u,⟨fun _=>0,fun _=>Option.none⟩,rfl,Chg.of_below hb,fun p g o hp =>?_,fun p q g o o' hp =>?_,h3 _ (Aa9 hr)⟩
 ·rw [ho] at hp;cases hp
 ·rw [ho] at hp;cases hp
end Go.Ax
namespace Go.Proofs.YthndhaolemgbdaaGreatDoor
open Go.Ax
open Go.Sx (Con S Is Al5 Bdg)
end Go.Proofs.YthndhaolemgbdaaGreatDoor
namespace Go.Proofs.YthndhaolemgbdaaGreatDoor
open Go.Ax
def S3:Sig:=⟨20,[(0,.str),(2,.bool),(5,.int .i64),(6,.int .i64)],[],[],0,0,0,[],[]⟩
abbrev Fv:=Str×Bool×Int×Int
def Jp{R:Type}(rec:Fv→Option R) (kx:Ex→Fv→Option R) (v:Fv):Option R:=match v with
 |(v,v1,v2,v3) =>
 cond (decide (v3<v2)) (
  chk (inb v3 v.length) (
  cond (decide ((bat v v3)<32)) (
   kx .ret (v,false,v2,v3)) (
   chk (inb v3 v.length) (
   cond (decide (126<(bat v v3))) (
    kx .ret (v,false,v2,v3)) (
    rec (v,v1,v2,(wr .i64 (v3+1)))))))) (
  kx (.exit 0) (v,v1,v2,v3))
def Gx(R:Type) (k:Nat):Px R:=⟨A7 ttL,glT,Aq [],Ak [],Av [(2,Bc k S3 (Jp))],tbl []⟩
theorem Amw(R:Type) (k:Nat):∀(fr:List Fr) (rec:Fv→Option R) (kx:Ex→Fv→Option R) (v:Fv),Bn (Gx R k) S3 (lp Tryz.f169 0) fr rec kx v=Jp rec kx v
 |fr,rec,kx,(v,v1,v2,v3)=>by kernel_rfl
def Acu(k:Nat) (x:HV [.str]):Option (HV [.bool]):=match x with
 |s =>
 A5 (fun rec=>Jp rec (fun e vz=>match vz with|(_,v5,_,_)=>match e with
  |.ret =>
  some v5
  |.exit 0 =>
  some true
  |_=>none)) k (s,false,(s.length:Int),0)
theorem Aug(k:Nat):∀(x:HV [.str]),Ci (Gx _ k) Tryz.f169 [.str] [.bool] x some=Acu k x
 |s=>by kernel_rfl
theorem Aql(k:Nat):FnOk Tryz.prog elT glT 169 [.str] [.bool] (Acu k):=by
 refine A1 Tryz.func169 rfl (by kernel_rfl) follows (by kernel_rfl) (n:=1) (by kernel_rfl) (px:=Gx _ k) (fun cx hP hel hgl =>?_) (Aug k)
 have hp0:PxOk cx (Gx (HV [.bool]) k):=⟨fun t=>by rw [hP,hel];exact Au Al t,by rw [hgl];rfl⟩
 have hc0:Aj cx (Gx (HV [.bool]) k):=Ah rfl Ai
 have hq0:CallQOk cx (Gx (HV [.bool]) k):=Ab rfl rfl Af Ae
 have hlvisible_0:A6 cx (Gx (HV [.bool]) k) (lp Tryz.f169 0):=A8 hp0 hc0 hq0 (by rw [hP];exact follows) (k:=k) (s:=S3) (step:=Jp) (fun _ _=>by kernel_rfl) (by kernel_rfl) (Amw _ k) (A0 (n:=0) (by kernel_rfl) Aw)
 exact⟨hp0,hc0,hq0,(Cg Aw hlvisible_0)⟩
def vis(b:UInt8):Bool:=decide (32≤b.toNat)&&decide (b.toNat≤126)
def J2(s:Str):Bool:=s.all vis
def Ade:FT [.str] [.bool]:=fun x=>some (J2 x)
theorem Acs{R:Type}{kx:Ex→Fv→Option R}{s:Str}{a b:Option R}(hs:ln s.length) (h1:∀r j,kx .ret (s,false,r,j)=a) (h2:∀q r j,kx (.exit 0) (s,q,r,j)=b):∀(k i:Nat) q,i≤s.length→s.length-i<k→A5 (fun rec=>Jp rec kx) k (s,q,(s.length:Int),(i:Int))=cond ((s.drop i).all vis) b a
 |0,i,q,_,h=>by omega
 |k+1,i,q,hi,h=>by
  rw [Bu]
  by_cases hl:i<s.length
  ·have ih:=Acs hs h1 h2 k (i+1) q (by omega) (by omega)
   simp only [Jp,Bg hl hs,ih,h1,A9 hl,Di hl,Bp hl,Zv1,chk,Am,Bool.cond_decide]
   rw [if_pos (by omega)]
   simp only [vis]
   split
   ·rw [Zd1 (by omega)];rfl
   ·split
    ·rw [Ze1 (by omega),Zd1 (by omega)];rfl
    ·rw [Ze1 (by omega),Ze1 (by omega)];rfl
  ·simp only [Jp,h2,Bool.cond_decide]
   rw [if_neg (by omega),Zk1 (by omega)]
   rfl
theorem At4:FnOk Tryz.prog elT glT 169 [.str] [.bool] Ade :=.fin 0 Aql fun x r hb hx=>⟨x.length+1,by
 simp only [Ade,Za1] at hx
 have:=Acs (a:=some false) (b:=some true) hb (kx:=fun e v=>match v with|(_,v5,_,_)=>match e with|.ret=>some v5|.exit 0=>some true|_=>none) (fun _ _=>rfl) (fun _ _ _=>rfl) (x.length+1) 0 false (Nat.zero_le _) (by omega)
 refine Eq.trans this ?_
 rw [←hx,Zq1,J2]
 cases x.all vis<;>rfl⟩
def Po(R:Type):Px R:=⟨A7 ttL,glT,Aq [(169,As [.str] [.bool] Ade)],Ak [],Av [],tbl []⟩
def Oi(x:HV [.sv .val]):Option (HV [.bool]):=match x with
 |v =>
 cond (decide (v.kind=1)) (
  cond (decide (v.n=0)) (
  some (decide (v.s=[]))) (
  some false)) (
  cond (decide (v.kind=2)) (
  cond (decide (v.n=0)) (
   some (decide (v.s=[]))) (
   cond (decide (v.n=1)) (
   some (decide (v.s=[]))) (
   some false))) (
  cond (decide (v.kind=3)) (
   some (decide (v.s=[]))) (
   cond (decide (v.kind=4)) (
   cond (decide (v.n=0)) (
    cond (decide ((v.s.length:Int)≤1000)) (
    some (J2 v.s)) (
    some false)) (
    some false)) (
   cond (decide (v.kind=5)) (
    cond (decide (v.n=0)) (
    some (decide ((v.s.length:Int)≤1000))) (
    some false)) (
    some false)))))
theorem A1p:∀(x:HV [.sv .val]),Ci (Po _) Tryz.f147 [.sv .val] [.bool] x some=Oi x
 |v=>by kernel_rfl
theorem Aua:FnOk Tryz.prog elT glT 147 [.sv .val] [.bool] (Oi):=by
 refine A1 Tryz.func147 rfl (by kernel_rfl) follows (by kernel_rfl) (n:=0) (by kernel_rfl) (px:=Po _) (fun cx hP hel hgl =>?_) (A1p)
 have hp0:PxOk cx (Po (HV [.bool])):=⟨fun t=>by rw [hP,hel];exact Au Al t,by rw [hgl];rfl⟩
 have hc0:Aj cx (Po (HV [.bool])):=Ah rfl (Aa (A4 (by rw [hP,hel,hgl];exact At4) (by kernel_rfl)) Ai)
 have hq0:CallQOk cx (Po (HV [.bool])):=Ab rfl rfl Af Ae
 exact⟨hp0,hc0,hq0,Aw⟩
def Ch(v:Val):Bool :=
 cond (decide (v.kind=1)) (
  cond (decide (v.n=0)) (
  (decide (v.s=[]))) (
  false)) (
  cond (decide (v.kind=2)) (
  cond (decide (v.n=0)) (
   (decide (v.s=[]))) (
   cond (decide (v.n=1)) (
   (decide (v.s=[]))) (
   false))) (
  cond (decide (v.kind=3)) (
   (decide (v.s=[]))) (
   cond (decide (v.kind=4)) (
   cond (decide (v.n=0)) (
    cond (decide ((v.s.length:Int)≤1000)) (
    (J2 v.s)) (
    false)) (
    false)) (
   cond (decide (v.kind=5)) (
    cond (decide (v.n=0)) (
    (decide ((v.s.length:Int)≤1000))) (
    false)) (
    false)))))
theorem Aux(x:HV [.sv .val]):Oi x=some (Ch x):=by
 first
  |exact rfl
  |simp only [Oi,Ch,B2]
def Ago:FT [.sv .val] [.bool]:=fun x=>some (Ch x)
theorem Al0:FnOk Tryz.prog elT glT 147 [.sv .val] [.bool] Ago :=.fin0 Aua fun x _ _ hx=>(Aux x).trans hx
def Pw(R:Type):Px R:=⟨A7 ttL,glT,Aq [(147,As [.sv .val] [.bool] Ago)],Ak [],Av [],tbl []⟩
def N5(x:HV [.sv .val]):Option (HV [.int .i64]):=match x with
 |v =>
 cond (!(Ch v)) (
  some 2) (
  some 0)
theorem Azl:∀(x:HV [.sv .val]),Ci (Pw _) Tryz.f95 [.sv .val] [.int .i64] x some=N5 x
 |v=>by kernel_rfl
theorem Au2:FnOk Tryz.prog elT glT 95 [.sv .val] [.int .i64] (N5):=by
 refine A1 Tryz.func95 rfl (by kernel_rfl) follows (by kernel_rfl) (n:=0) (by kernel_rfl) (px:=Pw _) (fun cx hP hel hgl =>?_) (Azl)
 have hp0:PxOk cx (Pw (HV [.int .i64])):=⟨fun t=>by rw [hP,hel];exact Au Al t,by rw [hgl];rfl⟩
 have hc0:Aj cx (Pw (HV [.int .i64])):=Ah rfl (Aa (A4 (by rw [hP,hel,hgl];exact Al0) (by kernel_rfl)) Ai)
 have hq0:CallQOk cx (Pw (HV [.int .i64])):=Ab rfl rfl Af Ae
 exact⟨hp0,hc0,hq0,Aw⟩
def Ua(v:Val):Int :=
 cond (!(Ch v)) (
  2) (
  0)
theorem Aui(x:HV [.sv .val]):N5 x=some (Ua x):=by
 first
  |exact rfl
  |simp only [N5,Ua,B2]
def Aig:FT [.sv .val] [.int .i64]:=fun x=>some (Ua x)
theorem Al2:FnOk Tryz.prog elT glT 95 [.sv .val] [.int .i64] Aig :=.fin0 Au2 fun x _ _ hx=>(Aui x).trans hx
def Acm(R:Type):Px R:=⟨A7 ttL,glT,Aq [],Ak [],Av [],tbl []⟩
def Yp(x:HV [.int .i64,.int .i64]):Option (HV [.int .i64,.int .i64]):=match x with
 |(a,b) =>
 cond (!decide ((decide (a<(wr .i64 (a+b))))=(decide (0<b)))) (
  some (0,20)) (
  some ((wr .i64 (a+b)),0))
theorem Bar:∀(x:HV [.int .i64,.int .i64]),Ci (Acm _) Tryz.f195 [.int .i64,.int .i64] [.int .i64,.int .i64] x some=Yp x
 |(a,b)=>by kernel_rfl
theorem A7c:FnOk Tryz.prog elT glT 195 [.int .i64,.int .i64] [.int .i64,.int .i64] (Yp):=by
 refine A1 Tryz.func195 rfl (by kernel_rfl) follows (by kernel_rfl) (n:=0) (by kernel_rfl) (px:=Acm _) (fun cx hP hel hgl =>?_) (Bar)
 have hp0:PxOk cx (Acm (HV [.int .i64,.int .i64])):=⟨fun t=>by rw [hP,hel];exact Au Al t,by rw [hgl];rfl⟩
 have hc0:Aj cx (Acm (HV [.int .i64,.int .i64])):=Ah rfl Ai
 have hq0:CallQOk cx (Acm (HV [.int .i64,.int .i64])):=Ab rfl rfl Af Ae
 exact⟨hp0,hc0,hq0,Aw⟩
def Aub(a:Int) (b:Int):Int×Int :=
 cond (!decide ((decide (a<(wr .i64 (a+b))))=(decide (0<b)))) (
  (0,20)) (
  ((wr .i64 (a+b)),0))
theorem A84(x:HV [.int .i64,.int .i64]):Yp x=some (Aub x.1 x.2):=by
 first
  |exact rfl
  |simp only [Yp,Aub,B2]
def A5u:FT [.int .i64,.int .i64] [.int .i64,.int .i64]:=fun x=>some (Aub x.1 x.2)
theorem Bbk:FnOk Tryz.prog elT glT 195 [.int .i64,.int .i64] [.int .i64,.int .i64] A5u :=.fin0 A7c fun x _ _ hx=>(A84 x).trans hx
def Ux(R:Type):Px R:=⟨A7 ttL,glT,Aq [],Ak [],Av [],tbl []⟩
def Tn(x:HV [.int .i64]):Option (HV [.int .u64]):=match x with
 |n =>
 cond (decide (n<0)) (
  some (wr .u64 (0-(wr .u64 n)))) (
  some (wr .u64 n))
theorem A81:∀(x:HV [.int .i64]),Ci (Ux _) Tryz.f170 [.int .i64] [.int .u64] x some=Tn x
 |n=>by kernel_rfl
theorem A1a:FnOk Tryz.prog elT glT 170 [.int .i64] [.int .u64] (Tn):=by
 refine A1 Tryz.func170 rfl (by kernel_rfl) follows (by kernel_rfl) (n:=0) (by kernel_rfl) (px:=Ux _) (fun cx hP hel hgl =>?_) (A81)
 have hp0:PxOk cx (Ux (HV [.int .u64])):=⟨fun t=>by rw [hP,hel];exact Au Al t,by rw [hgl];rfl⟩
 have hc0:Aj cx (Ux (HV [.int .u64])):=Ah rfl Ai
 have hq0:CallQOk cx (Ux (HV [.int .u64])):=Ab rfl rfl Af Ae
 exact⟨hp0,hc0,hq0,Aw⟩
def Ed(n:Int):Int :=
 cond (decide (n<0)) (
  (wr .u64 (0-(wr .u64 n)))) (
  (wr .u64 n))
theorem A0j(x:HV [.int .i64]):Tn x=some (Ed x):=by
 first
  |exact rfl
  |simp only [Tn,Ed,B2]
def Amc:FT [.int .i64] [.int .u64]:=fun x=>some (Ed x)
theorem Apm:FnOk Tryz.prog elT glT 170 [.int .i64] [.int .u64] Amc :=.fin0 A1a fun x _ _ hx=>(A0j x).trans hx
def U5(R:Type):Px R:=⟨A7 ttL,glT,Aq [],Ak [],Av [],tbl []⟩
def Tb(x:HV [.int .u64,.int .u64]):Option (HV [.int .u64,.int .u64]):=match x with
 |(a,b) =>
 some ((wr .u64 ((wr .u64 ((wr .u64 ((Kr .u64 a 32)*(Kr .u64 b 32)))+(Kr .u64 (wr .u64 ((wr .u64 ((Kr .u64 a 32)*(K9 .u64 b 4294967295)))+(Kr .u64 (wr .u64 ((K9 .u64 a 4294967295)*(K9 .u64 b 4294967295))) 32))) 32)))+(Kr .u64 (wr .u64 ((K9 .u64 (wr .u64 ((wr .u64 ((Kr .u64 a 32)*(K9 .u64 b 4294967295)))+(Kr .u64 (wr .u64 ((K9 .u64 a 4294967295)*(K9 .u64 b 4294967295))) 32))) 4294967295)+(wr .u64 ((K9 .u64 a 4294967295)*(Kr .u64 b 32))))) 32))),(wr .u64 (a*b)))
theorem A7b:∀(x:HV [.int .u64,.int .u64]),Ci (U5 _) Tryz.f201 [.int .u64,.int .u64] [.int .u64,.int .u64] x some=Tb x
 |(a,b)=>by kernel_rfl
theorem A12:FnOk Tryz.prog elT glT 201 [.int .u64,.int .u64] [.int .u64,.int .u64] (Tb):=by
 refine A1 Tryz.func201 rfl (by kernel_rfl) follows (by kernel_rfl) (n:=0) (by kernel_rfl) (px:=U5 _) (fun cx hP hel hgl =>?_) (A7b)
 have hp0:PxOk cx (U5 (HV [.int .u64,.int .u64])):=⟨fun t=>by rw [hP,hel];exact Au Al t,by rw [hgl];rfl⟩
 have hc0:Aj cx (U5 (HV [.int .u64,.int .u64])):=Ah rfl Ai
 have hq0:CallQOk cx (U5 (HV [.int .u64,.int .u64])):=Ab rfl rfl Af Ae
 exact⟨hp0,hc0,hq0,Aw⟩
def Nl(a:Int) (b:Int):Int×Int :=
 ((wr .u64 ((wr .u64 ((wr .u64 ((Kr .u64 a 32)*(Kr .u64 b 32)))+(Kr .u64 (wr .u64 ((wr .u64 ((Kr .u64 a 32)*(K9 .u64 b 4294967295)))+(Kr .u64 (wr .u64 ((K9 .u64 a 4294967295)*(K9 .u64 b 4294967295))) 32))) 32)))+(Kr .u64 (wr .u64 ((K9 .u64 (wr .u64 ((wr .u64 ((Kr .u64 a 32)*(K9 .u64 b 4294967295)))+(Kr .u64 (wr .u64 ((K9 .u64 a 4294967295)*(K9 .u64 b 4294967295))) 32))) 4294967295)+(wr .u64 ((K9 .u64 a 4294967295)*(Kr .u64 b 32))))) 32))),(wr .u64 (a*b)))
theorem A2t(x:HV [.int .u64,.int .u64]):Tb x=some (Nl x.1 x.2):=by
 first
  |exact rfl
  |simp only [Tb,Nl,B2]
def Aw2:FT [.int .u64,.int .u64] [.int .u64,.int .u64]:=fun x=>some (Nl x.1 x.2)
theorem A54:FnOk Tryz.prog elT glT 201 [.int .u64,.int .u64] [.int .u64,.int .u64] Aw2 :=.fin0 A12 fun x _ _ hx=>(A2t x).trans hx
def Acn(R:Type):Px R:=⟨A7 ttL,glT,Aq [(170,As [.int .i64] [.int .u64] Amc),(201,As [.int .u64,.int .u64] [.int .u64,.int .u64] Aw2)],Ak [],Av [],tbl []⟩
def Xs(x:HV [.int .i64,.int .i64]):Option (HV [.int .i64,.int .i64]):=match x with
 |(a,b) =>
 let j1:=fun(p3:Bool) =>
  cond (p3) (
  some (0,20)) (
  cond (!decide ((decide (a<0))=(decide (b<0)))) (
   some ((wr .i64 (wr .u64 (0-(Nl (Ed a) (Ed b)).2))),0)) (
   some ((wr .i64 ((Nl (Ed a) (Ed b)).2)),0)))
 let j:=fun(p:Bool) =>
  cond (p) (
  j1 true) (
  cond (decide ((Nl (Ed a) (Ed b)).2=9223372036854775808)) (
   j1 (!(!decide ((decide (a<0))=(decide (b<0)))))) (
   j1 false))
 cond (decide (0<(Nl (Ed a) (Ed b)).1)) (
  j true) (
  j (decide (9223372036854775808<(Nl (Ed a) (Ed b)).2)))
theorem A9m:∀(x:HV [.int .i64,.int .i64]),Ci (Acn _) Tryz.f194 [.int .i64,.int .i64] [.int .i64,.int .i64] x some=Xs x
 |(a,b)=>by kernel_rfl
theorem A4h:FnOk Tryz.prog elT glT 194 [.int .i64,.int .i64] [.int .i64,.int .i64] (Xs):=by
 refine A1 Tryz.func194 rfl (by kernel_rfl) follows (by kernel_rfl) (n:=0) (by kernel_rfl) (px:=Acn _) (fun cx hP hel hgl =>?_) (A9m)
 have hp0:PxOk cx (Acn (HV [.int .i64,.int .i64])):=⟨fun t=>by rw [hP,hel];exact Au Al t,by rw [hgl];rfl⟩
 have hc0:Aj cx (Acn (HV [.int .i64,.int .i64])):=Ah rfl (Aa (A4 (by rw [hP,hel,hgl];exact Apm) (by kernel_rfl)) (Aa (A4 (by rw [hP,hel,hgl];exact A54) (by kernel_rfl)) Ai))
 have hq0:CallQOk cx (Acn (HV [.int .i64,.int .i64])):=Ab rfl rfl Af Ae
 exact⟨hp0,hc0,hq0,Aw⟩
def Aqo(a:Int) (b:Int):Int×Int :=
 let j1:=fun(p3:Bool) =>
  cond (p3) (
  (0,20)) (
  cond (!decide ((decide (a<0))=(decide (b<0)))) (
   ((wr .i64 (wr .u64 (0-(Nl (Ed a) (Ed b)).2))),0)) (
   ((wr .i64 ((Nl (Ed a) (Ed b)).2)),0)))
 let j:=fun(p:Bool) =>
  cond (p) (
  j1 true) (
  cond (decide ((Nl (Ed a) (Ed b)).2=9223372036854775808)) (
   j1 (!(!decide ((decide (a<0))=(decide (b<0)))))) (
   j1 false))
 cond (decide (0<(Nl (Ed a) (Ed b)).1)) (
  j true) (
  j (decide (9223372036854775808<(Nl (Ed a) (Ed b)).2)))
theorem A58(x:HV [.int .i64,.int .i64]):Xs x=some (Aqo x.1 x.2):=by
 first
  |exact rfl
  |simp only [Xs,Aqo,B2]
def A6d:FT [.int .i64,.int .i64] [.int .i64,.int .i64]:=fun x=>some (Aqo x.1 x.2)
theorem Bak:FnOk Tryz.prog elT glT 194 [.int .i64,.int .i64] [.int .i64,.int .i64] A6d :=.fin0 A4h fun x _ _ hx=>(A58 x).trans hx
end Go.Proofs.YthndhaolemgbdaaGreatDoor
namespace Go.Proofs.YthndhaolemgbdaaGreatDoor
open Go.Ax
theorem Ao1{i:Int}{n:Nat}(h : 0≤i∧i<n):inb i n=true:=by simp [inb,h]
def Xh(R:Type):Px R:=⟨A7 ttL,glT,Aq [],Ak [],Av [],tbl []⟩
def R8(x:HV [.int .u8]):Option (HV [.bool]):=match x with
 |c =>
 cond (decide (97≤c)) (
  some (decide (c≤122))) (
  some false)
theorem A3s:∀(x:HV [.int .u8]),Ci (Xh _) Tryz.f109 [.int .u8] [.bool] x some=R8 x
 |c=>by kernel_rfl
theorem A03:FnOk Tryz.prog elT glT 109 [.int .u8] [.bool] (R8):=by
 refine A1 Tryz.func109 rfl (by kernel_rfl) follows (by kernel_rfl) (n:=0) (by kernel_rfl) (px:=Xh _) (fun cx hP hel hgl =>?_) (A3s)
 have hp0:PxOk cx (Xh (HV [.bool])):=⟨fun t=>by rw [hP,hel];exact Au Al t,by rw [hgl];rfl⟩
 have hc0:Aj cx (Xh (HV [.bool])):=Ah rfl Ai
 have hq0:CallQOk cx (Xh (HV [.bool])):=Ab rfl rfl Af Ae
 exact⟨hp0,hc0,hq0,Aw⟩
def Aca(c:Int):Bool :=
 cond (decide (97≤c)) (
  (decide (c≤122))) (
  false)
theorem Az9(x:HV [.int .u8]):R8 x=some (Aca x):=by
 first
  |exact rfl
  |simp only [R8,Aca,B2]
def Af3:FT [.int .u8] [.bool]:=fun x=>some (Aca x)
theorem Aiv:FnOk Tryz.prog elT glT 109 [.int .u8] [.bool] Af3 :=.fin0 A03 fun x _ _ hx=>(Az9 x).trans hx
def Vi(R:Type):Px R:=⟨A7 ttL,glT,Aq [],Ak [],Av [],tbl []⟩
def Tz(x:HV [.int .u8]):Option (HV [.bool]):=match x with
 |c =>
 cond (decide (48≤c)) (
  some (decide (c≤57))) (
  some false)
theorem A7u:∀(x:HV [.int .u8]),Ci (Vi _) Tryz.f154 [.int .u8] [.bool] x some=Tz x
 |c=>by kernel_rfl
theorem Ay2:FnOk Tryz.prog elT glT 154 [.int .u8] [.bool] (Tz):=by
 refine A1 Tryz.func154 rfl (by kernel_rfl) follows (by kernel_rfl) (n:=0) (by kernel_rfl) (px:=Vi _) (fun cx hP hel hgl =>?_) (A7u)
 have hp0:PxOk cx (Vi (HV [.bool])):=⟨fun t=>by rw [hP,hel];exact Au Al t,by rw [hgl];rfl⟩
 have hc0:Aj cx (Vi (HV [.bool])):=Ah rfl Ai
 have hq0:CallQOk cx (Vi (HV [.bool])):=Ab rfl rfl Af Ae
 exact⟨hp0,hc0,hq0,Aw⟩
def Abk(c:Int):Bool :=
 cond (decide (48≤c)) (
  (decide (c≤57))) (
  false)
theorem A3c(x:HV [.int .u8]):Tz x=some (Abk x):=by
 first
  |exact rfl
  |simp only [Tz,Abk,B2]
def Agh:FT [.int .u8] [.bool]:=fun x=>some (Abk x)
theorem Ajk:FnOk Tryz.prog elT glT 154 [.int .u8] [.bool] Agh :=.fin0 Ay2 fun x _ _ hx=>(A3c x).trans hx
def Ve(R:Type):Px R:=⟨A7 ttL,glT,Aq [(109,As [.int .u8] [.bool] Af3),(154,As [.int .u8] [.bool] Agh)],Ak [],Av [],tbl []⟩
def Ud(x:HV [.int .u8]):Option (HV [.bool]):=match x with
 |c =>
 cond ((Aca c)) (
  some true) (
  cond ((Abk c)) (
  some true) (
  some (decide (c=95))))
theorem A8l:∀(x:HV [.int .u8]),Ci (Ve _) Tryz.f111 [.int .u8] [.bool] x some=Ud x
 |c=>by kernel_rfl
theorem Azv:FnOk Tryz.prog elT glT 111 [.int .u8] [.bool] (Ud):=by
 refine A1 Tryz.func111 rfl (by kernel_rfl) follows (by kernel_rfl) (n:=0) (by kernel_rfl) (px:=Ve _) (fun cx hP hel hgl =>?_) (A8l)
 have hp0:PxOk cx (Ve (HV [.bool])):=⟨fun t=>by rw [hP,hel];exact Au Al t,by rw [hgl];rfl⟩
 have hc0:Aj cx (Ve (HV [.bool])):=Ah rfl (Aa (A4 (by rw [hP,hel,hgl];exact Aiv) (by kernel_rfl)) (Aa (A4 (by rw [hP,hel,hgl];exact Ajk) (by kernel_rfl)) Ai))
 have hq0:CallQOk cx (Ve (HV [.bool])):=Ab rfl rfl Af Ae
 exact⟨hp0,hc0,hq0,Aw⟩
def Afa(c:Int):Bool :=
 cond ((Aca c)) (
  true) (
  cond ((Abk c)) (
  true) (
  (decide (c=95))))
theorem A16(x:HV [.int .u8]):Ud x=some (Afa x):=by
 first
  |exact rfl
  |simp only [Ud,Afa,B2]
def Afy:FT [.int .u8] [.bool]:=fun x=>some (Afa x)
theorem Ajn:FnOk Tryz.prog elT glT 111 [.int .u8] [.bool] Afy :=.fin0 Azv fun x _ _ hx=>(A16 x).trans hx
theorem Ah6(c:Int):Aca c=Lp.isLo c:=by simp only [Aca,Lp.isLo];cases decide (97≤c)<;>rfl
theorem Aim(c:Int):Abk c=Lp.isDi c:=by simp only [Abk,Lp.isDi];cases decide (48≤c)<;>rfl
theorem Ahb(c:Int):Afa c=Lp.isIn c:=by
 simp only [Afa,Lp.isIn,Ah6,Aim]
 cases Lp.isLo c<;>cases Lp.isDi c<;>rfl
def Aaz:Sig:=⟨21,[(0,.str),(1,.int .i64)],[(2,.fn 111 [])],[],40,40,200,[],[]⟩
abbrev I9:=Str×Int
def R4{R:Type}(rec:I9→Option R) (kx:Ex→I9→Option R) (v:I9):Option R:=match v with
 |(v,v1) =>
 cond (decide (v1<(v.length:Int))) (
  chk (inb v1 v.length) (
  cond ((Afa (bat v v1))) (
   rec (v,(wr .i64 (v1+1)))) (
   kx (.exit 0) (v,v1)))) (
  kx (.exit 0) (v,v1))
def I4(R:Type) (k:Nat):Px R:=⟨A7 ttL,glT,Aq [(111,As [.int .u8] [.bool] Afy)],Ak [],Av [(1,Bc k Aaz (R4))],tbl []⟩
noncomputable def Xn (R:Type) (k:Nat):Px R:=⟨A7 ttL,glT,Aq [(109,As [.int .u8] [.bool] Af3),(110,Bb 40 200 (I4 R k) Tryz.f110)],Ak [],Av [],tbl []⟩
theorem Avs(R:Type) (k:Nat):∀(fr:List Fr) (rec:I9→Option R) (kx:Ex→I9→Option R) (v:I9),Bn (I4 R k) Aaz (lp Tryz.f110 0) fr rec kx v=R4 rec kx v
 |fr,rec,kx,(v,v1)=>by kernel_rfl
def Aai(k:Nat) (x:HV [.str]):Option (HV [.bool]):=match x with
 |s =>
 let j1:=fun(p:Bool) =>
  let j:=fun(p1:Bool) =>
  cond (p1) (
   A5 (fun rec=>R4 rec (fun e vz=>match vz with|(_,v3)=>match e with
   |.exit 0 =>
    some (decide (v3=(s.length:Int)))
   |_=>none)) k (s,0)) (
   some false)
  cond (p) (
  chk (inb 0 s.length) (
   j (Aca (bat s 0)))) (
  j false)
 cond (!decide (s=[])) (
  j1 (decide ((s.length:Int)≤30))) (
  j1 false)
theorem A4x(k:Nat):∀(x:HV [.str]),Ci (Xn _ k) Tryz.f63 [.str] [.bool] x some=Aai k x
 |s=>by kernel_rfl
theorem Ay8(k:Nat):FnOk Tryz.prog elT glT 63 [.str] [.bool] (Aai k):=by
 refine A1 Tryz.func63 rfl (by kernel_rfl) follows (by kernel_rfl) (n:=0) (by kernel_rfl) (px:=Xn _ k) (fun cx hP hel hgl =>?_) (A4x k)
 have hp1:PxOk cx (I4 (HV [.bool]) k):=⟨fun t=>by rw [hP,hel];exact Au Al t,by rw [hgl];rfl⟩
 have hc1:Aj cx (I4 (HV [.bool]) k):=Ah rfl (Aa (A4 (by rw [hP,hel,hgl];exact Ajn) (by kernel_rfl)) Ai)
 have hq1:CallQOk cx (I4 (HV [.bool]) k):=Ab rfl rfl Af Ae
 have hllname_0:A6 cx (I4 (HV [.bool]) k) (lp Tryz.f110 0):=A8 hp1 hc1 hq1 (by rw [hP];exact follows) (k:=k) (s:=Aaz) (step:=R4) (fun _ _=>by kernel_rfl) (by kernel_rfl) (Avs _ k) (A0 (n:=0) (by kernel_rfl) Aw)
 have hp0:PxOk cx (Xn (HV [.bool]) k):=⟨fun t=>by rw [hP,hel];exact Au Al t,by rw [hgl];rfl⟩
 have hc0:Aj cx (Xn (HV [.bool]) k):=Ah rfl (Aa (A4 (by rw [hP,hel,hgl];exact Aiv) (by kernel_rfl)) (Aa (Bm hp1 hc1 hq1 (by rw [hP];exact follows) (by rw [hP];exact Tryz.func110) rfl (by kernel_rfl) (by kernel_rfl) (n:=1) (by kernel_rfl) ((Cg Aw hllname_0))) Ai))
 have hq0:CallQOk cx (Xn (HV [.bool]) k):=Ab rfl rfl Af Ae
 exact⟨hp0,hc0,hq0,Aw⟩
abbrev F9 (s:Str):Bool:=Lp.nameF s
def Ss:FT [.str] [.bool]:=fun x=>some (F9 x)
theorem Acq{R:Type}{kx:Ex→I9→Option R}{s:Str}  {a:Int→Option R}(hs:ln s.length) (h1:∀j,kx (.exit 0) (s,j)=a j):∀(k i:Nat),i≤s.length→s.length-i<k→A5 (fun rec=>R4 rec kx) k (s,(i:Int))=a (Lp.runTo Lp.isIn s i)
 |0,i,_,h=>absurd h (Zm1 _)
 |k+1,i,hi,h=>by
  rw [Bu]
  by_cases hl:i<s.length
  ·have ih:=Acq  hs h1 k (i+1) (by omega) (by omega)
   have eb:Sx.byt s (i:Int)=(s[i].toNat:Int):=Di hl
   simp only [R4,Bg hl hs,ih,h1,Di hl,Bp hl,Ahb]
   rw [Ze1 (show(i:Int)<(s.length:Int) by omega)]
   cases hp:Lp.isIn (s[i].toNat:Int) with
   |true =>
    have:=Lp.runTo_yes (p:=Lp.isIn) (l:=s) (j:=i) (by omega) (by rw [eb];exact hp)
    rw [←this]
    rfl
   |false =>
    have:=Lp.runTo_no (p:=Lp.isIn) (l:=s) (j:=i) (by omega) (by rw [eb];exact hp)
    rw [this]
    rfl
  ·have:=Lp.runTo_end (p:=Lp.isIn) (l:=s) (j:=i) (by omega)
   simp only [R4,h1]
   rw [Zd1 (by omega),this]
   rfl
theorem U0:FnOk Tryz.prog elT glT 63 [.str] [.bool] Ss :=.fin 0 Ay8 fun s r hb hx=>⟨s.length+1,by
 simp only [Ss,Za1] at hx
 rw [←hx]
 simp only [Aai,F9,Lp.nameF]
 by_cases he:s=[]
 ·rw [Ze1 he];rfl
 ·rw [Zd1 he]
  simp only [Zs1,Am,Bool.true_and]
  by_cases h30:(s.length:Int)≤30
  ·have hp : 0<s.length:=List.length_pos_iff.2 he
   rw [Ze1 h30,Ao1 (by omega),Ah6]
   simp only [chk,Am,Bool.true_and]
   have eb:bat s 0=Sx.byt s 0:=rfl
   rw [eb]
   cases Lp.isLo (Sx.byt s 0) with
   |false=>rfl
   |true =>
    simp only [Am,Bool.true_and]
    exact Acq (s:=s) (a:=fun j=>some (decide (j=(s.length:Int)))) hb (fun _=>rfl) (s.length+1) 0 (Nat.zero_le _) (by omega)
  ·rw [Zd1 h30]
   rfl⟩
end Go.Proofs.YthndhaolemgbdaaGreatDoor
namespace Go.Proofs.YthndhaolemgbdaaGreatDoor
open Go.Ax
theorem wru(n:Int):wr .u64 n=n % 18446744073709551616:=by simp [wr,IntKind.wrap,IntKind.bits,IntKind.signed]
theorem wri(n:Int):wr .i64 n=if 9223372036854775808≤n % 18446744073709551616 then n % 18446744073709551616-18446744073709551616 else n % 18446744073709551616:=by
 simp [wr,IntKind.wrap,IntKind.bits,IntKind.signed]
theorem K5{n:Int}(h : 0≤n∧n≤18446744073709551615):wr .u64 n=n:=by rw [wru];omega
theorem Anc{a:Int}(h : 0≤a∧a≤18446744073709551615):K9 .u64 a 4294967295=a % 4294967296:=by
 obtain⟨n,rfl⟩:=Int.eq_ofNat_of_zero_le h.1
 have hn:n<18446744073709551616:=by omega
 have e2:(BitVec.ofInt IntKind.u64.bits (n:Int) &&& BitVec.ofInt IntKind.u64.bits 4294967295).toNat=n % 4294967296:=by
  show(BitVec.ofInt 64 (n:Int) &&& BitVec.ofInt 64 ((4294967295:Nat):Int)).toNat=n % 4294967296
  rw [BitVec.toNat_and,BitVec.ofInt_natCast,BitVec.ofInt_natCast,BitVec.toNat_ofNat,BitVec.toNat_ofNat]
  rw [Nat.mod_eq_of_lt hn,Nat.mod_eq_of_lt (by decide)]
  exact Nat.and_two_pow_sub_one_eq_mod n 32
 show wr .u64 _=_
 simp only [e2]
 rw [K5 (by omega)]
 omega
theorem Bb8{a:Int}:Kr .u64 a 32=a / 4294967296:=by
 show a.fdiv (2 ^ min (32:Int).toNat IntKind.u64.bits)=_
 rw [show(2:Int) ^ min (32:Int).toNat IntKind.u64.bits=4294967296 from by decide]
 exact Int.fdiv_eq_ediv_of_nonneg _ (by omega)
theorem Aex(a b c d:Int) (h : 0≤a∧a≤c) (h' : 0≤b∧b≤d) : 0≤a*b∧a*b≤c*d :=
 ⟨Int.mul_nonneg h.1 h'.1,Int.mul_le_mul h.2 h'.2 h'.1 (by omega)⟩
theorem Ae5(x y:Int):x*y=(x / 4294967296)*(y / 4294967296)*18446744073709551616+((x / 4294967296)*(y % 4294967296)+(x % 4294967296)*(y / 4294967296))*4294967296+(x % 4294967296)*(y % 4294967296):=by
 have hx:=Int.mul_ediv_add_emod x 4294967296
 have hy:=Int.mul_ediv_add_emod y 4294967296
 generalize x / 4294967296=p at *
 generalize x % 4294967296=q at *
 generalize y / 4294967296=r at *
 generalize y % 4294967296=s at *
 rw [←hx,←hy]
 simp only [Int.add_mul,Int.mul_add]
 have e1 : 4294967296*p*(4294967296*r)=p*r*18446744073709551616:=by
  rw [Int.mul_assoc,Int.mul_left_comm p,←Int.mul_assoc]
  omega
 have e2 : 4294967296*p*s=p*s*4294967296:=by rw [Int.mul_assoc];omega
 have e3:q*(4294967296*r)=q*r*4294967296:=by rw [Int.mul_left_comm];omega
 omega
theorem Bbs(x y:Int) (hx : 0≤x∧x≤18446744073709551615) (hy : 0≤y∧y≤18446744073709551615):Nl x y=(x*y / 18446744073709551616,x*y % 18446744073709551616):=by
 have b00:=Aex (x % 4294967296) (y % 4294967296) 4294967295 4294967295 (by omega) (by omega)
 have b10:=Aex (x / 4294967296) (y % 4294967296) 4294967295 4294967295 (by omega) (by omega)
 have b01:=Aex (x % 4294967296) (y / 4294967296) 4294967295 4294967295 (by omega) (by omega)
 have b11:=Aex (x / 4294967296) (y / 4294967296) 4294967295 4294967295 (by omega) (by omega)
 have sp:=Ae5 x y
 simp only [Nl,Bb8,Anc hx,Anc hy]
 generalize (x % 4294967296)*(y % 4294967296)=p00 at *
 generalize (x / 4294967296)*(y % 4294967296)=p10 at *
 generalize (x % 4294967296)*(y / 4294967296)=p01 at *
 generalize (x / 4294967296)*(y / 4294967296)=p11 at *
 rw [K5 (n:=p00) (by omega),K5 (n:=p10) (by omega),K5 (n:=p11) (by omega),K5 (n:=p01) (by omega)]
 rw [K5 (n:=p10+p00 / 4294967296) (by omega)]
 rw [Anc (by omega)]
 rw [K5 (n:=(p10+p00 / 4294967296) % 4294967296+p01) (by omega)]
 rw [K5 (n:=p11+(p10+p00 / 4294967296) / 4294967296) (by omega)]
 rw [K5 (n:=p11+(p10+p00 / 4294967296) / 4294967296+((p10+p00 / 4294967296) % 4294967296+p01) / 4294967296) (by omega),wru]
 rw [Zp1]
 constructor<;>omega
def Z2(n:Int):Int×Int:=if -9223372036854775808≤n∧n≤9223372036854775807 then(n,0) else(0,20)
def O1(n:Int):Int:=if n<0 then -n else n
theorem Aoj{n:Int}(h:inI n):Ed n=O1 n:=by
 simp only [inI] at h
 simp only [Ed,O1,Bool.cond_decide,wru]
 split<;>omega
theorem Aoa{q r:Int}(h:inI q) (hr:r=q):(r,(0:Int))=Z2 q:=by
 simp only [inI] at h
 rw [hr,Z2,if_pos h]
theorem Ant{q:Int}(h:¬inI q):((0:Int),(20:Int))=Z2 q:=by
 simp only [inI] at h
 rw [Z2,if_neg h]
theorem Bea{a b:Int}(ha:inI a) (hb:inI b):Aub a b=Z2 (a+b):=by
 simp only [inI] at ha hb
 simp only [Aub,wri]
 by_cases h1 : 0<b
 ·rw [Ze1 h1]
  by_cases h2:a+b≤9223372036854775807
  ·have e:(a+b) % 18446744073709551616<9223372036854775808∨9223372036854775808≤(a+b) % 18446744073709551616:=by omega
   rw [←Aoa (q:=a+b) (r:=if 9223372036854775808≤(a+b) % 18446744073709551616 then(a+b) % 18446744073709551616-18446744073709551616 else(a+b) % 18446744073709551616) (by simp only [inI];omega) (by split<;>omega)]
   rw [Ze1 (p:=a<_) (by split<;>omega)]
   rfl
  ·rw [←Ant (q:=a+b) (by simp only [inI];omega)]
   rw [Zd1 (p:=a<_) (by split<;>omega)]
   rfl
 ·rw [Zd1 h1]
  by_cases h2 : -9223372036854775808≤a+b
  ·rw [←Aoa (q:=a+b) (r:=if 9223372036854775808≤(a+b) % 18446744073709551616 then(a+b) % 18446744073709551616-18446744073709551616 else(a+b) % 18446744073709551616) (by simp only [inI];omega) (by split<;>omega)]
   rw [Zd1 (p:=a<_) (by split<;>omega)]
   rfl
  ·rw [←Ant (q:=a+b) (by simp only [inI];omega)]
   rw [Ze1 (p:=a<_) (by split<;>omega)]
   rfl
theorem Bfe{a b:Int}(ha:inI a) (hb:inI b):Aqo a b=Z2 (a*b):=by
 have ha':=ha;have hb':=hb
 simp only [inI] at ha' hb'
 have hA : 0≤O1 a∧O1 a≤9223372036854775808:=by unfold O1;split<;>omega
 have hB : 0≤O1 b∧O1 b≤9223372036854775808:=by unfold O1;split<;>omega
 have hbd:=Aex _ _ _ _ hA hB
 have hsg:a*b=if decide (a<0)=decide (b<0) then O1 a*O1 b else -(O1 a*O1 b):=by
  unfold O1
  by_cases h1:a<0<;>by_cases h2:b<0<;>simp [h1,h2,Int.neg_mul,Int.mul_neg]
 simp only [Aqo,Aoj ha,Aoj hb,Bbs _ _ (show 0≤O1 a∧O1 a≤18446744073709551615 by omega) (show 0≤O1 b∧O1 b≤18446744073709551615 by omega)]
 clear ha hb ha' hb' hA hB
 generalize O1 a*O1 b=p at *
 generalize a*b=q at *
 by_cases hs:decide (a<0)=decide (b<0)
 ·rw [if_pos hs] at hsg
  rw [Ze1 hs]
  by_cases h1:p<9223372036854775808
  ·rw [Zd1 (show ¬ 0<p / 18446744073709551616 by omega),Zd1 (show ¬ 9223372036854775808<p % 18446744073709551616 by omega),Zd1 (show ¬p % 18446744073709551616=9223372036854775808 by omega)]
   refine(show _=(wr .i64 (p % 18446744073709551616),(0:Int)) from rfl).trans (Aoa (by simp only [inI];omega) ?_)
   rw [wri];split<;>omega
  ·rw [←Ant (q:=q) (by simp only [inI];omega)]
   by_cases h2 : 0<p / 18446744073709551616
   ·rw [Ze1 h2];rfl
   ·rw [Zd1 h2]
    by_cases h3 : 9223372036854775808<p % 18446744073709551616
    ·rw [Ze1 h3];rfl
    ·rw [Zd1 h3,Ze1 (show p % 18446744073709551616=9223372036854775808 by omega)];rfl
 ·rw [if_neg hs] at hsg
  rw [Zd1 hs]
  by_cases h1:p≤9223372036854775808
  ·rw [Zd1 (show ¬ 0<p / 18446744073709551616 by omega),Zd1 (show ¬ 9223372036854775808<p % 18446744073709551616 by omega)]
   have:Z2 q=(wr .i64 (wr .u64 (0-p % 18446744073709551616)),(0:Int)):=by
    refine(Aoa (by simp only [inI];omega) ?_).symm
    rw [wri,wru];split<;>omega
   rw [this]
   cases decide (p % 18446744073709551616=9223372036854775808)<;>rfl
  ·rw [←Ant (q:=q) (by simp only [inI];omega)]
   by_cases h2 : 0<p / 18446744073709551616
   ·rw [Ze1 h2];rfl
   ·rw [Zd1 h2,Ze1 (show 9223372036854775808<p % 18446744073709551616 by omega)];rfl
end Go.Proofs.YthndhaolemgbdaaGreatDoor
namespace Go.Proofs
open Go.Shelf
def Tryz.laysRA_ren:Go.Shelf.Ren:=⟨fun|155=>150|154=>171|138=>187|165=>153|143=>188|166=>104|197=>189|169=>41|195=>197|218=>198|240=>152|241=>173|219=>199|260=>200|276=>172|277=>190|217=>174|225=>203|224=>204|267=>205|266=>191|314=>207|n=>n,fun|9=>9|3=>3|4=>4|72=>80|0=>0|76=>154|105=>216|21=>21|5=>5|70=>77|20=>20|37=>78|75=>153|127=>148|164=>205|46=>68|119=>226|139=>229|138=>228|146=>231|51=>230|80=>84|n=>n,fun|1=>3|3=>4|4=>5|n=>n⟩
theorem Tryz.laysRA:Go.Proofs.Lays.n155 Tryz.prog Tryz.laysRA_ren:={
 mixed:=by kernel_rfl
 f138:=Tryz.func187.trans (congrArg some (by kernel_rfl))
 f143:=Tryz.func188.trans (congrArg some (by kernel_rfl))
 f154:=Tryz.func171.trans (congrArg some (by kernel_rfl))
 f155:=Tryz.func150.trans (congrArg some (by kernel_rfl))
 f165:=Tryz.func153.trans (congrArg some (by kernel_rfl))
 f166:=Tryz.func104.trans (congrArg some (by kernel_rfl))
 f169:=Tryz.func41.trans (congrArg some (by kernel_rfl))
 f195:=Tryz.func197.trans (congrArg some (by kernel_rfl))
 f197:=Tryz.func189.trans (congrArg some (by kernel_rfl))
 f217:=Tryz.func174.trans (congrArg some (by kernel_rfl))
 f218:=Tryz.func198.trans (congrArg some (by kernel_rfl))
 f219:=Tryz.func199.trans (congrArg some (by kernel_rfl))
 f224:=Tryz.func204.trans (congrArg some (by kernel_rfl))
 f225:=Tryz.func203.trans (congrArg some (by kernel_rfl))
 f240:=Tryz.func152.trans (congrArg some (by kernel_rfl))
 f241:=Tryz.func173.trans (congrArg some (by kernel_rfl))
 f260:=Tryz.func200.trans (congrArg some (by kernel_rfl))
 f266:=Tryz.func191.trans (congrArg some (by kernel_rfl))
 f267:=Tryz.func205.trans (congrArg some (by kernel_rfl))
 f276:=Tryz.func172.trans (congrArg some (by kernel_rfl))
 f277:=Tryz.func190.trans (congrArg some (by kernel_rfl))
 f314:=Tryz.func207.trans (congrArg some (by kernel_rfl))
 t0:=Tryz.underlying0
 a0:=Tryz.isAgg0
 z0:=Tryz.sizeOf0
 v0:=Tryz.zeroValue0
 t3:=Tryz.underlying3
 a3:=Tryz.isAgg3
 z3:=Tryz.sizeOf3
 v3:=Tryz.zeroValue3
 t4:=Tryz.underlying4
 a4:=Tryz.isAgg4
 z4:=Tryz.sizeOf4
 v4:=Tryz.zeroValue4
 t5:=Tryz.underlying5
 a5:=Tryz.isAgg5
 z5:=Tryz.sizeOf5
 v5:=Tryz.zeroValue5
 t9:=Tryz.underlying9
 a9:=Tryz.isAgg9
 z9:=Tryz.sizeOf9
 v9:=Tryz.zeroValue9
 t20:=Tryz.underlying20
 a20:=Tryz.isAgg20
 z20:=Tryz.sizeOf20
 v20:=Tryz.zeroValue20
 t21:=Tryz.underlying21
 a21:=Tryz.isAgg21
 z21:=Tryz.sizeOf21
 v21:=Tryz.zeroValue21
 t37:=Tryz.underlying78
 a37:=Tryz.isAgg78
 z37:=Tryz.sizeOf78
 v37:=Tryz.zeroValue78
 t46:=Tryz.underlying68
 a46:=Tryz.isAgg68
 z46:=Tryz.sizeOf68
 v46:=Tryz.zeroValue68
 t51:=Tryz.underlying230
 a51:=Tryz.isAgg230
 z51:=Tryz.sizeOf230
 v51:=Tryz.zeroValue230
 t70:=Tryz.underlying77
 a70:=Tryz.isAgg77
 z70:=Tryz.sizeOf77
 v70:=Tryz.zeroValue77
 t72:=Tryz.underlying80
 a72:=Tryz.isAgg80
 z72:=Tryz.sizeOf80
 v72:=Tryz.zeroValue80
 t75:=Tryz.underlying153
 a75:=Tryz.isAgg153
 z75:=Tryz.sizeOf153
 v75:=Tryz.zeroValue153
 t76:=Tryz.underlying154
 a76:=Tryz.isAgg154
 z76:=Tryz.sizeOf154
 v76:=Tryz.zeroValue154
 t105:=Tryz.underlying216
 a105:=Tryz.isAgg216
 z105:=Tryz.sizeOf216
 v105:=Tryz.zeroValue216
 t119:=Tryz.underlying226
 a119:=Tryz.isAgg226
 z119:=Tryz.sizeOf226
 t127:=Tryz.underlying148
 a127:=Tryz.isAgg148
 z127:=Tryz.sizeOf148
 v127:=Tryz.zeroValue148
 t138:=Tryz.underlying228
 a138:=Tryz.isAgg228
 z138:=Tryz.sizeOf228
 v138:=Tryz.zeroValue228
 t139:=Tryz.underlying229
 a139:=Tryz.isAgg229
 z139:=Tryz.sizeOf229
 v139:=Tryz.zeroValue229
 t146:=Tryz.underlying231
 a146:=Tryz.isAgg231
 z146:=Tryz.sizeOf231
 v146:=Tryz.zeroValue231
 t164:=Tryz.underlying205
 a164:=Tryz.isAgg205
 z164:=Tryz.sizeOf205
 v164:=Tryz.zeroValue205
 g1:=by kernel_rfl
 g3:=by kernel_rfl
 g4:=by kernel_rfl }
theorem Tryz.extraRA:Builder.Extra Tryz.prog Tryz.laysRA_ren:={
 sizeBuilder:=by kernel_rfl
 liesBuilder:=by kernel_rfl
 t5:=Tryz.laysRA.t5
 a5:=Tryz.laysRA.a5
 z5:=Tryz.laysRA.z5
 v5:=Tryz.laysRA.v5
 infoByte:=by kernel_rfl
 cellsByte:=by kernel_rfl
 sizeByte:=by kernel_rfl
 neB5:=by decide }
end Go.Proofs
namespace Go.Proofs.YthndhaolemgbdaaGreatDoor
open Go.Ax
def Ahr(s old new:Str):Option Str:=cond (decide (s.length<4294967281)&&decide (1≤old.length)&&decide (s.length+Lib.count s old*new.length≤140737488355328)&&decide ((Lib.replaceAll s old new).length≤maxLen)) (some (Lib.replaceAll s old new)) none
def Ag7:FT [.str,.str,.str] [.str]:=fun x=>Ahr x.1 x.2.1 x.2.2
theorem A10:FnOk Tryz.prog elT glT 150 [.str,.str,.str] [.str] Ag7:=by
 refine⟨Sx.enters_of Tryz.func150 rfl (by kernel_rfl),fun x r hx w M vs hM hgl hr =>?_⟩
 obtain⟨s,old,new⟩:=x
 simp only [Ag7,Ahr] at hx
 cases hc:decide (s.length<4294967281)&&decide (1≤old.length)&&decide (s.length+Lib.count s old*new.length≤140737488355328)&&decide ((Lib.replaceAll s old new).length≤maxLen) with
 |false=>rw [hc] at hx;cases hx
 |true =>
  rw [hc] at hx
  have hx:some (Lib.replaceAll s old new)=some r:=hx
  simp only [Za1] at hx
  subst hx
  simp only [Zb1,Zg1] at hc
  obtain⟨⟨⟨h1,h2⟩,h3⟩,h4⟩:=hc
  simp only [Cq,C9,Reps,Rep] at hr
  obtain⟨u,us,rfl,⟨rfl,_⟩,u2,us2,rfl,⟨rfl,_⟩,u3,us3,rfl,⟨rfl,_⟩,rfl⟩:=hr
  obtain⟨m,hm⟩:=hgl.2.2 3 .i64 rfl
  have c:=Any.strings_ReplaceAll Tryz.laysRA Tryz.extraRA ⟨s.toArray⟩ ⟨old.toArray⟩ ⟨new.toArray⟩ m w (by simpa [ByteArray.size] using h1) (hm w (Chg.refl _ _)) (by simpa [ByteArray.size] using h2) (by simpa [ByteArray.size,Lib.countB] using h3)
  refine Calls.mono (show Calls Tryz.prog 150 _ w _ from c) ?_
  rintro en w' ⟨rfl,hb⟩
  refine⟨_,⟨fun _=>0,fun _=>Option.none⟩,rfl,Chg.of_below hb,fun p g o hp=>(by simp [B4] at hp),fun p q g o o2 hp=>(by simp [B4] at hp),?_⟩
  simp only [Nz,Cq,C9,Rep]
  exact⟨by simp,h4⟩
end Go.Proofs.YthndhaolemgbdaaGreatDoor
namespace Go.Proofs.YthndhaolemgbdaaGreatDoor
open Go.Ax
def pw:Nat→Int
 |0=>1
 |n+1=>10*pw n
def val:List Int→Int
 |[]=>0
 |x::l=>x+10*val l
def dg(l:List Int):Bool:=l.all fun x=>decide (0≤x)&&decide (x≤9)
theorem Agm{x:Int}{l:List Int}:dg (x::l)=true↔(0≤x∧x≤9)∧dg l=true:=by
 simp [dg]
theorem A8b:∀{l:List Int},dg l=true→0≤val l
 |[],_=>by simp [val]
 |x::l,h=>by have h:=Agm.1 h;have:=A8b h.2;simp only [val];omega
def Lh(n:Nat):List Int:=if h:n=0 then [] else((n % 10:Nat):Int)::Lh (n / 10)
termination_by n
decreasing_by omega
theorem Jk:Lh 0=[]:=by rw [Lh];simp
theorem Ry{n:Nat}(h:¬n=0):Lh n=((n % 10:Nat):Int)::Lh (n / 10):=by rw [Lh];simp [h]
theorem A7j(n:Nat):val (Lh n)=(n:Int):=by
 induction n using Nat.strongRecOn with
 |ind n ih =>
  by_cases h:n=0
  ·subst h;rw [Jk];rfl
  ·rw [Ry h,val,ih (n / 10) (by omega)];omega
theorem Awu(n:Nat):dg (Lh n)=true:=by
 induction n using Nat.strongRecOn with
 |ind n ih =>
  by_cases h:n=0
  ·subst h;rw [Jk];rfl
  ·rw [Ry h];exact Agm.2 ⟨by omega,ih (n / 10) (by omega)⟩
theorem Ah9:∀(k n:Nat),(n:Int)<pw k→(Lh n).length≤k
 |0,n,h=>by
  have:n=0:=by simp only [pw] at h;omega
  subst this;rw [Jk];exact Zn1 _
 |k+1,n,h=>by
  by_cases h0:n=0
  ·subst h0;rw [Jk];simp
  ·have:=Ah9 k (n / 10) (by simp only [pw] at h;omega)
   rw [Ry h0]
   simp only [Zf1]
   omega
end Go.Proofs.YthndhaolemgbdaaGreatDoor
namespace Go.Proofs.YthndhaolemgbdaaGreatDoor
open Go.Ax
abbrev hexL:Str:=[48,49,50,51,52,53,54,55,56,57,97,98,99,100,101,102]
def A02(n:Nat):Str:=[hexL.getD (n / 16) 0,hexL.getD (n % 16) 0]
def O4(s:Str):Str:=s.flatMap fun b=>A02 b.toNat
def Bgy(n:Nat):Bool:=inb (Kr .u8 (n:Int) 4) 16&&inb (K9 .u8 (n:Int) 15) 16&&decide ([(UInt8.ofNat ((bat hexL (Kr .u8 (n:Int) 4)):Int).toNat),(UInt8.ofNat ((bat hexL (K9 .u8 (n:Int) 15)):Int).toNat)]=A02 n)
theorem Be7:((List.range 256).all Bgy)=true:=by kernel_rfl
theorem hx(b:UInt8):inb (Kr .u8 (b.toNat:Int) 4) 16=true∧inb (K9 .u8 (b.toNat:Int) 15) 16=true∧[(UInt8.ofNat ((bat hexL (Kr .u8 (b.toNat:Int) 4)):Int).toNat),(UInt8.ofNat ((bat hexL (K9 .u8 (b.toNat:Int) 15)):Int).toNat)]=A02 b.toNat:=by
 have h:=Zg2.1 Be7 b.toNat (List.mem_range.2 b.toNat_lt)
 simp only [Bgy,Zb1,Zg1] at h
 exact⟨h.1.1,h.1.2,h.2⟩
theorem Air(s:Str):(O4 s).length=2*s.length:=by
 induction s with
 |nil=>rfl
 |cons b l ih=>simp only [O4,List.flatMap_cons,A02,Zh1,Zf1,Zi1] at ih ⊢;omega
def Aer:Sig:=⟨26,[(0,.str),(3,.sl .byte true),(6,.int .i64),(7,.int .i64)],[],[],0,0,0,[],[]⟩
abbrev Nh:=Str×List UInt8×Int×Int
def Aa2{R:Type}(rec:Nh→Option R) (kx:Ex→Nh→Option R) (v:Nh):Option R:=match v with
 |(v,v1,v2,v3) =>
 cond (decide (v3<v2)) (
  chk (inb v3 v.length) (
  chk (inb (Kr .u8 (bat v v3) 4) 16) (
   chk (inb v3 v.length) (
   chk (inb (K9 .u8 (bat v v3) 15) 16) (
    chk (decide (v1.length+2≤Be)) (
    rec (v,(v1++[(UInt8.ofNat ((bat [48,49,50,51,52,53,54,55,56,57,97,98,99,100,101,102] (Kr .u8 (bat v v3) 4)):Int).toNat),(UInt8.ofNat ((bat [48,49,50,51,52,53,54,55,56,57,97,98,99,100,101,102] (K9 .u8 (bat v v3) 15)):Int).toNat)]),v2,(wr .i64 (v3+1))))))))) (
  kx (.exit 0) (v,v1,v2,v3))
def T3(R:Type) (k:Nat):Px R:=⟨A7 ttL,glT,Aq [],Ak [],Av [(3,Bc k Aer (Aa2))],tbl []⟩
theorem A0d(R:Type) (k:Nat):∀(fr:List Fr) (rec:Nh→Option R) (kx:Ex→Nh→Option R) (v:Nh),Bn (T3 R k) Aer (lp Tryz.f151 0) fr rec kx v=Aa2 rec kx v
 |fr,rec,kx,(v,v1,v2,v3)=>by kernel_rfl
def Aeh(k:Nat) (x:HV [.str]):Option (HV [.str]):=match x with
 |s =>
 A5 (fun rec=>Aa2 rec (fun e vz=>match vz with|(_,v5,_,_)=>match e with
  |.exit 0 =>
  some v5
  |_=>none)) k (s,[],(s.length:Int),0)
theorem Bbc(k:Nat):∀(x:HV [.str]),Ci (T3 _ k) Tryz.f151 [.str] [.str] x some=Aeh k x
 |s=>by kernel_rfl
theorem A5y(k:Nat):FnOk Tryz.prog elT glT 151 [.str] [.str] (Aeh k):=by
 refine A1 Tryz.func151 rfl (by kernel_rfl) follows (by kernel_rfl) (n:=1) (by kernel_rfl) (px:=T3 _ k) (fun cx hP hel hgl =>?_) (Bbc k)
 have hp0:PxOk cx (T3 (HV [.str]) k):=⟨fun t=>by rw [hP,hel];exact Au Al t,by rw [hgl];rfl⟩
 have hc0:Aj cx (T3 (HV [.str]) k):=Ah rfl Ai
 have hq0:CallQOk cx (T3 (HV [.str]) k):=Ab rfl rfl Af Ae
 have hlvhex_0:A6 cx (T3 (HV [.str]) k) (lp Tryz.f151 0):=A8 hp0 hc0 hq0 (by rw [hP];exact follows) (k:=k) (s:=Aer) (step:=Aa2) (fun _ _=>by kernel_rfl) (by kernel_rfl) (A0d _ k) (A0 (n:=0) (by kernel_rfl) Aw)
 exact⟨hp0,hc0,hq0,(Cg Aw hlvhex_0)⟩
def A5f(s:Str):Option Str:=cond (decide (s.length≤3000)) (some (O4 s)) none
def Avb:FT [.str] [.str]:=fun x=>A5f x
theorem Al7{R:Type}{kx:Ex→Nh→Option R}{s:Str}{b:Str→Option R}(hs:s.length≤3000) (h2:∀out j,kx (.exit 0) (s,out,(s.length:Int),j)=b out):∀(k i:Nat) (out:Str),i≤s.length→s.length-i<k→out.length≤2*i→A5 (fun rec=>Aa2 rec kx) k (s,out,(s.length:Int),(i:Int))=b (out++O4 (s.drop i))
 |0,i,_,_,h,_=>absurd h (Zm1 _)
 |k+1,i,out,hi,h,ho=>by
  rw [Bu]
  by_cases hl:i<s.length
  ·obtain⟨h3,h4,h5⟩:=hx (s[i]'hl)
   have hn:ln s.length:=by simp only [ln];omega
   have ih:=Al7 hs h2 k (i+1) (out++A02 (s[i]'hl).toNat) (by omega) (by omega) (by simp only [Zh1,A02,Zf1,Zi1];omega)
   simp only [Aa2,Bg hl hn,Di hl,Bp hl,h3,h4,h5,ih,h2]
   rw [Ze1 (show(i:Int)<(s.length:Int) by omega),Ze1 (show out.length+2≤Be by simp only [Be];omega),A9 hl]
   simp only [chk,Am,O4,List.flatMap_cons,Zj1]
  ·simp only [Aa2,h2]
   rw [Zd1 (show ¬(i:Int)<(s.length:Int) by omega),Zk1 (by omega)]
   simp [O4]
theorem A9i:FnOk Tryz.prog elT glT 151 [.str] [.str] Avb :=.fin 0 A5y fun s r hb hx=>⟨3001,by
 simp only [Avb,A5f] at hx
 by_cases hs:s.length≤3000
 ·rw [Ze1 hs] at hx
  simp only [Aeh]
  exact(Al7 (b:=some) hs (fun _ _=>rfl) 3001 0 [] (Nat.zero_le _) (by omega) (by simp)).trans hx
 ·rw [Zd1 hs] at hx
  cases hx⟩
def dch(d:Int):UInt8:=UInt8.ofNat (48+d).toNat
def txt(l:List Int):Str:=(l.map dch).reverse
def At8(n:Int):Str:=let t:=if n=0 then [48] else txt (Lh n.natAbs)
 if n<0 then 45::t else t
theorem Vl(d:Int) (l:List Int):txt (d::l)=txt l++[dch d]:=by simp [txt]
theorem Bdj{d:Int}(h : 0≤d∧d≤9):UInt8.ofNat ((wr .u8 (wr .u64 (48+d))):Int).toNat=dch d:=by
 have e:wr .u8 (wr .u64 (48+d))=48+d:=by
  rw [K5 (by omega)]
  simp only [wr,IntKind.wrap,IntKind.bits,IntKind.signed]
  simp
  omega
 rw [e];rfl
theorem Aw7(l:List Int):(txt l).length=l.length:=by simp [txt]
theorem A3n(n:Int):txt (Lh (n.natAbs / 10))++[dch ((n.natAbs % 10:Nat):Int)]=if n=0 then [48] else txt (Lh n.natAbs):=by
 by_cases h0:n=0
 ·subst h0
  rw [if_pos rfl,show(0:Int).natAbs / 10=0 from rfl,Jk]
  rfl
 ·rw [if_neg h0,Ry (n:=n.natAbs) (by omega),Vl]
def Tj:Sig:=⟨32,[(0,.int .i64),(3,.sl .byte true),(4,.int .u64)],[],[],0,0,0,[],[]⟩
abbrev Fu:=Int×List UInt8×Int
def Je{R:Type}(rec:Fu→Option R) (kx:Ex→Fu→Option R) (v:Fu):Option R:=match v with
 |(v,v1,v2) =>
 cond (decide (0<v2)) (
  chk (decide (1+v1.length≤Be)) (
  rec (v,([(UInt8.ofNat ((wr .u8 (wr .u64 (48+(Int.tmod v2 10)))):Int).toNat)]++v1),(wr .u64 (Int.tdiv v2 10))))) (
  kx (.exit 0) (v,v1,v2))
def Gu(R:Type) (k:Nat):Px R:=⟨A7 ttL,glT,Aq [(170,As [.int .i64] [.int .u64] Amc)],Ak [],Av [(3,Bc k Tj (Je))],tbl []⟩
theorem Aoq(R:Type) (k:Nat):∀(fr:List Fr) (rec:Fu→Option R) (kx:Ex→Fu→Option R) (v:Fu),Bn (Gu R k) Tj (lp Tryz.f149 0) fr rec kx v=Je rec kx v
 |fr,rec,kx,(v,v1,v2)=>by kernel_rfl
def Sh(k:Nat) (x:HV [.int .i64]):Option (HV [.str]):=match x with
 |n =>
 A5 (fun rec=>Je rec (fun e vz=>match vz with|(v3,v4,_)=>match e with
  |.exit 0 =>
  cond (decide (v3<0)) (
   chk (decide ([45].length+v4.length≤Dd)) (
   some ([45]++v4))) (
   some v4)
  |_=>none)) k (n,[(UInt8.ofNat ((wr .u8 (wr .u64 (48+(Int.tmod (Ed n) 10)))):Int).toNat)],(wr .u64 (Int.tdiv (Ed n) 10)))
theorem Asx(k:Nat):∀(x:HV [.int .i64]),Ci (Gu _ k) Tryz.f149 [.int .i64] [.str] x some=Sh k x
 |n=>by kernel_rfl
theorem Arn(k:Nat):FnOk Tryz.prog elT glT 149 [.int .i64] [.str] (Sh k):=by
 refine A1 Tryz.func149 rfl (by kernel_rfl) follows (by kernel_rfl) (n:=1) (by kernel_rfl) (px:=Gu _ k) (fun cx hP hel hgl =>?_) (Asx k)
 have hp0:PxOk cx (Gu (HV [.str]) k):=⟨fun t=>by rw [hP,hel];exact Au Al t,by rw [hgl];rfl⟩
 have hc0:Aj cx (Gu (HV [.str]) k):=Ah rfl (Aa (A4 (by rw [hP,hel,hgl];exact Apm) (by kernel_rfl)) Ai)
 have hq0:CallQOk cx (Gu (HV [.str]) k):=Ab rfl rfl Af Ae
 have hlvdigits_0:A6 cx (Gu (HV [.str]) k) (lp Tryz.f149 0):=A8 hp0 hc0 hq0 (by rw [hP];exact follows) (k:=k) (s:=Tj) (step:=Je) (fun _ _=>by kernel_rfl) (by kernel_rfl) (Aoq _ k) (A0 (n:=0) (by kernel_rfl) Aw)
 exact⟨hp0,hc0,hq0,(Cg Aw hlvdigits_0)⟩
abbrev Anp (n:Int):Str:=At8 n
def Aeq:FT [.int .i64] [.str]:=fun x=>some (Anp x)
theorem Bh4{n:Int}(h:inI n):Ed n=(n.natAbs:Int):=by
 rw [Aoj h]
 simp only [O1]
 split<;>omega
theorem Aa6{R:Type}{kx:Ex→Fu→Option R}{n:Int}{b:Str→Option R}(h2:∀out x,kx (.exit 0) (n,out,x)=b out):∀(k a:Nat) (out:Str),(a:Int)≤18446744073709551615→(Lh a).length<k→out.length+(Lh a).length≤1000→A5 (fun rec=>Je rec kx) k (n,out,(a:Int))=b (txt (Lh a)++out)
 |0,a,out,_,h,_=>absurd h (Zm1 _)
 |k+1,a,out,ha,h,ho=>by
  rw [Bu]
  by_cases h0:a=0
  ·subst h0
   simp only [Je,h2]
   rw [Zd1 (by omega),Jk]
   rfl
  ·have hd:=Ry h0
   rw [hd,Zf1] at h ho
   have e1:Int.tmod (a:Int) 10=((a % 10:Nat):Int):=rfl
   have e2:wr .u64 (Int.tdiv (a:Int) 10)=((a / 10:Nat):Int):=by
    have:Int.tdiv (a:Int) 10=((a / 10:Nat):Int):=rfl
    rw [this,K5 (by omega)]
   have ih:=Aa6 h2 k (a / 10) ([dch ((a % 10:Nat):Int)]++out) (by omega) (by omega) (by simp only [Zh1,Zf1,Zi1];omega)
   simp only [Je,e1,e2,Bdj (show 0≤((a % 10:Nat):Int)∧((a % 10:Nat):Int)≤9 by omega),ih]
   rw [Ze1 (show(0:Int)<(a:Int) by omega),Ze1 (show 1+out.length≤Be by simp only [Be];omega),hd,Vl]
   simp [chk]
theorem Asy:FnOk Tryz.prog elT glT 149 [.int .i64] [.str] Aeq :=.fin 0 Arn fun n r hb hx=>⟨30,by
 have hb:=Cy hb
 simp only [Aeq,Za1] at hx
 subst hx
 have hl:(Lh (n.natAbs / 10)).length≤20:=Ah9 20 _ (by
  simp only [inI] at hb
  have:pw 20=100000000000000000000:=by kernel_rfl
  omega)
 have e1:Int.tmod (n.natAbs:Int) 10=((n.natAbs % 10:Nat):Int):=rfl
 have e2:wr .u64 (Int.tdiv (n.natAbs:Int) 10)=((n.natAbs / 10:Nat):Int):=by
  have:Int.tdiv (n.natAbs:Int) 10=((n.natAbs / 10:Nat):Int):=rfl
  simp only [inI] at hb
  rw [this,K5 (by omega)]
 simp only [Sh,Bh4 hb,e1,e2,Bdj (show 0≤((n.natAbs % 10:Nat):Int)∧((n.natAbs % 10:Nat):Int)≤9 by omega)]
 refine(Aa6 (b:=fun out=>cond (decide (n<0)) (chk (decide ([45].length+out.length≤Dd)) (some ([45]++out))) (some out)) (fun _ _=>rfl) 30 (n.natAbs / 10) [dch ((n.natAbs % 10:Nat):Int)] (by simp only [inI] at hb;omega) (by omega) (by simp only [Zf1,Zi1];omega)).trans ?_
 have et:=A3n n
 have hlen:(txt (Lh (n.natAbs / 10))++[dch ((n.natAbs % 10:Nat):Int)]).length≤21:=by
  rw [Zh1,Aw7];simp only [Zf1,Zi1];omega
 have hc:decide ([45].length+(txt (Lh (n.natAbs / 10))++[dch ((n.natAbs % 10:Nat):Int)]).length≤Dd)=true:=Ze1 (by simp only [Zf1,Zi1,Dd];omega)
 simp only [hc,chk,Am]
 rw [et]
 simp only [Anp,At8]
 by_cases h:n<0
 ·rw [Ze1 h,if_pos h];rfl
 ·rw [Zd1 h,if_neg h];rfl⟩
def quo:Str→Str
 |[]=>[]
 |b::l=>if b=39 then 39::39::quo l else b::quo l
theorem Anq(s:Str):(quo s).length≤2*s.length:=by
 induction s with
 |nil=>simp [quo]
 |cons b l ih =>
  simp only [quo]
  split<;>simp only [Zf1]<;>omega
theorem Ak0:∀s:Str,(Lib.index s [39] = -1∧quo s=s)∨∃i:Nat,Lib.index s [39]=(i:Int)∧i<s.length∧quo s=s.take i++[39,39]++quo (s.drop (i+1))
 |[] =>.inl ⟨rfl,rfl⟩
 |b::l=>by
  by_cases h:b=39
  ·subst h
   refine .inr ⟨0,rfl,by simp,by simp [quo]⟩
  ·have hp:List.isPrefixOf [39] (b::l)=false:=by
    simp only [List.isPrefixOf,Bool.and_true]
    exact beq_eq_false_iff_ne.2 (Ne.symm h)
   rcases Ak0 l with ⟨h1,h2⟩|⟨i,h1,h2,h3⟩
   ·left
    refine⟨?_,by simp only [quo,if_neg h,h2]⟩
    unfold Lib.index
    rw [hp,h1]
    rfl
   ·right
    refine⟨i+1,?_,by simpa using h2,?_⟩
    ·unfold Lib.index
     rw [hp,h1]
     have:((i:Int) == -1)=false:=beq_eq_false_iff_ne.2 (by omega)
     simp [this]
    ·simp only [quo,if_neg h,h3,List.take_succ_cons,List.drop_succ_cons,Zb2]
theorem Ali:∀(f:Nat) (s:Str),s.length<f→Lib.replaceK [39] [39,39] (Lib.countFrom [39] f s) s=quo s
 |0,s,h=>absurd h (Zm1 _)
 |f+1,s,h=>by
  rcases Ak0 s with ⟨h1,h2⟩|⟨i,h1,h2,h3⟩
  ·simp only [Lib.countFrom,h1]
   exact h2.symm
  ·have hn:((i:Int) == -1)=false:=beq_eq_false_iff_ne.2 (by omega)
   have ih:=Ali f (s.drop (i+1)) (by rw [Za2];omega)
   have e:Lib.countFrom [39] (f+1) s=Lib.countFrom [39] f (s.drop (i+1))+1:=by
    simp only [Lib.countFrom,h1,hn,Int.toNat_natCast,Zf1,Zi1]
    simp [Nat.add_comm]
   rw [e,Lib.replaceK_hit _ _ _ _ i h1]
   simp only [Zf1,Zi1,Nat.zero_add]
   rw [ih,h3]
theorem Bah(s:Str):Lib.replaceAll s [39] [39,39]=quo s:=by
 have e:Lib.replaceNum s [39] (-1)=Lib.countFrom [39] (s.length+1) s:=by
  unfold Lib.replaceNum
  rw [if_pos (.inl (by decide))]
  rfl
 have hc:=Ali (s.length+1) s (by omega)
 rw [←e] at hc
 exact hc
theorem Aum{s:Str}(h:s.length≤3000):Ahr s [39] [39,39]=some (quo s):=by
 have h1:=Lib.countB_mul_le ⟨#[39]⟩ (by decide) s.length ⟨s.toArray⟩ (Zn1 _)
 have h2:Lib.count s [39]*1≤s.length:=h1
 have h3:=Anq s
 simp only [Ahr,Bah]
 rw [Ze1 (show s.length<4294967281 by omega),Ze1 (show 1≤([39]:Str).length by decide),Ze1 (show s.length+Lib.count s [39]*([39,39]:Str).length≤140737488355328 by simp only [Zf1,Zi1];omega),Ze1 (show(quo s).length≤maxLen by simp only [maxLen];omega)]
 rfl
def Rz(R:Type):Px R:=⟨A7 ttL,glT,Aq [(147,As [.sv .val] [.bool] Ago),(149,As [.int .i64] [.str] Aeq),(150,As [.str,.str,.str] [.str] Ag7),(151,As [.str] [.str] Avb)],Ak [],Av [],tbl []⟩
def Xl(x:HV [.sv .val]):Option (HV [.str]):=match x with
 |v =>
 cond (!(Ch v)) (
  some []) (
  cond (decide (v.kind=2)) (
  chk (inb v.n 2) (
   some (at' .str [[70,65,76,83,69],[84,82,85,69]] v.n))) (
  cond (decide (v.kind=3)) (
   some (Anp v.n)) (
   cond (decide (v.kind=4)) (
   (Ahr v.s [39] [39,39]).bind fun x =>
    chk (decide ([39].length+x.length≤Dd)) (
    chk (decide (([39]++x).length+[39].length≤Dd)) (
     some (([39]++x)++[39])))) (
   cond (decide (v.kind=5)) (
    (A5f v.s).bind fun x1 =>
    chk (decide ([120,39].length+x1.length≤Dd)) (
     chk (decide (([120,39]++x1).length+[39].length≤Dd)) (
     some (([120,39]++x1)++[39])))) (
    some [78,85,76,76])))))
theorem A0k:∀(x:HV [.sv .val]),Ci (Rz _) Tryz.f98 [.sv .val] [.str] x some=Xl x
 |v=>by kernel_rfl
theorem Av4:FnOk Tryz.prog elT glT 98 [.sv .val] [.str] (Xl):=by
 refine A1 Tryz.func98 rfl (by kernel_rfl) follows (by kernel_rfl) (n:=0) (by kernel_rfl) (px:=Rz _) (fun cx hP hel hgl =>?_) (A0k)
 have hp0:PxOk cx (Rz (HV [.str])):=⟨fun t=>by rw [hP,hel];exact Au Al t,by rw [hgl];rfl⟩
 have hc0:Aj cx (Rz (HV [.str])):=Ah rfl (Aa (A4 (by rw [hP,hel,hgl];exact Al0) (by kernel_rfl)) (Aa (A4 (by rw [hP,hel,hgl];exact Asy) (by kernel_rfl)) (Aa (A4 (by rw [hP,hel,hgl];exact A10) (by kernel_rfl)) (Aa (A4 (by rw [hP,hel,hgl];exact A9i) (by kernel_rfl)) Ai))))
 have hq0:CallQOk cx (Rz (HV [.str])):=Ab rfl rfl Af Ae
 exact⟨hp0,hc0,hq0,Aw⟩
def B6(v:Val):Str:=cond (Ch v) (if v.kind=2 then(if v.n=0 then [70,65,76,83,69] else [84,82,85,69]) else if v.kind=3 then At8 v.n else if v.kind=4 then 39::(quo v.s++[39]) else if v.kind=5 then 120::39::(O4 v.s++[39]) else [78,85,76,76]) []
def Ab7:FT [.sv .val] [.str]:=fun x=>some (B6 x)
theorem Rl{v:Val}(h:Ch v=true) (hk:v.kind=4∨v.kind=5):v.s.length≤1000:=by
 rcases hk with h4|h5
 ·simp [Ch,h4] at h
  omega
 ·simp [Ch,h5] at h
  omega
theorem Atn{v:Val}(h:Ch v=true) (hk:v.kind=2):v.n=0∨v.n=1:=by
 by_cases h0:v.n=0
 ·exact .inl h0
 ·by_cases h1:v.n=1
  ·exact .inr h1
  ·simp [Ch,hk,h0,h1] at h
theorem Akd:FnOk Tryz.prog elT glT 98 [.sv .val] [.str] Ab7 :=.fin0 Av4 fun v r _ hx=>by
 simp only [Ab7,Za1] at hx
 subst hx
 simp only [Xl,B6]
 cases hr:Ch v with
 |false=>rfl
 |true =>
  simp only [Zt1,An,Am]
  by_cases k2:v.kind=2
  ·rw [Ze1 k2,if_pos k2]
   rcases Atn hr k2 with h|h<;>rw [h]<;>rfl
  ·rw [Zd1 k2,if_neg k2]
   by_cases k3:v.kind=3
   ·rw [Ze1 k3,if_pos k3];rfl
   ·rw [Zd1 k3,if_neg k3]
    by_cases k4:v.kind=4
    ·have hl:=Rl hr (.inl k4)
     have hq:=Anq v.s
     rw [Ze1 k4,if_pos k4]
     simp only [Am,An,Aum (show v.s.length≤3000 by omega),Zc1]
     refine(Awz (Ze1 ?_)).trans ((Awz (Ze1 ?_)).trans rfl)
     ·simp only [Zf1,Zi1,Dd];omega
     ·simp only [Zh1,Zf1,Zi1,Dd];omega
    ·rw [Zd1 k4,if_neg k4]
     by_cases k5:v.kind=5
     ·have hl:=Rl hr (.inr k5)
      have hh:=Air v.s
      have hv:A5f v.s=some (O4 v.s):=by simp only [A5f];rw [Ze1 (by omega)];rfl
      rw [Ze1 k5,if_pos k5]
      simp only [Am,An,hv,Zc1]
      refine(Awz (Ze1 ?_)).trans ((Awz (Ze1 ?_)).trans rfl)
      ·simp only [Zf1,Zi1,Dd];omega
      ·simp only [Zh1,Zf1,Zi1,Dd];omega
     ·rw [Zd1 k5,if_neg k5];rfl
end Go.Proofs.YthndhaolemgbdaaGreatDoor
namespace Go.Proofs.YthndhaolemgbdaaGreatDoor
open Go.Ax
def W0(R:Type):Px R:=⟨A7 ttL,glT,Aq [],Ak [],Av [],tbl []⟩
def Th(x:HV [.int .i64]):Option (HV [.int .i64]):=match x with
 |kind =>
 let j1:=fun(p1:Bool) =>
  cond (p1) (
  some 0) (
  let j:=fun(p5:Bool) =>
   cond (p5) (
   some 1) (
   cond (!decide ((Tt signsL kind)=[])) (
    some 2) (
    some (-1)))
  cond (decide (kind=3)) (
   j true) (
   cond (decide (kind=15)) (
   j true) (
   j (decide (kind=16)))))
 cond (decide (kind=1)) (
  j1 true) (
  j1 (decide (kind=2)))
theorem A3v:∀(x:HV [.int .i64]),Ci (W0 _) Tryz.f94 [.int .i64] [.int .i64] x some=Th x
 |kind=>by kernel_rfl
theorem A1d:FnOk Tryz.prog elT glT 94 [.int .i64] [.int .i64] (Th):=by
 refine A1 Tryz.func94 rfl (by kernel_rfl) follows (by kernel_rfl) (n:=0) (by kernel_rfl) (px:=W0 _) (fun cx hP hel hgl =>?_) (A3v)
 have hp0:PxOk cx (W0 (HV [.int .i64])):=⟨fun t=>by rw [hP,hel];exact Au Al t,by rw [hgl];rfl⟩
 have hc0:Aj cx (W0 (HV [.int .i64])):=Ah rfl Ai
 have hq0:CallQOk cx (W0 (HV [.int .i64])):=Ab rfl rfl Af Ae
 exact⟨hp0,hc0,hq0,Aw⟩
def Kk(kind:Int):Int :=
 let j1:=fun(p1:Bool) =>
  cond (p1) (
  0) (
  let j:=fun(p5:Bool) =>
   cond (p5) (
   1) (
   cond (!decide ((Tt signsL kind)=[])) (
    2) (
    (-1)))
  cond (decide (kind=3)) (
   j true) (
   cond (decide (kind=15)) (
   j true) (
   j (decide (kind=16)))))
 cond (decide (kind=1)) (
  j1 true) (
  j1 (decide (kind=2)))
theorem A2b(x:HV [.int .i64]):Th x=some (Kk x):=by
 first
  |exact rfl
  |simp only [Th,Kk,B2]
def Am5:FT [.int .i64] [.int .i64]:=fun x=>some (Kk x)
theorem Ar6:FnOk Tryz.prog elT glT 94 [.int .i64] [.int .i64] Am5 :=.fin0 A1d fun x _ _ hx=>(A2b x).trans hx
end Go.Proofs.YthndhaolemgbdaaGreatDoor
namespace Go.Proofs.YthndhaolemgbdaaGreatDoor
open Go.Ax
mutual
def Bt:Xpr→Nat
 |.mk _ _ _ l=>1+esizes l
def esizes:List Xpr→Nat
 |[]=>0
 |x::l=>1+Bt x+esizes l
end
theorem Dn:∀{l:List Xpr}{x:Xpr},x∈l→Bt x<esizes l
 |y::l,x,h=>by
  simp only [List.mem_cons] at h
  simp only [esizes]
  rcases h with rfl|h
  ·omega
  ·have:=Dn h;omega
theorem Mt:∀(l:List Xpr),l.length≤esizes l
 |[]=>by simp
 |x::l=>by have:=Mt l;simp only [esizes,Zf1];omega
theorem Ej(e:Xpr) : 0<Bt e:=by cases e;simp only [Bt];omega
theorem Kv(e:Xpr):Bt e=1+esizes e.l:=by cases e;simp only [Bt,Xpr.l]
theorem Ae3{e:Xpr}(h:BdExpr e):ln e.l.length∧∀x,x∈e.l→BdExpr x:=by
 obtain⟨_,_,_,_,_,_,_,h4,h5⟩:=h
 exact⟨h4,h5⟩
theorem Bhv{e:Xpr}(h:BdExpr e):Awa e.v∧inI e.kind∧ln e.name.length:=by
 obtain⟨_,_,_,_,h1,h2,h3,_,_⟩:=h
 exact⟨h2,h1,h3⟩
def Vv:Sig:=⟨19,[(0,.sl .expr false),(4,.int .i64),(7,.int .i64),(8,.int .i64)],[(1,.fn 97 [.ptr 1 0])],[(1,.cells [.int .i64])],80,80,400,[],[]⟩
abbrev Hb:=List Xpr×Int×Int×Int×Int
def M1{R:Type}(rf:FT [.sv .expr,.int .i64] [.bool]) (rec:Hb→Option R) (kx:Ex→Hb→Option R) (v:Hb):Option R:=match v with
 |(v,v1,v2,v3,w) =>
 cond (decide (v3<v2)) (
  chk (inb v3 v.length) (
  (rf ((at' .expr v v3),(wr .i64 (w-1)))).bind fun x =>
   cond (!x) (
   kx .ret (v,v3,v2,v3,w)) (
   rec (v,v1,v2,(wr .i64 (v3+1)),w)))) (
  kx (.exit 0) (v,v1,v2,v3,w))
def Gm(R:Type) (_k:Nat) (rf:FT [.sv .expr,.int .i64] [.bool]):Px R:=⟨A7 ttL,glT,Aq [(39,As [.sv .expr,.int .i64] [.bool] rf)],Ak [],Av [],tbl []⟩
noncomputable def Fh (R:Type) (k:Nat) (rf:FT [.sv .expr,.int .i64] [.bool]):Px R:=⟨A7 ttL,glT,Aq [(97,Bb 120 600 (Gm R k rf) Tryz.f97)],Ak [],Av [(2,Bc k Vv (M1 rf))],tbl []⟩
noncomputable def Od (R:Type) (k:Nat) (rf:FT [.sv .expr,.int .i64] [.bool]):Px R:=⟨A7 ttL,glT,Aq [(148,Bb 80 400 (Fh R k rf) Tryz.f148)],Ak [],Av [],tbl []⟩
noncomputable def P2 (R:Type) (k:Nat) (rf:FT [.sv .expr,.int .i64] [.bool]):Px R:=⟨A7 ttL,glT,Aq [(95,As [.sv .val] [.int .i64] Aig),(63,As [.str] [.bool] Ss),(96,Bb 40 200 (Od R k rf) Tryz.f96)],Ak [(94,Ac2 [.int .i64] [.int .i64] Am5)],Av [],tbl []⟩
theorem Apv(R:Type) (k:Nat) (rf:FT [.sv .expr,.int .i64] [.bool]):∀(fr:List Fr) (rec:Hb→Option R) (kx:Ex→Hb→Option R) (v:Hb),Bn (Fh R k rf) Vv (lp Tryz.f148 0) fr rec kx v=M1 rf rec kx v
 |fr,rec,kx,(v,v1,v2,v3,w)=>by kernel_rfl
def Fs(k:Nat) (rf:FT [.sv .expr,.int .i64] [.bool]) (x:HV [.sv .expr,.int .i64]):Option (HV [.bool]):=match x with
 |(e,most) =>
 cond (decide (most=0)) (
  some false) (
  cond (!decide ((e.l.length:Int)=(Kk e.kind))) (
  some false) (
  let j2:=fun(_:Unit) =>
   let j1:=fun(_:Unit) =>
   A5 (fun rec=>M1 rf rec (fun e vz=>match vz with|(_,v5,_,_,_)=>match e with
    |.ret =>
    some (!(decide (0≤v5)))
    |.exit 0 =>
    some true
    |_=>none)) k (e.l,0,(e.l.length:Int),0,most)
   let j:=fun(p5:Bool) =>
   cond (p5) (
    some false) (
    cond (!decide (e.kind=2)) (
    cond (!decide (e.name=[])) (
     some false) (
     j1 ())) (
    j1 ()))
   cond (decide (e.kind=2)) (
   j (!(F9 e.name))) (
   j false)
  cond (decide (e.kind=1)) (
   cond (!decide ((Ua e.v)=0)) (
   some false) (
   cond (decide (e.v.kind=3)) (
    cond (decide (e.v.n<0)) (
    some false) (
    j2 ())) (
    j2 ()))) (
   cond (!decide (e.v=(Val.mk 0 0 []))) (
   some false) (
   j2 ()))))
theorem A2x(k:Nat) (rf:FT [.sv .expr,.int .i64] [.bool]):∀(x:HV [.sv .expr,.int .i64]),Ci (P2 _ k rf) Tryz.f39 [.sv .expr,.int .i64] [.bool] x some=Fs k rf x
 |(e,most)=>by kernel_rfl
theorem Avi(k:Nat) (rf:FT [.sv .expr,.int .i64] [.bool]) (hrf:FnOk Tryz.prog elT glT 39 [.sv .expr,.int .i64] [.bool] rf):FnOk Tryz.prog elT glT 39 [.sv .expr,.int .i64] [.bool] (Fs k rf):=by
 refine A1 Tryz.func39 rfl (by kernel_rfl) follows (by kernel_rfl) (n:=0) (by kernel_rfl) (px:=P2 _ k rf) (fun cx hP hel hgl =>?_) (A2x k rf)
 have hp3:PxOk cx (Gm (HV [.bool]) k rf):=⟨fun t=>by rw [hP,hel];exact Au Al t,by rw [hgl];rfl⟩
 have hc3:Aj cx (Gm (HV [.bool]) k rf):=Ah rfl (Aa (A4 (by rw [hP,hel,hgl];exact hrf) (by kernel_rfl)) Ai)
 have hq3:CallQOk cx (Gm (HV [.bool]) k rf):=Ab rfl rfl Af Ae
 have hp2:PxOk cx (Fh (HV [.bool]) k rf):=⟨fun t=>by rw [hP,hel];exact Au Al t,by rw [hgl];rfl⟩
 have hc2:Aj cx (Fh (HV [.bool]) k rf):=Ah rfl (Aa (Bm hp3 hc3 hq3 (by rw [hP];exact follows) (by rw [hP];exact Tryz.func97) rfl (by kernel_rfl) (by kernel_rfl) (n:=0) (by kernel_rfl) (Aw)) Ai)
 have hq2:CallQOk cx (Fh (HV [.bool]) k rf):=Ab rfl rfl Af Ae
 have hleright_0:A6 cx (Fh (HV [.bool]) k rf) (lp Tryz.f148 0):=A8 hp2 hc2 hq2 (by rw [hP];exact follows) (k:=k) (s:=Vv) (step:=M1 rf) (fun _ _=>by kernel_rfl) (by kernel_rfl) (Apv _ k rf) (A0 (n:=0) (by kernel_rfl) Aw)
 have hp1:PxOk cx (Od (HV [.bool]) k rf):=⟨fun t=>by rw [hP,hel];exact Au Al t,by rw [hgl];rfl⟩
 have hc1:Aj cx (Od (HV [.bool]) k rf):=Ah rfl (Aa (Bm hp2 hc2 hq2 (by rw [hP];exact follows) (by rw [hP];exact Tryz.func148) rfl (by kernel_rfl) (by kernel_rfl) (n:=1) (by kernel_rfl) ((Cg Aw hleright_0))) Ai)
 have hq1:CallQOk cx (Od (HV [.bool]) k rf):=Ab rfl rfl Af Ae
 have hp0:PxOk cx (P2 (HV [.bool]) k rf):=⟨fun t=>by rw [hP,hel];exact Au Al t,by rw [hgl];rfl⟩
 have hc0:Aj cx (P2 (HV [.bool]) k rf):=Ah rfl (Aa (A4 (by rw [hP,hel,hgl];exact Al2) (by kernel_rfl)) (Aa (A4 (by rw [hP,hel,hgl];exact U0) (by kernel_rfl)) (Aa (Bm hp1 hc1 hq1 (by rw [hP];exact follows) (by rw [hP];exact Tryz.func96) rfl (by kernel_rfl) (by kernel_rfl) (n:=0) (by kernel_rfl) (Aw)) Ai)))
 have hq0:CallQOk cx (P2 (HV [.bool]) k rf):=Ab rfl rfl (Ak8 (A7o (by rw [hP,hel,hgl];exact Ar6) (by kernel_rfl)) Af) Ae
 exact⟨hp0,hc0,hq0,Aw⟩
def eok(k:Int) (v:Val) (nm:Str):Bool:=cond (decide (k=1)) (decide (Ua v=0) && !(decide (v.kind=3)&&decide (v.n<0))) (decide (v=⟨0,0,[]⟩))&&cond (decide (k=2)) (F9 nm) (decide (nm=[]))
mutual
def Bo:Xpr→Int→Bool
 |.mk k v nm l,m => !decide (m=0)&&decide ((l.length:Int)=Kk k)&&eok k v nm&&erights l (wr .i64 (m-1))
def erights:List Xpr→Int→Bool
 |[],_=>true
 |x::l,m=>Bo x m&&erights l m
end
def P5:FT [.sv .expr,.int .i64] [.bool]:=fun x=>some (Bo x.1 x.2)
theorem Afk{R:Type}{rf:FT [.sv .expr,.int .i64] [.bool]}{kx:Ex→Hb→Option R}{l:List Xpr}{m:Int}{a b:Option R}(hn:ln l.length) (hrf:∀x,x∈l→rf (x,wr .i64 (m-1))=some (Bo x (wr .i64 (m-1)))) (h1:∀(j:Nat),kx .ret (l,(j:Int),(l.length:Int),(j:Int),m)=a) (h2:∀q j,kx (.exit 0) (l,q,(l.length:Int),j,m)=b):∀(k i:Nat) q,i≤l.length→l.length-i<k→A5 (fun rec=>M1 rf rec kx) k (l,q,(l.length:Int),(i:Int),m)=cond (erights (l.drop i) (wr .i64 (m-1))) b a
 |0,i,q,_,h=>by omega
 |k+1,i,q,hi,h=>by
  rw [Bu]
  by_cases hl:i<l.length
  ·have ih:=Afk hn hrf h1 h2 k (i+1) q (by omega) (by omega)
   simp only [M1,Bg hl hn,ih,h1,A9 hl,Bq (c :=.expr) hl,Bp hl,chk,Am,Bool.cond_decide,erights,hrf _ (List.getElem_mem hl),Zc1]
   rw [if_pos (by omega)]
   cases Bo l[i] (wr .i64 (m-1))<;>rfl
  ·simp only [M1,h2,Bool.cond_decide]
   rw [if_neg (by omega),Zk1 (by omega)]
   rfl
theorem Ale(e:Xpr) (m:Int):Bo e m=(!decide (m=0)&&decide ((e.l.length:Int)=Kk e.kind)&&eok e.kind e.v e.name&&erights e.l (wr .i64 (m-1))):=by
 cases e
 simp only [Bo]
 rfl
theorem Ajp(k:Nat):∀(n:Nat) (e:Xpr) (m:Int),BdExpr e→Bt e≤n→Bt e≤k→A5 (Fs k) n (e,m)=some (Bo e m)
 |0,e,m,_,h,_=>by have:=Ej e;omega
 |n+1,e,m,hb,h,hk=>by
  obtain⟨hb4,hb5⟩:=Ae3 hb
  rw [Kv] at h hk
  have hl:=Mt e.l
  have hrf:∀x,x∈e.l→∀m,A5 (Fs k) n (x,m)=some (Bo x m):=fun x hx m=>Ajp k n x m (hb5 x hx) (by have:=Dn hx;omega) (by have:=Dn hx;omega)
  have hloop:=Afk (R:=Bool) (rf:=A5 (Fs k) n) (l:=e.l) (m:=m) (a:=some false) (b:=some true) (kx:=fun e v=>match v with
   |(_,v5,_,_,_)=>match e with
    |.ret=>some (!(decide (0≤v5)))
    |.exit 0=>some true
    |_=>none) hb4 (fun x hx=>hrf x hx _) (fun j=>by simp) (fun _ _=>rfl) k 0 0 (Nat.zero_le _) (by omega)
  have e0:((0:Nat):Int)=0:=rfl
  rw [e0] at hloop
  rw [Bu,Ale]
  simp only [Fs] at hloop ⊢
  rw [hloop]
  simp only [Zq1,eok]
  by_cases hm:m=0
  ·simp [hm]
  ·rw [Zd1 hm]
   simp only [An,Zs1,Bool.true_and]
   by_cases hp:(e.l.length:Int)=Kk e.kind
   ·rw [Ze1 hp]
    by_cases h1:e.kind=1
    ·have h2:¬e.kind=2:=by omega
     rw [Ze1 h1,Zd1 h2]
     simp only [Am,An,Zs1,Zt1,Bool.true_and]
     cases decide (Ua e.v=0)<;>cases decide (e.v.kind=3)<;>cases decide (e.v.n<0)<;>cases decide (e.name=[])<;>cases erights e.l (wr .i64 (m-1))<;>rfl
    ·rw [Zd1 h1]
     simp only [An,Zt1,Bool.true_and]
     cases decide (e.v=Val.mk 0 0 [])<;>cases decide (e.kind=2)<;>cases decide (e.name=[])<;>cases F9 e.name<;>cases erights e.l (wr .i64 (m-1))<;>rfl
   ·rw [Zd1 hp];rfl
theorem Rc:FnOk Tryz.prog elT glT 39 [.sv .expr,.int .i64] [.bool] P5:=by
 refine .fin (ι:=Nat) 0 (F:=fun n=>A5 (Fs n) n) (fun n=>FnOk.rec' (Sx.enters_of Tryz.func39 rfl rfl) (fun rf hrf=>Avi n rf hrf) n) fun(e,m) r hb hx=>⟨Bt e,?_⟩
 exact(Ajp (Bt e) (Bt e) e m hb.1 (Zn1 _) (Zn1 _)).trans hx
def W2(R:Type):Px R:=⟨A7 ttL,glT,Aq [(39,As [.sv .expr,.int .i64] [.bool] P5)],Ak [],Av [],tbl []⟩
def Tq(x:HV [.sv .expr]):Option (HV [.int .i64]):=match x with
 |e =>
 cond (!(Bo e 30)) (
  some 2) (
  some 0)
theorem A32:∀(x:HV [.sv .expr]),Ci (W2 _) Tryz.f18 [.sv .expr] [.int .i64] x some=Tq x
 |e=>by kernel_rfl
theorem Azz:FnOk Tryz.prog elT glT 18 [.sv .expr] [.int .i64] (Tq):=by
 refine A1 Tryz.func18 rfl (by kernel_rfl) follows (by kernel_rfl) (n:=0) (by kernel_rfl) (px:=W2 _) (fun cx hP hel hgl =>?_) (A32)
 have hp0:PxOk cx (W2 (HV [.int .i64])):=⟨fun t=>by rw [hP,hel];exact Au Al t,by rw [hgl];rfl⟩
 have hc0:Aj cx (W2 (HV [.int .i64])):=Ah rfl (Aa (A4 (by rw [hP,hel,hgl];exact Rc) (by kernel_rfl)) Ai)
 have hq0:CallQOk cx (W2 (HV [.int .i64])):=Ab rfl rfl Af Ae
 exact⟨hp0,hc0,hq0,Aw⟩
def Zj(e:Xpr):Int :=
 cond (!(Bo e 30)) (
  2) (
  0)
theorem A09(x:HV [.sv .expr]):Tq x=some (Zj x):=by
 first
  |exact rfl
  |simp only [Tq,Zj,B2]
def Axi:FT [.sv .expr] [.int .i64]:=fun x=>some (Zj x)
theorem A57:FnOk Tryz.prog elT glT 18 [.sv .expr] [.int .i64] Axi :=.fin0 Azz fun x _ _ hx=>(A09 x).trans hx
def Aa0:Sig:=⟨41,[(1,.int .i64),(5,.int .i64),(6,.int .i64)],[(2,.ptr 0 0)],[(0,.one (.sv .expr))],1,0,0,[],[]⟩
abbrev Jy:=Int×Int×Int×Xpr
def Su{R:Type}(rf:FT [.sv .expr,.int .i64] [.int .i64]) (rec:Jy→Option R) (kx:Ex→Jy→Option R) (v:Jy):Option R:=match v with
 |(v,v1,v2,w) =>
 cond (decide (v2<(w.l.length:Int))) (
  cond (decide (v1<v)) (
  chk (inb v2 w.l.length) (
   (rf ((at' .expr w.l v2),(wr .i64 (v-v1)))).bind fun x =>
   rec (v,(wr .i64 (v1+x)),(wr .i64 (v2+1)),w))) (
  kx (.exit 0) (v,v1,v2,w))) (
  kx (.exit 0) (v,v1,v2,w))
def M8(R:Type) (k:Nat) (rf:FT [.sv .expr,.int .i64] [.int .i64]):Px R:=⟨A7 ttL,glT,Aq [(12,As [.sv .expr,.int .i64] [.int .i64] rf)],Ak [],Av [(3,Bc k Aa0 (Su rf))],tbl []⟩
theorem Atd(R:Type) (k:Nat) (rf:FT [.sv .expr,.int .i64] [.int .i64]):∀(fr:List Fr) (rec:Jy→Option R) (kx:Ex→Jy→Option R) (v:Jy),Bn (M8 R k rf) Aa0 (lp Tryz.f12 0) fr rec kx v=Su rf rec kx v
 |fr,rec,kx,(v,v1,v2,w)=>by kernel_rfl
def Jt(k:Nat) (rf:FT [.sv .expr,.int .i64] [.int .i64]) (x:HV [.sv .expr,.int .i64]):Option (HV [.int .i64]):=match x with
 |(e,most) =>
 A5 (fun rec=>Su rf rec (fun e vz=>match vz with|(_,v4,_,_)=>match e with
  |.exit 0 =>
  some v4
  |_=>none)) k (most,(wr .i64 (1+(wr .i64 (Int.tdiv (wr .i64 ((e.v.s.length:Int)+(e.name.length:Int))) 30)))),0,e)
theorem A4n(k:Nat) (rf:FT [.sv .expr,.int .i64] [.int .i64]):∀(x:HV [.sv .expr,.int .i64]),Ci (M8 _ k rf) Tryz.f12 [.sv .expr,.int .i64] [.int .i64] x some=Jt k rf x
 |(e,most)=>by kernel_rfl
theorem Azg(k:Nat) (rf:FT [.sv .expr,.int .i64] [.int .i64]) (hrf:FnOk Tryz.prog elT glT 12 [.sv .expr,.int .i64] [.int .i64] rf):FnOk Tryz.prog elT glT 12 [.sv .expr,.int .i64] [.int .i64] (Jt k rf):=by
 refine A1 Tryz.func12 rfl (by kernel_rfl) follows (by kernel_rfl) (n:=1) (by kernel_rfl) (px:=M8 _ k rf) (fun cx hP hel hgl =>?_) (A4n k rf)
 have hp0:PxOk cx (M8 (HV [.int .i64]) k rf):=⟨fun t=>by rw [hP,hel];exact Au Al t,by rw [hgl];rfl⟩
 have hc0:Aj cx (M8 (HV [.int .i64]) k rf):=Ah rfl (Aa (A4 (by rw [hP,hel,hgl];exact hrf) (by kernel_rfl)) Ai)
 have hq0:CallQOk cx (M8 (HV [.int .i64]) k rf):=Ab rfl rfl Af Ae
 have hlmuch1_0:A6 cx (M8 (HV [.int .i64]) k rf) (lp Tryz.f12 0):=A8 hp0 hc0 hq0 (by rw [hP];exact follows) (k:=k) (s:=Aa0) (step:=Su rf) (fun _ _=>by kernel_rfl) (by kernel_rfl) (Atd _ k rf) (A0 (n:=0) (by kernel_rfl) Aw)
 exact⟨hp0,hc0,hq0,(Cg Aw hlmuch1_0)⟩
mutual
def Iv:Xpr→Int→Int
 |.mk _ v nm l,most=>muchL l most (wr .i64 (1+wr .i64 (Int.tdiv (wr .i64 ((v.s.length:Int)+(nm.length:Int))) 30)))
def muchL:List Xpr→Int→Int→Int
 |[],_,n=>n
 |x::l,most,n=>cond (decide (n<most)) (muchL l most (wr .i64 (n+Iv x (wr .i64 (most-n))))) n
end
def Ax2:FT [.sv .expr,.int .i64] [.int .i64]:=fun x=>some (Iv x.1 x.2)
theorem Ag1{R:Type}{rf:FT [.sv .expr,.int .i64] [.int .i64]}{kx:Ex→Jy→Option R}{e:Xpr}{most:Int}{g:Int→Option R}(hn:ln e.l.length) (hrf:∀x,x∈e.l→∀m,rf (x,m)=some (Iv x m)) (h2:∀n j,kx (.exit 0) (most,n,j,e)=g n):∀(k i:Nat) n,i≤e.l.length→e.l.length-i<k→A5 (fun rec=>Su rf rec kx) k (most,n,(i:Int),e)=g (muchL (e.l.drop i) most n)
 |0,i,n,_,h=>by omega
 |k+1,i,n,hi,h=>by
  rw [Bu]
  by_cases hl:i<e.l.length
  ·have ih:=fun n=>Ag1 hn hrf h2 k (i+1) n (by omega) (by omega)
   simp only [Su,Bg hl hn,ih,h2,A9 hl,Bq (c :=.expr) hl,Bp hl,chk,Am,Bool.cond_decide,muchL,hrf _ (List.getElem_mem hl),Zc1]
   rw [if_pos (by omega)]
   split<;>rfl
  ·simp only [Su,h2,Bool.cond_decide]
   rw [if_neg (by omega),Zk1 (by omega)]
   rfl
theorem Alg(k:Nat):∀(n:Nat) (e:Xpr) (m:Int),BdExpr e→Bt e≤n→Bt e≤k→A5 (Jt k) n (e,m)=some (Iv e m)
 |0,e,m,_,h,_=>by have:=Ej e;omega
 |n+1,.mk kd v nm l,m,hb,h,hk=>by
  obtain⟨_,_,_,_,hb1,hb2,hb3,hb4,hb5⟩:=hb
  simp only [Bt] at h hk
  have hl:=Mt l
  have hrf:∀x,x∈l→∀m,A5 (Jt k) n (x,m)=some (Iv x m):=fun x hx m=>Alg k n x m (hb5 x hx) (by have:=Dn hx;omega) (by have:=Dn hx;omega)
  rw [Bu]
  simp only [Jt]
  refine(Ag1 (e :=.mk kd v nm l) (g:=some) hb4 hrf ?_ k 0 _ (Nat.zero_le _) (by simp only [Xpr.l];omega)).trans ?_
  ·exact fun _ _=>rfl
  ·simp only [Iv,Xpr.l,Zq1,Xpr.v,Xpr.name]
theorem A85:FnOk Tryz.prog elT glT 12 [.sv .expr,.int .i64] [.int .i64] Ax2:=by
 refine .fin (ι:=Nat) 0 (F:=fun n=>A5 (Jt n) n) (fun n=>FnOk.rec' (Sx.enters_of Tryz.func12 rfl rfl) (fun rf hrf=>Azg n rf hrf) n) fun(e,m) r hb hx=>⟨Bt e,?_⟩
 exact(Alg (Bt e) (Bt e) e m hb.1 (Zn1 _) (Zn1 _)).trans hx
end Go.Proofs.YthndhaolemgbdaaGreatDoor
namespace Go.Proofs.YthndhaolemgbdaaGreatDoor
open Go.Ax
mutual
def Il:Xpr→Xpr→Bool
 |.mk k v n l,.mk k' v' n' l'=>decide (k=k')&&decide (v=v')&&decide (n=n')&&xsames l l'
def xsames:List Xpr→List Xpr→Bool
 |[],[]=>true
 |x::l,y::m=>Il x y&&xsames l m
 |_,_=>false
end
mutual
theorem Aev:∀a b:Xpr,Il a b=true↔a=b
 |.mk k v n l,.mk k' v' n' l'=>by
  simp only [Il,Zb1,Zg1,xsames_iff l l',Xpr.mk.injEq]
  constructor
  ·rintro⟨⟨⟨h1,h2⟩,h3⟩,h4⟩;exact⟨h1,h2,h3,h4⟩
  ·rintro⟨h1,h2,h3,h4⟩;exact⟨⟨⟨h1,h2⟩,h3⟩,h4⟩
theorem xsames_iff:∀a b:List Xpr,xsames a b=true↔a=b
 |[],[]=>by simp [xsames]
 |x::l,y::m=>by simp only [xsames,Zb1,Aev x y,xsames_iff l m,Ze2]
 |[],_::_=>by simp [xsames]
 |_::_,[]=>by simp [xsames]
end
instance:DecidableEq Xpr:=fun a b=>decidable_of_iff (Il a b=true) (Aev a b)
theorem Q4(a b:Xpr):Il a b=decide (a=b):=by
 rw [Bool.eq_iff_iff,Aev,Zg1]
theorem Agu{a b:List Xpr}(h:xsames a b=true):a.length=b.length:=by rw [(xsames_iff a b).1 h]
theorem Ar8(a b:Xpr):Il a b=(decide (a.kind=b.kind)&&decide (a.v=b.v)&&decide (a.name=b.name)&&xsames a.l b.l):=by
 cases a;cases b
 simp only [Il]
 rfl
def Aau:Sig:=⟨32,[(1,.sl .expr false),(6,.bool),(15,.sl .expr false),(16,.int .i64),(17,.int .i64)],[(2,.fn 20 [])],[],40,40,200,[],[]⟩
abbrev Jl:=List Xpr×Bool×List Xpr×Int×Int
def S7{R:Type}(rf:FT [.sv .expr,.sv .expr] [.bool]) (rec:Jl→Option R) (kx:Ex→Jl→Option R) (v:Jl):Option R:=match v with
 |(v,v1,v2,v3,v4) =>
 cond (decide (v4<v3)) (
  chk (inb v4 v2.length) (
  chk (inb v4 v.length) (
   (rf ((at' .expr v2 v4),(at' .expr v v4))).bind fun x =>
   cond (!x) (
    kx .ret (v,false,v2,v3,v4)) (
    rec (v,v1,v2,v3,(wr .i64 (v4+1))))))) (
  kx (.exit 0) (v,v1,v2,v3,v4))
def J0(R:Type) (k:Nat) (rf:FT [.sv .expr,.sv .expr] [.bool]):Px R:=⟨A7 ttL,glT,Aq [(20,As [.sv .expr,.sv .expr] [.bool] rf)],Ak [],Av [(4,Bc k Aau (S7 rf))],tbl []⟩
noncomputable def U2 (R:Type) (k:Nat) (rf:FT [.sv .expr,.sv .expr] [.bool]):Px R:=⟨A7 ttL,glT,Aq [(47,Bb 40 200 (J0 R k rf) Tryz.f47)],Ak [],Av [],tbl []⟩
theorem Asi(R:Type) (k:Nat) (rf:FT [.sv .expr,.sv .expr] [.bool]):∀(fr:List Fr) (rec:Jl→Option R) (kx:Ex→Jl→Option R) (v:Jl),Bn (J0 R k rf) Aau (lp Tryz.f47 0) fr rec kx v=S7 rf rec kx v
 |fr,rec,kx,(v,v1,v2,v3,v4)=>by kernel_rfl
def G0(k:Nat) (rf:FT [.sv .expr,.sv .expr] [.bool]) (x:HV [.sv .expr,.sv .expr]):Option (HV [.bool]):=match x with
 |(a,b) =>
 let j1:=fun(p:Bool) =>
  let j:=fun(p1:Bool) =>
  cond (p1) (
   cond (!decide ((a.l.length:Int)=(b.l.length:Int))) (
   some false) (
   A5 (fun rec=>S7 rf rec (fun e vz=>match vz with|(_,v6,_,_,_)=>match e with
    |.ret =>
    some v6
    |.exit 0 =>
    some true
    |_=>none)) k (b.l,false,a.l,(a.l.length:Int),0))) (
   some false)
  cond (p) (
  j (decide (a.name=b.name))) (
  j false)
 cond (decide (a.kind=b.kind)) (
  j1 (decide (a.v=b.v))) (
  j1 false)
theorem A6g(k:Nat) (rf:FT [.sv .expr,.sv .expr] [.bool]):∀(x:HV [.sv .expr,.sv .expr]),Ci (U2 _ k rf) Tryz.f20 [.sv .expr,.sv .expr] [.bool] x some=G0 k rf x
 |(a,b)=>by kernel_rfl
theorem Az2(k:Nat) (rf:FT [.sv .expr,.sv .expr] [.bool]) (hrf:FnOk Tryz.prog elT glT 20 [.sv .expr,.sv .expr] [.bool] rf):FnOk Tryz.prog elT glT 20 [.sv .expr,.sv .expr] [.bool] (G0 k rf):=by
 refine A1 Tryz.func20 rfl (by kernel_rfl) follows (by kernel_rfl) (n:=0) (by kernel_rfl) (px:=U2 _ k rf) (fun cx hP hel hgl =>?_) (A6g k rf)
 have hp1:PxOk cx (J0 (HV [.bool]) k rf):=⟨fun t=>by rw [hP,hel];exact Au Al t,by rw [hgl];rfl⟩
 have hc1:Aj cx (J0 (HV [.bool]) k rf):=Ah rfl (Aa (A4 (by rw [hP,hel,hgl];exact hrf) (by kernel_rfl)) Ai)
 have hq1:CallQOk cx (J0 (HV [.bool]) k rf):=Ab rfl rfl Af Ae
 have hlasame_0:A6 cx (J0 (HV [.bool]) k rf) (lp Tryz.f47 0):=A8 hp1 hc1 hq1 (by rw [hP];exact follows) (k:=k) (s:=Aau) (step:=S7 rf) (fun _ _=>by kernel_rfl) (by kernel_rfl) (Asi _ k rf) (A0 (n:=0) (by kernel_rfl) Aw)
 have hp0:PxOk cx (U2 (HV [.bool]) k rf):=⟨fun t=>by rw [hP,hel];exact Au Al t,by rw [hgl];rfl⟩
 have hc0:Aj cx (U2 (HV [.bool]) k rf):=Ah rfl (Aa (Bm hp1 hc1 hq1 (by rw [hP];exact follows) (by rw [hP];exact Tryz.func47) rfl (by kernel_rfl) (by kernel_rfl) (n:=1) (by kernel_rfl) ((Cg Aw hlasame_0))) Ai)
 have hq0:CallQOk cx (U2 (HV [.bool]) k rf):=Ab rfl rfl Af Ae
 exact⟨hp0,hc0,hq0,Aw⟩
def U3(a b:Xpr):Bool:=Il a b
def Yf:FT [.sv .expr,.sv .expr] [.bool]:=fun x=>some (U3 x.1 x.2)
theorem Asd{R:Type}{rf:FT [.sv .expr,.sv .expr] [.bool]}{kx:Ex→Jl→Option R}{l m:List Xpr}{c:Bool→Option R}(hn:ln l.length) (hm:l.length=m.length) (hrf:∀x,x∈l→∀y,y∈m→rf (x,y)=some (Il x y))
  (h1:∀i,kx .ret (m,false,l,(l.length:Int),i)=c false) (h2:∀q i,kx (.exit 0) (m,q,l,(l.length:Int),i)=c true) (k:Nat) (hk:l.length<k):A5 (fun rec=>S7 rf rec kx) k (m,false,l,(l.length:Int),0)=c (xsames l m):=by
 refine(C4 l.length (fun i=>(m,false,l,(l.length:Int),(i:Int))) (fun i=>c (xsames (l.drop i) (m.drop i))) (fun i hi rec hr =>?_) (fun rec =>?_) k 0 (Nat.zero_le _) (by omega)).trans (by rw [Zq1,Zq1])
 ·have hi2:i<m.length:=by omega
  simp only [S7,H1 hi,Am,Bp hi,Bp hi2,chk,Bq (c :=.expr) hi,Bq (c :=.expr) hi2,hrf _ (List.getElem_mem hi) _ (List.getElem_mem hi2),Zc1,Bg hi hn,hr,h1,A9 hi,A9 hi2,xsames]
  cases Il l[i] m[i]<;>rfl
 ·simp only [S7,H0,An,h2]
  rw [Zk1 (Zn1 _),Zk1 (by omega)]
  rfl
theorem Akp(k:Nat):∀(n:Nat) (a b:Xpr),BdExpr a→BdExpr b→Bt a≤n→Bt a≤k→A5 (G0 k) n (a,b)=some (Il a b)
 |0,a,b,_,_,h,_=>by have:=Ej a;omega
 |n+1,a,b,ha,hb,h,hk=>by
  obtain⟨hb4,hb5⟩:=Ae3 ha
  obtain⟨hc4,hc5⟩:=Ae3 hb
  rw [Kv] at h hk
  have hl:=Mt a.l
  have hrf:∀x,x∈a.l→∀y,y∈b.l→A5 (G0 k) n (x,y)=some (Il x y):=fun x hx y hy=>Akp k n x y (hb5 x hx) (hc5 y hy) (by have:=Dn hx;omega) (by have:=Dn hx;omega)
  rw [Bu,Ar8]
  simp only [G0]
  by_cases hlen:a.l.length=b.l.length
  ·have hloop:=Asd (R:=Bool) (rf:=A5 (G0 k) n) (l:=a.l) (m:=b.l) (c:=some) (kx:=fun e v=>match v with
    |(_,v6,_,_,_)=>match e with
     |.ret=>some v6
     |.exit 0=>some true
     |_=>none) hb4 hlen hrf (fun _=>rfl) (fun _ _=>rfl) k (by omega)
   rw [hloop,Ze1 (show(a.l.length:Int)=(b.l.length:Int) by omega)]
   cases decide (a.kind=b.kind)<;>cases decide (a.v=b.v)<;>cases decide (a.name=b.name)<;>cases xsames a.l b.l<;>rfl
  ·have hno:xsames a.l b.l=false:=by
    cases hs:xsames a.l b.l with
    |false=>rfl
    |true=>exact absurd (Agu hs) hlen
   rw [hno,Zd1 (show ¬(a.l.length:Int)=(b.l.length:Int) by omega)]
   cases decide (a.kind=b.kind)<;>cases decide (a.v=b.v)<;>cases decide (a.name=b.name)<;>rfl
theorem Xe:FnOk Tryz.prog elT glT 20 [.sv .expr,.sv .expr] [.bool] Yf:=by
 refine .fin (ι:=Nat) 0 (F:=fun n=>A5 (G0 n) n) (fun n=>FnOk.rec' (Sx.enters_of Tryz.func20 rfl rfl) (fun rf hrf=>Az2 n rf hrf) n) fun(a,b) r hb hx=>⟨Bt a,?_⟩
 exact(Akp (Bt a) (Bt a) a b hb.1 hb.2 (Zn1 _) (Zn1 _)).trans hx
def Aaa:Sig:=⟨53,[(4,.bool),(5,.int .i64)],[(2,.ptr 0 0),(3,.ptr 1 0)],[(0,.one (.sv .expr)),(1,.one (.sv .expr))],2,0,0,[],[]⟩
abbrev Ji:=Bool×Int×Xpr×Xpr
def Tc{R:Type}(rf:FT [.sv .expr,.sv .expr] [.bool]) (rec:Ji→Option R) (kx:Ex→Ji→Option R) (v:Ji):Option R:=match v with
 |(v,v1,w,w1) =>
 cond (decide (v1<(w.l.length:Int))) (
  chk (inb v1 w.l.length) (
  chk (inb v1 w1.l.length) (
   (rf ((at' .expr w.l v1),(at' .expr w1.l v1))).bind fun x =>
   cond (!x) (
    kx .ret (false,v1,w,w1)) (
    rec (v,(wr .i64 (v1+1)),w,w1))))) (
  kx (.exit 0) (v,v1,w,w1))
def M9(R:Type) (k:Nat) (rf:FT [.sv .expr,.sv .expr] [.bool]):Px R:=⟨A7 ttL,glT,Aq [(21,As [.sv .expr,.sv .expr] [.bool] rf)],Ak [],Av [(4,Bc k Aaa (Tc rf))],tbl []⟩
theorem As4(R:Type) (k:Nat) (rf:FT [.sv .expr,.sv .expr] [.bool]):∀(fr:List Fr) (rec:Ji→Option R) (kx:Ex→Ji→Option R) (v:Ji),Bn (M9 R k rf) Aaa (lp Tryz.f21 0) fr rec kx v=Tc rf rec kx v
 |fr,rec,kx,(v,v1,w,w1)=>by kernel_rfl
def Hf(k:Nat) (rf:FT [.sv .expr,.sv .expr] [.bool]) (x:HV [.sv .expr,.sv .expr]):Option (HV [.bool]):=match x with
 |(a,b) =>
 let j:=fun(p:Bool) =>
  cond (p) (
  some false) (
  cond (!decide (a.name=b.name)) (
   some false) (
   cond (!decide ((a.l.length:Int)=(b.l.length:Int))) (
   some false) (
   A5 (fun rec=>Tc rf rec (fun e vz=>match vz with|(v2,_,_,_)=>match e with
    |.ret =>
    some v2
    |.exit 0 =>
    some true
    |_=>none)) k (false,0,a,b))))
 cond (!decide (a.kind=b.kind)) (
  j true) (
  j (!decide (a.v=b.v)))
theorem A5j(k:Nat) (rf:FT [.sv .expr,.sv .expr] [.bool]):∀(x:HV [.sv .expr,.sv .expr]),Ci (M9 _ k rf) Tryz.f21 [.sv .expr,.sv .expr] [.bool] x some=Hf k rf x
 |(a,b)=>by kernel_rfl
theorem Ay7(k:Nat) (rf:FT [.sv .expr,.sv .expr] [.bool]) (hrf:FnOk Tryz.prog elT glT 21 [.sv .expr,.sv .expr] [.bool] rf):FnOk Tryz.prog elT glT 21 [.sv .expr,.sv .expr] [.bool] (Hf k rf):=by
 refine A1 Tryz.func21 rfl (by kernel_rfl) follows (by kernel_rfl) (n:=1) (by kernel_rfl) (px:=M9 _ k rf) (fun cx hP hel hgl =>?_) (A5j k rf)
 have hp0:PxOk cx (M9 (HV [.bool]) k rf):=⟨fun t=>by rw [hP,hel];exact Au Al t,by rw [hgl];rfl⟩
 have hc0:Aj cx (M9 (HV [.bool]) k rf):=Ah rfl (Aa (A4 (by rw [hP,hel,hgl];exact hrf) (by kernel_rfl)) Ai)
 have hq0:CallQOk cx (M9 (HV [.bool]) k rf):=Ab rfl rfl Af Ae
 have hlrsame_0:A6 cx (M9 (HV [.bool]) k rf) (lp Tryz.f21 0):=A8 hp0 hc0 hq0 (by rw [hP];exact follows) (k:=k) (s:=Aaa) (step:=Tc rf) (fun _ _=>by kernel_rfl) (by kernel_rfl) (As4 _ k rf) (A0 (n:=0) (by kernel_rfl) Aw)
 exact⟨hp0,hc0,hq0,(Cg Aw hlrsame_0)⟩
def Ayb(a b:Xpr):Bool:=Il a b
def Ax5:FT [.sv .expr,.sv .expr] [.bool]:=fun x=>some (Ayb x.1 x.2)
theorem Av0{R:Type}{rf:FT [.sv .expr,.sv .expr] [.bool]}{kx:Ex→Ji→Option R}{a b:Xpr}{c:Bool→Option R}(hn:ln a.l.length) (hm:a.l.length=b.l.length) (hrf:∀x,x∈a.l→∀y,y∈b.l→rf (x,y)=some (Il x y))
  (h1:∀i,kx .ret (false,i,a,b)=c false) (h2:∀q i,kx (.exit 0) (q,i,a,b)=c true) (k:Nat) (hk:a.l.length<k):A5 (fun rec=>Tc rf rec kx) k (false,0,a,b)=c (xsames a.l b.l):=by
 refine(C4 a.l.length (fun i=>(false,(i:Int),a,b)) (fun i=>c (xsames (a.l.drop i) (b.l.drop i))) (fun i hi rec hr =>?_) (fun rec =>?_) k 0 (Nat.zero_le _) (by omega)).trans (by rw [Zq1,Zq1])
 ·have hi2:i<b.l.length:=by omega
  simp only [Tc,H1 hi,Am,Bp hi,Bp hi2,chk,Bq (c :=.expr) hi,Bq (c :=.expr) hi2,hrf _ (List.getElem_mem hi) _ (List.getElem_mem hi2),Zc1,Bg hi hn,hr,h1,A9 hi,A9 hi2,xsames]
  cases Il a.l[i] b.l[i]<;>rfl
 ·simp only [Tc,H0,An,h2]
  rw [Zk1 (Zn1 _),Zk1 (by omega)]
  rfl
theorem Akm(k:Nat):∀(n:Nat) (a b:Xpr),BdExpr a→BdExpr b→Bt a≤n→Bt a≤k→A5 (Hf k) n (a,b)=some (Il a b)
 |0,a,b,_,_,h,_=>by have:=Ej a;omega
 |n+1,a,b,ha,hb,h,hk=>by
  obtain⟨hb4,hb5⟩:=Ae3 ha
  obtain⟨hc4,hc5⟩:=Ae3 hb
  rw [Kv] at h hk
  have hl:=Mt a.l
  have hrf:∀x,x∈a.l→∀y,y∈b.l→A5 (Hf k) n (x,y)=some (Il x y):=fun x hx y hy=>Akm k n x y (hb5 x hx) (hc5 y hy) (by have:=Dn hx;omega) (by have:=Dn hx;omega)
  rw [Bu,Ar8]
  simp only [Hf]
  by_cases hlen:a.l.length=b.l.length
  ·have hloop:=Av0 (R:=Bool) (rf:=A5 (Hf k) n) (a:=a) (b:=b) (c:=some) (kx:=fun e v=>match v with
    |(v2,_,_,_)=>match e with
     |.ret=>some v2
     |.exit 0=>some true
     |_=>none) hb4 hlen hrf (fun _=>rfl) (fun _ _=>rfl) k (by omega)
   rw [hloop,Ze1 (show(a.l.length:Int)=(b.l.length:Int) by omega)]
   cases decide (a.kind=b.kind)<;>cases decide (a.v=b.v)<;>cases decide (a.name=b.name)<;>cases xsames a.l b.l<;>rfl
  ·have hno:xsames a.l b.l=false:=by
    cases hs:xsames a.l b.l with
    |false=>rfl
    |true=>exact absurd (Agu hs) hlen
   rw [hno,Zd1 (show ¬(a.l.length:Int)=(b.l.length:Int) by omega)]
   cases decide (a.kind=b.kind)<;>cases decide (a.v=b.v)<;>cases decide (a.name=b.name)<;>rfl
theorem A3z:FnOk Tryz.prog elT glT 21 [.sv .expr,.sv .expr] [.bool] Ax5:=by
 refine .fin (ι:=Nat) 0 (F:=fun n=>A5 (Hf n) n) (fun n=>FnOk.rec' (Sx.enters_of Tryz.func21 rfl rfl) (fun rf hrf=>Ay7 n rf hrf) n) fun(a,b) r hb hx=>⟨Bt a,?_⟩
 exact(Akm (Bt a) (Bt a) a b hb.1 hb.2 (Zn1 _) (Zn1 _)).trans hx
end Go.Proofs.YthndhaolemgbdaaGreatDoor
namespace Go.Proofs.YthndhaolemgbdaaGreatDoor
open Go.Ax
def Ad1:Sig:=⟨19,[(0,.sl .str false),(1,.str),(4,.int .i64),(7,.int .i64),(8,.int .i64)],[],[],0,0,0,[],[]⟩
abbrev Mj:=List Str×Str×Int×Int×Int
def Aac{R:Type}(rec:Mj→Option R) (kx:Ex→Mj→Option R) (v:Mj):Option R:=match v with
 |(v,v1,v2,v3,v4) =>
 cond (decide (v4<v3)) (
  chk (inb v4 v.length) (
  cond (decide (v1=(at' .str v v4))) (
   kx .ret (v,v1,v4,v3,v4)) (
   rec (v,v1,v2,v3,(wr .i64 (v4+1)))))) (
  kx (.exit 0) (v,v1,v2,v3,v4))
def T9(R:Type) (k:Nat):Px R:=⟨A7 ttL,glT,Aq [],Ak [],Av [(2,Bc k Ad1 (Aac))],tbl []⟩
theorem A1r(R:Type) (k:Nat):∀(fr:List Fr) (rec:Mj→Option R) (kx:Ex→Mj→Option R) (v:Mj),Bn (T9 R k) Ad1 (lp Tryz.f100 0) fr rec kx v=Aac rec kx v
 |fr,rec,kx,(v,v1,v2,v3,v4)=>by kernel_rfl
def Adc(k:Nat) (x:HV [.sl .str false,.str]):Option (HV [.int .i64]):=match x with
 |(l,s) =>
 A5 (fun rec=>Aac rec (fun e vz=>match vz with|(_,_,v7,_,_)=>match e with
  |.ret =>
  some v7
  |.exit 0 =>
  some (-1)
  |_=>none)) k (l,s,0,(l.length:Int),0)
theorem Bcd(k:Nat):∀(x:HV [.sl .str false,.str]),Ci (T9 _ k) Tryz.f100 [.sl .str false,.str] [.int .i64] x some=Adc k x
 |(l,s)=>by kernel_rfl
theorem A4z(k:Nat):FnOk Tryz.prog elT glT 100 [.sl .str false,.str] [.int .i64] (Adc k):=by
 refine A1 Tryz.func100 rfl (by kernel_rfl) follows (by kernel_rfl) (n:=1) (by kernel_rfl) (px:=T9 _ k) (fun cx hP hel hgl =>?_) (Bcd k)
 have hp0:PxOk cx (T9 (HV [.int .i64]) k):=⟨fun t=>by rw [hP,hel];exact Au Al t,by rw [hgl];rfl⟩
 have hc0:Aj cx (T9 (HV [.int .i64]) k):=Ah rfl Ai
 have hq0:CallQOk cx (T9 (HV [.int .i64]) k):=Ab rfl rfl Af Ae
 have hlsidx_0:A6 cx (T9 (HV [.int .i64]) k) (lp Tryz.f100 0):=A8 hp0 hc0 hq0 (by rw [hP];exact follows) (k:=k) (s:=Ad1) (step:=Aac) (fun _ _=>by kernel_rfl) (by kernel_rfl) (A1r _ k) (A0 (n:=0) (by kernel_rfl) Aw)
 exact⟨hp0,hc0,hq0,(Cg Aw hlsidx_0)⟩
def Bfh(l:List Str) (s:Str):Int:=Lp.idx s l 0
def At2:FT [.sl .str false,.str] [.int .i64]:=fun x=>some (Bfh x.1 x.2)
theorem Akw{R:Type}{kx:Ex→Mj→Option R}{l:List Str}{s:Str}{c:Int→Option R}(hl:ln l.length) (h1:∀(r:Int) (i:Int),kx .ret (l,s,r,(l.length:Int),i)=c r) (h2:∀q:Int,kx (.exit 0) (l,s,q,(l.length:Int),(l.length:Int))=c (-1)) :
  ∀(k i:Nat) (q:Int),i≤l.length→l.length-i<k→A5 (fun rec=>Aac rec kx) k (l,s,q,(l.length:Int),(i:Int))=c (Lp.idx s (l.drop i) i)
 |0,i,_,_,h=>absurd h (Zm1 _)
 |k+1,i,q,hi,h=>by
  rw [Bu]
  by_cases hlt:i<l.length
  ·have ih:=Akw hl h1 h2 k (i+1) q (by omega) (by omega)
   have e1:decide ((i:Int)<(l.length:Int))=true:=Ze1 (by omega)
   have en:((i+1:Nat):Int)=(i:Int)+1:=by omega
   simp only [Aac,e1,Am,Bp hlt,chk,Bq (c :=.str) hlt,Bg hlt hl,ih,h1]
   rw [A9 hlt,Lp.idx,en]
   by_cases hx:s=l[i]
   ·rw [Ze1 hx,if_pos hx,Am]
   ·rw [Zd1 hx,if_neg hx,An]
  ·have hi:i=l.length:=by omega
   subst hi
   simp only [Aac,Zd1 (show ¬((l.length:Nat):Int)<(l.length:Int) by omega),An,h2,Zc2,Lp.idx]
theorem Bbh:FnOk Tryz.prog elT glT 100 [.sl .str false,.str] [.int .i64] At2 :=.fin 0 A4z fun(l,s) r hb hx=>⟨l.length+1,by
 simp only [At2,Za1] at hx
 rw [←hx]
 simp only [Adc]
 exact Akw (c:=fun q=>some q) hb.1.1 (fun _ _=>rfl) (fun _=>rfl) (l.length+1) 0 0 (Nat.zero_le _) (by omega)⟩
def Abi(R:Type):Px R:=⟨A7 ttL,glT,Aq [(100,As [.sl .str false,.str] [.int .i64] At2)],Ak [],Av [],tbl []⟩
def Yr(x:HV [.sl .str false,.str]):Option (HV [.bool]):=match x with
 |(l,s) =>
 some (decide (0≤(Bfh l s)))
theorem Bce:∀(x:HV [.sl .str false,.str]),Ci (Abi _) Tryz.f44 [.sl .str false,.str] [.bool] x some=Yr x
 |(l,s)=>by kernel_rfl
theorem A68:FnOk Tryz.prog elT glT 44 [.sl .str false,.str] [.bool] (Yr):=by
 refine A1 Tryz.func44 rfl (by kernel_rfl) follows (by kernel_rfl) (n:=0) (by kernel_rfl) (px:=Abi _) (fun cx hP hel hgl =>?_) (Bce)
 have hp0:PxOk cx (Abi (HV [.bool])):=⟨fun t=>by rw [hP,hel];exact Au Al t,by rw [hgl];rfl⟩
 have hc0:Aj cx (Abi (HV [.bool])):=Ah rfl (Aa (A4 (by rw [hP,hel,hgl];exact Bbh) (by kernel_rfl)) Ai)
 have hq0:CallQOk cx (Abi (HV [.bool])):=Ab rfl rfl Af Ae
 exact⟨hp0,hc0,hq0,Aw⟩
def Aqt(l:List Str) (s:Str):Bool :=
 (decide (0≤(Bfh l s)))
theorem A8r(x:HV [.sl .str false,.str]):Yr x=some (Aqt x.1 x.2):=by
 first
  |exact rfl
  |simp only [Yr,Aqt,B2]
def Au3:FT [.sl .str false,.str] [.bool]:=fun x=>some (Aqt x.1 x.2)
theorem Aw1:FnOk Tryz.prog elT glT 44 [.sl .str false,.str] [.bool] Au3 :=.fin0 A68 fun x _ _ hx=>(A8r x).trans hx
theorem Aw4(l:List Str) (s:Str):Aqt l s=l.contains s:=by
 have e:Aqt l s=decide (0≤Lp.idx s l 0):=rfl
 rw [e,Bool.eq_iff_iff,Zg1,Lp.idx_ge s l 0 (Int.le_refl 0)]
 simp
end Go.Proofs.YthndhaolemgbdaaGreatDoor
namespace Go.Proofs.YthndhaolemgbdaaGreatDoor
open Go.Ax
end Go.Proofs.YthndhaolemgbdaaGreatDoor
namespace Go.Proofs.YthndhaolemgbdaaGreatDoor
open Go.Ax
theorem Ag9(k:Int):(Kk k=0∧(k=1∨k=2))∨(Kk k=1∧(k=3∨k=15∨k=16))∨(Kk k=2∧4≤k∧k≤14)∨Kk k = -1:=by
 by_cases h1:k=1
 ·subst h1;left;decide
 by_cases h2:k=2
 ·subst h2;left;decide
 by_cases h3:k=3
 ·subst h3;right;left;decide
 by_cases h15:k=15
 ·subst h15;right;left;decide
 by_cases h16:k=16
 ·subst h16;right;left;decide
 right;right
 by_cases h : 4≤k∧k≤14
 ·left
  refine⟨?_,h⟩
  have:k=4∨k=5∨k=6∨k=7∨k=8∨k=9∨k=10∨k=11∨k=12∨k=13∨k=14:=by omega
  rcases this with rfl|rfl|rfl|rfl|rfl|rfl|rfl|rfl|rfl|rfl|rfl<;>decide
 ·right
  have hm:Tt signsL k=[]:=by
   simp only [signsL,Tt]
   rw [Zd1 (by omega),Zd1 (by omega),Zd1 (by omega),Zd1 (by omega),Zd1 (by omega),Zd1 (by omega),Zd1 (by omega),Zd1 (by omega),Zd1 (by omega),Zd1 (by omega),Zd1 (by omega)]
  simp [Kk,hm,h1,h2,h3,h15,h16]
theorem F2{e:Xpr}{m:Int}(h:Bo e m=true):(e.l.length:Int)=Kk e.kind∧eok e.kind e.v e.name=true∧erights e.l (wr .i64 (m-1))=true:=by
 rw [Ale] at h
 simp only [Zb1,Zg1] at h
 exact⟨h.1.1.2,h.1.2,h.2⟩
end Go.Proofs.YthndhaolemgbdaaGreatDoor
namespace Go.Proofs.YthndhaolemgbdaaGreatDoor
open Go.Ax
def Aen:Sig:=⟨26,[(0,.sl .col false),(1,.sl .col false),(4,.bool),(12,.int .i64),(13,.int .i64)],[],[],0,0,0,[],[]⟩
abbrev Mi:=List Col×List Col×Bool×Int×Int
def Z6{R:Type}(rec:Mi→Option R) (kx:Ex→Mi→Option R) (v:Mi):Option R:=match v with
 |(v,v1,v2,v3,v4) =>
 cond (decide (v4<v3)) (
  chk (inb v4 v.length) (
  chk (inb v4 v1.length) (
   cond (!decide ((at' .col v v4)=(at' .col v1 v4))) (
   kx .ret (v,v1,false,v3,v4)) (
   rec (v,v1,v2,v3,(wr .i64 (v4+1))))))) (
  kx (.exit 0) (v,v1,v2,v3,v4))
def R7(R:Type) (k:Nat):Px R:=⟨A7 ttL,glT,Aq [],Ak [],Av [(4,Bc k Aen (Z6))],tbl []⟩
theorem A22(R:Type) (k:Nat):∀(fr:List Fr) (rec:Mi→Option R) (kx:Ex→Mi→Option R) (v:Mi),Bn (R7 R k) Aen (lp Tryz.f75 0) fr rec kx v=Z6 rec kx v
 |fr,rec,kx,(v,v1,v2,v3,v4)=>by kernel_rfl
def Adf(k:Nat) (x:HV [.sl .col false,.sl .col false]):Option (HV [.bool]):=match x with
 |(a,b) =>
 cond (!decide ((a.length:Int)=(b.length:Int))) (
  some false) (
  A5 (fun rec=>Z6 rec (fun e vz=>match vz with|(_,_,v7,_,_)=>match e with
  |.ret =>
   some v7
  |.exit 0 =>
   some true
  |_=>none)) k (a,b,false,(a.length:Int),0))
theorem Bbp(k:Nat):∀(x:HV [.sl .col false,.sl .col false]),Ci (R7 _ k) Tryz.f75 [.sl .col false,.sl .col false] [.bool] x some=Adf k x
 |(a,b)=>by kernel_rfl
theorem A4t(k:Nat):FnOk Tryz.prog elT glT 75 [.sl .col false,.sl .col false] [.bool] (Adf k):=by
 refine A1 Tryz.func75 rfl (by kernel_rfl) follows (by kernel_rfl) (n:=1) (by kernel_rfl) (px:=R7 _ k) (fun cx hP hel hgl =>?_) (Bbp k)
 have hp0:PxOk cx (R7 (HV [.bool]) k):=⟨fun t=>by rw [hP,hel];exact Au Al t,by rw [hgl];rfl⟩
 have hc0:Aj cx (R7 (HV [.bool]) k):=Ah rfl Ai
 have hq0:CallQOk cx (R7 (HV [.bool]) k):=Ab rfl rfl Af Ae
 have hlaeqc_0:A6 cx (R7 (HV [.bool]) k) (lp Tryz.f75 0):=A8 hp0 hc0 hq0 (by rw [hP];exact follows) (k:=k) (s:=Aen) (step:=Z6) (fun _ _=>by kernel_rfl) (by kernel_rfl) (A22 _ k) (A0 (n:=0) (by kernel_rfl) Aw)
 exact⟨hp0,hc0,hq0,(Cg Aw hlaeqc_0)⟩
def A9u(a b:List Col):Bool:=decide (a=b)
def Auj:FT [.sl .col false,.sl .col false] [.bool]:=fun x=>some (A9u x.1 x.2)
theorem A0x{R:Type}{kx:Ex→Mi→Option R}{a b:List Col}{c:Bool→Option R}(hn:ln a.length) (he:a.length=b.length) (h1:∀i,kx .ret (a,b,false,(a.length:Int),i)=c false) (h2:∀q i,kx (.exit 0) (a,b,q,(a.length:Int),i)=c true) (k:Nat) (hk:a.length<k) :
  A5 (fun rec=>Z6 rec kx) k (a,b,false,(a.length:Int),0)=c (decide (a=b)):=by
 refine(C4 a.length (fun i=>(a,b,false,(a.length:Int),(i:Int))) (fun i=>c (decide (a.drop i=b.drop i))) (fun i hi rec hr =>?_) (fun rec =>?_) k 0 (Nat.zero_le _) (by omega)).trans (by rw [Zq1,Zq1])
 ·have hi2:i<b.length:=by omega
  simp only [Z6,H1 hi,Am,Bp hi,Bp hi2,chk,Bq (c :=.col) hi,Bq (c :=.col) hi2,Bg hi hn,hr,h1,A9 hi,A9 hi2,Ze2]
  by_cases hx:a[i]=b[i]
  ·rw [Ze1 hx]
   simp [hx]
  ·rw [Zd1 hx]
   simp [hx]
 ·simp only [Z6,H0,An,h2]
  rw [Zk1 (Zn1 _),Zk1 (by omega)]
  rfl
theorem Ba3:FnOk Tryz.prog elT glT 75 [.sl .col false,.sl .col false] [.bool] Auj :=.fin 0 A4t fun(a,b) r hb hx=>⟨a.length+1,by
 simp only [Auj,Za1] at hx
 rw [←hx]
 simp only [Adf,A9u]
 by_cases he:a.length=b.length
 ·rw [Ze1 (show(a.length:Int)=(b.length:Int) by omega),Zt1,An]
  exact A0x (c:=some) hb.1.1 he (fun _=>rfl) (fun _ _=>rfl) (a.length+1) (by omega)
 ·rw [Zd1 (show ¬(a.length:Int)=(b.length:Int) by omega),Zd1 (fun h=>he (by rw [h]))]
  rfl⟩
def Ad3:Sig:=⟨26,[(0,.sl .str false),(1,.sl .str false),(4,.bool),(12,.int .i64),(13,.int .i64)],[],[],0,0,0,[],[]⟩
abbrev Mk:=List Str×List Str×Bool×Int×Int
def Zq{R:Type}(rec:Mk→Option R) (kx:Ex→Mk→Option R) (v:Mk):Option R:=match v with
 |(v,v1,v2,v3,v4) =>
 cond (decide (v4<v3)) (
  chk (inb v4 v.length) (
  chk (inb v4 v1.length) (
   cond (!decide ((at' .str v v4)=(at' .str v1 v4))) (
   kx .ret (v,v1,false,v3,v4)) (
   rec (v,v1,v2,v3,(wr .i64 (v4+1))))))) (
  kx (.exit 0) (v,v1,v2,v3,v4))
def Uj(R:Type) (k:Nat):Px R:=⟨A7 ttL,glT,Aq [],Ak [],Av [(4,Bc k Ad3 (Zq))],tbl []⟩
theorem A0h(R:Type) (k:Nat):∀(fr:List Fr) (rec:Mk→Option R) (kx:Ex→Mk→Option R) (v:Mk),Bn (Uj R k) Ad3 (lp Tryz.f76 0) fr rec kx v=Zq rec kx v
 |fr,rec,kx,(v,v1,v2,v3,v4)=>by kernel_rfl
def Aeg(k:Nat) (x:HV [.sl .str false,.sl .str false]):Option (HV [.bool]):=match x with
 |(a,b) =>
 cond (!decide ((a.length:Int)=(b.length:Int))) (
  some false) (
  A5 (fun rec=>Zq rec (fun e vz=>match vz with|(_,_,v7,_,_)=>match e with
  |.ret =>
   some v7
  |.exit 0 =>
   some true
  |_=>none)) k (a,b,false,(a.length:Int),0))
theorem Bcs(k:Nat):∀(x:HV [.sl .str false,.sl .str false]),Ci (Uj _ k) Tryz.f76 [.sl .str false,.sl .str false] [.bool] x some=Aeg k x
 |(a,b)=>by kernel_rfl
theorem A8s(k:Nat):FnOk Tryz.prog elT glT 76 [.sl .str false,.sl .str false] [.bool] (Aeg k):=by
 refine A1 Tryz.func76 rfl (by kernel_rfl) follows (by kernel_rfl) (n:=1) (by kernel_rfl) (px:=Uj _ k) (fun cx hP hel hgl =>?_) (Bcs k)
 have hp0:PxOk cx (Uj (HV [.bool]) k):=⟨fun t=>by rw [hP,hel];exact Au Al t,by rw [hgl];rfl⟩
 have hc0:Aj cx (Uj (HV [.bool]) k):=Ah rfl Ai
 have hq0:CallQOk cx (Uj (HV [.bool]) k):=Ab rfl rfl Af Ae
 have hlaeqs_0:A6 cx (Uj (HV [.bool]) k) (lp Tryz.f76 0):=A8 hp0 hc0 hq0 (by rw [hP];exact follows) (k:=k) (s:=Ad3) (step:=Zq) (fun _ _=>by kernel_rfl) (by kernel_rfl) (A0h _ k) (A0 (n:=0) (by kernel_rfl) Aw)
 exact⟨hp0,hc0,hq0,(Cg Aw hlaeqs_0)⟩
def A8a(a b:List Str):Bool:=decide (a=b)
def Auq:FT [.sl .str false,.sl .str false] [.bool]:=fun x=>some (A8a x.1 x.2)
theorem Ayz{R:Type}{kx:Ex→Mk→Option R}{a b:List Str}{c:Bool→Option R}(hn:ln a.length) (he:a.length=b.length) (h1:∀i,kx .ret (a,b,false,(a.length:Int),i)=c false) (h2:∀q i,kx (.exit 0) (a,b,q,(a.length:Int),i)=c true) (k:Nat) (hk:a.length<k) :
  A5 (fun rec=>Zq rec kx) k (a,b,false,(a.length:Int),0)=c (decide (a=b)):=by
 refine(C4 a.length (fun i=>(a,b,false,(a.length:Int),(i:Int))) (fun i=>c (decide (a.drop i=b.drop i))) (fun i hi rec hr =>?_) (fun rec =>?_) k 0 (Nat.zero_le _) (by omega)).trans (by rw [Zq1,Zq1])
 ·have hi2:i<b.length:=by omega
  simp only [Zq,H1 hi,Am,Bp hi,Bp hi2,chk,Bq (c :=.str) hi,Bq (c :=.str) hi2,Bg hi hn,hr,h1,A9 hi,A9 hi2,Ze2]
  by_cases hx:a[i]=b[i]
  ·rw [Ze1 hx]
   simp [hx]
  ·rw [Zd1 hx]
   simp [hx]
 ·simp only [Zq,H0,An,h2]
  rw [Zk1 (Zn1 _),Zk1 (by omega)]
  rfl
theorem Bbt:FnOk Tryz.prog elT glT 76 [.sl .str false,.sl .str false] [.bool] Auq :=.fin 0 A8s fun(a,b) r hb hx=>⟨a.length+1,by
 simp only [Auq,Za1] at hx
 rw [←hx]
 simp only [Aeg,A8a]
 by_cases he:a.length=b.length
 ·rw [Ze1 (show(a.length:Int)=(b.length:Int) by omega),Zt1,An]
  exact Ayz (c:=some) hb.1.1 he (fun _=>rfl) (fun _ _=>rfl) (a.length+1) (by omega)
 ·rw [Zd1 (show ¬(a.length:Int)=(b.length:Int) by omega),Zd1 (fun h=>he (by rw [h]))]
  rfl⟩
def Adz:Sig:=⟨26,[(0,.sl .bool false),(1,.sl .bool false),(4,.bool),(12,.int .i64),(13,.int .i64)],[],[],0,0,0,[],[]⟩
abbrev Ny:=List Bool×List Bool×Bool×Int×Int
def Aav{R:Type}(rec:Ny→Option R) (kx:Ex→Ny→Option R) (v:Ny):Option R:=match v with
 |(v,v1,v2,v3,v4) =>
 cond (decide (v4<v3)) (
  chk (inb v4 v.length) (
  chk (inb v4 v1.length) (
   cond (!decide ((at' .bool v v4)=(at' .bool v1 v4))) (
   kx .ret (v,v1,false,v3,v4)) (
   rec (v,v1,v2,v3,(wr .i64 (v4+1))))))) (
  kx (.exit 0) (v,v1,v2,v3,v4))
def Tf(R:Type) (k:Nat):Px R:=⟨A7 ttL,glT,Aq [],Ak [],Av [(4,Bc k Adz (Aav))],tbl []⟩
theorem Azt(R:Type) (k:Nat):∀(fr:List Fr) (rec:Ny→Option R) (kx:Ex→Ny→Option R) (v:Ny),Bn (Tf R k) Adz (lp Tryz.f77 0) fr rec kx v=Aav rec kx v
 |fr,rec,kx,(v,v1,v2,v3,v4)=>by kernel_rfl
def Adk(k:Nat) (x:HV [.sl .bool false,.sl .bool false]):Option (HV [.bool]):=match x with
 |(a,b) =>
 cond (!decide ((a.length:Int)=(b.length:Int))) (
  some false) (
  A5 (fun rec=>Aav rec (fun e vz=>match vz with|(_,_,v7,_,_)=>match e with
  |.ret =>
   some v7
  |.exit 0 =>
   some true
  |_=>none)) k (a,b,false,(a.length:Int),0))
theorem Bal(k:Nat):∀(x:HV [.sl .bool false,.sl .bool false]),Ci (Tf _ k) Tryz.f77 [.sl .bool false,.sl .bool false] [.bool] x some=Adk k x
 |(a,b)=>by kernel_rfl
theorem A6n(k:Nat):FnOk Tryz.prog elT glT 77 [.sl .bool false,.sl .bool false] [.bool] (Adk k):=by
 refine A1 Tryz.func77 rfl (by kernel_rfl) follows (by kernel_rfl) (n:=1) (by kernel_rfl) (px:=Tf _ k) (fun cx hP hel hgl =>?_) (Bal k)
 have hp0:PxOk cx (Tf (HV [.bool]) k):=⟨fun t=>by rw [hP,hel];exact Au Al t,by rw [hgl];rfl⟩
 have hc0:Aj cx (Tf (HV [.bool]) k):=Ah rfl Ai
 have hq0:CallQOk cx (Tf (HV [.bool]) k):=Ab rfl rfl Af Ae
 have hlaeqb_0:A6 cx (Tf (HV [.bool]) k) (lp Tryz.f77 0):=A8 hp0 hc0 hq0 (by rw [hP];exact follows) (k:=k) (s:=Adz) (step:=Aav) (fun _ _=>by kernel_rfl) (by kernel_rfl) (Azt _ k) (A0 (n:=0) (by kernel_rfl) Aw)
 exact⟨hp0,hc0,hq0,(Cg Aw hlaeqb_0)⟩
def Bb1(a b:List Bool):Bool:=decide (a=b)
def Aud:FT [.sl .bool false,.sl .bool false] [.bool]:=fun x=>some (Bb1 x.1 x.2)
theorem A15{R:Type}{kx:Ex→Ny→Option R}{a b:List Bool}{c:Bool→Option R}(hn:ln a.length) (he:a.length=b.length) (h1:∀i,kx .ret (a,b,false,(a.length:Int),i)=c false) (h2:∀q i,kx (.exit 0) (a,b,q,(a.length:Int),i)=c true) (k:Nat) (hk:a.length<k) :
  A5 (fun rec=>Aav rec kx) k (a,b,false,(a.length:Int),0)=c (decide (a=b)):=by
 refine(C4 a.length (fun i=>(a,b,false,(a.length:Int),(i:Int))) (fun i=>c (decide (a.drop i=b.drop i))) (fun i hi rec hr =>?_) (fun rec =>?_) k 0 (Nat.zero_le _) (by omega)).trans (by rw [Zq1,Zq1])
 ·have hi2:i<b.length:=by omega
  simp only [Aav,H1 hi,Am,Bp hi,Bp hi2,chk,Bq (c :=.bool) hi,Bq (c :=.bool) hi2,Bg hi hn,hr,h1,A9 hi,A9 hi2,Ze2]
  by_cases hx:a[i]=b[i]
  ·rw [Ze1 hx]
   simp [hx]
  ·rw [Zd1 hx]
   simp [hx]
 ·simp only [Aav,H0,An,h2]
  rw [Zk1 (Zn1 _),Zk1 (by omega)]
  rfl
theorem Bcm:FnOk Tryz.prog elT glT 77 [.sl .bool false,.sl .bool false] [.bool] Aud :=.fin 0 A6n fun(a,b) r hb hx=>⟨a.length+1,by
 simp only [Aud,Za1] at hx
 rw [←hx]
 simp only [Adk,Bb1]
 by_cases he:a.length=b.length
 ·rw [Ze1 (show(a.length:Int)=(b.length:Int) by omega),Zt1,An]
  exact A15 (c:=some) hb.1.1 he (fun _=>rfl) (fun _ _=>rfl) (a.length+1) (by omega)
 ·rw [Zd1 (show ¬(a.length:Int)=(b.length:Int) by omega),Zd1 (fun h=>he (by rw [h]))]
  rfl⟩
instance:DecidableEq SetE:=fun a b=>decidable_of_iff (a.name=b.name∧a.e=b.e) (by
 cases a;cases b
 simp)
def Aoo(a b:SetE):Bool:=decide (a.name=b.name)&&Il a.e b.e
theorem Aqz(a b:SetE):Aoo a b=decide (a=b):=by
 cases a;cases b
 simp only [Aoo,Q4,SetE.mk.injEq,Bool.decide_and]
def Ait(a b:Stm):Bool:=decide (a.kind=b.kind)&&decide (a.name=b.name)&&decide (a.on=b.on)&&decide (a.has=b.has)&&decide (a.most=b.most)&&decide (a.whr=b.whr)&&(decide (a.cols=b.cols)&&decide (a.names=b.names)&&decide (a.order=b.order)&&decide (a.desc=b.desc)&&decide (a.l=b.l))&&decide (a.rows=b.rows)&&decide (a.sets=b.sets)
theorem Ak2(a b:Stm):Ait a b=true↔a=b:=by
 cases a;cases b
 simp only [Ait,Zb1,Zg1,Stm.mk.injEq]
 constructor
 ·rintro⟨⟨⟨⟨⟨⟨⟨⟨h1,h2⟩,h3⟩,h4⟩,h5⟩,h6⟩,⟨⟨⟨h7,h8⟩,h9⟩,h10⟩,h11⟩,h12⟩,h13⟩
  exact⟨h1,h2,h3,h7,h8,h11,h12,h13,h4,h6,h9,h10,h5⟩
 ·rintro⟨h1,h2,h3,h7,h8,h11,h12,h13,h4,h6,h9,h10,h5⟩
  exact⟨⟨⟨⟨⟨⟨⟨⟨h1,h2⟩,h3⟩,h4⟩,h5⟩,h6⟩,⟨⟨⟨h7,h8⟩,h9⟩,h10⟩,h11⟩,h12⟩,h13⟩
def Xi:Sig:=⟨32,[(1,.sl .set false),(6,.bool),(15,.sl .set false),(16,.int .i64),(17,.int .i64)],[(2,.fn 81 [])],[],40,40,600,[],[]⟩
abbrev Gn:=List SetE×Bool×List SetE×Int×Int
def Me{R:Type}(rec:Gn→Option R) (kx:Ex→Gn→Option R) (v:Gn):Option R:=match v with
 |(v36,v37,v38,v39,v40) =>
 cond (decide (v40<v39)) (
  chk (inb v40 v38.length) (
  chk (inb v40 v36.length) (
   cond (decide (((at' .set v38 v40).name)=((at' .set v36 v40).name))) (
   cond (!(U3 (Ut ((at' .set v38 v40).e)) (Ut ((at' .set v36 v40).e)))) (
    kx .ret (v36,false,v38,v39,v40)) (
    rec (v36,v37,v38,v39,(wr .i64 (v40+1))))) (
   kx .ret (v36,false,v38,v39,v40))))) (
  kx (.exit 0) (v36,v37,v38,v39,v40))
def Wq:Sig:=⟨32,[(1,.sl .expr false),(6,.bool),(15,.sl .expr false),(16,.int .i64),(17,.int .i64)],[(2,.fn 20 [])],[(0,.one (.sv .stmt)),(1,.one (.sv .stmt))],120,120,600,[],[]⟩
abbrev Hd:=List Xpr×Bool×List Xpr×Int×Int×Stm×Stm
def My{R:Type}(rec:Hd→Option R) (kx:Ex→Hd→Option R) (v:Hd):Option R:=match v with
 |(v17,v18,v19,v20,v21,w4,w5) =>
 cond (decide (v21<v20)) (
  chk (inb v21 v19.length) (
  chk (inb v21 v17.length) (
   cond (!(U3 (at' .expr v19 v21) (at' .expr v17 v21))) (
   kx .ret (v17,false,v19,v20,v21,w4,w5)) (
   rec (v17,v18,v19,v20,(wr .i64 (v21+1)),w4,w5))))) (
  kx (.exit 0) (v17,v18,v19,v20,v21,w4,w5))
def U4:Sig:=⟨32,[(1,.sl .exprs false),(6,.bool),(15,.sl .exprs false),(16,.int .i64),(17,.int .i64)],[(2,.fn 79 [])],[(0,.one (.sv .stmt)),(1,.one (.sv .stmt))],40,40,400,[],[]⟩
abbrev Gr:=List (List Xpr)×Bool×List (List Xpr)×Int×Int×Stm×Stm
def Mv{R:Type}(k:Nat) (rec:Gr→Option R) (kx:Ex→Gr→Option R) (v:Gr):Option R:=match v with
 |(v12,v13,v14,v15,v16,w2,w3) =>
 cond (decide (v16<v15)) (
  chk (inb v16 v14.length) (
  chk (inb v16 v12.length) (
   cond (!decide (((at' .exprs v14 v16).length:Int)=((at' .exprs v12 v16).length:Int))) (
   kx .ret (v12,false,v14,v15,v16,w2,w3)) (
   A5 (fun rc=>My rc (fun e vz=>match vz with|(_,v23,_,_,_,v27,v28)=>match e with
    |.ret =>
    cond (!v23) (
     kx .ret (v12,false,v14,v15,v16,v27,v28)) (
     rec (v12,v13,v14,v15,(wr .i64 (v16+1)),v27,v28))
    |.exit 0 =>
    rec (v12,v13,v14,v15,(wr .i64 (v16+1)),v27,v28)
    |_=>none)) k ((at' .exprs v12 v16),false,(at' .exprs v14 v16),((at' .exprs v14 v16).length:Int),0,w2,w3))))) (
  kx (.exit 0) (v12,v13,v14,v15,v16,w2,w3))
def Vs:Sig:=⟨32,[(1,.sl .expr false),(6,.bool),(15,.sl .expr false),(16,.int .i64),(17,.int .i64)],[(2,.fn 20 [])],[(0,.one (.sv .stmt)),(1,.one (.sv .stmt))],40,40,200,[],[]⟩
abbrev Hc:=List Xpr×Bool×List Xpr×Int×Int×Stm×Stm
def Ml{R:Type}(rec:Hc→Option R) (kx:Ex→Hc→Option R) (v:Hc):Option R:=match v with
 |(v,v1,v2,v3,v4,w,w1) =>
 cond (decide (v4<v3)) (
  chk (inb v4 v2.length) (
  chk (inb v4 v.length) (
   cond (!(U3 (at' .expr v2 v4) (at' .expr v v4))) (
   kx .ret (v,false,v2,v3,v4,w,w1)) (
   rec (v,v1,v2,v3,(wr .i64 (v4+1)),w,w1))))) (
  kx (.exit 0) (v,v1,v2,v3,v4,w,w1))
def Hy(R:Type) (k:Nat):Px R:=⟨A7 ttL,glT,Aq [(20,As [.sv .expr,.sv .expr] [.bool] Yf)],Ak [],Av [(4,Bc k Vs (Ml))],tbl []⟩
def Dz(R:Type) (k:Nat):Px R:=⟨A7 ttL,glT,Aq [(20,As [.sv .expr,.sv .expr] [.bool] Yf)],Ak [],Av [(4,Bc k Wq (My))],tbl []⟩
noncomputable def J4 (R:Type) (k:Nat):Px R:=⟨A7 ttL,glT,Aq [(47,Bb 120 600 (Dz R k) Tryz.f47)],Ak [],Av [],tbl []⟩
noncomputable def Hi (R:Type) (k:Nat):Px R:=⟨A7 ttL,glT,Aq [(79,Bb 80 600 (J4 R k) Tryz.f79)],Ak [],Av [(4,Bc k U4 (Mv k))],tbl []⟩
def J6(R:Type) (_k:Nat):Px R:=⟨A7 ttL,glT,Aq [(20,As [.sv .expr,.sv .expr] [.bool] Yf)],Ak [],Av [],tbl []⟩
noncomputable def Hw (R:Type) (k:Nat):Px R:=⟨A7 ttL,glT,Aq [(81,Bb 80 800 (J6 R k) Tryz.f81)],Ak [],Av [(4,Bc k Xi (Me))],tbl []⟩
noncomputable def Ro (R:Type) (k:Nat):Px R:=⟨A7 ttL,glT,Aq [(20,As [.sv .expr,.sv .expr] [.bool] Yf),(75,As [.sl .col false,.sl .col false] [.bool] Auj),(76,As [.sl .str false,.sl .str false] [.bool] Auq),(77,As [.sl .bool false,.sl .bool false] [.bool] Aud),(47,Bb 40 200 (Hy R k) Tryz.f47),(78,Bb 40 400 (Hi R k) Tryz.f78),(80,Bb 40 600 (Hw R k) Tryz.f80)],Ak [],Av [],tbl []⟩
theorem Aq2(R:Type) (k:Nat):∀(fr:List Fr) (rec:Hc→Option R) (kx:Ex→Hc→Option R) (v:Hc),Bn (Hy R k) Vs (lp Tryz.f47 0) fr rec kx v=Ml rec kx v
 |fr,rec,kx,(v,v1,v2,v3,v4,w,w1)=>by kernel_rfl
theorem Aqm(R:Type) (k:Nat):∀(fr:List Fr) (rec:Hd→Option R) (kx:Ex→Hd→Option R) (v:Hd),Bn (Dz R k) Wq (lp Tryz.f47 0) fr rec kx v=My rec kx v
 |fr,rec,kx,(v17,v18,v19,v20,v21,w4,w5)=>by kernel_rfl
theorem Ar7(R:Type) (k:Nat):∀(fr:List Fr) (rec:Gr→Option R) (kx:Ex→Gr→Option R) (v:Gr),Bn (Hi R k) U4 (lp Tryz.f78 0) fr rec kx v=Mv k rec kx v
 |fr,rec,kx,(v12,v13,v14,v15,v16,w2,w3)=>by kernel_rfl
theorem Aqi(R:Type) (k:Nat):∀(fr:List Fr) (rec:Gn→Option R) (kx:Ex→Gn→Option R) (v:Gn),Bn (Hw R k) Xi (lp Tryz.f80 0) fr rec kx v=Me rec kx v
 |fr,rec,kx,(v36,v37,v38,v39,v40)=>by kernel_rfl
def N1(k:Nat) (x:HV [.sv .stmt,.sv .stmt]):Option (HV [.bool]):=match x with
 |(a,b) =>
 let j9:=fun(p6:Bool) =>
  let j8:=fun(p13:Bool) (q6:Stm) (q7:Stm) =>
  let j7:=fun(p14:Bool) =>
   let j6:=fun(p23:Bool) (q24:Stm) (q25:Stm) =>
   cond (p23) (
    cond (!decide ((q24.sets.length:Int)=(q25.sets.length:Int))) (
    some false) (
    A5 (fun rec=>Me rec (fun e vz=>match vz with|(_,v42,_,_,_)=>match e with
     |.ret =>
     some v42
     |.exit 0 =>
     some true
     |_=>none)) k (q25.sets,false,q24.sets,(q24.sets.length:Int),0))) (
    some false)
   cond (p14) (
   cond (!decide ((q6.rows.length:Int)=(q7.rows.length:Int))) (
    j6 false q6 q7) (
    A5 (fun rec=>Mv k rec (fun e vz=>match vz with|(_,v30,_,_,_,v34,v35)=>match e with
    |.ret =>
     j6 v30 v34 v35
    |.exit 0 =>
     j6 true v34 v35
    |_=>none)) k (q7.rows,false,q6.rows,(q6.rows.length:Int),0,q6,q7))) (
   j6 false q6 q7)
  cond (p6) (
   j7 p13) (
   j7 false)
  let j5:=fun(p7:Bool) =>
  let j4:=fun(p8:Bool) =>
   let j3:=fun(p9:Bool) =>
   cond (p9) (
    cond (!decide ((a.l.length:Int)=(b.l.length:Int))) (
    j8 false a b) (
    A5 (fun rec=>Ml rec (fun e vz=>match vz with|(_,v6,_,_,_,v10,v11)=>match e with
     |.ret =>
     j8 v6 v10 v11
     |.exit 0 =>
     j8 true v10 v11
     |_=>none)) k (b.l,false,a.l,(a.l.length:Int),0,a,b))) (
    j8 false a b)
   cond (p8) (
   j3 (Bb1 a.desc b.desc)) (
   j3 false)
  cond (p7) (
   j4 (A8a a.order b.order)) (
   j4 false)
  cond ((A9u a.cols b.cols)) (
  j5 (A8a a.names b.names)) (
  j5 false)
 let j2:=fun(p:Bool) =>
  let j1:=fun(p1:Bool) =>
  let j:=fun(p2:Bool) =>
   cond (p2) (
   cond (decide (a.most=b.most)) (
    j9 (U3 (Ut a.whr) (Ut b.whr))) (
    j9 false)) (
   j9 false)
  cond (p1) (
   j (decide (a.has=b.has))) (
   j false)
  cond (p) (
  j1 (decide (a.on=b.on))) (
  j1 false)
 cond (decide (a.kind=b.kind)) (
  j2 (decide (a.name=b.name))) (
  j2 false)
theorem Ayw(k:Nat):∀(x:HV [.sv .stmt,.sv .stmt]),Ci (Ro _ k) Tryz.f27 [.sv .stmt,.sv .stmt] [.bool] x some=N1 k x
 |(a,b)=>by kernel_rfl
theorem Au6(k:Nat):FnOk Tryz.prog elT glT 27 [.sv .stmt,.sv .stmt] [.bool] (N1 k):=by
 refine A1 Tryz.func27 rfl (by kernel_rfl) follows (by kernel_rfl) (n:=0) (by kernel_rfl) (px:=Ro _ k) (fun cx hP hel hgl =>?_) (Ayw k)
 have hp1:PxOk cx (Hy (HV [.bool]) k):=⟨fun t=>by rw [hP,hel];exact Au Al t,by rw [hgl];rfl⟩
 have hc1:Aj cx (Hy (HV [.bool]) k):=Ah rfl (Aa (A4 (by rw [hP,hel,hgl];exact Xe) (by kernel_rfl)) Ai)
 have hq1:CallQOk cx (Hy (HV [.bool]) k):=Ab rfl rfl Af Ae
 have hlastmts_0:A6 cx (Hy (HV [.bool]) k) (lp Tryz.f47 0):=A8 hp1 hc1 hq1 (by rw [hP];exact follows) (k:=k) (s:=Vs) (step:=Ml) (fun _ _=>by kernel_rfl) (by kernel_rfl) (Aq2 _ k) (A0 (n:=0) (by kernel_rfl) Aw)
 have hp4:PxOk cx (Dz (HV [.bool]) k):=⟨fun t=>by rw [hP,hel];exact Au Al t,by rw [hgl];rfl⟩
 have hc4:Aj cx (Dz (HV [.bool]) k):=Ah rfl (Aa (A4 (by rw [hP,hel,hgl];exact Xe) (by kernel_rfl)) Ai)
 have hq4:CallQOk cx (Dz (HV [.bool]) k):=Ab rfl rfl Af Ae
 have hlastmts_2:A6 cx (Dz (HV [.bool]) k) (lp Tryz.f47 0):=A8 hp4 hc4 hq4 (by rw [hP];exact follows) (k:=k) (s:=Wq) (step:=My) (fun _ _=>by kernel_rfl) (by kernel_rfl) (Aqm _ k) (A0 (n:=0) (by kernel_rfl) Aw)
 have hp3:PxOk cx (J4 (HV [.bool]) k):=⟨fun t=>by rw [hP,hel];exact Au Al t,by rw [hgl];rfl⟩
 have hc3:Aj cx (J4 (HV [.bool]) k):=Ah rfl (Aa (Bm hp4 hc4 hq4 (by rw [hP];exact follows) (by rw [hP];exact Tryz.func47) rfl (by kernel_rfl) (by kernel_rfl) (n:=1) (by kernel_rfl) ((Cg Aw hlastmts_2))) Ai)
 have hq3:CallQOk cx (J4 (HV [.bool]) k):=Ab rfl rfl Af Ae
 have hp2:PxOk cx (Hi (HV [.bool]) k):=⟨fun t=>by rw [hP,hel];exact Au Al t,by rw [hgl];rfl⟩
 have hc2:Aj cx (Hi (HV [.bool]) k):=Ah rfl (Aa (Bm hp3 hc3 hq3 (by rw [hP];exact follows) (by rw [hP];exact Tryz.func79) rfl (by kernel_rfl) (by kernel_rfl) (n:=0) (by kernel_rfl) (Aw)) Ai)
 have hq2:CallQOk cx (Hi (HV [.bool]) k):=Ab rfl rfl Af Ae
 have hlastmts_1:A6 cx (Hi (HV [.bool]) k) (lp Tryz.f78 0):=A8 hp2 hc2 hq2 (by rw [hP];exact follows) (k:=k) (s:=U4) (step:=Mv k) (fun _ _=>by kernel_rfl) (by kernel_rfl) (Ar7 _ k) (A0 (n:=0) (by kernel_rfl) Aw)
 have hp6:PxOk cx (J6 (HV [.bool]) k):=⟨fun t=>by rw [hP,hel];exact Au Al t,by rw [hgl];rfl⟩
 have hc6:Aj cx (J6 (HV [.bool]) k):=Ah rfl (Aa (A4 (by rw [hP,hel,hgl];exact Xe) (by kernel_rfl)) Ai)
 have hq6:CallQOk cx (J6 (HV [.bool]) k):=Ab rfl rfl Af Ae
 have hp5:PxOk cx (Hw (HV [.bool]) k):=⟨fun t=>by rw [hP,hel];exact Au Al t,by rw [hgl];rfl⟩
 have hc5:Aj cx (Hw (HV [.bool]) k):=Ah rfl (Aa (Bm hp6 hc6 hq6 (by rw [hP];exact follows) (by rw [hP];exact Tryz.func81) rfl (by kernel_rfl) (by kernel_rfl) (n:=0) (by kernel_rfl) (Aw)) Ai)
 have hq5:CallQOk cx (Hw (HV [.bool]) k):=Ab rfl rfl Af Ae
 have hlastmts_3:A6 cx (Hw (HV [.bool]) k) (lp Tryz.f80 0):=A8 hp5 hc5 hq5 (by rw [hP];exact follows) (k:=k) (s:=Xi) (step:=Me) (fun _ _=>by kernel_rfl) (by kernel_rfl) (Aqi _ k) (A0 (n:=0) (by kernel_rfl) Aw)
 have hp0:PxOk cx (Ro (HV [.bool]) k):=⟨fun t=>by rw [hP,hel];exact Au Al t,by rw [hgl];rfl⟩
 have hc0:Aj cx (Ro (HV [.bool]) k):=Ah rfl (Aa (A4 (by rw [hP,hel,hgl];exact Xe) (by kernel_rfl)) (Aa (A4 (by rw [hP,hel,hgl];exact Ba3) (by kernel_rfl)) (Aa (A4 (by rw [hP,hel,hgl];exact Bbt) (by kernel_rfl)) (Aa (A4 (by rw [hP,hel,hgl];exact Bcm) (by kernel_rfl)) (Aa (Bm hp1 hc1 hq1 (by rw [hP];exact follows) (by rw [hP];exact Tryz.func47) rfl (by kernel_rfl) (by kernel_rfl) (n:=1) (by kernel_rfl) ((Cg Aw hlastmts_0))) (Aa (Bm hp2 hc2 hq2 (by rw [hP];exact follows) (by rw [hP];exact Tryz.func78) rfl (by kernel_rfl) (by kernel_rfl) (n:=1) (by kernel_rfl) ((Cg Aw hlastmts_1))) (Aa (Bm hp5 hc5 hq5 (by rw [hP];exact follows) (by rw [hP];exact Tryz.func80) rfl (by kernel_rfl) (by kernel_rfl) (n:=1) (by kernel_rfl) ((Cg Aw hlastmts_3))) Ai)))))))
 have hq0:CallQOk cx (Ro (HV [.bool]) k):=Ab rfl rfl Af Ae
 exact⟨hp0,hc0,hq0,Aw⟩
def Avn(a b:Stm):Bool:=Ait a b
def Aqk:FT [.sv .stmt,.sv .stmt] [.bool]:=fun x=>some (Avn x.1 x.2)
theorem Abw{α:Type} [DecidableEq α] (x y : α) (l m:List α):decide (x::l=y::m)=(decide (x=y)&&decide (l=m)):=by
 simp only [Ze2,Bool.decide_and]
theorem Aj0{R:Type}{kx:Ex→Hc→Option R}{l m:List Xpr}{s t:Stm}{c:Bool→Option R}(hn:ln l.length) (hm:l.length=m.length)
  (h1:∀i,kx .ret (m,false,l,(l.length:Int),i,s,t)=c false) (h2:∀q i,kx (.exit 0) (m,q,l,(l.length:Int),i,s,t)=c true) (k:Nat) (hk:l.length<k):A5 (fun rec=>Ml rec kx) k (m,false,l,(l.length:Int),0,s,t)=c (decide (l=m)):=by
 refine(C4 l.length (fun i=>(m,false,l,(l.length:Int),(i:Int),s,t)) (fun i=>c (decide (l.drop i=m.drop i))) (fun i hi rec hr =>?_) (fun rec =>?_) k 0 (Nat.zero_le _) (by omega)).trans (by rw [Zq1,Zq1])
 ·have hi2:i<m.length:=by omega
  simp only [Ml,H1 hi,Am,Bp hi,Bp hi2,chk,Bq (c :=.expr) hi,Bq (c :=.expr) hi2,Bg hi hn,hr,h1,A9 hi,A9 hi2,Abw,U3,Q4]
  cases decide (l[i]=m[i])<;>rfl
 ·simp only [Ml,H0,An,h2]
  rw [Zk1 (Zn1 _),Zk1 (by omega)]
  rfl
theorem Aj4{R:Type}{kx:Ex→Hd→Option R}{l m:List Xpr}{s t:Stm}{c:Bool→Option R}(hn:ln l.length) (hm:l.length=m.length)
  (h1:∀i,kx .ret (m,false,l,(l.length:Int),i,s,t)=c false) (h2:∀q i,kx (.exit 0) (m,q,l,(l.length:Int),i,s,t)=c true) (k:Nat) (hk:l.length<k):A5 (fun rec=>My rec kx) k (m,false,l,(l.length:Int),0,s,t)=c (decide (l=m)):=by
 refine(C4 l.length (fun i=>(m,false,l,(l.length:Int),(i:Int),s,t)) (fun i=>c (decide (l.drop i=m.drop i))) (fun i hi rec hr =>?_) (fun rec =>?_) k 0 (Nat.zero_le _) (by omega)).trans (by rw [Zq1,Zq1])
 ·have hi2:i<m.length:=by omega
  simp only [My,H1 hi,Am,Bp hi,Bp hi2,chk,Bq (c :=.expr) hi,Bq (c :=.expr) hi2,Bg hi hn,hr,h1,A9 hi,A9 hi2,Abw,U3,Q4]
  cases decide (l[i]=m[i])<;>rfl
 ·simp only [My,H0,An,h2]
  rw [Zk1 (Zn1 _),Zk1 (by omega)]
  rfl
theorem Aj2{R:Type}{kx:Ex→Gr→Option R}{l m:List (List Xpr)}{s t:Stm}{c:Bool→Option R}(hn:ln l.length) (hm:l.length=m.length) (hr0:∀x,x∈l→ln x.length) (k:Nat) (hkr:∀x,x∈l→List.length x<k)
  (h1:∀i,kx .ret (m,false,l,(l.length:Int),i,s,t)=c false) (h2:∀q i,kx (.exit 0) (m,q,l,(l.length:Int),i,s,t)=c true) (hk:l.length<k):A5 (fun rec=>Mv k rec kx) k (m,false,l,(l.length:Int),0,s,t)=c (decide (l=m)):=by
 refine(C4 l.length (fun i=>(m,false,l,(l.length:Int),(i:Int),s,t)) (fun i=>c (decide (l.drop i=m.drop i))) (fun i hi rec hr =>?_) (fun rec =>?_) k 0 (Nat.zero_le _) (by omega)).trans (by rw [Zq1,Zq1])
 ·have hi2:i<m.length:=by omega
  simp only [Mv,H1 hi,Am,Bp hi,Bp hi2,chk,Bq (c :=.exprs) hi,Bq (c :=.exprs) hi2,Bg hi hn,A9 hi,A9 hi2,Abw]
  by_cases hlen:l[i].length=m[i].length
  ·rw [Ze1 (show(l[i].length:Int)=(m[i].length:Int) by omega),Zt1,An]
   rw [Aj4 (c:=fun b=>cond b (c (decide (l.drop (i+1)=m.drop (i+1)))) (c false)) (hr0 _ (List.getElem_mem hi)) hlen (fun _=>h1 _) (fun _ _=>hr) k (hkr _ (List.getElem_mem hi))]
   cases decide (l[i]=m[i])<;>rfl
  ·rw [Zd1 (show ¬(l[i].length:Int)=(m[i].length:Int) by omega),Zd1 (fun h=>hlen (by rw [h])),h1]
   rfl
 ·simp only [Mv,H0,An,h2]
  rw [Zk1 (Zn1 _),Zk1 (by omega)]
  rfl
theorem Ajy{R:Type}{kx:Ex→Gn→Option R}{l m:List SetE}{c:Bool→Option R}(hn:ln l.length) (hm:l.length=m.length)
  (h1:∀i,kx .ret (m,false,l,(l.length:Int),i)=c false) (h2:∀q i,kx (.exit 0) (m,q,l,(l.length:Int),i)=c true) (k:Nat) (hk:l.length<k):A5 (fun rec=>Me rec kx) k (m,false,l,(l.length:Int),0)=c (decide (l=m)):=by
 refine(C4 l.length (fun i=>(m,false,l,(l.length:Int),(i:Int))) (fun i=>c (decide (l.drop i=m.drop i))) (fun i hi rec hr =>?_) (fun rec =>?_) k 0 (Nat.zero_le _) (by omega)).trans (by rw [Zq1,Zq1])
 ·have hi2:i<m.length:=by omega
  simp only [Me,H1 hi,Am,Bp hi,Bp hi2,chk,Bq (c :=.set) hi,Bq (c :=.set) hi2,Bg hi hn,hr,h1,A9 hi,A9 hi2,Abw,U3,←Aqz,Aoo,Ym]
  cases decide (l[i].name=m[i].name)<;>cases Il l[i].e m[i].e<;>rfl
 ·simp only [Me,H0,An,h2]
  rw [Zk1 (Zn1 _),Zk1 (by omega)]
  rfl
theorem Ams{α:Type} [DecidableEq α] {l m:List α}(h:¬l.length=m.length):decide (l=m)=false:=Zd1 fun e=>h (by rw [e])
def A91(s:Stm):Nat:=s.l.length+s.rows.length+s.sets.length+(s.rows.map List.length).sum
theorem Ayl{l:List (List Xpr)}{x:List Xpr}(h:x∈l):x.length≤(l.map List.length).sum:=by
 induction l with
 |nil=>cases h
 |cons y l ih =>
  simp only [Zw1,List.sum_cons]
  rcases List.mem_cons.1 h with rfl|h
  ·omega
  ·have:=ih h;omega
theorem A8k(k:Nat) (a b:Stm) (hb:BdStm a) (hk:A91 a<k):N1 k (a,b)=some (Ait a b):=by
 have hk2:=hk
 simp only [A91] at hk2
 simp -zeta only [N1,U3,Q4,Ym,A9u,A8a,Bb1]
 extract_lets j6 j9 j j1 j2
 have h6:∀q,j6 q a b=some (q&&decide (a.sets=b.sets)):=fun q=>by
  simp -zeta only [j6]
  cases q with
  |false=>rfl
  |true =>
   rw [Am,Bool.true_and]
   by_cases hs:a.sets.length=b.sets.length
   ·rw [Ze1 (show(a.sets.length:Int)=(b.sets.length:Int) by omega),Zt1,An]
    exact Ajy (c:=some) hb.sets.1 hs (fun _=>rfl) (fun _ _=>rfl) k (by omega)
   ·rw [Zd1 (show ¬(a.sets.length:Int)=(b.sets.length:Int) by omega),Ams hs]
    rfl
 have h9:∀p,j9 p=some (p&&(decide (a.cols=b.cols)&&decide (a.names=b.names)&&decide (a.order=b.order)&&decide (a.desc=b.desc)&&decide (a.l=b.l))&&decide (a.rows=b.rows)&&decide (a.sets=b.sets)):=fun p=>by
  simp -zeta only [j9]
  extract_lets j8 j3 j4 j5
  have h8:∀q,j8 q a b=some (p&&q&&decide (a.rows=b.rows)&&decide (a.sets=b.sets)):=fun q=>by
   simp -zeta only [j8]
   extract_lets j7
   have h7:∀q,j7 q=some (q&&decide (a.rows=b.rows)&&decide (a.sets=b.sets)):=fun q=>by
    simp -zeta only [j7]
    cases q with
    |false=>exact(h6 false).trans rfl
    |true =>
     rw [Am,Bool.true_and]
     by_cases hs:a.rows.length=b.rows.length
     ·rw [Ze1 (show(a.rows.length:Int)=(b.rows.length:Int) by omega),Zt1,An]
      refine(Aj2 (c:=fun q=>j6 q a b) hb.rows.1 hs (fun x hx=>(hb.rows.2 x hx).1) k (fun x hx=>by have:=Ayl hx;omega) (fun _=>rfl) (fun _ _=>rfl) (by omega)).trans (h6 _)
     ·rw [Zd1 (show ¬(a.rows.length:Int)=(b.rows.length:Int) by omega),Ams hs]
      exact(h6 false).trans rfl
   cases p with
   |false=>exact(h7 false).trans rfl
   |true=>exact(h7 q).trans (by rw [Bool.true_and])
  have h3:∀q,j3 q=some (p&&(q&&decide (a.l=b.l))&&decide (a.rows=b.rows)&&decide (a.sets=b.sets)):=fun q=>by
   simp -zeta only [j3]
   cases q with
   |false=>exact h8 false
   |true =>
    rw [Am,Bool.true_and]
    by_cases hs:a.l.length=b.l.length
    ·rw [Ze1 (show(a.l.length:Int)=(b.l.length:Int) by omega),Zt1,An]
     exact(Aj0 (c:=fun q=>j8 q a b) hb.l.1 hs (fun _=>rfl) (fun _ _=>rfl) k (by omega)).trans (h8 _)
    ·rw [Zd1 (show ¬(a.l.length:Int)=(b.l.length:Int) by omega),Ams hs]
     exact h8 false
  have h4:∀q,j4 q=some (p&&(q&&decide (a.desc=b.desc)&&decide (a.l=b.l))&&decide (a.rows=b.rows)&&decide (a.sets=b.sets)):=fun q=>by
   simp -zeta only [j4]
   cases q with
   |false=>exact h3 false
   |true=>exact(h3 _).trans (by rw [Bool.true_and])
  have h5:∀q,j5 q=some (p&&(q&&decide (a.order=b.order)&&decide (a.desc=b.desc)&&decide (a.l=b.l))&&decide (a.rows=b.rows)&&decide (a.sets=b.sets)):=fun q=>by
   simp -zeta only [j5]
   cases q with
   |false=>exact h4 false
   |true=>exact(h4 _).trans (by rw [Bool.true_and])
  cases decide (a.cols=b.cols) with
  |false=>exact h5 false
  |true=>exact(h5 _).trans (by simp only [Bool.true_and])
 simp -zeta only [j2,j1,j,Ait]
 cases decide (a.kind=b.kind) with
 |false=>exact(h9 false).trans rfl
 |true =>
  cases decide (a.name=b.name) with
  |false=>exact(h9 false).trans rfl
  |true =>
   cases decide (a.on=b.on) with
   |false=>exact(h9 false).trans rfl
   |true =>
    cases decide (a.has=b.has) with
    |false=>exact(h9 false).trans rfl
    |true =>
     cases decide (a.most=b.most) with
     |false=>exact(h9 false).trans rfl
     |true=>exact(h9 _).trans (by simp only [Bool.true_and])
theorem Azp:FnOk Tryz.prog elT glT 27 [.sv .stmt,.sv .stmt] [.bool] Aqk :=.fin 0 Au6 fun(a,b) r hb hx=>⟨A91 a+1,(A8k (A91 a+1) a b hb.1 (by omega)).trans hx⟩
end Go.Proofs.YthndhaolemgbdaaGreatDoor
