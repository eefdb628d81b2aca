/- Texts of the proof,one behind the other: AxH,AxI,AxJ,AxK,AxL,SxK,AxM,AxN,AxO,AxP,AxPf. -/
import Derived.Test.YtcoaaebppfbbnaaGreatDoorK1
import Derived.OrdersIn
import Derived.TacticsIn
import Derived.Laws.MakeOwn
import Derived.Lib.AppendStr
import Derived.Laws.CopyRow
import Derived.Laws.IdiomCopy
set_option linter.all false
namespace Go.Ax
open Go.RowKit
theorem A14{P:Program}{t:TypeId}(h:A6x P t=true):∃k,P.underlying t=some (.int k):=by
 unfold A6x at h;split at h
 ·grind
 ·cases h
theorem Bdl{P:Program}{xs ys:Array Value}{f:Field}{l:List Field}{k:IntKind}{a b:Int}{r:Bool}(hn:(f.name == "_")=false)(ht:A6x P f.type=true)(hx:xs[f.offset]? = some (.int k a))(hy:ys[f.offset]? = some (.int k b))(hr:Sx.eqRow P xs ys l=some r):Sx.eqRow P xs ys (f::l)=some (decide (a=b)&&r):=by
 obtain⟨k',hk⟩:=A14 ht;simp only[Sx.eqRow,hn,hk,hx,hy,hr,Sx.sameI]
 grind
theorem Bc9{P:Program}{xs ys:Array Value}{f:Field}{l:List Field}{a b:Str}{r:Bool}(hn:(f.name == "_")=false)(ht:Sx.tyS P f.type=true)(hx:xs[f.offset]? = some (.string ⟨a.toArray⟩))(hy:ys[f.offset]? = some (.string ⟨b.toArray⟩))(hr:Sx.eqRow P xs ys l=some r):Sx.eqRow P xs ys (f::l)=some (decide (a=b)&&r):=by simp[Sx.eqRow,hn,Sx.tyS_spec ht,hx,hy,hr]
theorem A4q{P:Program}{xs ys:Array Value}{f:Field}{l:List Field}{a b:Bool}{r:Bool}(hn:(f.name == "_")=false)(ht:Sx.tyB P f.type=true)(hx:xs[f.offset]? = some (.bool a))(hy:ys[f.offset]? = some (.bool b))(hr:Sx.eqRow P xs ys l=some r):Sx.eqRow P xs ys (f::l)=some (decide (a=b)&&r):=by
 simp[Sx.eqRow,hn,Sx.tyB_spec ht,hx,hy,hr]
 grind
def Aa7:List D->List D->Option Bool
 |[],[]=>some true
 |.int k a::l,.int k' b::m=>match decide (k=k'),Aa7 l m with|true,some r=>some (decide (a=b)&&r)|_,_=>none
 |.str a::l,.str b::m=>match Aa7 l m with|some r=>some (decide (a=b)&&r)|none=>none
 |.bool a::l,.bool b::m=>match Aa7 l m with|some r=>some (decide (a=b)&&r)|none=>none
 |_,_=>none
def kOf:D->Nat
 |.int _ _=>0
 |.str _=>1
 |_=>2
theorem Avz{P:Program}{x:Vx}{xs ys:Array Value}:∀(fds:List Field) (ks:List Nat) (i:Nat) (l m:List D) (r:Bool),fkB P i fds ks=true->ks=l.map kOf->Aa7 l m=some r ->
  (∀(j:Nat) d,l[j]? = some d->∃v,xs[i+j]? = some v/\Rep x d v)->(∀(j:Nat) d,m[j]? = some d->∃v,ys[i+j]? = some v/\Rep x d v)->Sx.eqRow P xs ys fds=some r
 |[],[],i,l,m,r,_,hk,he,_,_=>by
  have:l=[]:=by cases l<;>simp at hk;rfl
  subst this;cases m with|nil=>simp[Aa7] at he;subst he;rfl|cons d m=>cases d<;>simp[Aa7] at he
 |f::fds,k::ks,i,[],m,r,_,hk,_,_,_=>by simp at hk
 |f::fds,k::ks,i,d::l,[],r,_,_,he,_,_=>by cases d<;>simp[Aa7] at he
 |f::fds,k::ks,i,d::l,e::m,r,hf,hk,he,hx,hy=>by
  simp only[fkB,Zb1,beq_iff_eq,Bool.not_eq_true'] at hf;obtain⟨⟨⟨h1,h2⟩,h3⟩,h4⟩:=hf;simp[Zw1] at hk;obtain⟨v,hv,hvr⟩:=hx 0 d (by simp);obtain⟨u,hu,hur⟩:=hy 0 e (by simp);rw[Nat.add_zero,<-h2] at hv hu;have hrec:∀r',Aa7 l m=some r'->Sx.eqRow P xs ys fds=some r':=λr' hr' =>Avz fds ks (i+1) l m r' h4 hk.2 hr' (λj d hd=>by have:=hx (j+1) d (by simpa using hd);rwa[show i+(j+1)=i+1+j by omega] at this) (λj d hd=>by have:=hy (j+1) d (by simpa using hd);rwa[show i+(j+1)=i+1+j by omega] at this)
  unfold Aa7 at he;split at he
  ·rename_i heq _;cases heq
  ·rename_i k1 a l1 k2 b m1 heq1 heq2;obtain⟨rfl,rfl⟩:=heq1;obtain⟨rfl,rfl⟩:=heq2;split at he
   ·rename_i r' hkk hr';simp at hkk;subst hkk;simp at he;subst he;obtain rfl:=Rep.int hvr;obtain rfl:=Rep.int hur;rw[hk.1] at h3;exact Bdl h1 h3 hv hu (hrec _ hr')
   ·cases he
  ·rename_i a l1 b m1 heq1 heq2;obtain⟨rfl,rfl⟩:=heq1;obtain⟨rfl,rfl⟩:=heq2;split at he
   ·rename_i r' hr';simp at he;subst he;obtain rfl:=Rep.str hvr;obtain rfl:=Rep.str hur;rw[hk.1] at h3;exact Bc9 h1 h3 hv hu (hrec _ hr')
   ·cases he
  ·rename_i a l1 b m1 heq1 heq2;obtain⟨rfl,rfl⟩:=heq1;obtain⟨rfl,rfl⟩:=heq2;split at he
   ·rename_i r' hr';simp at he;subst he;obtain rfl:=Rep.bool hvr;obtain rfl:=Rep.bool hur;rw[hk.1] at h3;exact A4q h1 h3 hv hu (hrec _ hr')
   ·cases he
  ·cases he
 |[],_::_,_,_,_,_,h,_,_,_,_=>by simp[fkB] at h
 |_::_,[],_,_,_,_,h,_,_,_,_=>by simp[fkB] at h
theorem Buq{c:Ck}{a b:El c}{r:Bool}(h:eqK c a b=some r):∃ks,A5x c=some ks/\ks=(enc c a).map kOf/\Aa7 (enc c a) (enc c b)=some r:=by
 unfold eqK at h;split at h
 ·rename_i a b;simp at h;subst h;refine⟨_,rfl,rfl,?_⟩;simp[enc,Aa7,Bool.and_true];cases a;cases b;simp
 ·rename_i a b;simp at h;subst h;refine⟨_,rfl,rfl,?_⟩;simp[enc,Aa7,Bool.and_true];cases a;cases b;simp
 ·rename_i a b;simp at h;subst h;refine⟨_,rfl,rfl,?_⟩;simp[enc,Aa7,Bool.and_true];cases a;cases b;simp
 ·cases h
theorem Az1{P:Program}{el:Ck->TypeId}{tt:Nat->Ty}{t:Nat}{vx:Vx}{a b:D}{u v:Value}{r:Bool}(ht:B8 P el tt t=true)(h:Bn3 (tt t) a b=some r)(ha:Rep vx a u)(hb:Rep vx b v):Sx.stOk P t=true/\∃xs ys,u = .agg xs/\v = .agg ys/\Sx.eqRow P xs ys (P.fieldsOf t).toList=some r:=by
 unfold Bn3 at h;split at h
 ·rename_i c l z hty;split at h
  ·rename_i x hx;split at h
   ·rename_i y hy;obtain⟨ks,hk1,hk2,hk3⟩:=Buq h;obtain⟨fds,hu,_,heq⟩:=Aud ht hty;obtain⟨h1,h2⟩:=heq c ks rfl hk1;have hagg:agg? c=true:=by cases c<;>simp[A5x] at hk1<;>rfl
    obtain⟨e1,ea,_⟩:=M3 hx ha;obtain⟨e2,eb,_⟩:=M3 hy hb;obtain⟨xs,rfl⟩:=ea hagg;obtain⟨ys,rfl⟩:=eb hagg;refine⟨h1,xs,ys,rfl,rfl,?_⟩;have hfo:P.fieldsOf t=fds:=by simp[Program.fieldsOf,hu]
    rw[hfo];have g1:=(Hr e1).2;have g2:=(Hr e2).2;simp[Value.cells] at g1 g2;refine Avz (x:=vx) fds.toList ks 0 (enc c x) (enc c y) r h2 hk2 hk3 (λj d hd =>?_) (λj d hd =>?_)
    ·grind
    ·grind
   ·cases h
  ·cases h
 ·cases h
theorem Amm(d:Nat){P:Program}{t e:TypeId}{a:Option Addr}{n c:Nat}{w:World}(ht:P.underlying t=some (.slice e)):(Op.equalIn (d+1) t (.slice a n c) (.slice none 0 0)).run P w = .ok a.isNone w:=by cases a<;>simp[Op.equalIn,Sem.run_bind,run_underlying ht,Sem.run_pure]
theorem Aej{P:Program}{t e:TypeId}{a:Option Addr}{n c:Nat}{w:World}(ht:P.underlying t=some (.slice e)):(Op.equal t (.slice a n c) (.slice none 0 0)).run P w = .ok a.isNone w:=Amm 9999 ht
theorem Bdc{d:D}(h:A3t d=true):∃c,d = .sl c [] .nil:=by
 unfold A3t at h;split at h
 ·exact⟨_,rfl⟩
 ·cases h
theorem Bgm{P:Program}{el:Ck->TypeId}{tt:Nat->Ty}{e:Sx.Env}{t t':Nat}{x y:Operand}{op:BinOp}{c:Bool}{b d:D}{c0:Ck}{xs:List (El c0)}{tk:Tk}{u v:Value}{vx:Vx}(ht:B8 P el tt t=true)(h:Bt6 op (tt t) xs.isEmpty tk b=some (c,d))(hc:c=true)(hx:Sx.Env.ev e x=some u)(hy:Sx.Env.ev e y=some v)(ha:Rep vx (.sl c0 xs tk) u)(hb:Rep vx b v):∃r,Sx.Pure P e (.binOp op t x y t') r/\Rep vx d r:=by
 unfold Bt6 at h;split at h
 ·rename_i c1 hty;obtain⟨_,hE,_,_⟩:=Cj ht hty;have hu:=hE.und;split at h
  ·rename_i hn;obtain⟨c2,rfl⟩:=Bdc hn;simp[Rep] at ha hb;obtain⟨_,rfl,_⟩:=hb;obtain⟨a,cap,rfl,hne⟩:=ha.1.here.slice;have hsome:xs.isEmpty=false->a.isNone=false:=λhem=>by grind
   have key:∀q,a.isNone=q->(∃r,Sx.Pure P e (.binOp .eql t x y t') r/\Rep vx (.bool q) r)/\∃r,Sx.Pure P e (.binOp .neq t x y t') r/\Rep vx (.bool (!q)) r:=λq hq =>
    ⟨⟨_,Sx.p_bin hx hy (λw=>rfl) (λw=>by rw[show binOp .eql t (.slice a xs.length cap) (.slice none 0 0)=(do pure (.bool (<-Op.equal t (.slice a xs.length cap) (.slice none 0 0)))) from rfl,Sem.run_bind,Aej hu,hq];rfl),Bo _⟩,
    ⟨_,Sx.p_bin hx hy (λw=>rfl) (λw=>by rw[show binOp .neq t (.slice a xs.length cap) (.slice none 0 0)=(do pure (.bool (!(<-Op.equal t (.slice a xs.length cap) (.slice none 0 0))))) from rfl,Sem.run_bind,Aej hu,hq];rfl),Bo _⟩⟩
   have mark:∀q,Bjz tk=some q->xs.isEmpty=true->a.isNone=q:=λq hq hem=>by obtain rfl:xs=[]:=List.isEmpty_iff.1 hem;have h2:=ha.2;unfold Bjz at hq;split at hq<;>simp only[Za1,reduceCtorEq] at hq<;>subst hq<;>simp[TkR] at h2<;>grind
   split at h<;>simp[ reduceCtorEq] at h
   ·obtain⟨h1,rfl⟩:=h;rw[hc] at h1;exact(key _ (hsome (by simpa using h1))).1
   ·obtain⟨h1,rfl⟩:=h;rw[hc] at h1;exact(key _ (hsome (by simpa using h1))).2
   ·rename_i q hq;obtain⟨h1,rfl⟩:=h;rw[hc] at h1;exact(key _ (mark q hq (by simpa using h1))).1
   ·rename_i q hq;obtain⟨h1,rfl⟩:=h;rw[hc] at h1;exact(key _ (mark q hq (by simpa using h1))).2
  ·cases h
 ·cases h
theorem Ai5(d:Nat){P:Program}{t e:TypeId}{a:Option Addr}{w:World}(ht:P.underlying t=some (.pointer e)):(Op.equalIn (d+1) t (.pointer a) (.pointer none)).run P w = .ok a.isNone w:=by cases a<;>simp[Op.equalIn,Sem.run_bind,run_underlying ht,Sem.run_pure]
theorem Awp{P:Program}{el:Ck->TypeId}{tt:Nat->Ty}{e:Sx.Env}{t t':Nat}{x y:Operand}{op:BinOp}{c:Bool}{a b d:D}{u v:Value}{vx:Vx}(ht:B8 P el tt t=true)(h:Bpo op (tt t) a b=some (c,d))(hx:Sx.Env.ev e x=some u)(hy:Sx.Env.ev e y=some v)(ha:Rep vx a u)(hb:Rep vx b v):∃r,Sx.Pure P e (.binOp op t x y t') r/\Rep vx d r:=by
 unfold Bpo at h;split at h
 ·rename_i hty;obtain⟨e0,hu⟩:=Bii ht hty;split at h
  ·rename_i q hq hb0;have hv:v = .pointer none:=by
    unfold A9g at hb0;split at hb0
    ·simpa[Rep] using hb
    ·cases hb0
   subst hv;have hau:∃p,u = .pointer p/\p.isNone=q:=by
    unfold Bhd at hq;split at hq<;>simp only[Za1,reduceCtorEq] at hq<;>subst hq<;>simp only[Rep] at ha
    ·exact⟨_,ha,rfl⟩
    ·exact⟨_,ha.2,rfl⟩
    ·obtain⟨_,_,e,_⟩:=ha;exact⟨_,e,rfl⟩
    ·exact⟨_,ha,rfl⟩
    ·exact⟨_,ha.2.1,rfl⟩
    ·exact⟨_,ha.2.1,rfl⟩
   obtain⟨p,rfl,hp⟩:=hau;have heq:∀w,(Op.equal t (.pointer p) (.pointer none)).run P w = .ok q w:=λw=>by rw[<-hp];exact Ai5 9999 hu
   split at h<;>simp[ reduceCtorEq] at h
   ·obtain⟨_,rfl⟩:=h;exact⟨_,Sx.p_bin hx hy (λw=>rfl) (λw=>by rw[show binOp .eql t (.pointer p) (.pointer none)=(do pure (.bool (<-Op.equal t (.pointer p) (.pointer none)))) from rfl,Sem.run_bind,heq];rfl),Bo _⟩
   ·obtain⟨_,rfl⟩:=h;exact⟨_,Sx.p_bin hx hy (λw=>rfl) (λw=>by rw[show binOp .neq t (.pointer p) (.pointer none)=(do pure (.bool (!(<-Op.equal t (.pointer p) (.pointer none))))) from rfl,Sem.run_bind,heq];rfl),Bo _⟩
  ·cases h
 ·cases h
theorem Bqt{P:Program}{el:Ck->TypeId}{tt:Nat->Ty}{e:Sx.Env}{t t':Nat}{x y:Operand}{op:BinOp}{c:Bool}{a b d:D}{u v:Value}{vx:Vx}(ht:B8 P el tt t=true)(h:bin op (tt t) a b=some (c,d))(hc:c=true)(hx:Sx.Env.ev e x=some u)(hy:Sx.Env.ev e y=some v)(ha:Rep vx a u)(hb:Rep vx b v):∃r,Sx.Pure P e (.binOp op t x y t') r/\Rep vx d r:=by
 unfold bin at h;split at h
 ·rename_i k p;obtain rfl:=Rep.int ha;split at h
  ·rename_i k' q;obtain rfl:=Rep.int hb;split at h
   ·simp[ Zp1] at h;obtain⟨h1,rfl⟩:=h;subst hc;refine⟨_,Sx.p_shl hx hy (by simpa using h1),C2 (Yh _ _)⟩
   ·simp[ Zp1] at h;obtain⟨h1,rfl⟩:=h;subst hc;exact⟨_,Sx.p_shr hx hy (by simpa using h1),C2 (Btl ha.u8)⟩
   ·split at h
    ·rename_i hk;simp at hk;subst hk;exact Biz h hc hx hy ha.u8 hb.u8
    ·cases h
  ·cases h
 ·rename_i l;obtain rfl:=Rep.str ha;split at h
  ·rename_i m;obtain rfl:=Rep.str hb;exact Bly h hc hx hy
  ·cases h
 ·rename_i p;obtain rfl:=Rep.bool ha;split at h
  ·rename_i q;obtain rfl:=Rep.bool hb;split at h
   ·rename_i hty;have htt:=Abv ht hty;split at h<;>simp[ reduceCtorEq] at h
    ·obtain⟨_,rfl⟩:=h;exact⟨_,Sx.p_eqlb htt hx hy,Bo _⟩
    ·obtain⟨_,rfl⟩:=h;exact⟨_,Sx.p_neqb htt hx hy,Bo _⟩
   ·cases h
  ·cases h
 ·rename_i c0 xs tk;exact Bgm ht h hc hx hy ha hb
 ·split at h
  ·split at h
   ·rename_i r hr;simp[ Zp1] at h;obtain⟨_,rfl⟩:=h;obtain⟨h1,xs,ys,rfl,rfl,h2⟩:=Az1 ht hr ha hb;exact⟨_,Sx.p_eqst h1 hx hy h2,Bo _⟩
   ·exact Awp ht h hx hy ha hb
  ·split at h
   ·rename_i r hr;simp[ Zp1] at h;obtain⟨_,rfl⟩:=h;obtain⟨h1,xs,ys,rfl,rfl,h2⟩:=Az1 ht hr ha hb;exact⟨_,Sx.p_neqst h1 hx hy h2,Bo _⟩
   ·exact Awp ht h hx hy ha hb
  ·cases h
section
variable {P:Program}{el:Ck->TypeId}{tt:Nat->Ty}{e:Sx.Env}{t:Nat}{x y:Operand}{vx:Vx}
theorem Bwb{k:IntKind}{a b:Int}{ts:Array TypeId}(hx:Sx.Env.ev e x=some (.int k a))(hy:Sx.Env.ev e y=some (.int k b)):Sx.Pure P e (.call ⟨.builtin .min, #[x,y],ts⟩) (.int k (min2 a b)):=λn a' w o he ho=>by simp[execOp,ho,he.ev hx,he.ev hy,resolve,invoke,builtin,Builtin.min_,Builtin.min2,min2]
theorem Bwl{k:IntKind}{a b:Int}{ts:Array TypeId}(hx:Sx.Env.ev e x=some (.int k a))(hy:Sx.Env.ev e y=some (.int k b)):Sx.Pure P e (.call ⟨.builtin .max, #[x,y],ts⟩) (.int k (max2 a b)):=λn a' w o he ho=>by simp[execOp,ho,he.ev hx,he.ev hy,resolve,invoke,builtin,Builtin.max_,Builtin.max2,max2]
theorem Br{S:Fp}{w:World}{c:Ck}{xs:List (El c)}{v:Value}(h:RF S w (.sl c xs .no) v):∃a cap,v = .slice a xs.length cap/\(xs=[]\/∃b o,a=some ⟨b,o,none⟩/\(xs.length<=cap/\cap<=maxLen)/\∀i y,xs[i]? = some y->∀w',Chg S w w'->At w' c y b (o+i*csz c)):=by
 obtain⟨a,cap,rfl,h0⟩:=h.here.slice;refine⟨a,cap,rfl,?_⟩;rcases h0 with h0|⟨b,o,rfl,hle,_⟩
 ·exact .inl h0
 ·refine .inr ⟨b,o,rfl,hle,λi y hy w' hw =>?_⟩;obtain⟨a',cap',e1,h1⟩:=(h w' hw).slice;simp at e1;obtain⟨e2,_,e3⟩:=e1;rcases h1 with rfl|⟨b',o',e4,_,h2⟩
  ·simp at hy
  ·grind
theorem Jl{S:Fp}{w:World}{c:Ck}{xs:List (El c)}{a:Option Addr}{cap n:Nat}(hn:n=xs.length)(h:xs=[]\/∃b o,a=some ⟨b,o,none⟩/\(xs.length<=cap/\cap<=maxLen)/\∀i y,xs[i]? = some y->∀w',Chg S w w'->At w' c y b (o+i*csz c)):RF S w (.sl c xs .no) (.slice a n cap):=λw' hw=>by subst hn;refine .mkSlice' rfl (h.imp id ?_);rintro⟨b,o,h1,h2,h3⟩;exact⟨b,o,h1,h2,λi y hy=>h3 i y hy w' hw⟩
theorem Btc{c:Ck}{xs:List (El c)}{tk:Tk}{k:IntKind}{i:Int}{v:Value}(ht:B8 P el tt t=true)(hty:tt t = .sl c)(hv:Rep vx (.sl c xs tk) v)(hx:Sx.Env.ev e x=some v)(hy:Sx.Env.ev e y=some (.int k i))(hi:inb i xs.length=true):∃u,Sx.Pure P e (.indexAddr t x y) u/\Rep vx (.ep c (at' c xs i) 0) u:=by
 simp[inb] at hi;simp[Rep] at hv;obtain⟨a,cap,rfl,h⟩:=Br hv.1;obtain⟨by_,hT,_,_⟩:=Cj ht hty;rcases h with rfl|⟨b,o,rfl,hle,hat⟩
 ·simp at hi;omega
 ·obtain⟨hu,i0,z,hi0,hz,hsz,_⟩:=hT;have helsz:(Sx.elSz P t == some (csz c))=true:=by simp[Sx.elSz,hu,Sx.tySz,hi0,hsz]
  refine⟨_,Sx.p_ia helsz hx hy hi,?_⟩;simp only[Rep];exact⟨b,o+i.toNat*csz c,rfl,λw' hw=>hat _ _ (Xp hi) w' hw⟩
theorem Ajz{n:Nat}{u:TypeId}{b o sz:Nat}{k:IntKind}{i:Int}{w:World}(hu:P.underlying t=some (.array n u))(hsz:Sx.tySz P u=some sz)(hi : 0<=i/\i<(n:Int)):(Instr.indexAt t (.pointer (some ⟨b,o,none⟩)) (.int k i)).run P w = .ok (.pointer (some ⟨b,o+i.toNat*sz,none⟩)) w:=by simp[Instr.indexAt,asIntOf,Instr.sureAddr,run_underlying hu,if_pos hi,Sx.run_sizeOf hsz,Sx.add_mk]
theorem Ad4{c:Ck}{u:TypeId}{a:Option Addr}{n cap sz:Nat}{lo hi:Option Value}{l h:Nat}{w:World}(hu:P.underlying t=some (.slice u))(hsz:Sx.tySz P u=some sz)(hb:(Instr.sliceBounds true n cap lo hi none).run P w = .ok (l,h,cap) w)(_hc:c=c) :
  (Instr.sliceAt t (.slice a n cap) lo hi none).run P w = .ok (.slice (if cap=l then a else a.map (·.add (l*sz))) (h-l) (cap-l)) w:=by
 simp[Instr.sliceAt,Instr.slice,run_underlying hu,hb,Sx.run_sizeOf hsz]
theorem Av6{S:Fp}{w:World}{c:Ck}{xs:List (El c)}{a:Option Addr}{cap l h:Nat}(hxs:xs=[]\/∃b o,a=some ⟨b,o,none⟩/\(xs.length<=cap/\cap<=maxLen)/\∀i y,xs[i]? = some y->∀w',Chg S w w'->At w' c y b (o+i*csz c))(h1:l<=h)(h2:h<=xs.length):RF S w (.sl c ((xs.drop l).take (h-l)) .no) (.slice (if cap=l then a else a.map (·.add (l*csz c))) (h-l) (cap-l)):=by
 refine Jl (by simp;omega) ?_;by_cases h0:(xs.drop l).take (h-l)=[]
 ·exact .inl h0
 ·right;have hlt:l<h:=by
   rcases Nat.lt_or_ge l h with h'|h'
   ·exact h'
   ·simp_all
  rcases hxs with rfl|⟨b,o,rfl,hle,hat⟩
  ·simp at h2;omega
  ·refine⟨b,o+l*csz c,?_,by simp;omega,λi y hy w' hw =>?_⟩
   ·rw[if_neg (by omega)];simp[Sx.add_mk]
   ·grind
theorem Av8{n cap:Nat}{ik jk:IntKind}{i j:Int}{w:World}(h : 0<=i/\i<=j/\j<=(cap:Int)):(Instr.sliceBounds true n cap (some (.int ik i)) (some (.int jk j)) none).run P w = .ok (i.toNat,j.toNat,cap) w:=by
 have h1 : 0<=j/\j<=(cap:Int):=by omega
 have h2 : 0<=i/\i<=(j.toNat:Int):=by omega
 simp only[Instr.sliceBounds,Instr.sliceBound,asIntOf,Sem.run_bind,Sem.run_pure,Result.andThen_ok,if_pos h1,if_pos h2]
theorem Bkn{n cap:Nat}{ik:IntKind}{i:Int}{w:World}(h : 0<=i/\i<=(n:Int)):(Instr.sliceBounds true n cap (some (.int ik i)) none none).run P w = .ok (i.toNat,n,cap) w:=by simp[Instr.sliceBounds,Instr.sliceBound,asIntOf,if_pos h]
theorem Bgy{n cap:Nat}{jk:IntKind}{j:Int}{w:World}(h : 0<=j/\j<=(cap:Int)):(Instr.sliceBounds true n cap none (some (.int jk j)) none).run P w = .ok (0,j.toNat,cap) w:=by simp[Instr.sliceBounds,Instr.sliceBound,asIntOf,if_pos h]
theorem Axs{n cap:Nat}{w:World}:(Instr.sliceBounds true n cap none none none).run P w = .ok (0,n,cap) w:=by simp[Instr.sliceBounds]
theorem A9z{n:Nat}{w:World}:(Instr.sliceBounds false n n none none none).run P w = .ok (0,n,n) w:=by simp[Instr.sliceBounds]
theorem Bwv{w:World}{b:UInt8}{u:Value}(h:FV w (.int .u8 (b.toNat:Int)) u):u = .int .u8 (b.toNat:Int):=by cases h;rfl
theorem A0j{w:World}{xs:List UInt8}{b o:Nat}(h:∀(i:Nat) (y:El .byte),xs[i]? = some y->At w .byte y b (o+i*csz .byte)):∀(j:Nat) (hj:j<xs.length),w.cell? ⟨b,o+j,none⟩=some (.int .u8 (xs[j].toNat:Int)):=by intro j hj;obtain⟨u,hu,hf⟩:=h j xs[j] (Zo1 hj) 0 _ rfl;rw[Bwv hf] at hu;simpa[csz] using hu
theorem Axc{s:Nat}{xs:List UInt8}{tk:Tk}{v:Value}(hs:B8 P el tt s=true)(ht:B8 P el tt t=true)(hss:tt s = .sl .byte)(htt:tt t = .str)(hv:Rep vx (.sl .byte xs tk) v)(n:Nat)(a:Act)(o:Oper)(he:Sx.EnvOk n e a)(hx:Sx.Env.ev e x=some v)(ho:o.op = .convert s t x):(execOp a.eval o).run P vx.w = .ok (.value (Sx.S xs)) vx.w:=by
 simp[Rep] at hv;obtain⟨ad,cap,rfl,h⟩:=Br hv.1;obtain⟨by_,hT,_,h8⟩:=Cj hs hss;have hu:=hT.und;have hu8:=Sx.tyI_spec (h8 rfl);have hts:=Sx.tyS_spec (Gz ht htt);have hr:(convert s t (.slice ad xs.length cap)).run P vx.w = .ok (Sx.S xs) vx.w:=by
  rcases h with rfl|⟨b,off,rfl,_,hat⟩
  ·cases ad with|none =>simp[convert,run_underlying hu,run_underlying hts,run_underlying hu8];rfl|some a0=>exact run_convert_bytes_back vx.w s t (el .byte) a0 cap [] hu hu8 hts (λj hj=>by simp at hj)
  ·refine run_convert_bytes_back vx.w s t (el .byte) ⟨b,off,none⟩ cap xs hu hu8 hts λj hj =>?_;rw[Sx.add_mk];exact A0j (λi y hy=>hat i y hy _ (Chg.refl _ _)) j hj
 simp[execOp,ho,he.ev hx,hr]
theorem Bam{s:Nat}{l:Str}(hs:Sx.tySome P s=true)(ht:Sx.tyS P t=true)(hx:Sx.Env.ev e x=some (Sx.S l)):Sx.Pure P e (.convert s t x) (Sx.S l):=λn a w o he ho=>by obtain⟨d,hd⟩:=Sx.tySome_spec hs;simp[execOp,ho,he.ev hx,convert,run_underlying hd,run_underlying (Sx.tyS_spec ht)]
theorem Bib{t:Nat}{ds:List D}{off:Nat}{d:D}{vs:List Value}{w:World}(h:B8 P el tt t=true)(hn:tt t ≠ .no)(hp:part (tt t) ds off=some d)(hc:Dz vx ds vs)(hl:ds.all lf=true):∃u,(Go.part t vs.toArray off).run P w = .ok u w/\Rep vx d u:=by
 obtain⟨h1,h2,h3⟩:=Dp h hn;obtain⟨g1,g2⟩:=Awj hp hc hl;cases ha:(tt t).agg? with
 |true =>obtain⟨g3,g4⟩:=g1 ha;refine⟨_,?_,g4⟩;have:(isAgg t).run P w = .ok true w:=Sx.run_isAgg (by simp[h1,h2,ha]) w;simp only[Go.part,Sem.run_bind,this,Result.andThen_ok,if_true,Sx.run_sizeOf h3,Sem.run_pure];congr 2;apply Array.ext';simp
 |false =>
  obtain⟨u,hu,hr⟩:=g2 ha;refine⟨u,?_,hr⟩;have:(isAgg t).run P w = .ok false w:=Sx.run_isAgg (by simp[h1,h2,ha]) w;have hu':vs.toArray[off]? = some u:=by simpa using hu
  simp[Go.part,this,hu']
theorem N9:∀(es:List D) (us:List Value) (ds:List D) (vs:List Value) (o:Nat),Dz vx ds vs->Dz vx es us->o+es.length<=ds.length->Dz vx (write ds o es) (Sx.writeAt vs o us)
 |[],us,ds,vs,o,h,k,_=>by have:us=[]:=List.eq_nil_of_length_eq_zero k.1;subst this;exact h
 |d::es,us,ds,vs,o,h,k,hl=>by
  cases us with
  |nil=>have:=k.1;simp at this
  |cons u us =>
   have hd:Rep vx d u:=by obtain⟨u',hu',hr⟩:=k.2 0 d (by simp);simp at hu';subst hu';exact hr
   simp[write];simp at hl;refine N9 es us (ds.set o d) (vs.set o u) (o+1) ⟨by simp[h.1],λj e he =>?_⟩ ⟨by have:=k.1;simpa using this,λj e he=>by have:=k.2 (j+1) e (by simpa using he);simpa using this⟩ (by simp;omega);by_cases hj:o=j
   ·subst hj;have h1:o<ds.length:=by omega
    have h2:o<vs.length:=by rw[h.1];omega
    simp[h1] at he;subst he;exact⟨u,by simp[h2],hd⟩
   ·rw[List.getElem?_set_ne hj] at he;rw[List.getElem?_set_ne hj];exact h.2 j e he
theorem Ah7:∀(es ds:List D) (o:Nat),ds.all lf=true->es.all lf=true->(write ds o es).all lf=true
 |[],_,_,h,_=>h
 |d::es,ds,o,h,k=>by
  simp only[Zv1,Zb1] at k;refine Ah7 es (ds.set o d) (o+1) ?_ k.2;rw[Zg2] at h ⊢;intro x hx;rcases List.mem_or_eq_of_mem_set hx with h1|h1
  ·exact h x h1
  ·rw[h1];exact k.1
theorem Ae6:∀(us cs:List Value) (off i:Nat),(us.zipIdx i).foldl (λ(cs:Array Value) p=>cs.setIfInBounds (off+p.2) p.1) cs.toArray=(Sx.writeAt cs (off+i) us).toArray
 |[],_,_,_=>rfl
 |u::us,cs,off,i=>by simp;rw[Ae6 us (cs.set (off+i) u) off (i+1)];rfl
end
section
variable {R:Type}{px:Px R}{cx:Cx}
def Ayb:Op->Bool
 |.load _ _=>true
 |_=>false
def rdO(o:Oper)(env:Nat->Option D)(b:Nat):Prop:=∃k d,A1z o=some k/\env k=some d/\Ao9 d=some b
theorem Bpe{t:Ty}{v:Value}{d:D}(h:cst t v=some d):Ao9 d=none:=by
 unfold cst at h;split at h
 ·split at h
  ·simp at h;subst h;rfl
  ·cases h
 ·simp at h;subst h;rfl
 ·split at h
  ·simp at h;subst h;rfl
  ·cases h
 ·split at h
  ·simp at h;subst h;rfl
  ·cases h
 ·simp at h;subst h;rfl
 ·simp at h;subst h;rfl
 ·split at h
  ·split at h
   ·simp at h;subst h;rfl
   ·cases h
  ·cases h
 ·simp at h;subst h;rfl
theorem Bl5{o:Oper}{T:TypeId}{x:Operand}{env:Nat->Option D}{t b:Nat}{d:D}(ho:o.op = .load T x)(he:evF px env t x=some d)(hb:Ao9 d=some b):rdO o env b:=by cases x with|tmp k=>exact⟨k,d,by simp[A1z,ho],he,hb⟩|const v=>rw[Bpe he] at hb;cases hb|global g=>simp[evF] at he;subst he;cases hb|func f=>simp[evF] at he;subst he;cases hb
def Agr(o:Oper)(env:Nat->Option D)(bl:Nat->Option Blk)(s:FS):Prop:=∀b k,rdO o env b->bl b=some k->b<s.nb->s.bl b=some k
theorem Bei{bl:Nat->Option Blk}{s:FS}{m:Mp}{w:World}{t:Ty}{p d:D}{v:Value}(ha:∀b k,Ao9 p=some b->bl b=some k->b<s.nb->s.bl b=some k)(h:Aex px bl t p=some d)(hv:Rep (vx cx m s w) p v):Aex px s.bl t p=some d:=by
 cases p with
 |ptr b off =>simp[Aex] at h ⊢;cases hb:bl b with|none=>rw[hb] at h;cases h|some k=>rw[ha b k rfl hb hv.1,<-hb];exact h
 |rp b c n i =>simp[Aex] at h ⊢;cases hb:bl b with|none=>rw[hb] at h;cases h|some k=>rw[ha b k rfl hb hv.1,<-hb];exact h
 |_=>exact h
def A7u(cx:Cx)(px:Px R)(o:Oper)(env:Nat->Option D)(bl:Nat->Option Blk)(d:D):Prop :=∀(s:FS) (m:Mp) (a:Act) (as_:List Act) (w:World),(∀t x,x∈o.op.operands->evF px s.env t x=evF px env t x)->(Ayb o.op=true->Agr o env bl s)->Rel cx m a as_ s w->∃v,(execOp a.eval o).run cx.P w = .ok (.value v) w/\Rep (vx cx m s w) d v
theorem Fq{t:Ty}{c:Ck}(h:t.isSl c=true):t = .sl c:=by
 cases t<;>simp[Ty.isSl] at h
 rw[h]
theorem Gc{t:Ty}(h:t.isStr=true):t = .str:=by cases t<;>simp[Ty.isStr] at h;rfl
theorem Bc{o:Oper}{env:Nat->Option D}{bl:Nat->Option Blk}{d:D}(h:∀(s:FS) (m:Mp) (a:Act) (as_:List Act) (w:World),(∀t x,x∈o.op.operands->evF px s.env t x=evF px env t x)->(Ayb o.op=true->Agr o env bl s)->Rel cx m a as_ s w->∃v,Sx.Pure cx.P (Atm a) o.op v/\Rep (vx cx m s w) d v):A7u cx px o env bl d:=by intro s m a as_ w h1 h2 hr;obtain⟨v,hp,hv⟩:=h s m a as_ w h1 h2 hr;exact⟨v,hp _ ⟨a.tmps,[]⟩ w o (Asb (a:=⟨a.tmps,[]⟩) rfl) rfl,hv⟩
theorem A0{b:Bool}{x:Option R}{r:R}(h:chk b x=some r):b=true/\x=some r:=by
 cases b
 ·simp[chk] at h
 ·exact⟨rfl,by simpa[chk] using h⟩
theorem Avp{env:Nat->Option D}{x:Vx}{n:Nat}{df:List D}{a:Act}(he:EnvR x n df env a){st:St}{t:Nat}:∀{ps:List (Nat×Operand)}{l:List (Nat×D)},evps px st t ps=some l->(∀u o,o∈ps.map (·.2)->evF px env u o=ev px st u o) ->
  ∃vs:List (Nat×Value),ps.map (λp=>(p.1,a.eval p.2))=vs/\vs.length=l.length/\∀(j:Nat) f d,l[j]? = some (f,d)->∃v,vs[j]? = some (f,v)/\Rep x d v
 |[],l,h,_=>by simp[evps] at h;subst h;exact⟨[],rfl,rfl,by simp⟩
 |(i,o)::ps,l,h,hx=>by
  simp[evps] at h;split at h
  ·cases h
  ·rename_i d hd;split at h
   ·cases h
   ·rename_i l' hl;simp at h;subst h;obtain⟨vs,h1,h2,h3⟩:=Avp he hl (λu o' ho=>hx u o' (by simp[ho]));rw[<-hx _ o (by simp)] at hd;obtain⟨v,_,hv,hr⟩:=he.ev hd
    grind
theorem Ir{env:Nat->Option D}{x:Vx}{n:Nat}{df:List D}{a:Act}(he:EnvR x n df env a){st:St}:∀{xs:List Operand}{ts:List Nat}{ds:List D},evs px st ts xs=some ds->(∀u o,o∈xs->evF px env u o=ev px st u o)->∃vs,Sx.Env.evs (Atm a) xs=some vs/\xs.map a.eval=vs/\Reps x ds vs
 |[],ts,ds,h,_=>by simp[evs] at h;subst h;exact⟨[],rfl,rfl,by simp[Reps]⟩
 |o::xs,ts,ds,h,hx=>by
  simp[evs] at h;split at h
  ·cases h
  ·rename_i d hd;split at h
   ·cases h
   ·rename_i ds' hds;simp at h;subst h;obtain⟨vs,h1,h2,h3⟩:=Ir he hds (λu o' ho=>hx u o' (by simp[ho]));rw[<-hx _ o (by simp)] at hd;obtain⟨v,h4,h5,h6⟩:=he.ev hd;refine⟨v::vs,by simp[Sx.Env.evs,h4,h1],by simp[h5,h2],?_⟩;exact⟨v,vs,rfl,h6,h3⟩
theorem Abh{env:Nat->Option D}{x:Vx}{n:Nat}{df:List D}{a:Act}(he:EnvR x n df env a){st:St}:∀{ps:List (Nat×Operand)}{i:Nat}{ds:List D},Aov px st i ps=some ds->(∀u o,o∈ps.map (·.2)->evF px env u o=ev px st u o)->∃vs,ps.map (·.1)=List.range' i ds.length/\Sx.Env.evs (Atm a) (ps.map (·.2))=some vs/\(ps.map (·.2)).map a.eval=vs/\Reps x ds vs
 |[],i,ds,h,_=>by simp[Aov] at h;subst h;exact⟨[],rfl,rfl,rfl,by simp[Reps]⟩
 |(k,o)::ps,i,ds,h,hx=>by
  simp[Aov] at h;split at h
  ·rename_i hk;have hk:=Zl1 hk;subst hk;split at h
   ·cases h
   ·rename_i d hd;split at h
    ·cases h
    ·rename_i ds' hds;simp at h;subst h;obtain⟨vs,h0,h1,h2,h3⟩:=Abh he hds (λu o' ho=>hx u o' (by simp[ho]));rw[<-hx _ o (by simp)] at hd;obtain⟨v,h4,h5,h6⟩:=he.ev hd;refine⟨v::vs,by simp[h0,List.range'_succ],by simp[Sx.Env.evs,h4,h1],by simp[h5,h2],?_⟩;simp only[Reps];exact⟨v,vs,rfl,h6,h3⟩
  ·cases h
theorem Aq6{x:Vx}{s:Nat}{places:Array (Nat×Nat)}(hpl:∀f o u,Ast px s f=some (o,u)->u.known=true->places[f]? = some (o,u.n)):∀{l:List (Nat×D)}{z ds:List D}{zv:List Value}{vs:List (Nat×Value)},Aq9 px s z l=some ds->Dz x z zv->z.all lf=true->vs.length=l.length->(∀(j:Nat) f d,l[j]? = some (f,d)->∃v,vs[j]? = some (f,v)/\Rep x d v) ->
  ∃cs,Instr.fill (places[·]?) zv.toArray vs=some cs/\Dz x ds cs.toList/\ds.all lf=true
 |[],z,ds,zv,vs,h,hz,hl,hlen,_=>by simp[Aq9] at h;subst h;have:vs=[]:=List.eq_nil_of_length_eq_zero (by simpa using hlen);subst this;exact⟨zv.toArray,rfl,by simpa using hz,hl⟩
 |(f,d)::l,z,ds,zv,vs,h,hz,hl,hlen,hv=>by
  simp[Aq9] at h;split at h
  ·rename_i o u hf;split at h
   ·rename_i hc;simp only[Zb1] at hc;obtain⟨⟨⟨hc1,hc2⟩,hc3⟩,hc4⟩:=hc;have hc2:o+(cells d).length<=z.length:=by simpa using hc2
    cases vs with
    |nil=>simp at hlen
    |cons p vs =>
     obtain⟨v,hv0,hrep⟩:=hv 0 f d (by simp);simp[ Za1] at hv0;subst hv0;have hcr:=Mi hrep hc3;have hpl0:=hpl f o u hf hc4;obtain⟨cs,h1,h2,h3⟩:=Aq6 hpl (vs:=vs) (zv:=Sx.writeAt zv o v.cells.toList) h (N9 _ _ _ _ _ hz hcr hc2) (Ah7 _ _ _ hl hc3) (by simpa using hlen) (λj f' d' hj=>by have:=hv (j+1) f' d' (by simpa using hj);simpa using this);refine⟨cs,?_,h2,h3⟩;have hsz:v.cells.size=u.n:=by rw[<-(Zl1 hc1),<-hcr.1];simp
     have hle:¬(o+v.cells.size > zv.toArray.size):=by
      have h5:v.cells.size=(cells d).length:=by rw[<-hcr.1];simp
      simp[ hz.1];omega
     simp only[Instr.fill,hpl0,hsz,decide_false];rw[hsz] at hle;simp only[ hle];have hfw:=Ae6 v.cells.toList zv o 0;rw[Nat.add_zero] at hfw;rw[<-h1,<-hfw];congr 1;rw[<-Array.foldl_toList];simp
   ·cases h
  ·cases h
end
section
variable {R:Type}{px:Px R}{cx:Cx}
theorem K6(hp:PxOk cx px){s f o:Nat}{u:Ty}(h:Ast px s f=some (o,u)):∃c l z fds fd,px.tt s = .st c l z/\cx.P.underlying s=some (.struct fds)/\fds[f]? = some fd/\px.tt fd.type=u/\fd.offset=o/\Sx.fldOff cx.P s f=some o:=by
 unfold Ast at h;split at h
 ·rename_i c l z hty;split at h
  ·rename_i o' u' hl;simp at h;obtain⟨rfl,rfl⟩:=h;obtain⟨fds,hu,hfl,_⟩:=Aud (hp.tt s) hty;obtain⟨fd,h1,h2,h3,h4⟩:=Acv hfl hl;rw[Nat.zero_add] at h4;exact⟨c,l,z,fds,fd,hty,hu,by simpa using h1,by rw[h2],h3,h4⟩
  ·cases h
 ·cases h
theorem Btm(l:Str)(i:Int):E8 .u8 (bat l i)=true:=Bsa (by have:=(l.getD i.toNat 0).toNat_lt;simp only[bat];omega)
theorem Hz{i j:Int}{n:Nat}(h:upto i j n=true) : 0<=i/\i<=j/\j<=(n:Int):=by simpa[upto,and_assoc] using h
theorem K7{i:Int}{n:Nat}(h:inb i n=true) : 0<=i/\i<(n:Int):=by simpa[inb] using h
theorem Kh{env:Nat->Option D}{x:Vx}{n:Nat}{df:List D}{a:Act}(he:EnvR x n df env a){st:St}{o:Option Operand}{d:Option D}(h:evo px st o=some d)(hx:∀u y,o=some y->evF px env u y=ev px st u y):(o=none/\d=none)\/∃y e v,o=some y/\d=some e/\Sx.Env.ev (Atm a) y=some v/\Rep x e v:=by
 cases o with
 |none=>simp[evo] at h;exact .inl ⟨rfl,h.symm⟩
 |some y =>
  simp[evo] at h;split at h
  ·rename_i e he';simp at h;rw[<-hx _ y rfl] at he';obtain⟨v,h1,_,h3⟩:=he.ev he';exact .inr ⟨y,e,v,rfl,h.symm,h1,h3⟩
  ·cases h
theorem A34{K:D->Option R}{r:R}{l:Str}{lo hi:Option D}(h:A2o l lo hi K=some r):∃d,K d=some r/\∀{P:Program}{e:Sx.Env}{t:Nat}{x:Operand}{olo ohi:Option Operand}{vx:Vx},Sx.tyS P t=true->Sx.Env.ev e x=some (Sx.S l)->l.length<=maxLen->((olo=none/\lo=none)\/∃y d v,olo=some y/\lo=some d/\Sx.Env.ev e y=some v/\Rep vx d v)->((ohi=none/\hi=none)\/∃y d v,ohi=some y/\hi=some d/\Sx.Env.ev e y=some v/\Rep vx d v)->∃v,Sx.Pure P e (.slice t x olo ohi none) v/\Rep vx d v:=by
 unfold A2o at h;split at h
 ·rename_i k i;obtain⟨hb,hk⟩:=A0 h;refine⟨_,hk,λ{P e t x olo ohi vx} ht hx hml h1 h2 =>?_⟩;rcases h1 with ⟨_,h1⟩|⟨y,d,v,rfl,h1,hy,hr⟩
  ·cases h1
  rcases h2 with ⟨rfl,_⟩|⟨y',d',v',_,h2,_⟩
  ·simp at h1;subst h1;obtain rfl:=Rep.int hr;have:=Hz hb;exact⟨_,Sx.p_cutlo ht hx hy ⟨this.1,this.2.1⟩,Ke (by simp;omega)⟩
  ·cases h2
 ·rename_i k j;obtain⟨hb,hk⟩:=A0 h;refine⟨_,hk,λ{P e t x olo ohi vx} ht hx hml h1 h2 =>?_⟩;rcases h2 with ⟨_,h2⟩|⟨y,d,v,rfl,h2,hy,hr⟩
  ·cases h2
  rcases h1 with ⟨rfl,_⟩|⟨y',d',v',_,h1,_⟩
  ·simp at h2;subst h2;obtain rfl:=Rep.int hr;have:=Hz hb;exact⟨_,Sx.p_cuthi ht hx hy ⟨this.2.1,this.2.2⟩,Ke (by simp;omega)⟩
  ·cases h1
 ·rename_i k i k' j;obtain⟨hb,hk⟩:=A0 h;refine⟨_,hk,λ{P e t x olo ohi vx} ht hx hml h1 h2 =>?_⟩;rcases h1 with ⟨_,h1⟩|⟨y,d,v,rfl,h1,hy,hr⟩
  ·cases h1
  rcases h2 with ⟨_,h2⟩|⟨y',d',v',rfl,h2,hy',hr'⟩
  ·cases h2
  simp at h1 h2;subst h1;subst h2;obtain rfl:=Rep.int hr;obtain rfl:=Rep.int hr';exact⟨_,Sx.p_cut ht hx hy hy' (Hz hb),Ke (by simp[cut];omega)⟩
 ·cases h
theorem Aeg{P:Program}{e:Sx.Env}{t:Nat}{x:Operand}{olo ohi:Option Operand}{v u:Value}{vlo vhi:Option Value}(hx:Sx.Env.ev e x=some v)(h1:(olo=none/\vlo=none)\/∃y q,olo=some y/\vlo=some q/\Sx.Env.ev e y=some q)(h2:(ohi=none/\vhi=none)\/∃y q,ohi=some y/\vhi=some q/\Sx.Env.ev e y=some q)(hr:∀w,(Instr.sliceAt t v vlo vhi none).run P w = .ok u w):Sx.Pure P e (.slice t x olo ohi none) u:=λn a w o he ho=>by
 have e1:olo.map a.eval=vlo:=by
  rcases h1 with ⟨rfl,rfl⟩|⟨y,q,rfl,rfl,hy⟩
  ·rfl
  ·simp[he.ev hy]
 have e2:ohi.map a.eval=vhi:=by
  rcases h2 with ⟨rfl,rfl⟩|⟨y,q,rfl,rfl,hy⟩
  ·rfl
  ·simp[he.ev hy]
 simp[execOp,ho,he.ev hx,e1,e2,hr w]
theorem A2k{P:Program}{el:Ck->TypeId}{tt:Nat->Ty}{e:Sx.Env}{t:Nat}{x y z:Operand}{vx:Vx}{v:Value}{c:Ck}{l:List (El c)}{tk:Tk}{kj kk:IntKind}{j:Int}(ht:B8 P el tt t=true)(hty:tt t = .sl c)(hv:Rep vx (.sl c l tk) v)(hx:Sx.Env.ev e x=some v)(hy:Sx.Env.ev e y=some (.int kj j))(hz:Sx.Env.ev e z=some (.int kk j))(hb : 0<=j/\j<=l.length):∃u,Sx.Pure P e (.slice t x none (some y) (some z)) u/\Rep vx (.sl c (l.take j.toNat) .f) u:=by
 simp[Rep] at hv;obtain⟨a,cap,rfl,hf⟩:=Br hv.1;obtain⟨by_,hT,_,_⟩:=Cj ht hty;obtain⟨hu,i0,z0,hi0,hz0,hsz,_⟩:=hT;have hsz':Sx.tySz P (el c)=some (csz c):=by simp[Sx.tySz,hi0,hsz]
 have hjc : 0<=j/\j<=(cap:Int):=by
  rcases hf with rfl|⟨_,_,_,h,_⟩
  ·simp at hb;omega
  ·omega
 have hjj : 0<=j/\j<=(j.toNat:Int):=by omega
 have hlt:(l.take j.toNat).length=j.toNat:=by simp;omega
 have hr:∀w,(Instr.sliceAt t (.slice a l.length cap) none (some (.int kj j)) (some (.int kk j))).run P w = .ok (.slice (if j.toNat=0 then a else a.map (·.add (0*csz c))) j.toNat j.toNat) w:=λw=>by simp only[Instr.sliceAt,Instr.slice,Sem.run_bind,run_underlying hu,Result.andThen_ok,Instr.sliceBounds,Instr.sliceBound,asIntOf,Sem.run_pure,if_pos hjc,if_pos hjj,Sx.run_sizeOf hsz',Nat.sub_zero]
 refine⟨.slice (if j.toNat=0 then a else a.map (·.add (0*csz c))) j.toNat j.toNat,λn a' w o he ho =>?_,?_⟩
 ·simp[execOp,ho,he.ev hx,he.ev hy,he.ev hz,hr w]
 ·simp only[Rep];refine⟨Jl hlt.symm ?_,_,by rw[hlt]⟩;by_cases h0:l.take j.toNat=[]
  ·exact .inl h0
  ·rcases hf with rfl|⟨b,o,rfl,hc,hat⟩
   ·simp at h0
   ·refine .inr ⟨b,o,?_,⟨by rw[hlt];exact Zn1 _,by omega⟩,λi y hy w' hw =>?_⟩
    ·split
     ·rfl
     ·simp[Sx.add_mk]
    ·rw[List.getElem?_take] at hy;split at hy
     ·exact hat i y hy w' hw
     ·cases hy
theorem A4k{K:D->Option R}{r:R}{c:Ck}{l:List (El c)}{lo hi:Option D}(h:A4j c l lo hi K=some r):∃d,K d=some r/\∀{P:Program}{el:Ck->TypeId}{tt:Nat->Ty}{e:Sx.Env}{t:Nat}{x:Operand}{olo ohi:Option Operand}{vx:Vx}{v:Value}{tk:Tk},B8 P el tt t=true->tt t = .sl c->Rep vx (.sl c l tk) v->Sx.Env.ev e x=some v->((olo=none/\lo=none)\/∃y d v,olo=some y/\lo=some d/\Sx.Env.ev e y=some v/\Rep vx d v)->((ohi=none/\hi=none)\/∃y d v,ohi=some y/\hi=some d/\Sx.Env.ev e y=some v/\Rep vx d v)->∃u,Sx.Pure P e (.slice t x olo ohi none) u/\Rep vx d u:=by
 have key:∀(i j:Nat),i<=j->j<=l.length->∀{P:Program}{el:Ck->TypeId}{tt:Nat->Ty}{e:Sx.Env}{t:Nat}{x:Operand}{olo ohi:Option Operand}{vx:Vx}{v:Value}{tk:Tk}{vlo vhi:Option Value},B8 P el tt t=true->tt t = .sl c->Rep vx (.sl c l tk) v->Sx.Env.ev e x=some v->((olo=none/\vlo=none)\/∃y q,olo=some y/\vlo=some q/\Sx.Env.ev e y=some q)->((ohi=none/\vhi=none)\/∃y q,ohi=some y/\vhi=some q/\Sx.Env.ev e y=some q)->(∀cap w,l.length<=cap\/l=[]->(Instr.sliceBounds true l.length cap vlo vhi none).run P w = .ok (i,j,cap) w)->∃u,Sx.Pure P e (.slice t x olo ohi none) u/\Rep vx (.sl c ((l.drop i).take (j-i)) .no) u:=by
  intro i j hij hjl P el tt e t x olo ohi vx v tk vlo vhi ht hty hv hx h1 h2 hb;simp[Rep] at hv;obtain⟨a,cap,rfl,hf⟩:=Br hv.1;obtain⟨by_,hT,_,_⟩:=Cj ht hty;obtain⟨hu,i0,z,hi0,hz,hsz,_⟩:=hT;have hsz':Sx.tySz P (el c)=some (csz c):=by simp[Sx.tySz,hi0,hsz]
  have hcap:l.length<=cap\/l=[]:=by grind
  refine⟨_,Aeg hx h1 h2 (λw=>Ad4 (c:=c) hu hsz' (hb cap w hcap) rfl),?_⟩;simp[Rep];exact⟨Av6 hf hij hjl,trivial⟩
 have opt:∀{e:Sx.Env}{vx:Vx}{o:Option Operand}{d:Option D},((o=none/\d=none)\/∃y q v,o=some y/\d=some q/\Sx.Env.ev e y=some v/\Rep vx q v)->∀{k:IntKind}{n:Int},d=some (.int k n)->∃y q,o=some y/\some (Value.int k n)=some q/\Sx.Env.ev e y=some q:=by
  rintro e vx o d (⟨_,rfl⟩|⟨y,q,v,rfl,rfl,hy,hr⟩) k n hd
  ·cases hd
  ·simp at hd;subst hd;obtain rfl:=Rep.int hr;exact⟨y,_,rfl,rfl,hy⟩
 have optn:∀{e:Sx.Env}{vx:Vx}{o:Option Operand}{d:Option D},((o=none/\d=none)\/∃y q v,o=some y/\d=some q/\Sx.Env.ev e y=some v/\Rep vx q v)->d=none->o=none:=by grind
 unfold A4j at h;split at h
 ·refine⟨_,h,λ{P el tt e t x olo ohi vx v tk} ht hty hv hx h1 h2 =>?_⟩;have:=key 0 l.length (Nat.zero_le _) (Zn1 _) ht hty hv hx (.inl ⟨optn h1 rfl,rfl⟩) (.inl ⟨optn h2 rfl,rfl⟩) (λcap w _=>Axs);simpa using this
 ·rename_i k i;obtain⟨hb,hk⟩:=A0 h;have hb:=Hz hb;refine⟨_,hk,λ{P el tt e t x olo ohi vx v tk} ht hty hv hx h1 h2 =>?_⟩;have:=key i.toNat l.length (by omega) (Zn1 _) ht hty hv hx (.inr (opt h1 rfl)) (.inl ⟨optn h2 rfl,rfl⟩) (λcap w _=>Bkn ⟨hb.1,hb.2.1⟩);rwa[List.take_of_length_le (by simp)] at this
 ·rename_i k j;obtain⟨hb,hk⟩:=A0 h;have hb:=Hz hb;refine⟨_,hk,λ{P el tt e t x olo ohi vx v tk} ht hty hv hx h1 h2 =>?_⟩;have:=key 0 j.toNat (Nat.zero_le _) (by omega) ht hty hv hx (.inl ⟨optn h1 rfl,rfl⟩) (.inr (opt h2 rfl)) (λcap w hc=>Bgy (by rcases hc with hc|rfl<;>simp at * <;> omega));simpa using this
 ·rename_i k i k' j;obtain⟨hb,hk⟩:=A0 h;have hb:=Hz hb;refine⟨_,hk,λ{P el tt e t x olo ohi vx v tk} ht hty hv hx h1 h2 =>?_⟩;exact key i.toNat j.toNat (by omega) (by omega) ht hty hv hx (.inr (opt h1 rfl)) (.inr (opt h2 rfl)) (λcap w hc=>Av8 (by rcases hc with hc|rfl<;>simp at * <;> omega))
 ·cases h
theorem Q0{i j n:Int}(h:upI i j n=true) : 0<=i/\i<=j/\j<=n:=by simp[upI] at h;exact⟨h.1.1,h.1.2,h.2⟩
theorem Bkf{i n:Int}(h:inO i n=true) : 0<=i/\i<n:=by simpa[inO] using h
theorem A46{K:D->Option R}{r:R}{b:Nat}{c:Ck}{s n:Int}{lo hi:Option D}(h:A4r b c s n lo hi K=some r):∃d,K d=some r/\∀{P:Program}{el:Ck->TypeId}{tt:Nat->Ty}{e:Sx.Env}{t:Nat}{x:Operand}{olo ohi:Option Operand}{vx:Vx}{v:Value},B8 P el tt t=true->tt t = .sl c->Rep vx (.osl b c s n) v->Sx.Env.ev e x=some v->((olo=none/\lo=none)\/∃y d v,olo=some y/\lo=some d/\Sx.Env.ev e y=some v/\Rep vx d v)->((ohi=none/\hi=none)\/∃y d v,ohi=some y/\hi=some d/\Sx.Env.ev e y=some v/\Rep vx d v)->∃u,Sx.Pure P e (.slice t x olo ohi none) u/\Rep vx d u:=by
 have key:∀(i j:Int),0<=i->i<=j->j<=n->∀{P:Program}{el:Ck->TypeId}{tt:Nat->Ty}{e:Sx.Env}{t:Nat}{x:Operand}{olo ohi:Option Operand}{vx:Vx}{v:Value}{vlo vhi:Option Value},B8 P el tt t=true->tt t = .sl c->Rep vx (.osl b c s n) v->Sx.Env.ev e x=some v->((olo=none/\vlo=none)\/∃y q,olo=some y/\vlo=some q/\Sx.Env.ev e y=some q)->((ohi=none/\vhi=none)\/∃y q,ohi=some y/\vhi=some q/\Sx.Env.ev e y=some q)->(∀cap w,n.toNat<=cap->(Instr.sliceBounds true n.toNat cap vlo vhi none).run P w = .ok (i.toNat,j.toNat,cap) w)->∃u,Sx.Pure P e (.slice t x olo ohi none) u/\Rep vx (.osl b c (s+i) (j-i)) u:=by
  intro i j hi hij hjn P el tt e t x olo ohi vx v vlo vhi ht hty hv hx h1 h2 hb;simp only[Rep] at hv;obtain⟨g1,g2,g3,g4,a,cap,rfl,g5,g6,g7,cur,fz,g8,g9⟩:=hv;obtain⟨by_,hT,_,_⟩:=Cj ht hty;obtain⟨hu,i0,z,hi0,hz,hsz,_⟩:=hT;have hsz':Sx.tySz P (el c)=some (csz c):=by simp[Sx.tySz,hi0,hsz]
  refine⟨_,Aeg hx h1 h2 (λw=>Ad4 (c:=c) hu hsz' (hb cap w g6) rfl),?_⟩;simp only[Rep];refine⟨g1,by omega,by omega,by omega,_,cap-i.toNat,by rw[show j.toNat-i.toNat=(j-i).toNat by omega],?_,by omega,by omega,cur,fz,g8,by rw[g9];congr 1;omega⟩;rcases Int.le_iff_lt_or_eq.1 hij with hlt|heq
  ·right;rw[if_neg (by omega),(g5.resolve_left (by omega))];simp[ Sx.add_mk];rw[<-Nat.add_mul];congr 1;omega
  ·left;omega
 have opt:∀{e:Sx.Env}{vx:Vx}{o:Option Operand}{d:Option D},((o=none/\d=none)\/∃y q v,o=some y/\d=some q/\Sx.Env.ev e y=some v/\Rep vx q v)->∀{k:IntKind}{n:Int},d=some (.int k n)->∃y q,o=some y/\some (Value.int k n)=some q/\Sx.Env.ev e y=some q:=by
  rintro e vx o d (⟨_,rfl⟩|⟨y,q,v,rfl,rfl,hy,hr⟩) k n hd
  ·cases hd
  ·simp at hd;subst hd;obtain rfl:=Rep.int hr;exact⟨y,_,rfl,rfl,hy⟩
 have optn:∀{e:Sx.Env}{vx:Vx}{o:Option Operand}{d:Option D},((o=none/\d=none)\/∃y q v,o=some y/\d=some q/\Sx.Env.ev e y=some v/\Rep vx q v)->d=none->o=none:=by
  rintro e vx o d (⟨rfl,rfl⟩|⟨y,q,v,rfl,rfl,hy,hr⟩) hd
  ·rfl
  ·cases hd
 have nn:∀{vx:Vx}{v:Value},Rep vx (.osl b c s n) v->0<=n:=λh=>by simp[Rep] at h;exact h.2.2.1
 unfold A4r at h;split at h
 ·refine⟨_,h,λ{P el tt e t x olo ohi vx v} ht hty hv hx h1 h2 =>?_⟩;have:=key 0 n (Int.le_refl _) (nn hv) (Int.le_refl _) ht hty hv hx (.inl ⟨optn h1 rfl,rfl⟩) (.inl ⟨optn h2 rfl,rfl⟩) (λcap w _=>Axs);simpa using this
 ·rename_i k i;obtain⟨hb,hk⟩:=A0 h;have hb:=Q0 hb;refine⟨_,hk,λ{P el tt e t x olo ohi vx v} ht hty hv hx h1 h2 =>?_⟩;exact key i n hb.1 hb.2.1 (Int.le_refl _) ht hty hv hx (.inr (opt h1 rfl)) (.inl ⟨optn h2 rfl,rfl⟩) (λcap w _=>Bkn (by omega))
 ·rename_i k j;obtain⟨hb,hk⟩:=A0 h;have hb:=Q0 hb;refine⟨_,hk,λ{P el tt e t x olo ohi vx v} ht hty hv hx h1 h2 =>?_⟩;have:=key 0 j (Int.le_refl _) hb.2.1 hb.2.2 ht hty hv hx (.inl ⟨optn h1 rfl,rfl⟩) (.inr (opt h2 rfl)) (λcap w hc=>Bgy (by omega));simpa using this
 ·rename_i k i k' j;obtain⟨hb,hk⟩:=A0 h;have hb:=Q0 hb;refine⟨_,hk,λ{P el tt e t x olo ohi vx v} ht hty hv hx h1 h2 =>?_⟩;exact key i j hb.1 hb.2.1 hb.2.2 ht hty hv hx (.inr (opt h1 rfl)) (.inr (opt h2 rfl)) (λcap w hc=>Av8 (by omega))
 ·cases h
end
section
variable {R:Type}{px:Px R}{cx:Cx}
theorem Atv{P:Program}{el:Ck->TypeId}{tt:Nat->Ty}{e:Sx.Env}{vx:Vx}{b:Builtin}{xs:List Operand}{ts:Array Nat}{ds:List D}{vs:List Value}{d:D}(ht:B8 P el tt (ts.toList.headD 0)=true)(h:Z1 (tt (ts.toList.headD 0)) b ds=some d)(hx:Sx.Env.evs e xs=some vs)(hr:Reps vx ds vs)(hts:b = .len->ts = #[ts.toList.headD 0]):∃v,Sx.Pure P e (.call ⟨.builtin b,xs.toArray,ts⟩) v/\Rep vx d v:=by
 have one:∀{d1:D},ds=[d1]->∃x v,xs=[x]/\Sx.Env.ev e x=some v/\Rep vx d1 v:=by
  rintro d1 rfl;simp only[Reps] at hr;obtain⟨u,us,rfl,h1,rfl⟩:=hr;cases xs with
  |nil=>simp[Sx.Env.evs] at hx
  |cons x xs =>
   simp[Sx.Env.evs] at hx;cases hv:Sx.Env.ev e x with
   |none=>simp[hv] at hx
   |some v =>
    rw[hv] at hx;cases hw:Sx.Env.evs e xs with
    |none=>simp[hw] at hx
    |some us =>
     simp[hw] at hx;obtain⟨rfl,rfl⟩:=hx;cases xs with
     |nil=>grind
     |cons y ys =>
      simp[Sx.Env.evs] at hw;cases h2:Sx.Env.ev e y<;>simp[h2] at hw
      cases h3:Sx.Env.evs e ys<;>simp[h3] at hw
 have two:∀{d1 d2:D},ds=[d1,d2]->∃x y v u,xs=[x,y]/\Sx.Env.ev e x=some v/\Sx.Env.ev e y=some u/\Rep vx d1 v/\Rep vx d2 u:=by
  rintro d1 d2 rfl;simp only[Reps] at hr;obtain⟨u1,us1,rfl,h1,u2,us2,rfl,h2,rfl⟩:=hr;cases xs with
  |nil=>simp[Sx.Env.evs] at hx
  |cons x xs =>
   simp[Sx.Env.evs] at hx;cases hv:Sx.Env.ev e x with
   |none=>simp[hv] at hx
   |some v =>
    rw[hv] at hx;cases xs with
    |nil=>simp[Sx.Env.evs] at hx
    |cons y xs =>
     simp[Sx.Env.evs] at hx;cases hv2:Sx.Env.ev e y with
     |none=>simp[hv2] at hx
     |some v2 =>
      rw[hv2] at hx;cases xs with
      |nil=>grind
      |cons z zs =>
       simp[Sx.Env.evs] at hx;cases h3:Sx.Env.ev e z<;>simp[h3] at hx
       cases h4:Sx.Env.evs e zs<;>simp[h4] at hx
 unfold Z1 at h;split at h
 ·split at h
  ·rename_i hs;simp at h;subst h;obtain⟨x,v,rfl,hv,hr1⟩:=one rfl;obtain rfl:=Rep.str hr1;rw[hts rfl];exact⟨_,Sx.p_lens (Gz ht (Gc hs)) hv,C2 (P3 hr1.strLen)⟩
  ·cases h
 ·split at h
  ·rename_i c l t hs;simp at h;subst h;obtain⟨x,v,rfl,hv,hr1⟩:=one rfl;simp[Rep] at hr1;obtain⟨a,cap,rfl,_⟩:=Br hr1.1;obtain⟨by_,hT,_⟩:=Cj ht (Fq hs);rw[hts rfl];exact⟨_,Sx.p_lensl (by unfold Sx.tySl;rw[hT.und]) hv,C2 (P3 hr1.1.here.len)⟩
  ·cases h
 ·split at h
  ·rename_i n _ hs;simp at h;subst h;obtain⟨x,v,rfl,hv,hr1⟩:=one rfl;simp[Rep] at hr1;obtain⟨_,h1,h2,h3,a,cap,rfl,_⟩:=hr1;obtain⟨by_,hT,_⟩:=Cj ht (Fq hs);rw[hts rfl];have h4:=Sx.p_lensl (by unfold Sx.tySl;rw[hT.und]) hv;have h5:=P3 (show n.toNat<=maxLen by omega);rw[Int.toNat_of_nonneg h2] at h4 h5;exact⟨_,h4,C2 h5⟩
  ·cases h
 ·split at h
  ·rename_i k x k' y hk;simp at hk;subst hk;simp at h;subst h;obtain⟨o1,o2,v1,v2,rfl,h1,h2,r1,r2⟩:=two rfl;obtain rfl:=Rep.int r1;obtain rfl:=Rep.int r2;refine⟨_,Bwb h1 h2,C2 ?_⟩;unfold min2;split
   ·exact r2.u8
   ·exact r1.u8
  ·cases h
 ·split at h
  ·rename_i k x k' y hk;simp at hk;subst hk;simp at h;subst h;obtain⟨o1,o2,v1,v2,rfl,h1,h2,r1,r2⟩:=two rfl;obtain rfl:=Rep.int r1;obtain rfl:=Rep.int r2;refine⟨_,Bwl h1 h2,C2 ?_⟩;unfold max2;split
   ·exact r2.u8
   ·exact r1.u8
  ·cases h
 ·cases h
theorem Btz{P:Program}{e:Sx.Env}{vx:Vx}{op:UnOp}{t:Nat}{x:Operand}{a d:D}{v:Value}(h:un op a=some d)(hx:Sx.Env.ev e x=some v)(hr:Rep vx a v):∃u,Sx.Pure P e (.unOp op t x) u/\Rep vx d u:=by
 unfold un at h;split at h<;>simp only[Za1,reduceCtorEq] at h
 ·subst h;obtain rfl:=Rep.bool hr;exact⟨_,Sx.p_not hx,Bo _⟩
 ·subst h;obtain rfl:=Rep.int hr;exact⟨_,Sx.p_neg hx,C2 (Yh _ _)⟩
 ·subst h;obtain rfl:=Rep.int hr;exact⟨_,Bs4 hx,C2 (Yh _ _)⟩
theorem A0o{c:Ck}:∀{n:Nat}{ds:List D}{xs:List (El c)},Bdk c n ds=some xs->xs.length=n/\∀(i:Nat) y,xs[i]? = some y->dec c ((ds.drop (i*csz c)).take (csz c))=some y
 |0,[],xs,h=>by simp[Bdk] at h;subst h;exact⟨rfl,by simp⟩
 |0,_::_,xs,h=>by simp[Bdk] at h
 |n+1,ds,xs,h=>by
  simp[Bdk] at h;split at h
  ·rename_i x hx;split at h
   ·rename_i xs' hxs;simp at h;subst h;obtain⟨h1,h2⟩:=A0o hxs;refine⟨by simp[h1],λi y hy =>?_⟩;cases i with|zero=>grind|succ i =>have:=h2 i y (by simpa using hy);rw[List.drop_drop] at this;rw[Nat.succ_mul,Nat.add_comm (i*csz c)];exact this
   ·cases h
  ·cases h
theorem Rep.tup{x:Vx}{ds:List D}{v:Value}(h:Rep x (.tup ds) v):∃vs:List Value,v = .tuple vs.toArray/\Reps x ds vs:=by simp[Rep] at h;exact h
theorem Aqp{α β:Type}(f : α->Option β)(g : α->β):∀(l:List α),(∀x,x∈l->f x=some (g x))->l.mapM f=some (l.map g)
 |[],_=>rfl
 |x::l,h=>by simp[ h x (by simp),Aqp f g l (λy hy=>h y (by simp[hy]))]
theorem Aph{P:Program}{t:TypeId}{n:Nat}(h:Sx.tySz P t=some n):∃i,P.info? t=some i/\i.size=n:=by unfold Sx.tySz at h;cases hi:P.info? t with|none=>rw[hi] at h;cases h|some i=>rw[hi] at h;simp at h;exact⟨i,rfl,h⟩
theorem Kq{P:Program}{t:TypeId}{zs:List Value}(h:Sx.tyZero P t=some zs):∃i z,P.info? t=some i/\i.zero=some z/\z.cells=zs.toArray:=by
 unfold Sx.tyZero at h;cases hi:P.info? t with
 |none=>rw[hi] at h;cases h
 |some i =>rw[hi] at h;cases hz:i.zero with|none=>simp[hz] at h|some z=>simp[hz] at h;exact⟨i,z,rfl,hz,by rw[<-h]⟩
theorem Anx{P:Program}{t:Nat}{fds:Array Field}(hu:P.underlying t=some (.struct fds)):∀(l1:List Field) (l2:List (Nat×Nat)) (i:Nat),Vg P t i l1 l2=true->(∀(j:Nat) fd,l1[j]? = some fd->fds[i+j]? = some fd)->∀fd,fd∈l1->∃n,Sx.tySz P fd.type=some n
 |[],_,_,_,_,fd,hfd=>by simp at hfd
 |f::l1,[],_,hb,_,_,_=>by simp[Vg] at hb
 |f::l1,p::l2,i,hb,hg,fd,hfd=>by
  simp[Vg] at hb;simp at hfd;rcases hfd with rfl|hfd
  ·have h0:=hb.1.1.2;have hg0:=hg 0 fd (by simp);rw[Nat.add_zero] at hg0;unfold Sx.fldOff at h0;rw[hu] at h0;simp[hg0] at h0;split at h0
   ·exact⟨_,by assumption⟩
   ·cases h0
  ·exact Anx hu l1 l2 (i+1) hb.2 (λj fd' hj=>by have:=hg (j+1) fd' (by simpa using hj);rwa[show i+(j+1)=i+1+j by omega] at this) fd hfd
theorem Bgc(hp:PxOk cx px){x:Vx}{t:Nat}{c:Option Ck}{l:List (Nat×Nat)}{z:List D}(hty:px.tt t = .st c l z){l':List (Nat×D)}{ds:List D}(hds:Aq9 px t z l' = some ds){vs:List (Nat×Value)}(h2:vs.length=l'.length)(h3:∀(j:Nat) f d,l'[j]? = some (f,d)->∃v,vs[j]? = some (f,v)/\Rep x d v):∃cs:Array Value,cx.P.built t vs=some cs/\Rep x (.agg ds) (.agg cs):=by
 obtain⟨fds,hu,hfl,_⟩:=Aud (hp.tt t) hty;obtain⟨zs,hz1,hz2⟩:=R8 (hp.tt t) (by rw[hty];simp) (z :=.agg z) (by rw[hty];rfl);obtain⟨hz3,hz4⟩:=Rp (x:=x) hz2;have hz3:Dz x z zs:=Gs hz3;have hsome:=Anx hu fds.toList l 0 hfl (λj fd hj=>by simpa using hj);have hpl:fds.toList.mapM (λf=>(cx.P.info? f.type).map λi=>(f.offset,i.size))=some (fds.toList.map λf=>(f.offset,(Sx.tySz cx.P f.type).getD 0)):=Aqp _ _ _ λfd hfd=>by obtain⟨n,hn⟩:=hsome fd hfd;obtain⟨i,hi,rfl⟩:=Aph hn;simp[hi,Sx.tySz]
 obtain⟨cs,hf1,hf2,hf3⟩:=Aq6 (px:=px) (x:=x) (s:=t) (places:=(fds.toList.map λf=>(f.offset,(Sx.tySz cx.P f.type).getD 0)).toArray) (λf o' u hf hk=>by
  obtain⟨_,_,_,fds',fd,_,hu',hfd,htt,hoff,_⟩:=K6 hp hf;rw[hu] at hu';simp at hu';subst hu';have hsz:=(Dp (hp.tt fd.type) (by rw[htt];exact(Eu hk).1)).2.2;have hfd':fds.toList[f]? = some fd:=by simpa using hfd
  have hfd2:fds[f]? = some fd:=hfd;simp[hfd2,hsz,htt,hoff]) hds hz3 hz4 h2 h3
 obtain⟨i,zv,hi,hz,hzc⟩:=Kq hz1;refine⟨cs,?_,?_⟩
 ·unfold Program.built;simp only[hi,hu,hz,hpl,hzc];exact hf1
 ·simp only[Rep];exact⟨hf3,cs.toList,by simp,hf2.reps⟩
theorem Ag5{x:Vx}{c:Ck}:∀{l:List D}{vs:List Value},Reps x l vs->(l.all λd=>lfs d&&Nat.beq (cells d).length (csz c))=true->Dz x ((l.map cells).flatten) (vs.flatMap λv=>v.cells.toList)/\((l.map cells).flatten).all lf=true/\∀v,v∈vs->v.cells.size=csz c
 |[],vs,hr,_=>by simp[Reps] at hr;subst hr;exact⟨⟨rfl,by simp⟩,rfl,by simp⟩
 |d::l,vs,hr,hl=>by
  simp[Reps] at hr;obtain⟨u,us,rfl,h1,h2⟩:=hr;simp only[Zv1,Zb1] at hl;obtain⟨i1,i2,i3⟩:=Ag5 h2 (by simpa using hl.2);have hc:=Mi h1 hl.1.1;have hn:=Zl1 hl.1.2;refine⟨?_,?_,?_⟩
  ·simp;exact Gs (hc.reps.append i1.reps)
  ·simp only[Zw1,Zz1,List.all_append,Zb1];exact⟨hl.1.1,i2⟩
  ·intro v hv;simp at hv;rcases hv with rfl|hv
   ·have:=hc.1;simpa[hn] using this
   ·exact i3 v hv
theorem Reps.cut2{x:Vx}:∀{A B:List D}{vs:List Value},Reps x (A++B) vs->∃us ws,vs=us++ws/\Reps x A us/\Reps x B ws
 |[],B,vs,h=>⟨[],vs,rfl,by simp[Reps],h⟩
 |d::A,B,vs,h=>by simp at h;obtain⟨u,us,rfl,h1,h2⟩:=h;obtain⟨us',ws,rfl,h3,h4⟩:=Reps.cut2 h2;exact⟨u::us',ws,rfl,by simp only[Reps];exact⟨u,us',rfl,h1,h3⟩,h4⟩
theorem Bc1(hp:PxOk cx px){x:Vx}{t n k:Nat}{c:Ck}(hty:px.tt t = .arr n c){l:List D}{vs:List Value}(hn:k+l.length=n)(hl:(l.all λd=>lfs d&&Nat.beq (cells d).length (csz c))=true)(hr:Reps x l vs):∃cs:Array Value,cx.P.built t ((List.range' k vs.length).zip vs)=some cs/\Rep x (.agg ((List.replicate k (enc c (zer c))).flatten++(l.map cells).flatten)) (.agg cs):=by
 obtain⟨hu,hsz,_,_⟩:=Qc (hp.tt t) hty;obtain⟨zs,hz1,hz2⟩:=R8 (hp.tt t) (by rw[hty];simp) (z :=.agg ((List.replicate n (enc c (zer c))).flatten)) (by rw[hty];rfl);obtain⟨i,zv,hi,hz,hzc⟩:=Kq hz1;obtain⟨ie,hie,hies⟩:=Aph hsz;obtain⟨h1,h2,h3⟩:=Ag5 (c:=c) hr hl;obtain⟨hz3,hz4⟩:=Rp (x:=x) hz2;have e:(cells (.agg ((List.replicate n (enc c (zer c))).flatten)))=(List.replicate k (enc c (zer c))).flatten++(List.replicate l.length (enc c (zer c))).flatten:=by simp[cells];rw[<-List.flatten_append,List.replicate_append_replicate,hn]
 rw[e] at hz3 hz4;obtain⟨pre,post,rfl,hz5,hz6⟩:=hz3.cut2;have hpre:pre.length=k*csz c:=by rw[hz5.len];simp[ Bu]
 have hpost:post.length=vs.length*csz c:=by rw[hz6.len,hr.len];simp[ Bu]
 have hfill:=Sx.fill_all (csz c) vs k pre post h3 hpre (by omega);refine⟨(pre++vs.flatMap λv=>v.cells.toList).toArray,?_,?_⟩
 ·unfold Program.built;simp[hi,hu,hz,hie,hzc,hies];have hd:post.drop (vs.length*csz c)=[]:=Zk1 (by omega);rw[hd,List.append_nil] at hfill;simpa using hfill
 ·simp only[Rep];simp only[List.all_append,Zb1] at hz4 ⊢;exact⟨⟨hz4.1,h2⟩,_,rfl,hz5.append h1.reps⟩
theorem A8o{ps:List (Nat×Operand)}{vs:List Value}{a:Act}{k:Nat}(h0:ps.map (·.1)=List.range' k vs.length)(h2:(ps.map (·.2)).map a.eval=vs):(ps.map λp=>match p with|(i,x)=>(i,a.eval x))=(List.range' k vs.length).zip vs:=by grind
set_option maxHeartbeats 1000000 in
theorem Ac0(hp:PxOk cx px){o:Oper}{st:St}{K:D->Option R}{r:R}(hts:∀b xs ts,o.op = .call ⟨.builtin b,xs,ts⟩->b = .len->ts = #[ts.toList.headD 0])(h:U3 px o st K=some r):∃d,K d=some r/\A7u cx px o (get st.env) (blk st.bl) d:=by
 unfold U3 at h;split at h
 ·
  rename_i x ho;split at h
  ·rename_i d hd;refine⟨d,h,Bc λs m a as_ w hx _ hr =>?_⟩;rw[Av,<-hx _ x (by simp[ho,Op.operands])] at hd;obtain⟨v,h1,_,h3⟩:=hr.env.ev hd;exact⟨v,by rw[ho];exact Sx.p_move h1,h3⟩
  ·cases h
 ·
  rename_i x ho;split at h
  ·rename_i d hd;refine⟨d,h,Bc λs m a as_ w hx _ hr =>?_⟩;rw[Av,<-hx _ x (by simp[ho,Op.operands])] at hd;obtain⟨v,h1,_,h3⟩:=hr.env.ev hd;exact⟨v,by rw[ho];exact Sx.p_assign h1,h3⟩
  ·cases h
 ·
  rename_i c x y ho;split at h
  ·rename_i q u v hc hu hv;refine⟨cond q u v,by cases q<;>exact h,Bc λs m a as_ w hx _ hr =>?_⟩;rw[Av,<-hx _ c (by simp[ho,Op.operands])] at hc;rw[Av,<-hx _ x (by simp[ho,Op.operands])] at hu;rw[Av,<-hx _ y (by simp[ho,Op.operands])] at hv;obtain⟨v1,h1,_,h3⟩:=hr.env.ev hc;obtain⟨v2,h4,_,h6⟩:=hr.env.ev hu;obtain⟨v3,h7,_,h9⟩:=hr.env.ev hv;obtain rfl:=Rep.bool h3;cases q with|true=>exact⟨v2,by rw[ho];exact Sx.p_pick_t h1 h4,h6⟩|false=>exact⟨v3,by rw[ho];exact Sx.p_pick_f h1 h7,h9⟩
  ·cases h
 ·
  rename_i t ps ho;have hmem:∀q,q∈ps.toList.map (·.2)->q∈o.op.operands:=λq hq=>by rw[ho];simpa[Op.operands] using hq
  split at h
  ·rename_i c l z hty;split at h
   ·rename_i l' hl;split at h
    ·rename_i ds hds;refine⟨_,h,λs m a as_ w hx _ hr =>?_⟩;obtain⟨vs,h1,h2,h3⟩:=Avp hr.env hl (λu q hq=>by rw[Av];exact hx u q (hmem q hq));obtain⟨cs,h4,h5⟩:=Bgc hp hty hds h2 h3;refine⟨.agg cs,?_,h5⟩;have hpl:(ps.map λp=>match p with|(i,x)=>(i,a.eval x))=vs.toArray:=by apply Array.ext';simpa using h1
     simp[execOp,ho,Sem.run_bind,hpl,run_build w t vs.toArray cs (by simpa using h4),Result.andThen_ok,Sem.run_pure]
    ·cases h
   ·cases h
  ·rename_i n c hty;split at h
   ·rename_i l hl;split at h
    ·rename_i hc;simp only[Zb1] at hc;refine⟨_,h,λs m a as_ w hx _ hr =>?_⟩;obtain⟨vs,h0,h1,h2,h3⟩:=Abh hr.env hl (λu q hq=>by rw[Av];exact hx u q (hmem q hq));obtain⟨cs,h4,h5⟩:=Bc1 hp hty (Zl1 hc.1) hc.2 h3;refine⟨.agg cs,?_,h5⟩;have hpl:(ps.map λp=>match p with|(i,x)=>(i,a.eval x))=((List.range' (Bgn ps.toList) vs.length).zip vs).toArray:=by apply Array.ext';rw[Array.toList_map];exact A8o (by rw[h0,h3.len]) h2
     simp[execOp,ho,Sem.run_bind,hpl,run_build w t ((List.range' (Bgn ps.toList) vs.length).zip vs).toArray cs h4,Result.andThen_ok,Sem.run_pure]
    ·cases h
   ·cases h
  ·cases h
 ·
  rename_i t x ho;split at h
  ·rename_i g hpv;split at h
   ·rename_i l hty hgl;refine⟨_,h,λs m a as_ w hx _ hr =>?_⟩;rw[Av,<-hx _ x (by simp[ho,Op.operands])] at hpv;obtain⟨v,_,h2,h3⟩:=hr.env.ev hpv;simp[Rep] at h3;subst h3;obtain⟨r,es,clk,h4,h5⟩:=hr.glb.2.1 g l (by rw[<-hp.gl];exact hgl);refine⟨.map (some r),?_,by simp only[Rep];exact⟨r,es,clk,rfl,λw' hw=>(h4 w' hw).2,h5⟩⟩;simp[execOp,ho,h2,Instr.loadAt,Instr.sureAddr,Sem.run_bind,Sem.run_pure,Result.andThen_ok,Agn (hp.tt t) (by rw[hty];simp) (by rw[hty];rfl) (h4 w (Chg.refl _ _)).1]
   ·cases h
  ·rename_i b c i hpv;split at h
   ·rename_i c' xs hbl;split at h
    ·rename_i hc;simp only[Zb1,beq_iff_eq,Zg1] at hc;obtain⟨⟨⟨h1,h2⟩,rfl⟩,h4⟩:=hc;obtain⟨hib,hk⟩:=A0 h;refine⟨_,hk,λs m a as_ w hx hb hr =>?_⟩;rw[Av] at hpv;have hrd:=Bl5 (b:=b) ho hpv rfl;rw[<-hx _ x (by simp[ho,Op.operands])] at hpv;obtain⟨v,_,h5,h6⟩:=hr.env.ev hpv;simp[Rep] at h6;obtain⟨hlt,rfl,_⟩:=h6;have hsb:=hb (by rw[ho];rfl) b _ hrd hbl hlt;obtain⟨_,_,vs,ty,hh,hlen,hreps⟩:=hr.blks b _ hsb;obtain⟨u,h7,h8⟩:=Bs0 (x:=vx cx m s w) (w:=w) (hp.tt t) (Eu h4).1 (Zl1 h1) h2 hh hlen hreps (K7 hib);refine⟨u,?_,h8⟩;simp[execOp,ho,h5,vx,Instr.loadAt,Instr.sureAddr,Sem.run_bind,Sem.run_pure,Result.andThen_ok,h7]
    ·cases h
   ·cases h
  ·rename_i p hne hne2 hpv;split at h
   ·rename_i d hk hd;refine⟨d,h,λs m a as_ w hx hb hr =>?_⟩;rw[Av] at hpv;have hrd:∀b,Ao9 p=some b->rdO o (get st.env) b:=λb hb=>Bl5 ho hpv hb;rw[<-hx _ x (by simp[ho,Op.operands])] at hpv;obtain⟨v,h1,h2,h3⟩:=hr.env.ev hpv;rw[A6c] at hd;have hd:=Bei (λb k hbk=>hb (by rw[ho];rfl) b k (hrd b hbk)) hd h3;obtain⟨u,h4,h5⟩:=Aqq hp hr hk hd h3;refine⟨u,?_,h5⟩;simp[execOp,ho,h2,Sem.run_bind,h4,Result.andThen_ok,Sem.run_pure]
   ·cases h
  ·cases h
 ·
  rename_i x ho;have run:∀{d:D}{v:Value}(s:FS) (m:Mp) (a:Act) (w:World),a.eval x=v->Rep (vx cx m s w) d v->((∃p,v = .pointer (some p))\/∃f cs,v = .func (.func f) #[] cs)->(execOp a.eval o).run cx.P w = .ok (.value v) w:=by
   intro d v s m a w hv _ hh;rcases hh with ⟨p,rfl⟩|⟨f,cs,rfl⟩
   ·simp[execOp,ho,hv,Sem.run_pure]
   ·simp[execOp,ho,hv,Sem.run_pure]
  split at h
  ·rename_i b o' he;refine⟨_,h,λs m a as_ w hx _ hr =>?_⟩;rw[Av,<-hx _ x (by simp[ho,Op.operands])] at he;obtain⟨v,_,h2,h3⟩:=hr.env.ev he;exact⟨v,run s m a w h2 h3 (.inl (by simp[Rep] at h3;exact⟨_,h3.2⟩)),h3⟩
  ·rename_i c y o' he;refine⟨_,h,λs m a as_ w hx _ hr =>?_⟩;rw[Av,<-hx _ x (by simp[ho,Op.operands])] at he;obtain⟨v,_,h2,h3⟩:=hr.env.ev he;exact⟨v,run s m a w h2 h3 (.inl (by simp[Rep] at h3;obtain⟨b,o2,h4,_⟩:=h3;exact⟨_,h4⟩)),h3⟩
  ·rename_i g he;refine⟨_,h,λs m a as_ w hx _ hr =>?_⟩;rw[Av,<-hx _ x (by simp[ho,Op.operands])] at he;obtain⟨v,_,h2,h3⟩:=hr.env.ev he;exact⟨v,run s m a w h2 h3 (.inl (by simp[Rep] at h3;exact⟨_,h3⟩)),h3⟩
  ·rename_i b c n i he;refine⟨_,h,λs m a as_ w hx _ hr =>?_⟩;rw[Av,<-hx _ x (by simp[ho,Op.operands])] at he;obtain⟨v,_,h2,h3⟩:=hr.env.ev he;exact⟨v,run s m a w h2 h3 (.inl (by simp[Rep] at h3;exact⟨_,h3.2.1⟩)),h3⟩
  ·rename_i b c i he;refine⟨_,h,λs m a as_ w hx _ hr =>?_⟩;rw[Av,<-hx _ x (by simp[ho,Op.operands])] at he;obtain⟨v,_,h2,h3⟩:=hr.env.ev he;exact⟨v,run s m a w h2 h3 (.inl (by simp[Rep] at h3;exact⟨_,h3.2.1⟩)),h3⟩
  ·rename_i f cs he;refine⟨_,h,λs m a as_ w hx _ hr =>?_⟩;rw[Av,<-hx _ x (by simp[ho,Op.operands])] at he;obtain⟨v,_,h2,h3⟩:=hr.env.ev he;exact⟨v,run s m a w h2 h3 (.inr (by simp[Rep] at h3;obtain⟨vs,h4,_⟩:=h3;exact⟨_,_,h4⟩)),h3⟩
  ·cases h
 ·
  rename_i op t x y t' ho;split at h
  ·rename_i p q hpx hqy;split at h
   ·rename_i c d hb;obtain⟨hc,hk⟩:=A0 h;refine⟨d,hk,Bc λs m a as_ w hx _ hr =>?_⟩;rw[Av,<-hx _ x (by simp[ho,Op.operands])] at hpx;rw[Av,<-hx _ y (by simp[ho,Op.operands])] at hqy;obtain⟨v1,h1,_,h3⟩:=hr.env.ev hpx;obtain⟨v2,h4,_,h6⟩:=hr.env.ev hqy;rw[ho];exact Bqt (hp.tt t) hb hc h1 h4 h3 h6
   ·cases h
  ·cases h
 ·
  rename_i op t x ho;split at h
  ·rename_i p hpx;split at h
   ·rename_i d hd;refine⟨d,h,Bc λs m a as_ w hx _ hr =>?_⟩;rw[Av,<-hx _ x (by simp[ho,Op.operands])] at hpx;obtain⟨v1,h1,_,h3⟩:=hr.env.ev hpx;rw[ho];exact Btz hd h1 h3
   ·cases h
  ·cases h
 ·
  rename_i q t x ho;split at h
  ·rename_i k n k' hpx hty;split at h
   ·rename_i hk;refine⟨_,h,Bc λs m a as_ w hx _ hr =>?_⟩;rw[Av,<-hx _ x (by simp[ho,Op.operands])] at hpx;obtain⟨v1,h1,_,h3⟩:=hr.env.ev hpx;obtain rfl:=Rep.int h3;rw[ho];exact⟨_,Sx.p_conv k' (Dp (hp.tt q) (Eu hk).1).1 (Ala (hp.tt t) hty) h1,C2 (Yh _ _)⟩
   ·cases h
  ·rename_i l hpx hty;split at h
   ·rename_i hk;refine⟨_,h,Bc λs m a as_ w hx _ hr =>?_⟩;rw[Av,<-hx _ x (by simp[ho,Op.operands])] at hpx;obtain⟨v1,h1,_,h3⟩:=hr.env.ev hpx;obtain rfl:=Rep.str h3;rw[ho];exact⟨_,Bam (Dp (hp.tt q) (Eu hk).1).1 (Gz (hp.tt t) hty) h1,Ke h3.strLen⟩
   ·cases h
  ·rename_i xs tk hpx hty;split at h
   ·rename_i hk;refine⟨_,h,λs m a as_ w hx _ hr =>?_⟩;rw[Av,<-hx _ x (by simp[ho,Op.operands])] at hpx;obtain⟨v1,h1,_,h3⟩:=hr.env.ev hpx;exact⟨_,Axc (vx:=vx cx m s w) (hp.tt q) (hp.tt t) (Fq hk) hty h3 _ ⟨a.tmps,[]⟩ o (Asb (a:=⟨a.tmps,[]⟩) rfl) h1 ho,Ke (by simp[Rep] at h3;exact h3.1.here.len)⟩
   ·cases h
  ·cases h
 ·
  rename_i t x lo hi ho;split at h
  ·rename_i d i j hd hi' hj';have hmx:x∈o.op.operands:=by simp[ho,Op.operands]
   have hml:∀y,lo=some y->y∈o.op.operands:=λy hy=>by simp[ho,Op.operands,hy]
   have hmh:∀y,hi=some y->y∈o.op.operands:=λy hy=>by simp[ho,Op.operands,hy]
   unfold Bh6 at h;split at h
   ·rename_i l;split at h
    ·rename_i hs;obtain⟨d',hk,hrun⟩:=A34 h;refine⟨d',hk,Bc λs m a as_ w hx _ hr =>?_⟩;rw[Av,<-hx _ x hmx] at hd;obtain⟨v1,h1,_,h3⟩:=hr.env.ev hd;obtain rfl:=Rep.str h3;rw[ho];exact hrun (Gz (hp.tt t) (Gc hs)) h1 h3.strLen (Kh hr.env hi' λu y hy=>by rw[Av];exact hx u y (hml y hy)) (Kh hr.env hj' λu y hy=>by rw[Av];exact hx u y (hmh y hy))
    ·cases h
   ·rename_i c l tk;split at h
    ·rename_i hs;obtain⟨d',hk,hrun⟩:=A4k h;refine⟨d',hk,Bc λs m a as_ w hx _ hr =>?_⟩;rw[Av,<-hx _ x hmx] at hd;obtain⟨v1,h1,_,h3⟩:=hr.env.ev hd;rw[ho];exact hrun (hp.tt t) (Fq hs) h3 h1 (Kh hr.env hi' λu y hy=>by rw[Av];exact hx u y (hml y hy)) (Kh hr.env hj' λu y hy=>by rw[Av];exact hx u y (hmh y hy))
    ·cases h
   ·rename_i b c s0 n;split at h
    ·rename_i hs;obtain⟨d',hk,hrun⟩:=A46 h;refine⟨d',hk,Bc λs m a as_ w hx _ hr =>?_⟩;rw[Av,<-hx _ x hmx] at hd;obtain⟨v1,h1,_,h3⟩:=hr.env.ev hd;rw[ho];exact hrun (hp.tt t) (Fq hs) h3 h1 (Kh hr.env hi' λu y hy=>by rw[Av];exact hx u y (hml y hy)) (Kh hr.env hj' λu y hy=>by rw[Av];exact hx u y (hmh y hy))
    ·cases h
   ·rename_i g;split at h
    ·rename_i c xs n c' hgl hty;split at h
     ·rename_i hc;simp only[Zb1,Zg1] at hc;obtain⟨⟨hc1,rfl⟩,hc2⟩:=hc;have hc1:=Zl1 hc1;have hc2:n<=1048576:=Nat.le_of_ble_eq_true hc2;refine⟨_,h,Bc λs m a as_ w hx _ hr =>?_⟩;rw[Av,<-hx _ x hmx] at hd;obtain⟨v1,h1,_,h3⟩:=hr.env.ev hd;simp[Rep] at h3;subst h3;obtain⟨hu,hsz,_,_⟩:=Qc (hp.tt t) hty;have hlo:lo=none:=by
       rcases Kh hr.env hi' (λu y hy=>by rw[Av];exact hx u y (hml y hy)) with ⟨h,_⟩|⟨_,_,_,_,h,_⟩
       ·exact h
       ·cases h
      have hhi:hi=none:=by
       rcases Kh hr.env hj' (λu y hy=>by rw[Av];exact hx u y (hmh y hy)) with ⟨h,_⟩|⟨_,_,_,_,h,_⟩
       ·exact h
       ·cases h
      subst hlo;subst hhi;rw[ho];refine⟨_,Sx.p_slicex h1 (u :=.slice (some ⟨g,0,none⟩) n n) (λw =>?_),?_⟩
      ·simp[Instr.sliceAt,Sem.run_bind,run_underlying hu,Result.andThen_ok,Instr.sureAddr,Sem.run_pure,A9z,Sx.run_sizeOf hsz,Nat.zero_mul,Nat.sub_zero,Sx.add_mk,Nat.zero_add,ite_self]
      ·simp[Rep];refine⟨Jl hc1.symm (.inr ⟨g,0,rfl,⟨by omega,by simp[maxLen];omega⟩,λi y hy w' hw =>?_⟩),trivial⟩;rw[Nat.zero_add];exact hr.glb.1 g c xs (by rw[<-hp.gl];exact hgl) i y hy w' hw
     ·cases h
    ·cases h
   ·cases h
  ·cases h
 ·
  rename_i t x y z ho;split at h
  ·rename_i c l tk kj j kk k hx0 hy0 hz0;split at h
   ·rename_i hs;simp only[Zb1,Zg1] at hs;obtain⟨hs,rfl⟩:=hs;obtain⟨hb,hk⟩:=A0 h;have hb:=Hz hb;refine⟨_,hk,Bc λs m a as_ w hx _ hr =>?_⟩;rw[Av,<-hx _ x (by simp[ho,Op.operands])] at hx0;rw[Av,<-hx _ y (by simp[ho,Op.operands])] at hy0;rw[Av,<-hx _ z (by simp[ho,Op.operands])] at hz0;obtain⟨v1,h1,_,h3⟩:=hr.env.ev hx0;obtain⟨v2,h4,_,h5⟩:=hr.env.ev hy0;obtain⟨v3,h6,_,h7⟩:=hr.env.ev hz0;obtain rfl:=Rep.int h5;obtain rfl:=Rep.int h7;rw[ho];exact A2k (hp.tt t) (Fq hs) h3 h1 h4 h6 ⟨by omega,by omega⟩
   ·cases h
  ·cases h
 ·
  rename_i q x f ho;split at h
  ·rename_i b o' fo u hpx hf;refine⟨_,h,Bc λs m a as_ w hx _ hr =>?_⟩;rw[Av,<-hx _ x (by simp[ho,Op.operands])] at hpx;obtain⟨v1,h1,_,h3⟩:=hr.env.ev hpx;simp[Rep] at h3;obtain⟨h3a,rfl⟩:=h3;obtain⟨_,_,_,_,_,_,_,_,_,_,hfo⟩:=K6 hp hf;rw[ho];refine⟨_,Sx.p_fa (by simpa using hfo) h1,?_⟩;simp only[Rep];exact⟨h3a,trivial⟩
  ·rename_i c y o' fo u hpx hf;refine⟨_,h,Bc λs m a as_ w hx _ hr =>?_⟩;rw[Av,<-hx _ x (by simp[ho,Op.operands])] at hpx;obtain⟨v1,h1,_,h3⟩:=hr.env.ev hpx;simp[Rep] at h3;obtain⟨b,o2,rfl,hat⟩:=h3;obtain⟨_,_,_,_,_,_,_,_,_,_,hfo⟩:=K6 hp hf;rw[ho];refine⟨_,Sx.p_fa (by simpa using hfo) h1,?_⟩;simp only[Rep];exact⟨b,o2,by rw[Nat.add_assoc],hat⟩
  ·cases h
 ·
  rename_i q x f ho;split at h
  ·rename_i d fo u hpx hf;split at h
   ·rename_i v hc hpart;simp[Zb1] at hc;refine⟨v,h,λs m a as_ w hx _ hr =>?_⟩;rw[Av,<-hx _ x (by simp[ho,Op.operands])] at hpx;obtain⟨v1,_,h2,h3⟩:=hr.env.ev hpx;obtain⟨_,_,_,fds,fd,_,hu,hfd,htt,hoff,_⟩:=K6 hp hf;have hcr:=Mi h3 hc.1.2;have hagg:∃vs:List Value,v1 = .agg vs.toArray:=by
     cases d<;>simp at hc<;>simp[Rep] at h3
     ·obtain⟨_,vs,rfl,_⟩:=h3;exact⟨vs,rfl⟩
     ·obtain⟨_,vs,rfl,_⟩:=h3;exact⟨vs,rfl⟩
    obtain⟨vs,rfl⟩:=hagg;subst htt;have hcr:Dz (vx cx m s w) (cells d) vs:=by simpa[Value.cells] using hcr
    obtain⟨u',h4,h5⟩:=Bib (w:=w) (hp.tt fd.type) (Eu hc.1.1).1 hpart hcr hc.1.2;refine⟨u',?_,h5⟩;subst hoff;simp[execOp,ho,Instr.field,h2,Sem.run_bind,run_underlying hu,hfd,asAgg,Sem.run_pure,Result.andThen_ok,h4]
   ·cases h
  ·cases h
 ·
  rename_i t x y ho;split at h
  ·rename_i c xs tk k i hpx hpy;split at h
   ·rename_i hs;obtain⟨hc,hk⟩:=A0 h;refine⟨_,hk,Bc λs m a as_ w hx _ hr =>?_⟩;rw[Av,<-hx _ x (by simp[ho,Op.operands])] at hpx;rw[Av,<-hx _ y (by simp[ho,Op.operands])] at hpy;obtain⟨v1,h1,_,h3⟩:=hr.env.ev hpx;obtain⟨v2,h4,_,h6⟩:=hr.env.ev hpy;obtain rfl:=Rep.int h6;rw[ho];exact Btc (hp.tt t) (Fq hs) h3 h1 h4 hc
   ·cases h
  ·rename_i g k i hpx hpy;split at h
   ·rename_i c xs n c' hgl hty;split at h
    ·rename_i hc;simp only[Zb1,Zg1] at hc;obtain⟨hc1,rfl⟩:=hc;have hc1:=Zl1 hc1;obtain⟨hb,hk⟩:=A0 h;have hb:=K7 hb;refine⟨_,hk,λs m a as_ w hx _ hr =>?_⟩;rw[Av,<-hx _ x (by simp[ho,Op.operands])] at hpx;rw[Av,<-hx _ y (by simp[ho,Op.operands])] at hpy;obtain⟨v1,_,h2,h3⟩:=hr.env.ev hpx;obtain⟨v2,_,h5,h6⟩:=hr.env.ev hpy;obtain rfl:=Rep.int h6;simp[Rep] at h3;subst h3;obtain⟨hu,hsz,_,_⟩:=Qc (hp.tt t) hty;refine⟨.pointer (some ⟨g,0+i.toNat*csz c,none⟩),?_,?_⟩
     ·simp[execOp,ho,h2,h5,Sem.run_bind,Ajz hu hsz hb,Result.andThen_ok,Sem.run_pure]
     ·simp[Rep];refine⟨g,i.toNat*csz c,by simp,λw' hw =>?_⟩;exact hr.glb.1 g c xs (by rw[<-hp.gl];exact hgl) _ _ (Xp (by rw[hc1];exact hb)) w' hw
    ·cases h
   ·cases h
  ·rename_i b k i hpx hpy;split at h
   ·rename_i c n' xs n c' hbl hty;split at h
    ·rename_i hc;simp only[Zb1,Zg1] at hc;obtain⟨rfl,hc1⟩:=hc;have hc1:=Zl1 hc1;subst hc1;obtain⟨hb,hk⟩:=A0 h;have hb:=K7 hb;refine⟨_,hk,λs m a as_ w hx _ hr =>?_⟩;rw[Av,<-hx _ x (by simp[ho,Op.operands])] at hpx;rw[Av,<-hx _ y (by simp[ho,Op.operands])] at hpy;obtain⟨v1,_,h2,h3⟩:=hr.env.ev hpx;obtain⟨v2,_,h5,h6⟩:=hr.env.ev hpy;obtain rfl:=Rep.int h6;simp[Rep] at h3;obtain⟨h3a,rfl⟩:=h3;obtain⟨hu,hsz,_,_⟩:=Qc (hp.tt t) hty;refine⟨.pointer (some ⟨m.bl b,0+i.toNat*csz c,none⟩),?_,?_⟩
     ·simp[execOp,ho,h2,h5,Sem.run_bind,vx,Ajz hu hsz hb,Result.andThen_ok,Sem.run_pure]
     ·simp[Rep];exact⟨h3a,by simp[vx],hb⟩
    ·cases h
   ·cases h
  ·rename_i b c s0 n k i hpx hpy;split at h
   ·rename_i hs;obtain⟨hc,hk⟩:=A0 h;have hc:=Bkf hc;refine⟨_,hk,Bc λs m a as_ w hx _ hr =>?_⟩;rw[Av,<-hx _ x (by simp[ho,Op.operands])] at hpx;rw[Av,<-hx _ y (by simp[ho,Op.operands])] at hpy;obtain⟨v1,h1,_,h3⟩:=hr.env.ev hpx;obtain⟨v2,h4,_,h6⟩:=hr.env.ev hpy;obtain rfl:=Rep.int h6;simp[Rep] at h3;obtain⟨g1,g2,g3,g4,ad,cap,rfl,g5,g6,g7⟩:=h3;obtain rfl:=g5.resolve_left (by omega);obtain⟨by_,hT,_,_⟩:=Cj (hp.tt t) (Fq hs);obtain⟨hu,i0,z,hi0,hz,hsz,_⟩:=hT;have helsz:(Sx.elSz cx.P t == some (csz c))=true:=by simp[Sx.elSz,hu,Sx.tySz,hi0,hsz]
    rw[ho];refine⟨_,Sx.p_ia helsz h1 h4 (by omega),?_⟩;simp[Rep];exact⟨g1,by rw[<-Nat.add_mul,show s0.toNat+i.toNat=(s0+i).toNat by omega],by omega⟩
   ·cases h
  ·cases h
 ·
  rename_i t x y ho;split at h
  ·rename_i l k i hpx hpy;split at h
   ·rename_i hs;obtain⟨hc,hk⟩:=A0 h;refine⟨_,hk,Bc λs m a as_ w hx _ hr =>?_⟩;rw[Av,<-hx _ x (by simp[ho,Op.operands])] at hpx;rw[Av,<-hx _ y (by simp[ho,Op.operands])] at hpy;obtain⟨v1,h1,_,h3⟩:=hr.env.ev hpx;obtain⟨v2,h4,_,h6⟩:=hr.env.ev hpy;obtain rfl:=Rep.int h6;obtain rfl:=Rep.str h3;rw[ho];exact⟨_,Sx.p_index (Gz (hp.tt t) (Gc hs)) h1 h4 (K7 hc),C2 (Btm _ _)⟩
   ·cases h
  ·rename_i ds k i hpx hpy;split at h
   ·rename_i n c hty;split at h
    ·rename_i xs hxs;obtain⟨hb,hk⟩:=A0 h;have hb:=K7 hb;refine⟨_,hk,λs m a as_ w hx _ hr =>?_⟩;rw[Av,<-hx _ x (by simp[ho,Op.operands])] at hpx;rw[Av,<-hx _ y (by simp[ho,Op.operands])] at hpy;obtain⟨v1,_,h2,h3⟩:=hr.env.ev hpx;obtain⟨v2,_,h5,h6⟩:=hr.env.ev hpy;obtain rfl:=Rep.int h6;simp[Rep] at h3;obtain⟨_,vs,rfl,hreps⟩:=h3;obtain⟨hu,hsz,hsm,hag⟩:=Qc (hp.tt t) hty;obtain⟨hlen,hget⟩:=A0o hxs;have hdec:=hget _ _ (Xp (by rw[hlen];exact hb));obtain⟨g1,g2⟩:=A6e (Qf hdec ((Gs hreps).sub (i.toNat*csz c) (csz c)).reps);cases ha:agg? c with
     |true =>refine⟨_,?_,g1 ha⟩;have hia:(isAgg (cx.el c)).run cx.P w = .ok true w:=Sx.run_isAgg (by simp[hsm,hag,ha]) w;simp only[execOp,ho,h2,h5,Instr.index,asIntOf,Sem.run_bind,Sem.run_pure,Result.andThen_ok,run_underlying hu,if_pos hb,Sx.run_sizeOf hsz,Go.part,hia,if_true];congr 3;apply Array.ext';simp[List.take_drop]
     |false =>
      obtain⟨v,hv,hrep⟩:=g2 ha;refine⟨v,?_,hrep⟩;have hia:(isAgg (cx.el c)).run cx.P w = .ok false w:=Sx.run_isAgg (by simp[hsm,hag,ha]) w;have h1:csz c=1:=by cases c<;>simp[agg?] at ha<;>rfl
      have hv':vs.toArray[i.toNat*csz c]? = some v:=by have:=congrArg (·[0]?) hv;rw[h1] at this ⊢;simpa[List.getElem?_take,List.getElem?_drop] using this
      simp only[execOp,ho,h2,h5,Instr.index,asIntOf,Sem.run_bind,Sem.run_pure,Result.andThen_ok,run_underlying hu,if_pos hb,Sx.run_sizeOf hsz,Go.part,hia,Zj2,if_false,hv']
    ·cases h
   ·cases h
  ·cases h
 ·
  rename_i t x y ho;split at h
  ·rename_i l i hpx hpy hty;refine⟨_,h,λs m a as_ w hx _ hr =>?_⟩;rw[Av,<-hx _ x (by simp[ho,Op.operands])] at hpx;rw[Av,<-hx _ y (by simp[ho,Op.operands])] at hpy;obtain⟨v1,_,h2,h3⟩:=hr.env.ev hpx;obtain⟨v2,_,h5,h6⟩:=hr.env.ev hpy;obtain rfl:=Rep.int h6;simp only[Rep] at h3;obtain⟨r,es,clk,rfl,h7,h8⟩:=h3;obtain⟨kt,e,inf,hu,huk,hi,hz⟩:=Bkb (hp.tt t) hty;have hzv:(zeroValue e).run cx.P w = .ok (Sx.S []) w:=by simp[zeroValue,typeInfo,go_sem,hi,hz]
   have hik:MapKept.IsKey (.int .i64) (.int .i64 i):=by simp[MapKept.IsKey]
   obtain⟨hlen,hf⟩:=h8 i;refine⟨Sx.S (U0 l i),?_,Ke hlen⟩;have hrun:(Instr.lookup t (.map (some r)) (.int .i64 i) false).run cx.P w = .ok (Sx.S (U0 l i)) w:=by
    rcases hf with ⟨hf,hm⟩|⟨j,hf⟩
    ·rw[hm];simp[Instr.lookup,run_underlying hu,MapKept.run_getObj_map (h7 w (Chg.refl _ _)),MapKept.run_checkKey huk hik,MapKept.run_findKey huk hf,hzv,Result.andThen]
    ·simp[Instr.lookup,run_underlying hu,MapKept.run_getObj_map (h7 w (Chg.refl _ _)),MapKept.run_checkKey huk hik,MapKept.run_findKey huk hf,Result.andThen,Sx.S]
   simp[execOp,ho,h2,h5,Sem.run_bind,hrun,Result.andThen_ok,Sem.run_pure]
  ·cases h
 ·
  rename_i x i ho;split at h
  ·rename_i ds hpx;split at h
   ·rename_i d hd;refine⟨d,h,Bc λs m a as_ w hx _ hr =>?_⟩;rw[Av,<-hx _ x (by simp[ho,Op.operands])] at hpx;obtain⟨v1,h1,_,h3⟩:=hr.env.ev hpx;obtain⟨vs,rfl,hreps⟩:=Rep.tup h3;obtain⟨v,hv,hrep⟩:=hreps.get hd;rw[ho];exact⟨v,Sx.p_extract h1 (by rw[Sx.nth_eq];exact hv),hrep⟩
   ·cases h
  ·cases h
 ·
  rename_i f cs ho;split at h
  ·rename_i ds hds;refine⟨_,h,λs m a as_ w hx _ hr =>?_⟩;obtain⟨vs,_,h2,h3⟩:=Ir hr.env hds (λu q hq=>by rw[Av];exact hx u q (by simp[ho,Op.operands,hq]));refine⟨.func (.func f) #[] vs.toArray,?_,by simp only[Rep];exact⟨vs,rfl,h3⟩⟩;have e2:(Array.mk cs).map a.eval=vs.toArray:=by apply Array.ext';simpa using h2
   have e3:(Array.mk ([]:List Operand)).map a.eval = #[]:=by apply Array.ext';simp
   simp[execOp,ho,Instr.makeFunc,Sem.run_bind,Sem.run_pure,Result.andThen_ok,e2,e3]
  ·cases h
 ·
  rename_i f c cs ho;split at h
  ·rename_i ds hds;refine⟨_,h,λs m a as_ w hx _ hr =>?_⟩;obtain⟨vs,_,h2,h3⟩:=Ir hr.env hds (λu q hq=>by rw[Av];exact hx u q (by rw[ho];simpa[Op.operands] using hq));refine⟨.func (.func f) vs.toArray #[],?_,by simp only[Rep];exact⟨vs,rfl,h3⟩⟩;have e2:(Array.mk (c::cs)).map a.eval=vs.toArray:=by apply Array.ext';simpa using h2
   have e3:(Array.mk ([]:List Operand)).map a.eval = #[]:=by apply Array.ext';simp
   simp[execOp,ho,Instr.makeFunc,Sem.run_bind,Sem.run_pure,Result.andThen_ok,e2,e3]
  ·cases h
 ·
  rename_i b xs ts ho;split at h
  ·rename_i ds hds;split at h
   ·rename_i d hd;refine⟨d,h,Bc λs m a as_ w hx _ hr =>?_⟩;obtain⟨vs,h1,_,h3⟩:=Ir hr.env hds (λu q hq=>by rw[Av];exact hx u q (by rw[ho];simpa[Op.operands,Call.operands] using hq));rw[ho];have:=Atv (P:=cx.P) (vx:=vx cx m s w) (hp.tt _) hd h1 h3 (hts b xs ts ho);simpa using this
   ·cases h
  ·cases h
 ·cases h
end
end Go.Ax
namespace Go.Sx
open Go.RowKit
def YI(P:Program)(ops:Array Oper)(I:World->Prop)(o:Oper)(v:Value)(a:Act):Prop :=(Region.wanted o (yielded ops a.tmps)=true/\∀w,I w->(∃w',(execOp a.eval o).run P w = .ok (.value v) w'/\I w')\/(∃f args w',(execOp a.eval o).run P w = .ok (.enter f args) w'/\Calls P f args w' λen w''=>en = .returned v/\I w''))\/(Region.wanted o (yielded ops a.tmps)=false/\v=undef)
section
variable {P:Program}{ops:Array Oper}{I:World->Prop}
theorem YI.put{o:Oper}{v:Value}{a:Act}(hs:∀cs b,o.op ≠ .select cs b){d:Option Nat}{u:Value}(h3:∀x,d=some x->x∉o.looksAt ops):YI P ops I o v (a.put d u)↔YI P ops I o v a:=by unfold YI;rw[execOp_put o hs a d u h3,wanted_put o a d u h3]
theorem YI.wpOp{i:Nat}{o:Oper}{v:Value}{a:Act}{w:World}{K:Act->World->Prop}{Q:Exit->Act->World->Prop}(hi:ops[i]? = some o)(hy:YI P ops I o v a)(hw:I w)(h:∀w',I w'->K (a.put o.dst v) w'):wpOp P ops Q i K a w:=by
 unfold Go.wpOp;simp[hi];rcases hy with ⟨hwt,hr⟩|⟨hwt,rfl⟩
 ·simp[hwt];left;unfold Oper.wp;rcases hr w hw with ⟨w',hr,hI⟩|⟨f,args,w',hr,hc⟩
  ·rw[hr];exact h w' hI
  ·rw[hr];simp[Oper.upon];refine hc.mono λen w'' hen =>?_;obtain⟨rfl,hI⟩:=hen;exact h w'' hI
 ·grind
def Bvd(P:Program)(ops:Array Oper)(I:World->Prop)(K:Act->Prop):List Oper->Act->Prop
 |[],a=>K a
 |o::r,a=>∃v,YI P ops I o v a/\Bvd P ops I K r (a.put o.dst v)
theorem getD_two{listed:Array Bool}{i:Nat}(hi:i<listed.size):listed.getD i false=listed.getD i true:=by simp[hi]
end
structure T (cx:Cx) (ops:Array Oper) (l:List Oper) (k:List KI) (e:Env) (L:Loc) (F:World->Prop) (Q:Exit->Act->World->Prop):Prop where
 run:∀a,EnvOk cx.n e a->Bvd cx.P ops (StOk cx L F) (λa'=>∀w,StOk cx L F w->D2 cx.P Q k .normal a' w) l a
section
variable {cx:Cx}{k:List KI}{e:Env}{L:Loc}{F:World->Prop}{Q:Exit->Act->World->Prop}{ops:Array Oper}{rest:List Oper}
end
end Go.Sx
namespace Go.Ax
open Go.RowKit
abbrev FW(ro:Option Nat):Fence:={ Fence.wide with round:=ro }
theorem I8{ro:Option Nat}{ρ:Operand->Value}{o:Oper}{P:Program}{w w':World}{n:Next}(h:(execOp ρ o).run P w = .ok n w')(hn:∀d,n ≠ .defer d):(o.semAt ro ρ).run P w = .ok n w':=by
 rw[Oper.semAt_eq _ _ _ λc hc =>?_]
 ·exact h
 ·simp only[execOp,hc,Sem.run_bind] at h;cases hr:(resolve ρ c o.type).run P w with|ok d w1 =>rw[hr] at h;simp[Result.andThen] at h;exact hn d h.1.symm|halt x w1 =>rw[hr] at h;simp[Result.andThen] at h
def Y4(P:Program)(a:Act)(w:World)(o:Oper)(K:Act->World->Prop):Prop :=
 (∃v w',(execOp a.eval o).run P w = .ok (.value v) w'/\K (a.put o.dst v) w')\/(∃w',(execOp a.eval o).run P w = .ok .skip w'/\K (a.put o.dst undef) w') \/
 ∃f args w1,(execOp a.eval o).run P w = .ok (.enter f args) w1/\Calls P f args w1 λen w'=>∃v,en = .returned v/\K (a.put o.dst v) w'
theorem Y4.wp{ro:Option Nat}{P:Program}{a:Act}{w:World}{o:Oper}{K:Act->World->Prop}{Q:Exit->Act->World->Prop}(h:Y4 P a w o K):o.wpIn (FW ro) 0 P a w K Q:=by
 refine⟨λ_ _=>trivial,?_⟩;rcases h with ⟨v,w',h,hk⟩|⟨w',h,hk⟩|⟨f,args,w1,h,hk⟩
 ·rw[I8 h (λ_=>nofun)];exact hk
 ·rw[I8 h (λ_=>nofun)];exact hk
 ·rw[I8 h (λ_=>nofun)];refine⟨nofun,callsIn_wide.2 (hk.mono ?_)⟩;rintro en w' ⟨v,rfl,hk⟩;exact hk
theorem Y4.mono{P:Program}{a:Act}{w:World}{o:Oper}{K K':Act->World->Prop}(h:Y4 P a w o K)(hk:∀a w,K a w->K' a w):Y4 P a w o K':=by
 rcases h with ⟨v,w',h,h1⟩|⟨w',h,h1⟩|⟨f,args,w1,h,h1⟩
 ·exact .inl ⟨v,w',h,hk _ _ h1⟩
 ·exact .inr (.inl ⟨w',h,hk _ _ h1⟩)
 ·refine .inr (.inr ⟨f,args,w1,h,h1.mono ?_⟩);rintro en w' ⟨v,e,h2⟩;exact⟨v,e,hk _ _ h2⟩
def Akc(P:Program)(a:Act)(w:World)(o:Oper)(K:Act->World->Prop):Prop :=
 Y4 P a w o K\/(∃d w',(execOp a.eval o).run P w = .ok (.defer d) w'/\K ({ a with defers:=d::a.defers }.put o.dst undef) w') \/
 ∃l f tmps asg body w1,(execOp a.eval o).run P w = .ok (.round l f tmps asg body) w1/\RoundIn Fence.wide 0 P l f tmps asg body w1 λen w'=>∃v,en = .returned v/\K (a.put o.dst v) w'
def Afq(ro:Option Nat)(o:Oper):Bool:=match ro,o.op with|some _,.defer _=>false|_,_=>true
theorem Akc.wp{ro:Option Nat}{P:Program}{a:Act}{w:World}{o:Oper}{K:Act->World->Prop}{Q:Exit->Act->World->Prop}(hc:Afq ro o=true)(h:Akc P a w o K):o.wpIn (FW ro) 0 P a w K Q:=by
 rcases h with h|⟨d,w',h,hk⟩|⟨l,f,tmps,asg,body,w1,h,hk⟩
 ·exact h.wp
 ·refine⟨λ_ _=>trivial,?_⟩;have e:o.semAt ro a.eval=execOp a.eval o:=by cases ro with|none=>rfl|some l =>refine Oper.semAt_eq _ _ _ λc ho =>?_;simp[Afq,ho] at hc
  show Oper.uponIn (FW ro) 0 P o a K Q ((o.semAt ro a.eval).run P w);rw[e,h];exact hk
 ·refine⟨λ_ _=>trivial,?_⟩;rw[I8 h (λ_=>nofun)];refine⟨nofun,RoundIn.mono hk ?_⟩;rintro en w' ⟨v,rfl,hk⟩;exact hk
theorem Akc.mono{P:Program}{a:Act}{w:World}{o:Oper}{K K':Act->World->Prop}(h:Akc P a w o K)(hk:∀a w,K a w->K' a w):Akc P a w o K' :=h.imp (λh=>h.mono hk) λh=>h.imp (λ⟨d,w',h1,h2⟩=>⟨d,w',h1,hk _ _ h2⟩) λ⟨l,f,tmps,asg,body,w1,h1,h2⟩=>⟨l,f,tmps,asg,body,w1,h1,h2.mono λ_ _ ⟨v,e,h3⟩=>⟨v,e,hk _ _ h3⟩⟩
def Bd3(P:Program)(ops:Array Oper)(o:Oper)(a:Act)(w:World)(K:Act->World->Prop):Prop :=(Region.wanted o (yielded ops a.tmps)=true/\Y4 P a w o K)\/(Region.wanted o (yielded ops a.tmps)=false/\K (a.put o.dst undef) w)
theorem Bd3.wpOp{ro:Option Nat}{P:Program}{ops:Array Oper}{o:Oper}{a:Act}{w:World}{K:Act->World->Prop}{Q:Exit->Act->World->Prop}{i:Nat}(hi:ops[i]? = some o)(h:Bd3 P ops o a w K):wpOpIn (FW ro) 0 P ops Q i K a w:=by
 unfold Go.wpOpIn;simp only[hi];rcases h with ⟨h1,h2⟩|⟨h1,h2⟩
 ·rw[if_pos h1];exact h2.wp
 ·rw[if_neg (by rw[h1];simp)];exact⟨λ_ _=>trivial,h2⟩
theorem Bd3.mono{P:Program}{ops:Array Oper}{o:Oper}{a:Act}{w:World}{K K':Act->World->Prop}(h:Bd3 P ops o a w K)(hk:∀a w,K a w->K' a w):Bd3 P ops o a w K' :=h.imp (λh=>⟨h.1,h.2.mono hk⟩) (λh=>⟨h.1,hk _ _ h.2⟩)
def isW(o:Oper):Bool:=match o.op with|.store _ _ _|.alloc _|.box _ _|.makeSlice _ _ _=>true|.call ⟨.builtin .append,_,_⟩=>true|.call ⟨.builtin .copy,_,_⟩=>true|.call ⟨.value (.func f),_,_⟩ => !Agg f|.call ⟨.value _,_,_⟩=>true|_=>false
def Dc(s t:FS):Prop:=s.bl=t.bl/\s.nb=t.nb/\s.al=t.al/\s.nt=t.nt
def A2(o:Oper)(t s:FS):FS:={ s with
 env:=match o.dst with|some k=>λj=>if j=k then t.env k else s.env j|none=>s.env
 bl:=if isW o then t.bl else s.bl
 nb:=if isW o then t.nb else s.nb
 al:=if isW o then t.al else s.al
 nt:=if isW o then t.nt else s.nt }
theorem FS.eq{x y:FS}(h1:x.n=y.n)(h2:x.env=y.env)(h3:x.lb=y.lb)(h4:x.lt=y.lt)(h5:x.fr=y.fr)(h6:x.bl=y.bl)(h7:x.nb=y.nb)(h8:x.al=y.al)(h9:x.nt=y.nt)(h10:x.df=y.df:=by rfl):x=y:=by cases x;cases y;simp only at h1 h2 h3 h4 h5 h6 h7 h8 h9 h10;subst_vars;rfl
def Fh(a c:FS)(b:Nat):Prop:=(∀k,a.bl b=some k->c.bl b=some k)/\∀k,c.bl b=some k->b<a.nb->a.bl b=some k
theorem Fh.of_bl{a c:FS}(h:c.bl=a.bl)(b:Nat):Fh a c b:=⟨λk hk=>by rw[h];exact hk,λk hk _=>by rw[<-h];exact hk⟩
theorem A48{o p:Oper}{t u s:FS}(hd:∀k,o.dst=some k->p.dst≠some k)(hw:¬(isW o=true/\isW p=true)):A2 o t (A2 p u s)=A2 p u (A2 o t s):=by
 have he:(A2 o t (A2 p u s)).env=(A2 p u (A2 o t s)).env:=by
  funext j;simp[A2];cases ho:o.dst with
  |none=>rfl
  |some k =>cases hp:p.dst with|none=>rfl|some q=>grind
 cases ho:isW o<;>cases hp:isW p
 ·exact FS.eq rfl he rfl rfl rfl (by simp[A2,hp]) (by simp[A2,hp]) (by simp[A2,hp]) (by simp[A2,hp])
 ·exact FS.eq rfl he rfl rfl rfl (by simp[A2,ho]) (by simp[A2,ho]) (by simp[A2,ho]) (by simp[A2,ho])
 ·exact FS.eq rfl he rfl rfl rfl (by simp[A2,hp]) (by simp[A2,hp]) (by simp[A2,hp]) (by simp[A2,hp])
 ·grind
section
variable (ops:Array Oper) (s:Nat->FS)
def Fd(S:Nat->Bool):Nat->FS
 |0=>s 0
 |t+1=>match ops[t]? with|some o=>if S t then A2 o (s (t+1)) (Fd S t) else Fd S t|none=>Fd S t
def Jh:Prop:=∀i o,ops[i]? = some o->s (i+1)=A2 o (s (i+1)) (s i)
variable {ops s}
theorem Aon(hc:Jh ops s){i:Nat}{o:Oper}(ho:ops[i]? = some o){k:Nat}(hk:o.dst≠some k):(s (i+1)).env k=(s i).env k:=by have:=congrArg (λt=>t.env k) (hc i o ho);simp[A2] at this;cases hd:o.dst with|none=>simpa[hd] using this|some d=>grind
theorem Aul(hc:Jh ops s){i:Nat}{o:Oper}(ho:ops[i]? = some o)(hw:isW o=false):Dc (s (i+1)) (s i):=by
 have h:=hc i o ho;refine⟨?_,?_,?_,?_⟩
 ·have:=congrArg FS.bl h;simpa[A2,hw] using this
 ·have:=congrArg FS.nb h;simpa[A2,hw] using this
 ·have:=congrArg FS.al h;simpa[A2,hw] using this
 ·have:=congrArg FS.nt h;simpa[A2,hw] using this
theorem Bkp(hc:Jh ops s){S:Nat->Bool}{k i:Nat}:∀t,t<=ops.size->(∀j o,ops[j]? = some o->j<t->o.dst=some k->(S j=true↔j<i))->(Fd ops s S t).env k=(s (min t i)).env k
 |0,_,_=>by simp[Fd]
 |t+1,ht,h=>by
  have ih:=Bkp hc t (by omega) (λj o ho hj hd=>h j o ho (by omega) hd);obtain⟨o,ho⟩:∃o,ops[t]? = some o:=⟨_,Zk2 (by omega)⟩;simp[Fd,ho];by_cases hd:o.dst=some k
  ·by_cases hS:S t=true
   ·have hti:=(h t o ho (by omega) hd).1 hS;rw[if_pos hS,show min (t+1) i=t+1 by omega];simp[A2,hd]
   ·grind
  ·have hsame:(s (min (t+1) i)).env k=(s (min t i)).env k:=by
    by_cases hti:t<i
    ·rw[show min (t+1) i=t+1 by omega,show min t i=t by omega];exact Aon hc ho hd
    ·grind
   by_cases hS:S t=true
   ·rw[if_pos hS,hsame,<-ih];simp[A2];cases hd':o.dst with|none=>rfl|some d=>grind
   ·rw[if_neg hS,hsame,ih]
theorem Dc.trans{a b c:FS}(h:Dc a b)(k:Dc b c):Dc a c:=⟨h.1.trans k.1,h.2.1.trans k.2.1,h.2.2.1.trans k.2.2.1,h.2.2.2.trans k.2.2.2⟩
theorem Dc.symm{a b:FS}(h:Dc a b):Dc b a:=⟨h.1.symm,h.2.1.symm,h.2.2.1.symm,h.2.2.2.symm⟩
theorem Bvg(hc:Jh ops s){S:Nat->Bool}{i:Nat}:∀t,t<=ops.size->(∀j o,ops[j]? = some o->j<t->isW o=true->(S j=true↔j<i))->Dc (Fd ops s S t) (s (min t i))
 |0,_,_=>by simp[Fd,Dc]
 |t+1,ht,h=>by
  have ih:=Bvg hc t (by omega) (λj o ho hj hd=>h j o ho (by omega) hd);obtain⟨o,ho⟩:∃o,ops[t]? = some o:=⟨_,Zk2 (by omega)⟩;simp[Fd,ho];by_cases hd:isW o=true
  ·have h1:=h t o ho (by omega) hd;by_cases hS:S t=true
   ·have hti:=h1.1 hS;rw[if_pos hS,show min (t+1) i=t+1 by omega];simp[A2,hd,Dc]
   ·have hti:¬t<i:=λh2=>hS (h1.2 h2);rw[if_neg hS,show min (t+1) i=min t i by omega];exact ih
  ·have hd:isW o=false:=by simpa using hd
   have hsame:Dc (s (min t i)) (s (min (t+1) i)):=by
    by_cases hti:t<i
    ·rw[show min (t+1) i=t+1 by omega,show min t i=t by omega];exact(Aul hc ho hd).symm
    ·rw[show min (t+1) i=min t i by omega];exact⟨rfl,rfl,rfl,rfl⟩
   by_cases hS:S t=true
   ·rw[if_pos hS];refine Dc.trans ?_ (ih.trans hsame);simp[A2,hd,Dc]
   ·rw[if_neg hS];exact ih.trans hsame
theorem Br6(hc:Jh ops s){S:Nat->Bool}(hww:∀p q op oq,ops[p]? = some op->ops[q]? = some oq->p<q->isW op=true->isW oq=true->S q=true->S p=true):∀t,t<=ops.size->∃p,p<=t/\Dc (Fd ops s S t) (s p)/\∀q o,ops[q]? = some o->isW o=true->(q<p->S q=true)/\(p<=q->q<t->S q=false)
 |0,_=>⟨0,Zn1 _,⟨rfl,rfl,rfl,rfl⟩,λq o _ _=>⟨λh=>absurd h (Zm1 _),λ_ h=>absurd h (Zm1 _)⟩⟩
 |t+1,ht=>by
  obtain⟨p,hp,hs,hq⟩:=Br6 hc hww t (by omega);obtain⟨o,ho⟩:∃o,ops[t]? = some o:=⟨_,Zk2 (by omega)⟩;simp[Fd,ho];cases hw:isW o with
  |true =>
   cases hS:S t with
   |true =>
    refine⟨t+1,Zn1 _,by simp[A2,hw,Dc],λq oq hoq hwq=>⟨λhlt =>?_,λh1 h2=>by omega⟩⟩;by_cases hqt:q=t
    ·subst hqt;exact hS
    ·exact hww q t oq o hoq ho (by omega) hwq hw hS
   |false =>
    refine⟨p,by omega,by simpa using hs,λq oq hoq hwq=>⟨(hq q oq hoq hwq).1,λh1 h2 =>?_⟩⟩;by_cases hqt:q=t
    ·subst hqt;exact hS
    ·exact(hq q oq hoq hwq).2 h1 (by omega)
  |false =>
   have hsame:Dc (if S t=true then A2 o (s (t+1)) (Fd ops s S t) else Fd ops s S t) (s p):=by
    split
    ·exact Dc.trans (by simp[A2,hw,Dc]) hs
    ·exact hs
   refine⟨p,by omega,hsame,λq oq hoq hwq=>⟨(hq q oq hoq hwq).1,λh1 h2 =>?_⟩⟩;by_cases hqt:q=t
   ·subst hqt;rw[ho] at hoq;simp at hoq;subst hoq;rw[hw] at hwq;cases hwq
   ·exact(hq q oq hoq hwq).2 h1 (by omega)
theorem A9b(hc:Jh ops s)(hm:∀i o,ops[i]? = some o->(s i).nb<=(s (i+1)).nb){p:Nat}:∀d,p+d<=ops.size->(s p).nb<=(s (p+d)).nb
 |0,_=>Zn1 _
 |d+1,h=>by obtain⟨o,ho⟩:∃o,ops[p+d]? = some o:=⟨_,Zk2 (by omega)⟩;exact Nat.le_trans (A9b hc hm d (by omega)) (hm _ o ho)
theorem Bpu(hc:Jh ops s)(hm:∀i o,ops[i]? = some o->(s i).nb<=(s (i+1)).nb){S:Nat->Bool}(hww:∀p q op oq,ops[p]? = some op->ops[q]? = some oq->p<q->isW op=true->isW oq=true->S q=true->S p=true){N j b:Nat}(hN:N<=ops.size)(hjN:j<=N)
  (hk:∀q o,ops[q]? = some o->isW o=true->((q<j/\S q=false)\/(j<=q/\q<N/\S q=true))->Fh (s q) (s (q+1)) b):∀k,(s j).bl b=some k->b<(Fd ops s S N).nb->(Fd ops s S N).bl b=some k:=by
 obtain⟨p,hp,hs,hq⟩:=Br6 hc hww N hN;rw[hs.1,hs.2.1];intro k hk0 hlt;rcases Nat.le_total p j with hpj|hjp
 ·have down:∀d,p+d<=j->(s (p+d)).bl b=some k->(s p).bl b=some k:=by
   intro d;induction d with
   |zero=>intro _ h;exact h
   |succ d ih =>intro hd h;obtain⟨o,ho⟩:∃o,ops[p+d]? = some o:=⟨_,Zk2 (by omega)⟩;refine ih (by omega) ?_;cases hw:isW o with|true=>exact(hk (p+d) o ho hw (.inl ⟨by omega,(hq _ _ ho hw).2 (by omega) (by omega)⟩)).2 k h (Zx1 hlt (A9b hc hm d (by omega)))|false=>rw[<-(Aul hc ho hw).1];exact h
  exact down (j-p) (by omega) (by rw[show p+(j-p)=j by omega];exact hk0)
 ·have up:∀d,j+d<=p->(s (j+d)).bl b=some k:=by
   intro d;induction d with
   |zero=>intro _;exact hk0
   |succ d ih =>intro hd;obtain⟨o,ho⟩:∃o,ops[j+d]? = some o:=⟨_,Zk2 (by omega)⟩;have h:=ih (by omega);cases hw:isW o with|true=>exact(hk (j+d) o ho hw (.inr ⟨by omega,by omega,(hq _ _ ho hw).1 (by omega)⟩)).1 k h|false =>show(s (j+d+1)).bl b=some k;rw[(Aul hc ho hw).1];exact h
  have:=up (p-j) (by omega);rwa[show j+(p-j)=p by omega] at this
theorem Ad7(hc:Jh ops s){k:Nat}{hi lo:Nat}(h:Be5 ops k lo hi=true):∀d,lo+d<=hi->hi<=ops.size->(s (lo+d)).env k=(s lo).env k
 |0,_,_=>rfl
 |d+1,h1,h2=>by obtain⟨o,ho⟩:∃o,ops[lo+d]? = some o:=⟨_,Zk2 (by omega)⟩;refine(Aon hc ho (λhe =>?_)).trans (Ad7 hc h d (by omega) h2);have h3:=Zg2.1 h (lo+d) (List.mem_range.2 (by omega));simp[ho,he] at h3;omega
theorem Bm1{S:Nat->Bool}{i:Nat}{oi:Oper}(hi:ops[i]? = some oi)(hS:S i=false)(hind:∀j o,ops[j]? = some o->i<j->S j=true->(∀k,o.dst=some k->oi.dst≠some k)/\¬(isW o=true/\isW oi=true)):∀t,t<=ops.size->Fd ops s (λj=>if j=i then true else S j) t=if i<t then A2 oi (s (i+1)) (Fd ops s S t) else Fd ops s S t
 |0,_=>by simp[Fd]
 |t+1,ht=>by
  obtain⟨o,ho⟩:∃o,ops[t]? = some o:=⟨_,Zk2 (by omega)⟩;simp only[Fd,ho,(Bm1 hi hS hind t (by omega))];by_cases hti:t=i
  ·subst hti;rw[hi] at ho;simp only[Za1] at ho;subst ho;simp[hS]
  ·simp only[if_neg hti];by_cases hlt:i<t
   ·have hlt':i<t+1:=by omega
    simp only[hlt,hlt'];by_cases hSt:S t=true
    ·simp only[hSt];obtain⟨h1,h2⟩:=hind t o ho hlt hSt;exact A48 h1 h2
    ·simp only[hSt,Zj2,if_false]
   ·have hlt':¬i<t+1:=by omega
    simp only[hlt,hlt',if_false]
theorem Afc(ops:Array Oper):∀n,F4 ops n<=n
 |0=>Zn1 _
 |n+1=>by have:=Afc ops n;simp[F4];split<;>omega
theorem H5{ops:Array Oper}:∀(n j:Nat) (oj:Oper),F4 ops n<=j->j<n->ops[j]? = some oj->∀q,q<j->F5 ops 12 oj q=true
 |0,_,_,_,h,_=>absurd h (Zm1 _)
 |n+1,j,oj,h1,h2,ho=>by
  intro q hq;simp[F4] at h1;split at h1
  ·rename_i hb;by_cases hj:j=n
   ·subst hj;simp only[Br9,ho] at hb;exact Zg2.1 hb q (List.mem_range.2 hq)
   ·exact H5 n j oj h1 (by omega) ho q hq
  ·omega
theorem Dw{ops:Array Oper}{listed:Array Bool}(hcl:∀j o,ops[j]? = some o->listed.getD j true=true->∀e∈o.after,Region.binds .any e=true->listed.getD e.on true=true):∀(n:Nat) (o:Oper) (i:Nat),(∀e∈o.after,Region.binds .any e=true->listed.getD e.on true=true)->F5 ops n o i=true->listed.getD i true=true
 |0,_,_,_,h=>by simp[F5] at h
 |n+1,o,i,ho,h=>by
  simp only[F5] at h;obtain⟨e,he,h3⟩:=Array.any_eq_true'.1 h;simp only[Zb1,Zd2] at h3;have hl:=ho e he h3.1.1;rcases h3.2 with h4|h4
  ·rw[<-Zl1 h4];exact hl
  ·split at h4
   ·rename_i p hp;exact Dw hcl n p i (hcl _ _ hp hl) h4
   ·cases h4
def A6u(ops:Array Oper):Bool:=(List.range ops.size).all λj=>match ops[j]? with
 |none=>true
 |some oj=>oj.after.all (λe => !Region.binds .any e||Nat.blt e.on j)&&(!Nat.blt j (Gn ops)||(List.range j).all λi=>match ops[i]? with
  |none=>true
  |some oi=>F5 ops 12 oj i||(oi.apart ops oj && !(isW oi&&isW oj)))
theorem Gh(h:A6u ops=true){j:Nat}{oj:Oper}(hj:ops[j]? = some oj):(∀e∈oj.after,Region.binds .any e=true->e.on<j)/\(j<Gn ops->∀i oi,i<j->ops[i]? = some oi->F5 ops 12 oj i=true\/(oi.apart ops oj=true/\¬(isW oi=true/\isW oj=true))):=by
 have hlt:j<ops.size:=(Zh2.1 hj).1;simp[A6u,List.mem_range] at h;have h1:=h j hlt;rw[hj] at h1;simp only[Zb1,Zd2,Zg2,List.mem_range] at h1;refine⟨λe he hb =>?_,λhjd i oi hij hi =>?_⟩
 ·have:=Array.all_eq_true_iff_forall_mem.1 h1.1 e he;simpa[hb] using this
 ·have h2:=h1.2.resolve_left (λq=>by
   have:Nat.blt j (Gn ops)=true:=by rw[Nat.blt_eq];exact hjd
   rw[this] at q;cases q)
  have:=h2 i hij;rw[hi] at this;simp[Zd2,Zb1] at this;refine this.imp_right λh=>⟨h.1,λe =>?_⟩;rcases h.2 with q|q
  ·rw[e.1] at q;cases q
  ·rw[e.2] at q;cases q
def OkW(o:Oper)(s0 s:FS):Prop:=(isW o=true->Dc s s0)/\(Ayb o.op=true->Agr o s0.env s0.bl s)
def Bmp(cx:Cx)(ops:Array Oper)(o:Oper)(s0 s1:FS):Prop :=∀(s:FS) (m:Mp) (a:Act) (as_:List Act) (w:World),(∀k,k∈o.looksAt ops->s.env k=s0.env k)->OkW o s0 s->s.n=s0.n->Rel cx m a as_ s w->Bd3 cx.P ops o a w λa' w'=>∃m',Rel cx m' a' as_ (A2 o s1 s) w'
theorem But(hc:Jh ops s)(S:Nat->Bool):∀t,t<=ops.size->(Fd ops s S t).n=(s 0).n
 |0,_=>rfl
 |t+1,ht=>by
  obtain⟨o,ho⟩:∃o,ops[t]? = some o:=⟨_,Zk2 (by omega)⟩;simp[Fd,ho];split
  ·exact But hc S t (by omega)
  ·exact But hc S t (by omega)
theorem A7o(hc:Jh ops s):∀t,t<=ops.size->(s t).n=(s 0).n
 |0,_=>rfl
 |t+1,ht=>by obtain⟨o,ho⟩:∃o,ops[t]? = some o:=⟨_,Zk2 (by omega)⟩;have:=congrArg FS.n (hc t o ho);rw[this];exact A7o hc t (by omega)
theorem Bl8(hc:Jh ops s):∀t,t<=ops.size->Fd ops s (λ_=>true) t=s t
 |0,_=>rfl
 |t+1,ht=>by obtain⟨o,ho⟩:∃o,ops[t]? = some o:=⟨_,Zk2 (by omega)⟩;simp[Fd,ho,if_true,Bl8 hc t (by omega)];exact(hc t o ho).symm
theorem Z0{S T:Nat->Bool}:∀t,t<=ops.size->(∀j,j<t->S j=T j)->Fd ops s S t=Fd ops s T t
 |0,_,_=>rfl
 |t+1,ht,h=>by simp only[Fd,Z0 t (by omega) (λj hj=>h j (by omega)),h t (by omega)]
theorem A4z(o:Oper)(t:FS):A2 o t t=t:=by
 refine FS.eq rfl ?_ rfl rfl rfl (by simp[A2]) (by simp[A2]) (by simp[A2]) (by simp[A2]);funext j;simp[A2];cases o.dst with
 |none=>rfl
 |some k =>
  simp only;split
  ·rename_i h;rw[h]
  ·rfl
theorem Bjo{n:Nat}{listed:Array Bool}(hsz:listed.size=n){j:Nat}(hj:j<n)(hj0:listed.getD j true=false):((List.range n).filter λi => !(listed.setIfInBounds j true).getD i true).length+1<=((List.range n).filter λi => !listed.getD i true).length:=by
 have heq:((List.range n).filter λi => !(listed.setIfInBounds j true).getD i true)=((List.range n).filter λi => !listed.getD i true).filter λi => !Nat.beq i j:=by
  rw[List.filter_filter];apply List.filter_congr;intro i hi;simp at hi;by_cases hij:i=j
  ·subst hij;simp[hsz,hi]
  ·rw[getD_set_ne true (Ne.symm hij),Ga hij];simp
 rw[heq];have hmem:j∈(List.range n).filter λi => !listed.getD i true:=by simp only[List.mem_filter,List.mem_range,hj0];exact⟨hj,rfl⟩
 have:∀(l:List Nat),j∈l->(l.filter λi => !Nat.beq i j).length+1<=l.length:=by
  intro l;induction l with
  |nil=>intro h;cases h
  |cons x l ihl =>
   intro h;by_cases hx:x=j
   ·subst hx;simp[ Nat.beq_refl,Zt1,if_false];have:=List.length_filter_le (λi => !Nat.beq i x) l;omega
   ·simp[List.mem_cons] at h;have:=ihl (h.resolve_left (Ne.symm hx));simp[ Ga hx,Zs1,if_true];omega
 exact this _ hmem
theorem Azx{ro:Option Nat}{P:Program}{Q:Exit->Act->World->Prop}(he:∀j oj,ops[j]? = some oj->∀e∈oj.after,Region.binds .any e=true->e.on<j) :
  ∀(fuel N:Nat) (listed:Array Bool) (a:Act) (w:World),N<=ops.size->(∀j oj,N<=j->ops[j]? = some oj->∀q,q<j->F5 ops 12 oj q=true)->listed.size=ops.size->(∀i,i<ops.size->listed.getD i true=decide (i<N))->((List.range ops.size).filter λj => !listed.getD j true).length<=fuel->wpListIn (FW ro) 0 P ops Q (ops.toList.drop N) a w->wpAnyIn (FW ro) 0 P .any ops Q fuel listed a w:=by
 intro fuel;have hcl:∀(N:Nat) (listed:Array Bool),(∀i,i<ops.size->listed.getD i true=decide (i<N))->∀j o,ops[j]? = some o->listed.getD j true=true->∀e∈o.after,Region.binds .any e=true->listed.getD e.on true=true:=λN listed hl j o ho hlj e hem hb=>by have hj:=(Zh2.1 ho).1;have hlt:=he j o ho e hem hb;rw[hl j hj,Zg1] at hlj;rw[hl e.on (by omega),Zg1];omega
 have hone:∀(N:Nat) (listed:Array Bool),listed.size=ops.size->(∀j oj,N<=j->ops[j]? = some oj->∀q,q<j->F5 ops 12 oj q=true)->(∀i,i<ops.size->listed.getD i true=decide (i<N))->∀j,j∈Region.ready .any ops listed->j=N:=λN listed hsz ht hl j hj=>by
  obtain⟨h0,o,ho,hall⟩:=mem_ready.1 hj;have hjs:=(Zh2.1 ho).1;rw[hl j hjs,decide_eq_false_iff_not] at h0;rcases Nat.lt_trichotomy N j with h|h|h
  ·have hp:=Dw (hcl N listed hl) 12 o N (λe hem hb=>by have hlt:=he j o ho e hem hb;rw[<-Sx.getD_two (by omega)];exact hall e hem hb) (ht j o (by omega) ho N h)
   rw[hl N (by omega),Zg1] at hp;omega
  ·exact h.symm
  ·omega
 induction fuel with
 |zero =>
  intro N listed a w hN ht hsz hl hlen hK;have hall:∀i,i<ops.size->listed.getD i true=true:=λi hi=>by
   cases hli:listed.getD i true with
   |true=>rfl
   |false =>
    have hmem:i∈(List.range ops.size).filter λj => !listed.getD j true:=by simp only[List.mem_filter,List.mem_range,hli];exact⟨hi,rfl⟩
    have:=List.length_pos_of_mem hmem;omega
  have hNs:N=ops.size:=by
   rcases Nat.lt_or_ge N ops.size with h|h
   ·have h1:=hall N h;rw[hl N h,Zg1] at h1;omega
   ·omega
  refine⟨List.eq_nil_iff_forall_not_mem.2 λj hj =>?_,?_⟩
  ·have:=hone N listed hsz ht hl j hj;obtain⟨_,o,ho,_⟩:=mem_ready.1 hj;have hjs:=(Zh2.1 ho).1;omega
  ·rw[Zk1 (by simp;omega)] at hK;exact hK
 |succ fuel ih =>
  intro N listed a w hN ht hsz hl hlen hK;rcases Nat.lt_or_ge N ops.size with hlt|hge
  ·obtain⟨o,ho⟩:∃o,ops[N]? = some o:=⟨_,Zk2 hlt⟩;have hl0:listed.getD N true=false:=by rw[hl N hlt];simp
   have hin:N∈Region.ready .any ops listed:=mem_ready.2 ⟨hl0,o,ho,λe hem hb=>by have h1:=he N o ho e hem hb;rw[Sx.getD_two (by omega),hl e.on (by omega)];simpa using h1⟩
   refine⟨λh=>(by rw[h] at hin;cases hin),λj hj =>?_⟩;obtain rfl:=hone N listed hsz ht hl j hj;have hd:ops.toList.drop j=o::ops.toList.drop (j+1):=by
    have h1:j<ops.toList.length:=by simpa using hlt
    rw[List.drop_eq_getElem_cons h1];congr 1;have h2:ops[j]? = some ops.toList[j]:=by simp
    rw[ho] at h2;exact(Option.some.inj h2).symm
   have hnext:∀a w,wpListIn (FW ro) 0 P ops Q (ops.toList.drop (j+1)) a w->wpAnyIn (FW ro) 0 P .any ops Q fuel (listed.setIfInBounds j true) a w:=λa w h=>by
    refine ih (j+1) _ a w (by omega) (λq oq hq hoq=>ht q oq (by omega) hoq) (by simp[hsz]) (λi hi =>?_) ?_ h
    ·by_cases hij:i=j
     ·subst hij;simp[hsz,hi]
     ·rw[getD_set_ne true (Ne.symm hij),hl i hi];exact Zy1.2 (by omega)
    ·have:=Bjo hsz hlt hl0;omega
   rw[hd] at hK;unfold Go.wpOpIn;simp only[ho];simp only[wpListIn] at hK;split
   ·rename_i hw;rw[if_pos hw] at hK;exact Oper.wpIn_mono hnext hK
   ·rename_i hw;rw[if_neg hw] at hK;exact⟨hK.1,hnext _ _ hK.2⟩
  ·refine⟨λ_ =>?_,λj hj =>?_⟩
   ·rw[Zk1 (by simp;omega)] at hK;exact hK
   ·have:=hone N listed hsz ht hl j hj;obtain⟨_,o,ho,_⟩:=mem_ready.1 hj;have hjs:=(Zh2.1 ho).1;omega
theorem At9{ro:Option Nat}{cx:Cx}{as_:List Act}{Q:Exit->Act->World->Prop}{N:Nat}(hN:N<=ops.size)(hNd:N=Gn ops)(hd:A6u ops=true)(ht:∀j oj,N<=j->ops[j]? = some oj->∀q,q<N->F5 ops 12 oj q=true)(hc:Jh ops s)(hrun:∀i o,i<N->ops[i]? = some o->Bmp cx ops o (s i) (s (i+1)))(hg:∀i o,ops[i]? = some o->(s i).nb<=(s (i+1)).nb)(hkeep:∀i j oi oj,ops[i]? = some oi->ops[j]? = some oj->i<N->j<N->i≠j->isW oi=true->Ayb oj.op=true->Be0 ops i j=false->∀b,rdO oj (s j).env b->Fh (s i) (s (i+1)) b)(hK:∀m a w,Rel cx m a as_ (s N) w->∀(fuel:Nat) (listed:Array Bool),listed.size=ops.size->(∀i,i<ops.size->listed.getD i true=decide (i<N))->((List.range ops.size).filter λj => !listed.getD j true).length<=fuel->wpAnyIn (FW ro) 0 cx.P .any ops Q fuel listed a w) :
  ∀(fuel:Nat) (listed:Array Bool) (a:Act) (w:World),listed.size=ops.size->(∀j o,ops[j]? = some o->listed.getD j true=true->∀e∈o.after,Region.binds .any e=true->listed.getD e.on true=true)->((List.range ops.size).filter λj => !listed.getD j true).length<=fuel->(∀q,N<=q->q<ops.size->listed.getD q true=false)->(∃m,Rel cx m a as_ (Fd ops s (λj=>listed.getD j true) N) w)->wpAnyIn (FW ro) 0 cx.P .any ops Q fuel listed a w:=by
 have hedge:∀j oj,ops[j]? = some oj->∀e∈oj.after,Region.binds .any e=true->e.on<j:=λj oj hoj=>(Gh hd hoj).1;have hend:∀(fuel:Nat) (listed:Array Bool) (a:Act) (w:World),listed.size=ops.size->((List.range ops.size).filter λj => !listed.getD j true).length<=fuel->(∀q,N<=q->q<ops.size->listed.getD q true=false)->(∀i,i<N->listed.getD i true=true)->(∃m,Rel cx m a as_ (Fd ops s (λj=>listed.getD j true) N) w)->wpAnyIn (FW ro) 0 cx.P .any ops Q fuel listed a w:=by
  intro fuel listed a w hsz hlen hun hall ⟨m,hm⟩;rw[Z0 (T:=λ_=>true) N hN (λj hj=>hall j hj),Bl8 hc _ hN] at hm;refine hK m a w hm fuel listed hsz (λi hi =>?_) hlen;by_cases h:i<N
  ·rw[hall i h,Ze1 h]
  ·rw[hun i (by omega) hi,Zd1 h]
 intro fuel;induction fuel with
 |zero =>
  intro listed a w hsz hcl hlen hun hrel;refine hend 0 listed a w hsz hlen hun (λi hi =>?_) hrel;cases hli:listed.getD i true with
  |true=>rfl
  |false =>
   have hmem:i∈(List.range ops.size).filter λj => !listed.getD j true:=by simp only[List.mem_filter,List.mem_range,hli];exact⟨by omega,rfl⟩
   have:=List.length_pos_of_mem hmem;omega
 |succ fuel ih =>
  intro listed a w hsz hcl hlen hun hrel;by_cases hall0:∀i,i<N->listed.getD i true=true
  ·exact hend (fuel+1) listed a w hsz hlen hun hall0 hrel
  refine⟨λhr =>?_,λj hj =>?_⟩
  ·exfalso;have hal:∀i,i<N->listed.getD i true=true:=by
    intro i;induction i using Nat.strongRecOn with
    |_ i ihi =>
     intro hi;cases hl:listed.getD i true with
     |true=>rfl
     |false =>
      exfalso;obtain⟨o,ho⟩:∃o,ops[i]? = some o:=⟨_,Zk2 (by omega)⟩;have:i∈Region.ready .any ops listed:=mem_ready.2 ⟨hl,o,ho,λe he hb=>by have hlt:=hedge i o ho e he hb;rw[Sx.getD_two (by omega)];exact ihi e.on hlt (by omega)⟩
      rw[hr] at this;cases this
   exact hall0 hal
  obtain⟨hj0,oj,hoj,hall⟩:=mem_ready.1 hj;have hjs:j<ops.size:=(Zh2.1 hoj).1;obtain⟨m,hm⟩:=hrel;have hpre:∀e∈oj.after,Region.binds .any e=true->listed.getD e.on true=true:=λe he hb=>by have hlt:=(Gh hd hoj).1 e he hb;rw[<-Sx.getD_two (by omega)];exact hall e he hb
  have hjN:j<N:=by
   rcases Nat.lt_or_ge j N with h|h
   ·exact h
   ·exact absurd (λi hi=>Dw hcl 12 oj i hpre (ht j oj h hoj i hi)) hall0
  have hlN:∀q oq,ops[q]? = some oq->listed.getD q true=true->q<N:=λq oq hq hl=>by
   rcases Nat.lt_or_ge q N with h|h
   ·exact h
   ·rw[hun q h (Zh2.1 hq).1] at hl;cases hl
  have hlow:∀q oq,ops[q]? = some oq->q<j->listed.getD q true=false->F5 ops 12 oj q=false/\oq.apart ops oj=true/\¬(isW oq=true/\isW oj=true):=λq oq hq hqj hl=>by
   rcases(Gh hd hoj).2 (by omega) q oq hqj hq with hp|h
   ·rw[Dw hcl 12 oj q hpre hp] at hl;cases hl
   ·refine⟨?_,h⟩;cases hp:F5 ops 12 oj q with|false=>rfl|true=>rw[Dw hcl 12 oj q hpre hp] at hl;cases hl
  have hhigh:∀q oq,ops[q]? = some oq->j<q->listed.getD q true=true->F5 ops 12 oq j=false/\oj.apart ops oq=true/\¬(isW oj=true/\isW oq=true):=λq oq hq hqj hl=>by
   rcases(Gh hd hq).2 (by rw[<-hNd];exact hlN q oq hq hl) j oj hqj hoj with hp|h
   ·have:=Dw hcl 12 oq j (hcl q oq hq hl) hp;rw[hj0] at this;cases this
   ·refine⟨?_,h⟩;cases hp:F5 ops 12 oq j with|false=>rfl|true =>have:=Dw hcl 12 oq j (hcl q oq hq hl) hp;rw[hj0] at this;cases this
  have henv:∀k,k∈oj.looksAt ops->(Fd ops s (λi=>listed.getD i true) N).env k=(s j).env k:=λk hk=>by
   have:=Bkp (s:=s) hc (S:=λi=>listed.getD i true) (k:=k) (i:=j) N hN (λq oq hq _ hdq=>by
    rcases Nat.lt_trichotomy q j with hlt|rfl|hgt
    ·refine⟨λ_=>hlt,λ_ =>?_⟩;cases hl:listed.getD q true with|true=>rfl|false=>exact absurd hk ((Oper.apart_spec (hlow q oq hq hlt hl).2.1).1 k hdq)
    ·simp only[hj0];simp
    ·refine⟨λhl =>?_,λh=>by omega⟩;exact absurd hk ((Oper.apart_spec (hhigh q oq hq hgt hl).2.1).2.2 k hdq))
   rwa[show min N j=j by omega] at this
  have hW:isW oj=true->Dc (Fd ops s (λi=>listed.getD i true) N) (s j):=λht=>by
   have:=Bvg (s:=s) hc (S:=λi=>listed.getD i true) (i:=j) N hN (λq oq hq _ hwq=>by
    rcases Nat.lt_trichotomy q j with hlt|rfl|hgt
    ·refine⟨λ_=>hlt,λ_ =>?_⟩;cases hl:listed.getD q true with|true=>rfl|false=>exact absurd ⟨hwq,ht⟩ (hlow q oq hq hlt hl).2.2
    ·simp only[hj0];simp
    ·refine⟨λhl =>?_,λh=>by omega⟩;exact absurd ⟨ht,hwq⟩ (hhigh q oq hq hgt hl).2.2)
   rwa[show min N j=j by omega] at this
  have hA:Ayb oj.op=true->Agr oj (s j).env (s j).bl (Fd ops s (λi=>listed.getD i true) N):=λhm b k hrd=>by
   refine Bpu hc hg (λp q op oq hp hq hpq hwp hwq hl =>?_) hN (by omega) (λq oq hq hwq hh =>?_) k
   ·rcases(Gh hd hq).2 (by rw[<-hNd];exact hlN q oq hq hl) p op hpq hp with h|h
    ·exact Dw hcl 12 oq p (hcl q oq hq hl) h
    ·exact absurd ⟨hwp,hwq⟩ h.2
   ·rcases hh with ⟨hlt,hl⟩|⟨hge,hqN,hl⟩
    ·refine hkeep q j oq oj hq hoj (by omega) hjN (by omega) hwq hm ?_ b hrd;have h1:Nat.blt q j=true:=by rw[Nat.blt_eq];exact hlt
     simp[Be0,h1,hoj];exact(hlow q oq hq hlt hl).1
    ·have hne:q≠j:=λe=>by rw[e,hj0] at hl;cases hl
     refine hkeep q j oq oj hq hoj hqN hjN hne hwq hm ?_ b hrd;have h1:Nat.blt q j=false:=by cases hb:Nat.blt q j with|false=>rfl|true=>rw[Nat.blt_eq] at hb;omega
     simp[Be0,h1,hq,Ga hne,Bool.false_or];exact(hhigh q oq hq (by omega) hl).1
  refine((hrun j oj hjN hoj _ m a as_ w henv ⟨hW,hA⟩ ((But hc _ _ hN).trans (A7o hc j (by omega)).symm) hm).mono λa' w' ⟨m',hm'⟩ =>?_).wpOp hoj;refine ih _ a' w' (by simp[hsz]) ?_ ?_ ?_ ⟨m',?_⟩
  ·intro q oq hq hl e he hb;by_cases hqj:q=j
   ·subst hqj;rw[hoj] at hq;simp at hq;subst hq;have hlt:=(Gh hd hoj).1 e he hb;rw[getD_set_ne true (by omega)];exact hpre e he hb
   ·rw[getD_set_ne true (Ne.symm hqj)] at hl;have:=hcl q oq hq hl e he hb;by_cases hej:e.on=j
    ·rw[hej];simp[hsz,hjs]
    ·rw[getD_set_ne true (Ne.symm hej)];exact this
  ·have:=Bjo hsz hjs hj0;omega
  ·intro q hq1 hq2;rw[getD_set_ne true (by omega)];exact hun q hq1 hq2
  ·have hadd:=Bm1 (s:=s) hoj hj0 (S:=λi=>listed.getD i true) (λq oq hq hgt hl=>by have h:=hhigh q oq hq hgt hl;refine⟨λk hk he=>(Oper.apart_spec h.2.1).2.1 k he hk,λhh=>h.2.2 ⟨hh.2,hh.1⟩⟩) N hN
   rw[if_pos hjN] at hadd;rw[<-hadd] at hm';rw[Z0 (T:=λi=>if i=j then true else listed.getD i true) N hN (λi hi=>by
    by_cases hij:i=j
    ·subst hij;simp[hsz]
    ·rw[getD_set_ne true (Ne.symm hij)];simp[hij])]
   exact hm'
end
section
variable {cx:Cx}{m m':Mp}{a:Act}{as_:List Act}{s s':FS}{w w':World}
theorem Rel.step(h:Rel cx m a as_ s w)(hn:s'.n=s.n)(henv:s'.env=s.env)(hlb:s'.lb=s.lb)(hlt:s'.lt=s.lt)(hfr:s'.fr=s.fr)(hch:Chg (Dv m s) w w')(nx:Nx (vx cx m s w) (vx cx m' s' w'))
  (blks:∀b k,s'.bl b=some k->b<s'.nb/\F6 (vx cx m' s' w') (m'.bl b) k) (als:∀t,s'.al t->t<s'.nt)
  (inj:∀b b',s'.bl b≠none->s'.bl b'≠none->m'.bl b=m'.bl b'->b=b') (injt:∀t t' g o o',s'.al t->s'.al t'->m'.tk t=some (g,o)->m'.tk t' = some (g,o')->t=t')
  (injbt:∀b t g o,s'.bl b≠none->s'.al t->m'.tk t=some (g,o)->m'.bl b≠g) (own:∀b i,Dv m' s' b i->b<w'.heap.size/\(Dv m s b i\/w.heap.size<=b)) (hdf:s'.df=s.df:=by rfl):Rel cx m' a as_ s' w':=by
 have hnb:s.nb<=s'.nb:=nx.nb;have hnt:s.nt<=s'.nt:=nx.nt;refine⟨h.chg.later (λk i hi=>(h.own k i hi).2) hch,?_,?_,by rw[hlb];exact Nat.le_trans h.lb hnb,by rw[hlt];exact Nat.le_trans h.lt hnt,blks,als,inj,injt,injbt,λb i hi =>?_,h.away,h.glb.later nx⟩
 ·rw[hn,henv,hdf];exact h.env.later nx
 ·rw[hlb,hlt,hfr];exact h.frs.later nx h.lb h.lt
 ·obtain⟨h1,h2⟩:=own b i hi;refine⟨h1,?_⟩;rcases h2 with h2|h2
  ·exact(h.own b i h2).2
  ·exact .inr (Nat.le_trans h.chg.size h2)
theorem Rel.own_b(h:Rel cx m a as_ s w){b:Nat}(hb:s.bl b≠none):m.bl b<w.heap.size:=(h.own (m.bl b) 0 (.inl ⟨b,hb,rfl⟩)).1
theorem Rel.own_t(h:Rel cx m a as_ s w){t g o:Nat}(ha:s.al t)(ht:m.tk t=some (g,o)):g<w.heap.size:=(h.own g o (.inr ⟨t,o,ha,ht,Zn1 _⟩)).1
theorem Rel.newAtX(h:Rel cx m a as_ s w){k:Blk}{g:Nat}(hch:Chg B9 w w')(hg1:w.heap.size<=g)(hg2:g<w'.heap.size)(hblk:∀x',Nx (vx cx m s w) x'->x'.w=w'->F6 x' g k) :
  ∃m',Rel cx m' a as_ { s with bl:=λb=>if b=s.nb then some k else s.bl b,nb:=s.nb+1 } w'/\Rep (vx cx m' { s with bl:=λb=>if b=s.nb then some k else s.bl b,nb:=s.nb+1 } w') (.ptr s.nb 0) (.pointer (some ⟨g,0,none⟩))/\Nx (vx cx m s w) (vx cx m' { s with bl:=λb=>if b=s.nb then some k else s.bl b,nb:=s.nb+1 } w'):=by
 have hb:∀k,k<w.heap.size->w'.heap[k]? = w.heap[k]? :=λk hk=>hch.block k hk (λ_ h=>h);let m':Mp:={ m with bl:=λb=>if b=s.nb then g else m.bl b };let s':FS:={ s with bl:=λb=>if b=s.nb then some k else s.bl b,nb:=s.nb+1 };have hlt:∀b,s.bl b≠none->b<s.nb:=λb hb=>by cases hs:s.bl b with|none=>exact absurd hs hb|some k=>exact(h.blks b k hs).1
 have fp:∀b i,Dv m' s' b i->Dv m s b i\/w.heap.size<=b:=by
  rintro b i (⟨q,hq,rfl⟩|⟨t,o,h1,h2,h3⟩)
  ·by_cases hqn:q=s.nb
   ·grind
   ·left;have hq':s.bl q≠none:=by simpa[s',hqn] using hq
    exact .inl ⟨q,hq',by simp[m',hqn]⟩
  ·exact .inl (.inr ⟨t,o,h1,h2,h3⟩)
 have nx:Nx (vx cx m s w) (vx cx m' s' w'):=by
  refine⟨hch.mono (λ_ _ h=>h.elim),?_,rfl,λb hbn =>?_,Nat.le_succ _,Zn1 _,λt _ ha=>⟨ha,rfl,λg o hg=>hb g (h.own_t ha hg)⟩⟩
  ·rintro b i (hM|hf)
   ·exact .inl (.inl hM)
   ·rcases fp b i hf with h|h
    ·exact .inl (.inr h)
    ·exact .inr h
  ·have:b<s.nb:=hbn;simp[vx,m',Nat.ne_of_lt this]
 refine⟨m',h.step rfl rfl rfl rfl rfl (hch.mono (λ_ _ h=>h.elim)) nx ?_ h.als ?_ h.injt ?_ ?_,?_⟩
 ·intro b q hq;by_cases hbn:b=s.nb
  ·subst hbn;have hq':k=q:=by simpa using hq
   subst hq';exact⟨Nat.lt_succ_self _,by simpa[m'] using hblk _ nx rfl⟩
  ·have hq':s.bl b=some q:=by simpa[ hbn] using hq
   obtain⟨h1,h2⟩:=h.blks b q hq';have e1:m'.bl b=m.bl b:=by simp[m',hbn]
   refine⟨Nat.lt_succ_of_lt h1,?_⟩;rw[e1];exact h2.later nx (hb _ (h.own_b (by rw[hq'];simp)))
 ·intro b b' h1 h2 he;by_cases hbn:b=s.nb<;>by_cases hbn':b' = s.nb
  ·rw[hbn,hbn']
  ·exfalso;have h2':s.bl b'≠none:=by simpa[ hbn'] using h2
   have:=h.own_b h2';simp[m',hbn] at he;omega
  ·exfalso;have h1':s.bl b≠none:=by simpa[ hbn] using h1
   have:=h.own_b h1';simp[m',hbn'] at he;omega
  ·refine h.inj b b' (by simpa[ hbn] using h1) (by simpa[ hbn'] using h2) ?_;simpa[m',hbn,hbn'] using he
 ·intro b t g o h1 h2 h3;by_cases hbn:b=s.nb
  ·have:=h.own_t h2 h3;simp[m',hbn];omega
  ·have h1':s.bl b≠none:=by simpa[ hbn] using h1
   have:=h.injbt b t g o h1' h2 h3;simpa[m',hbn] using this
 ·intro b i hf;refine⟨?_,fp b i hf⟩;rcases fp b i hf with hh|hh
  ·exact Zx1 (h.own b i hh).1 hch.size
  ·rcases hf with ⟨q,hq,rfl⟩|⟨t,o,h1,h2,h3⟩
   ·by_cases hqn:q=s.nb
    ·simpa[m',hqn] using hg2
    ·have hq':s.bl q≠none:=by simpa[ hqn] using hq
     have:=h.own_b hq';simp[m',if_neg hqn];omega
   ·exact Zx1 (h.own_t h1 h2) hch.size
 ·refine⟨?_,nx⟩;simp[Rep];exact⟨Nat.lt_succ_self _,by simp[vx,m']⟩
theorem Rel.newAt(h:Rel cx m a as_ s w){k:Blk}{g:Nat}(hch:Chg B9 w w')(hg1:w.heap.size<=g)(hg2:g<w'.heap.size)(hblk:∀x',Nx (vx cx m s w) x'->x'.w=w'->F6 x' g k) :
  ∃m',Rel cx m' a as_ { s with bl:=λb=>if b=s.nb then some k else s.bl b,nb:=s.nb+1 } w'/\Rep (vx cx m' { s with bl:=λb=>if b=s.nb then some k else s.bl b,nb:=s.nb+1 } w') (.ptr s.nb 0) (.pointer (some ⟨g,0,none⟩)) :=
 let ⟨m',h1,h2,_⟩:=h.newAtX hch hg1 hg2 hblk
 ⟨m',h1,h2⟩
theorem Rel.new(h:Rel cx m a as_ s w){k:Blk}{vs:List Value}{t:TypeId}(hch:Chg B9 w w')(hsz:w.heap.size<w'.heap.size)(hblk:∀x',Nx (vx cx m s w) x'->x'.w=w'->F6 x' w.heap.size k)(_hv:vs=vs)(_ht:t=t) :
  ∃m',Rel cx m' a as_ { s with bl:=λb=>if b=s.nb then some k else s.bl b,nb:=s.nb+1 } w'/\Rep (vx cx m' { s with bl:=λb=>if b=s.nb then some k else s.bl b,nb:=s.nb+1 } w') (.ptr s.nb 0) (.pointer (some ⟨w.heap.size,0,none⟩)):=h.newAt hch (Zn1 _) hsz hblk
theorem Rel.write(h:Rel cx m a as_ s w){b:Nat}{k0 k:Blk}(hb0:s.bl b=some k0)(hch:Chg (λc _=>c=m.bl b) w w')(hblk:∀x',Nx (vx cx m s w) x'->x'.w=w'->F6 x' (m.bl b) k):Rel cx m a as_ { s with bl:=λc=>if c=b then some k else s.bl c } w':=by
 have hne:s.bl b≠none:=by rw[hb0];simp
 have hiff:∀c,(if c=b then some k else s.bl c)≠none↔s.bl c≠none:=λc=>by
  by_cases hc:c=b
  ·subst hc;simp[hne]
  ·simp[hc]
 let s':FS:={ s with bl:=λc=>if c=b then some k else s.bl c };have fp:∀c i,Dv m s' c i↔Dv m s c i:=λc i=>by
  constructor
  ·rintro(⟨q,hq,rfl⟩|hh)
   ·exact .inl ⟨q,(hiff q).1 hq,rfl⟩
   ·exact .inr hh
  ·rintro(⟨q,hq,rfl⟩|hh)
   ·exact .inl ⟨q,(hiff q).2 hq,rfl⟩
   ·exact .inr hh
 have hother:∀c,c<w.heap.size->c≠m.bl b->w'.heap[c]? = w.heap[c]? :=λc hc hcb=>hch.block c hc (λ_ h=>hcb h);have hch':Chg (Dv m s) w w':=hch.mono λc i hc =>.inl ⟨b,hne,hc.symm⟩;have nx:Nx (vx cx m s w) (vx cx m s' w'):=by
  refine⟨hch'.mono (λ_ _ h =>.inr h),?_,rfl,λ_ _=>rfl,Zn1 _,Zn1 _,λt _ ha=>⟨ha,rfl,λg o hg=>hother g (h.own_t ha hg) (λe=>h.injbt b t g o hne ha hg e.symm)⟩⟩;rintro c i (hM|hf)
  ·exact .inl (.inl hM)
  ·exact .inl (.inr ((fp c i).1 hf))
 refine h.step rfl rfl rfl rfl rfl hch' nx ?_ h.als (λc c' h1 h2=>h.inj c c' ((hiff c).1 h1) ((hiff c').1 h2)) h.injt (λc t g o h1=>h.injbt c t g o ((hiff c).1 h1)) (λc i hf =>?_)
 ·intro c q hq;by_cases hc:c=b
  ·subst hc;have hq':k=q:=by simpa using hq
   subst hq';exact⟨(h.blks c k0 hb0).1,hblk _ nx rfl⟩
  ·have hq':s.bl c=some q:=by simpa[ hc] using hq
   obtain⟨h1,h2⟩:=h.blks c q hq';exact⟨h1,h2.later nx (hother _ (h.own_b (by rw[hq'];simp)) (λe=>hc (h.inj c b (by rw[hq'];simp) hne e)))⟩
 ·have:=(fp c i).1 hf;exact⟨Zx1 (h.own c i this).1 hch.size,.inl this⟩
theorem Rel.right(h:Rel cx m a as_ s w){t0:Option Nat}{p:Option (Nat×Nat)}(hch:Chg (λb i=>∃t o,t0=some t/\s.al t/\m.tk t=some (b,o)/\o<=i) w w')
  (hp:∀g o,p=some (g,o)->g<w'.heap.size/\(w.heap.size<=g\/∃t o',t0=some t/\s.al t/\m.tk t=some (g,o')/\o'<=o)) :
  Rel cx { m with tk:=λt=>if t=s.nt then p else m.tk t } a as_ { s with al:=λt=>(s.al t/\t0≠some t)\/t=s.nt,nt:=s.nt+1 } w'/\Nx (vx cx m s w) (vx cx { m with tk:=λt=>if t=s.nt then p else m.tk t } { s with al:=λt=>(s.al t/\t0≠some t)\/t=s.nt,nt:=s.nt+1 } w'):=by
 let m':Mp:={ m with tk:=λt=>if t=s.nt then p else m.tk t };let s':FS:={ s with al:=λt=>(s.al t/\t0≠some t)\/t=s.nt,nt:=s.nt+1 };have hch':Chg (Dv m s) w w':=hch.mono λb i ⟨t,o,_,h1,h2,h3⟩ =>.inr ⟨t,o,h1,h2,h3⟩;have hother:∀c,c<w.heap.size->(∀t o,t0=some t->s.al t->m.tk t=some (c,o)->False)->w'.heap[c]? = w.heap[c]? :=λc hc hn=>hch.block c hc (λi ⟨t,o,h1,h2,h3,_⟩=>hn t o h1 h2 h3);have old:∀t,s'.al t->t≠s.nt->s.al t/\t0≠some t/\m'.tk t=m.tk t:=λt ht hne=>by
  rcases ht with ht|ht
  ·exact⟨ht.1,ht.2,by simp[m',hne]⟩
  ·exact absurd ht hne
 have hnew:m'.tk s.nt=p:=by simp[m']
 have fp:∀b i,Dv m' s' b i->Dv m s b i\/w.heap.size<=b:=by
  rintro b i (⟨q,hq,rfl⟩|⟨t,o,h1,h2,h3⟩)
  ·exact .inl (.inl ⟨q,hq,rfl⟩)
  ·by_cases ht:t=s.nt
   ·subst ht;rw[hnew] at h2;rcases(hp b o h2).2 with hh|⟨t,o',_,g1,g2,g3⟩
    ·exact .inr hh
    ·exact .inl (.inr ⟨t,o',g1,g2,Nat.le_trans g3 h3⟩)
   ·obtain⟨g1,_,g3⟩:=old t h1 ht;rw[g3] at h2;exact .inl (.inr ⟨t,o,g1,h2,h3⟩)
 have nx:Nx (vx cx m s w) (vx cx m' s' w'):=by
  refine⟨hch'.mono (λ_ _ h =>.inr h),?_,rfl,λ_ _=>rfl,Zn1 _,Nat.le_succ _,λt ht ha =>?_⟩
  ·rintro b i (hM|hf)
   ·exact .inl (.inl hM)
   ·rcases fp b i hf with h|h
    ·exact .inl (.inr h)
    ·exact .inr h
  ·have ht:t<s.nt:=ht;obtain⟨g1,g2,g3⟩:=old t ha (Nat.ne_of_lt ht);exact⟨g1,g3,λg o hg=>hother g (h.own_t g1 hg) (λt' o' e1 e2 e3=>g2 (by rw[e1,h.injt t' t g o' o e2 g1 e3 hg]))⟩
 refine⟨h.step rfl rfl rfl rfl rfl hch' nx ?_ ?_ h.inj ?_ ?_ ?_,nx⟩
 ·intro b k hk;obtain⟨h1,h2⟩:=h.blks b k hk;have hbn:s.bl b≠none:=by rw[show s.bl b=some k from hk];simp
  exact⟨h1,h2.later nx (hother _ (h.own_b hbn) (λt o _ e2 e3=>h.injbt b t _ o hbn e2 e3 rfl))⟩
 ·rintro t (⟨h1,_⟩|rfl)
  ·exact Nat.lt_succ_of_lt (h.als t h1)
  ·exact Nat.lt_succ_self _
 ·intro t t' g o o' h1 h2 h3 h4;by_cases ht:t=s.nt<;>by_cases ht':t' = s.nt
  ·rw[ht,ht']
  ·exfalso;subst ht;rw[hnew] at h3;obtain⟨g1,g2,g3⟩:=old t' h2 ht';rw[g3] at h4;rcases(hp g o h3).2 with hh|⟨t,o2,e1,e2,e3,_⟩
   ·have:=h.own_t g1 h4;omega
   ·exact g2 (by rw[e1,h.injt t t' g o2 o' e2 g1 e3 h4])
  ·exfalso;subst ht';rw[hnew] at h4;obtain⟨g1,g2,g3⟩:=old t h1 ht;rw[g3] at h3;rcases(hp g o' h4).2 with hh|⟨t',o2,e1,e2,e3,_⟩
   ·have:=h.own_t g1 h3;omega
   ·exact g2 (by rw[e1,h.injt t' t g o2 o e2 g1 e3 h3])
  ·obtain⟨g1,_,g3⟩:=old t h1 ht;obtain⟨k1,_,k3⟩:=old t' h2 ht';rw[g3] at h3;rw[k3] at h4;exact h.injt t t' g o o' g1 k1 h3 h4
 ·intro b t g o h1 h2 h3;by_cases ht:t=s.nt
  ·subst ht;rw[hnew] at h3;rcases(hp g o h3).2 with hh|⟨t,o2,_,e2,e3,_⟩
   ·have:=h.own_b h1;show m.bl b≠g;omega
   ·exact h.injbt b t g o2 h1 e2 e3
  ·obtain⟨g1,_,g3⟩:=old t h2 ht;rw[g3] at h3;exact h.injbt b t g o h1 g1 h3
 ·intro b i hf;refine⟨?_,fp b i hf⟩;rcases hf with ⟨q,hq,rfl⟩|⟨t,o,h1,h2,h3⟩
  ·exact Zx1 (h.own_b hq) hch.size
  ·by_cases ht:t=s.nt
   ·subst ht;rw[hnew] at h2;exact(hp b o h2).1
   ·obtain⟨g1,_,g3⟩:=old t h1 ht;rw[g3] at h2;exact Zx1 (h.own_t g1 h2) hch.size
end
section
variable {R:Type}{px:Px R}{cx:Cx}
def Ef(t s:FS):FS:={ s with bl:=t.bl,nb:=t.nb,al:=t.al,nt:=t.nt }
def Yv(P:Program)(a:Act)(w:World)(o:Oper)(Post:Value->World->Prop):Prop :=(∃v w',(execOp a.eval o).run P w = .ok (.value v) w'/\Post v w')\/∃f args w1,(execOp a.eval o).run P w = .ok (.enter f args) w1/\Calls P f args w1 λen w'=>∃v,en = .returned v/\Post v w'
theorem Yv.runs{P:Program}{a:Act}{w:World}{o:Oper}{Post:Value->World->Prop}{K:Act->World->Prop}(h:Yv P a w o Post)(hk:∀v w',Post v w'->K (a.put o.dst v) w'):Y4 P a w o K:=by
 rcases h with ⟨v,w',h1,h2⟩|⟨f,args,w1,h1,h2⟩
 ·exact .inl ⟨v,w',h1,hk v w' h2⟩
 ·refine .inr (.inr ⟨f,args,w1,h1,h2.mono ?_⟩)
  grind
structure Eff (cx:Cx) (px:Px R) (o:Oper) (st st':St) (d:D):Prop where
 same:st'.n=st.n/\st'.env=st.env/\st'.lb=st.lb/\st'.lt=st.lt/\(st'.fr,st'.df)=(st.fr,st.df)
 run:∀(s:FS) (m:Mp) (a:Act) (as_:List Act) (w:World),(∀t x,x∈o.op.operands->evF px s.env t x=evF px (get st.env) t x)->Dc s (fs st)->Rel cx m a as_ s w->Yv cx.P a w o λv w'=>∃m',Rel cx m' a as_ (Ef (fs st') s) w'/\Rep (vx cx m' (Ef (fs st') s) w') d v
theorem I5{st s:FS}(h:Dc s st):Ef st s=s:=by obtain⟨h1,h2,h3,h4⟩:=h;simp[Ef,<-h1,<-h2,<-h3,<-h4]
theorem Bbn{o:Oper}{st:St}{d:D}(h:A7u cx px o (get st.env) (blk st.bl) d):Eff cx px o st st d :=⟨⟨rfl,rfl,rfl,rfl,rfl⟩,λs m a as_ w hx hW hr=>by obtain⟨v,h1,h2⟩:=h s m a as_ w hx (λ_ b k _ hb _=>(congrFun hW.1 b).trans hb) hr;rw[I5 hW];exact .inl ⟨v,w,h1,m,hr,h2⟩⟩
theorem Aw(l:List (Nat×Blk))(k b:Nat)(v:Blk):blk ((k,v)::l) b=if b=k then some v else blk l b:=by
 simp[blk];by_cases h:b=k
 ·subst h;simp
 ·simp[Ga (Ne.symm h),h]
theorem Eo{b:Nat}{k:Blk}:∀(l:List (Nat×Blk)) (c:Nat),blk (Dd l b k) c=if c=b then(blk l b).map (λ_=>k) else blk l c
 |[],c=>by simp[Dd,blk]
 |(q,v)::l,c=>by
  simp[Dd];by_cases hq:q=b
  ·subst hq;simp;rw[Aw,Aw,Aw]
   grind
  ·simp[Ga hq];rw[Aw,Aw,Eo l c,Aw]
   grind
theorem Ln{b:Nat}{w w':World}(h:Sx.Chg [b] w w'){vs us:List Value}{t:TypeId}(h1:w.heap[b]? = some (.cells vs.toArray t (0,0)))(h2:w'.heap[b]? = some (.cells us.toArray t (0,0)))(hl:us.length=vs.length):Chg (λc _=>c=b) w w' :=
 ⟨h.os,h.tape,h.output,h.size,λk hk hn=>h.block k hk (by simpa using (hn 0)),λc i v hv hn=>by
  rw[World.cell?_of_block (a:=⟨c,i,none⟩) (h.block c (Aa6 hv) (by simpa using hn))];exact hv,λc cs t' f hq=>by
  by_cases hc:c=b
  ·grind
  ·exact⟨cs,f,by rw[h.block c (Zh2.1 hq).1 (by simpa using hc)];exact hq,rfl⟩⟩
theorem Bh4{P:Program}{t:TypeId}{zs:List Value}(h:Sx.tyZero P t=some zs)(w:World):∃z,(zeroValue t).run P w = .ok z w/\z.cells=zs.toArray:=by obtain⟨i,z,hi,hz,hc⟩:=Kq h;exact⟨z,by simp[zeroValue,typeInfo,hi,hz],hc⟩
theorem Nw(st:St)(k:Blk)(s:FS)(h:Dc s (fs st)):Ef (fs (G7 st k)) s={ s with bl:=λb=>if b=s.nb then some k else s.bl b,nb:=s.nb+1 }:=by
 obtain⟨h1,h2,h3,h4⟩:=h;refine FS.eq rfl rfl rfl rfl rfl ?_ ?_ ?_ ?_
 ·funext b;simp[Ef,fs,G7,Aw,h1,h2]
 ·simp[Ef,fs,G7,h2]
 ·simp[Ef,fs,G7,h3]
 ·simp[Ef,fs,G7,h4]
theorem Bg4{x:Vx}{c:Ck}{zs:List Value}:∀{n:Nat},zbL ((List.replicate n (enc c (zer c))).flatten) zs=true->zs.length=n*csz c/\∀i y j d,(List.replicate n (zer c))[i]? = some y->(enc c y)[j]? = some d->∃u,zs[i*csz c+j]? = some u/\RF x.S x.w d u:=by
 intro n h;obtain⟨hr,_⟩:=Rp (x:=x) h;have hlen:zs.length=n*csz c:=by rw[hr.len];simp[ Bu]
 refine⟨hlen,λi y j d hy hd =>?_⟩;have hin:i<n:=by grind
 have hyz:y=zer c:=by grind
 subst hyz;have hget:∀(n i:Nat),i<n->((List.replicate n (enc c (zer c))).flatten)[i*csz c+j]? = some d:=by
  intro n;induction n with
  |zero=>intro i h;omega
  |succ n ih =>
   intro i h;rw[List.replicate_succ,Zz1];cases i with
   |zero=>grind
   |succ i =>
    rw[List.getElem?_append_right (by rw[Bu,Nat.succ_mul];omega),Bu]
    grind
 obtain⟨u,hu,hrep⟩:=hr.get (hget n i hin);exact⟨u,hu,A2r hrep (.inl rfl) ⟨c,zer c,j,hd⟩⟩
theorem Ez(w:World)(o:Obj):Chg B9 w (w.alloc o)/\w.heap.size<(w.alloc o).heap.size:=⟨Chg.alloc _ _ _,by simp⟩
theorem B2(w:World)(o:Obj):(w.alloc o).heap[w.heap.size]? = some o:=by show(w.heap.push o)[w.heap.size]? = _;simp
theorem S3(hp:PxOk cx px){o:Oper}{t:Nat}(ho:o.op = .alloc t){st:St}{k:Blk}(hk:(∃n c,px.tt t = .arr n c/\k = .row c n (List.replicate n (zer c)))\/∃z,px.tt t ≠ .no/\(px.tt t).zero=some z/\k=A2b t (cells z)):Eff cx px o st (G7 st k) (.ptr st.nb 0):=by
 refine⟨⟨rfl,rfl,rfl,rfl,rfl⟩,λs m a as_ w hx hW hr =>?_⟩;have main:∀zs,Sx.tyZero cx.P t=some zs->(∀x',Nx (vx cx m s w) x'->x'.w=w.alloc (.cells zs.toArray t)->F6 x' w.heap.size k)->Yv cx.P a w o λv w'=>∃m',Rel cx m' a as_ (Ef (fs (G7 st k)) s) w'/\Rep (vx cx m' (Ef (fs (G7 st k)) s) w') (.ptr st.nb 0) v:=by
  intro zs hz hblk;obtain⟨z,hzv,hzc⟩:=Bh4 hz w;obtain⟨m',h1,h2⟩:=hr.new (vs:=zs) (t:=t) (Ez w _).1 (Ez w _).2 hblk rfl rfl;refine .inl ⟨.pointer (some ⟨w.heap.size,0,none⟩),w.alloc (.cells zs.toArray t),?_,m',?_,?_⟩
  ·simp only[execOp,ho,Instr.alloc,Sem.run_bind,hzv,newVar,newRow,newObj,Sem.run_pure,Result.andThen_ok,Sem.run,World.alloc,hzc]
  ·rw[Nw st k s hW];exact h1
  ·rw[Nw st k s hW];have e1:st.nb=s.nb:=hW.2.1.symm;rw[e1];exact h2
 rcases hk with ⟨n,c,hty,rfl⟩|⟨z,hno,hz,rfl⟩
 ·obtain⟨zs,hz1,hz2⟩:=R8 (hp.tt t) (by rw[hty];simp) (z :=.agg ((List.replicate n (enc c (zer c))).flatten)) (by rw[hty];rfl);refine main zs hz1 λx' nx hw =>?_;obtain⟨h1,h2⟩:=Bg4 (x:=x') (c:=c) (n:=n) hz2;exact⟨by simp,zs,t,by rw[hw];exact B2 _ _,by simpa using h1,h2⟩
 ·obtain⟨zs,hz1,hz2⟩:=R8 (hp.tt t) hno hz;refine main zs hz1 λx' nx hw =>?_;obtain⟨h1,h2⟩:=Rp (x:=x') hz2;generalize cells z=cz at h1 h2;unfold A2b;split
  ·simp only[Reps] at h1;obtain⟨u,us,rfl,q1,u2,us2,rfl,q2,rfl⟩:=h1;simp[Rep] at q1;exact⟨⟨_,_,rfl⟩,u,u2,by rw[hw];exact B2 _ _,.inl q1,q2⟩
  ·exact⟨h2,zs,t,by rw[hw];exact B2 _ _,h1⟩
theorem A8h{o:Oper}{t:Nat}{x:Operand}(ho:o.op = .box t x){st:St}{d:D}(hd:ev px st t x=some d)(hl:lfs d=true):Eff cx px o st (G7 st (Be9 d)) (.ptr st.nb 0):=by
 refine⟨⟨rfl,rfl,rfl,rfl,rfl⟩,λs m a as_ w hx hW hr =>?_⟩;rw[Av,<-hx _ x (by simp[ho,Op.operands])] at hd;obtain⟨v,_,hv,hrep⟩:=hr.env.ev hd;have hh:(w.alloc (.cells v.cells t)).heap[w.heap.size]? = some (.cells v.cells.toList.toArray t (0,0)):=by simpa using B2 w (.cells v.cells t)
 obtain⟨m',h1,h2⟩:=hr.new (k:=Be9 d) (vs:=v.cells.toList) (t:=t) (Ez w (.cells v.cells t)).1 (Ez w _).2 (λx' nx hw=>by
  cases d with
  |sv c y =>simp[Rep] at hrep;obtain⟨ha,vs,rfl,hlen,hel⟩:=hrep;exact⟨ha,vs,t,by rw[hw];simpa[Value.cells] using hh,hlen,λj e he=>by obtain⟨u,hu,hf⟩:=hel j e he;exact⟨u,hu,nx.rf hf⟩⟩
  |_=>exact⟨hl,v.cells.toList,t,by rw[hw];exact hh,Reps.later nx _ _ (Mi hrep hl).reps⟩) rfl rfl
 refine .inl ⟨.pointer (some ⟨w.heap.size,0,none⟩),w.alloc (.cells v.cells t),?_,m',?_,?_⟩
 ·simp only[execOp,ho,Instr.box,hv,newVar,newRow,newObj,Sem.run_bind,Sem.run_pure,Result.andThen_ok,Sem.run,World.alloc]
 ·rw[Nw st _ s hW];exact h1
 ·rw[Nw st _ s hW];have e1:st.nb=s.nb:=hW.2.1.symm;rw[e1];exact h2
theorem Axd(hp:PxOk cx px){o:Oper}{t:Nat}{x y:Operand}(ho:o.op = .makeSlice t x y){st:St}{c:Ck}(hty:px.tt t = .sl c){k k':IntKind}{n q:Int}(hx:ev px st 0 x=some (.int k n))(hy:ev px st 0 y=some (.int k' q))(hnq : 0<=n/\n<=q)(hmax:q<=(Ah:Int)):Eff cx px o st (G7 st (.dyn c (List.replicate q.toNat (zer c)))) (.osl st.nb c 0 n):=by
 refine⟨⟨rfl,rfl,rfl,rfl,rfl⟩,λs m a as_ w hag hW hr =>?_⟩;rw[Av,<-hag _ x (by simp[ho,Op.operands])] at hx;rw[Av,<-hag _ y (by simp[ho,Op.operands])] at hy;obtain⟨v1,_,hv1,hr1⟩:=hr.env.ev hx;obtain⟨v2,_,hv2,hr2⟩:=hr.env.ev hy;obtain rfl:=Rep.int hr1;obtain rfl:=Rep.int hr2;obtain⟨by_,⟨hu,i0,z,hi0,hz,hsize,hby,hzs,hpos⟩,hby512,_⟩:=Cj (hp.tt t) hty;obtain⟨zs,hz1,hz2⟩:=Bfs (hp.tt t) hty;obtain⟨i1,z1,hi1,hzz,hzc⟩:=Kq hz1;rw[hi0] at hi1;simp at hi1;subst hi1;rw[hz] at hzz;simp at hzz;subst hzz;have hmax:q<=274877906944:=hmax;have hbound:by_*q.toNat<=512*274877906944:=Nat.mul_le_mul hby512 (by omega);have hbi:(by_:Int)*q=((by_*q.toNat:Nat):Int):=by rw[Int.natCast_mul,Int.toNat_of_nonneg (by omega)]
 have hrun:=run_make (P:=cx.P) w t (cx.el c) i0 z hu hi0 hz k k' n q hnq.1 hnq.2 (by rw[hby,hbi];omega) (by omega);have hzl:zs.length=csz c:=by rw[<-hzs,hzc];simp
 obtain⟨m',h1,h2⟩:=hr.new (k :=.dyn c (List.replicate q.toNat (zer c))) (vs:=[]) (t:=t) (Ez w (.cells (madeCells z.cells (q.toNat*i0.size)) (cx.el c))).1 (Ez w _).2 (λx' nx hw=>by
  obtain⟨hreps,_⟩:=Rp (x:=x') hz2;refine⟨by simp[ maxLen];omega,(madeCells z.cells (q.toNat*i0.size)).toList,cx.el c,by rw[hw,Array.toArray_toList];exact B2 _ _,by simp[size_madeCells,hsize],λi y j d hyi hd =>?_⟩;have hin:i<q.toNat:=by have:=(Zi2.1 hyi).1;simpa using this
  have hyz:y=zer c:=by rw[List.getElem?_replicate,if_pos hin] at hyi;simpa using hyi.symm
  subst hyz;have hj:j<csz c:=by rw[<-Bu c (zer c)];exact(Zi2.1 hd).1
  obtain⟨u,hu',hrep⟩:=hreps.get hd;refine⟨u,?_,A2r hrep (.inl rfl) ⟨c,zer c,j,hd⟩⟩;have hlt:i*csz c+j<q.toNat*i0.size:=by have:(i+1)*csz c<=q.toNat*csz c:=Nat.mul_le_mul_right _ hin;rw[Nat.succ_mul] at this;rw[hsize];omega
  have hmod:(i*csz c+j) % zs.length=j:=by rw[hzl,Nat.mul_comm,Nat.mul_add_mod];exact Nat.mod_eq_of_lt hj
  have hjz:j<zs.length:=by omega
  have hg:zs[j]=u:=by rw[Zo1 hjz] at hu';simpa using hu'
  simp[madeCells,hlt,hzc,hmod,hjz,hg]) rfl rfl
 refine .inl ⟨.slice (some ⟨w.heap.size,0,none⟩) n.toNat q.toNat,w.alloc (.cells (madeCells z.cells (q.toNat*i0.size)) (cx.el c)),?_,m',?_,?_⟩
 ·simp[execOp,ho,hv1,hv2,hrun]
 ·rw[Nw st _ s hW];exact h1
 ·rw[Nw st _ s hW];have e1:st.nb=s.nb:=hW.2.1.symm;rw[e1];simp only[Rep] at h2 ⊢;obtain⟨g1,g2⟩:=h2;simp at g2;refine⟨g1,Int.le_refl _,hnq.1,by simp[maxLen];omega,_,_,rfl,.inr ?_,by omega,by simp[maxLen];omega,madeCells z.cells (q.toNat*i0.size),(0,0),by rw[<-g2];exact B2 _ _,by simp[size_madeCells,hsize]⟩;rw[<-g2];simp
structure EffN (cx:Cx) (px:Px R) (o:Oper) (st st':St):Prop where
 same:st'.n=st.n/\st'.env=st.env/\st'.lb=st.lb/\st'.lt=st.lt/\(st'.fr,st'.df)=(st.fr,st.df)
 keep:st.nb<=st'.nb/\∀b,b∉wsN px o st->Fh (fs st) (fs st') b
 run:∀(s:FS) (m:Mp) (a:Act) (as_:List Act) (w:World),(∀t x,x∈o.op.operands->evF px s.env t x=evF px (get st.env) t x)->Dc s (fs st)->Rel cx m a as_ s w->∃w' m',(execOp a.eval o).run cx.P w = .ok .skip w'/\Rel cx m' a as_ (Ef (fs st') s) w'
theorem Rk{st:St}{b:Nat}{k:Blk}{ws:List Nat}(h:ws=[b]):st.nb<=({ st with bl:=Dd st.bl b k }:St).nb/\∀c,c∉ws->Fh (fs st) (fs { st with bl:=Dd st.bl b k }) c:=by
 subst h;refine⟨Zn1 _,λc hc =>?_⟩;have hne:c≠b:=λe=>hc (by simp[e]);have e:blk (Dd st.bl b k) c=blk st.bl c:=by rw[Eo,if_neg hne]
 exact⟨λk hk=>e.trans hk,λk hk _=>e.symm.trans hk⟩
theorem Ry(st:St)(b:Nat)(k k0:Blk)(s:FS)(h:Dc s (fs st))(hb:blk st.bl b=some k0):Ef (fs { st with bl:=Dd st.bl b k }) s={ s with bl:=λc=>if c=b then some k else s.bl c }:=by obtain⟨h1,h2,h3,h4⟩:=h;refine FS.eq rfl rfl rfl rfl rfl ?_ h2.symm h3.symm h4.symm;funext c;simp[Ef,fs,Eo,h1,hb]
theorem Bon{d:D}(h:Bth d=true):∃l tk,d = .sl .byte l tk:=by
 unfold Bth at h;split at h
 ·exact⟨_,_,rfl⟩
 ·cases h
theorem Yc(v:Value):∀(us cs:List Value) (o:Nat),Sx.writeAt (v::cs) (o+1) us=v::Sx.writeAt cs o us
 |[],_,_=>rfl
 |u::us,cs,o=>by simp[Sx.writeAt];exact Yc v us _ (o+1)
theorem Ad5:∀(us cs:List Value),us.length=cs.length->Sx.writeAt cs 0 us=us
 |[],[],_=>rfl
 |[],_::_,h=>by simp at h
 |_::_,[],h=>by simp at h
 |u::us,c::cs,h=>by simp[Sx.writeAt];rw[Yc,Ad5 us cs (by simpa using h)]
theorem Aps(hp:PxOk cx px){o:Oper}{st:St}{K:St->Option R}{r:R}(h:Yw px o st K=some r):∃st',K st' = some r/\EffN cx px o st st':=by
 unfold Yw at h;split at h
 ·rename_i t x y ho;have hsz:∀n,(px.tt t).n=n->px.tt t ≠ .no->Sx.tySz cx.P t=some n:=λn hn hno=>by rw[<-hn];exact(Dp (hp.tt t) hno).2.2
  split at h
  ·rename_i b off d hx hy;split at h
   ·rename_i T d0 hb;split at h
    ·rename_i hc;simp only[Zb1] at hc;obtain⟨⟨hc1,hc2⟩,hc3⟩:=hc;obtain rfl:=Zl1 hc1;obtain⟨l,tk,rfl⟩:=Bon hc2;have hty:=Fq hc3;refine⟨_,h,⟨rfl,rfl,rfl,rfl,rfl⟩,Rk (by simp[wsN,ho,hx]),λs m a as_ w hag hW hr =>?_⟩;rw[Av,<-hag _ x (by simp[ho,Op.operands])] at hx;rw[Av,<-hag _ y (by simp[ho,Op.operands])] at hy;obtain⟨v1,_,h2,h3⟩:=hr.env.ev hx;obtain⟨v2,_,h5,h6⟩:=hr.env.ev hy;simp[Rep] at h3;obtain⟨_,rfl⟩:=h3;have hsb:s.bl b=some (.bld T d0):=by rw[hW.1];exact hb
     obtain⟨_,a0,v0,hh,ha,_⟩:=(hr.blks b _ hsb).2;have hh:w.heap[m.bl b]? = some (.cells [a0,v0].toArray T (0,0)):=hh;have hone:Sx.one v2=true:=Agk h6 rfl;have hcl:v2.cells.toList=[v2]:=by rw[Sx.one_cells hone]
     obtain⟨r1,r2,r3⟩:=Sx.run_storeCells (P:=cx.P) v2.cells.toList w (m.bl b) 1 0 [a0,v0] T hh (by rw[hcl];simp) (by rw[hcl];intro u hu;simp at hu;subst hu;exact hone);have r2':(Sx.setCells w (m.bl b) 1 v2.cells.toList).heap[m.bl b]? = some (.cells #[a0,v2] T (0,0)):=by rw[r2,hcl];rfl
     have hrel:=hr.write (w':=Sx.setCells w (m.bl b) 1 v2.cells.toList) (k :=.bld T (.sl .byte l tk)) hsb (Ln r3 hh r2 (by rw[Sx.writeAt_length])) (λx' nx hw=>⟨⟨l,tk,rfl⟩,a0,v2,by rw[hw];exact r2',ha,Rep.later nx _ _ h6⟩);refine⟨_,m,?_,by rw[Ry st b _ _ s hW hb];exact hrel⟩;have hz1:v2.cells.size=1:=by rw[<-Array.length_toList,hcl];rfl
     have hz':Sx.tySz cx.P t=some v2.cells.size:=hsz _ (by rw[hz1,hty];rfl) (by rw[hty];simp);simp[execOp,ho,Instr.storeAt,h2,h5,vx,Instr.sureAddr,storeVar,Sem.run_bind,Sem.run_pure,Result.andThen_ok,Sx.run_sizeOf hz',ne_eq,not_true_eq_false,if_false];rw[r1];simp
    ·cases h
   split at h
   ·rename_i ds hb0;obtain⟨k0,hb,hk0⟩:∃k0,blk st.bl b=some k0/\∀x β,F6 x β k0->ds.all lf=true/\∃(vs:List Value) (t:TypeId),x.w.heap[β]? = some (.cells vs.toArray t (0,0))/\Reps x ds vs:=by
     split at hb0
     ·rename_i ds' hb;simp[Za1] at hb0;subst hb0;exact⟨_,hb,λx β h=>h⟩
     ·rename_i c y hb;simp[Za1] at hb0;subst hb0;refine⟨_,hb,λx β h =>?_⟩;obtain⟨_,vs,t,hh,hlen,hel⟩:=h;exact⟨A4w c y,vs,t,hh,(Hr (x:=x) (c:=c) (y:=y) ⟨hlen,hel⟩).reps⟩
     ·cases hb0
    split at h
    ·rename_i hc;simp only[Zb1] at hc;obtain⟨⟨⟨hc1,hc2⟩,hc3⟩,hc4⟩:=hc;have hc1:=Zl1 hc1;have hc2:off+(cells d).length<=ds.length:=by simpa using hc2
     refine⟨_,h,⟨rfl,rfl,rfl,rfl,rfl⟩,Rk (by simp[wsN,ho,hx]),λs m a as_ w hag hW hr =>?_⟩;rw[Av,<-hag _ x (by simp[ho,Op.operands])] at hx;rw[Av,<-hag _ y (by simp[ho,Op.operands])] at hy;obtain⟨v1,_,h2,h3⟩:=hr.env.ev hx;obtain⟨v2,_,h5,h6⟩:=hr.env.ev hy;simp[Rep] at h3;obtain⟨_,rfl⟩:=h3;have hcr:=Mi h6 hc3;have hsb:s.bl b=some k0:=by rw[hW.1];exact hb
     obtain⟨hl,vs,ty,hh,hreps⟩:=hk0 _ _ (hr.blks b _ hsb).2;have hh:w.heap[m.bl b]? = some (.cells vs.toArray ty (0,0)):=hh;have hvl:off+v2.cells.toList.length<=vs.length:=by rw[hcr.1,hreps.len];exact hc2
     obtain⟨r1,r2,r3⟩:=Sx.run_storeCells (P:=cx.P) v2.cells.toList w (m.bl b) off 0 vs ty hh (by omega) (Bcw hcr hc3);have hrel:=hr.write (w':=Sx.setCells w (m.bl b) off v2.cells.toList) (k:=A2n ds off d) hsb (Ln r3 hh r2 (by rw[Sx.writeAt_length])) (λx' nx hw=>by
      have base:F6 x' (m.bl b) (.cells (write ds off (cells d))):=by refine⟨Ah7 _ _ _ hl hc3,Sx.writeAt vs off v2.cells.toList,ty,by rw[hw];exact r2,?_⟩;exact Reps.later nx _ _ (N9 _ _ _ _ _ (Gs hreps) hcr hc2).reps
      have hvd:vs.length=ds.length:=hreps.len;clear hy h5 h;cases d with
      |sv c y =>
       simp[A2n];split
       ·rename_i hwh;simp only[Zb1] at hwh;obtain rfl:=Zl1 hwh.1;have hcz:=Zl1 hwh.2;simp[Rep] at h6;obtain⟨ha,us,rfl,hul,hel⟩:=h6;have hcl:(Value.agg us.toArray).cells.toList=us:=by simp[Value.cells]
        rw[hcl,Ad5 us vs (by omega)] at r2;exact⟨ha,us,ty,by rw[hw];exact r2,hul,λj e he=>by obtain⟨u,hu,hf⟩:=hel j e he;exact⟨u,hu,nx.rf hf⟩⟩
       ·exact base
      |_=>exact base)
     refine⟨_,m,?_,by rw[Ry st b _ _ s hW hb];exact hrel⟩;have hz':Sx.tySz cx.P t=some v2.cells.size:=hsz _ (by rw[<-hc1,<-hcr.1];simp) (Eu hc4).1;simp[execOp,ho,Instr.storeAt,h2,h5,vx,Instr.sureAddr,storeVar,Sem.run_bind,Sem.run_pure,Result.andThen_ok,Sx.run_sizeOf hz',ne_eq,not_true_eq_false,if_false];rw[r1];simp
    ·cases h
   ·cases h
  ·rename_i b c0 n0 i d hx hy;split at h
   ·rename_i c n xs hb;split at h
    ·rename_i y0 hk0 hc;simp only[Zb1,Zg1] at hc;obtain⟨⟨⟨hc1,rfl⟩,hc3⟩,hc4⟩:=hc;have hc1:=Zl1 hc1;have hc3:=Zl1 hc3;subst hc3;refine⟨_,h,⟨rfl,rfl,rfl,rfl,rfl⟩,Rk (by simp[wsN,ho,hx]),λs m a as_ w hag hW hr =>?_⟩;rw[Av,<-hag _ x (by simp[ho,Op.operands])] at hx;rw[Av,<-hag _ y (by simp[ho,Op.operands])] at hy;obtain⟨v1,_,h2,h3⟩:=hr.env.ev hx;obtain⟨v2,_,h5,h6⟩:=hr.env.ev hy;simp[Rep] at h3;obtain⟨_,rfl,hi1,hi2⟩:=h3;obtain⟨hel,_,_⟩:=M3 hk0 h6;have hsb:s.bl b=some (.row c0 n0 xs):=by rw[hW.1];exact hb
     obtain⟨_,hnl,vs,ty,hh,hlen,hreps⟩:=hr.blks b _ hsb;have hh:w.heap[m.bl b]? = some (.cells vs.toArray ty (0,0)):=hh;have hin:i.toNat<xs.length:=by omega
     have hvl:i.toNat*csz c0+v2.cells.toList.length<=vs.length:=by rw[hel.1,hlen,<-Nat.succ_mul];exact Nat.mul_le_mul_right _ (by omega)
     obtain⟨r1,r2,r3⟩:=Sx.run_storeCells (P:=cx.P) v2.cells.toList w (m.bl b) (i.toNat*csz c0) 0 vs ty hh (by omega) hel.one;have hwget:∀(us cs:List Value) (o q:Nat),o+us.length<=cs.length->(Sx.writeAt cs o us)[q]? = if o<=q/\q<o+us.length then us[q-o]? else cs[q]? := by
      intro us;induction us with
      |nil=>intro cs o q _;simp only[Sx.writeAt,Zi1,Nat.add_zero];rw[if_neg (by omega)]
      |cons u us ih =>
       intro cs o q hl;simp[Zf1] at hl;simp only[Sx.writeAt];rw[ih (cs.set o u) (o+1) q (by simp;omega)];simp[Zf1];by_cases hq:q=o
       ·subst hq;rw[if_neg (by omega),if_pos (by omega)];simp[show q<cs.length by omega]
       ·by_cases hin2:o+1<=q/\q<o+1+us.length
        ·rw[if_pos hin2,if_pos (by omega),show q-o=(q-(o+1))+1 by omega];simp
        ·rw[if_neg hin2,if_neg (by omega),List.getElem?_set_ne (Ne.symm hq)]
     have hrel:=hr.write (w':=Sx.setCells w (m.bl b) (i.toNat*csz c0) v2.cells.toList) (k :=.row c0 n0 (xs.set i.toNat y0)) hsb (Ln r3 hh r2 (by rw[Sx.writeAt_length])) (λx' nx hw=>by
      refine⟨by simpa using hnl,Sx.writeAt vs (i.toNat*csz c0) v2.cells.toList,ty,by rw[hw];exact r2,by rw[Sx.writeAt_length];simpa using hlen,λq y j d' hy' hd' =>?_⟩;have hjc:j<csz c0:=by rw[<-Bu c0 y];exact(Zi2.1 hd').1
      rw[hwget _ _ _ _ hvl,hel.1];by_cases hqi:q=i.toNat
      ·subst hqi;rw[List.getElem?_set_self hin] at hy';simp[Za1] at hy';subst hy';obtain⟨u,hu,hf⟩:=hel.2 j d' hd';refine⟨u,?_,nx.rf hf⟩;rw[if_pos (by omega),show i.toNat*csz c0+j-i.toNat*csz c0=j by omega];exact hu
      ·rw[List.getElem?_set_ne (Ne.symm hqi)] at hy';obtain⟨u,hu,hf⟩:=hreps q y j d' hy' hd';refine⟨u,?_,nx.rf hf⟩;rw[if_neg,hu];rintro⟨g1,g2⟩;rcases Nat.lt_or_ge q i.toNat with hlt|hge
       ·have:(q+1)*csz c0<=i.toNat*csz c0:=Nat.mul_le_mul_right _ hlt;rw[Nat.succ_mul] at this;omega
       ·have:(i.toNat+1)*csz c0<=q*csz c0:=Nat.mul_le_mul_right _ (by omega);rw[Nat.succ_mul] at this;omega)
     refine⟨_,m,?_,by rw[Ry st b _ _ s hW hb];exact hrel⟩;have hz':Sx.tySz cx.P t=some v2.cells.size:=hsz _ (by rw[hc1,<-hel.1];simp) (Eu hc4).1;simp[execOp,ho,Instr.storeAt,h2,h5,vx,Instr.sureAddr,storeVar,Sem.run_bind,Sem.run_pure,Result.andThen_ok,Sx.run_sizeOf hz',ne_eq,not_true_eq_false,if_false];rw[r1];simp
    ·cases h
   ·cases h
  ·rename_i b c0 i d hx hy;split at h
   ·rename_i c xs hb;split at h
    ·rename_i y0 hk0 hc;simp only[Zb1,Zg1] at hc;obtain⟨⟨hc1,rfl⟩,hc4⟩:=hc;obtain⟨hib,h⟩:=A0 h;have hib:=K7 hib;refine⟨_,h,⟨rfl,rfl,rfl,rfl,rfl⟩,Rk (by simp[wsN,ho,hx]),λs m a as_ w hag hW hr =>?_⟩;rw[Av,<-hag _ x (by simp[ho,Op.operands])] at hx;rw[Av,<-hag _ y (by simp[ho,Op.operands])] at hy;obtain⟨v1,_,h2,h3⟩:=hr.env.ev hx;obtain⟨v2,_,h5,h6⟩:=hr.env.ev hy;simp[Rep] at h3;obtain⟨_,rfl,hi1⟩:=h3;obtain⟨hel,_,_⟩:=M3 hk0 h6;have hsb:s.bl b=some (.dyn c0 xs):=by rw[hW.1];exact hb
     obtain⟨_,hnl,vs,ty,hh,hlen,hreps⟩:=hr.blks b _ hsb;have hh:w.heap[m.bl b]? = some (.cells vs.toArray ty (0,0)):=hh;have hin:i.toNat<xs.length:=by omega
     have hvl:i.toNat*csz c0+v2.cells.toList.length<=vs.length:=by refine Nat.le_trans ?_ hlen;rw[hel.1,<-Nat.succ_mul];exact Nat.mul_le_mul_right _ (by omega)
     obtain⟨r1,r2,r3⟩:=Sx.run_storeCells (P:=cx.P) v2.cells.toList w (m.bl b) (i.toNat*csz c0) 0 vs ty hh (by omega) hel.one;have hwget:∀(us cs:List Value) (o q:Nat),o+us.length<=cs.length->(Sx.writeAt cs o us)[q]? = if o<=q/\q<o+us.length then us[q-o]? else cs[q]? := by
      intro us;induction us with
      |nil=>intro cs o q _;simp only[Sx.writeAt,Zi1,Nat.add_zero];rw[if_neg (by omega)]
      |cons u us ih =>
       intro cs o q hl;simp[Zf1] at hl;simp only[Sx.writeAt];rw[ih (cs.set o u) (o+1) q (by simp;omega)];simp[Zf1];by_cases hq:q=o
       ·subst hq;rw[if_neg (by omega),if_pos (by omega)];simp[show q<cs.length by omega]
       ·by_cases hin2:o+1<=q/\q<o+1+us.length
        ·rw[if_pos hin2,if_pos (by omega),show q-o=(q-(o+1))+1 by omega];simp
        ·rw[if_neg hin2,if_neg (by omega),List.getElem?_set_ne (Ne.symm hq)]
     have hrel:=hr.write (w':=Sx.setCells w (m.bl b) (i.toNat*csz c0) v2.cells.toList) (k :=.dyn c0 (xs.set i.toNat y0)) hsb (Ln r3 hh r2 (by rw[Sx.writeAt_length])) (λx' nx hw=>by
      refine⟨by simpa using hnl,Sx.writeAt vs (i.toNat*csz c0) v2.cells.toList,ty,by rw[hw];exact r2,by rw[Sx.writeAt_length];simpa using hlen,λq y j d' hy' hd' =>?_⟩;have hjc:j<csz c0:=by rw[<-Bu c0 y];exact(Zi2.1 hd').1
      rw[hwget _ _ _ _ hvl,hel.1];by_cases hqi:q=i.toNat
      ·subst hqi;rw[List.getElem?_set_self hin] at hy';simp[Za1] at hy';subst hy';obtain⟨u,hu,hf⟩:=hel.2 j d' hd';refine⟨u,?_,nx.rf hf⟩;rw[if_pos (by omega),show i.toNat*csz c0+j-i.toNat*csz c0=j by omega];exact hu
      ·rw[List.getElem?_set_ne (Ne.symm hqi)] at hy';obtain⟨u,hu,hf⟩:=hreps q y j d' hy' hd';refine⟨u,?_,nx.rf hf⟩;rw[if_neg,hu];rintro⟨g1,g2⟩;rcases Nat.lt_or_ge q i.toNat with hlt|hge
       ·have:(q+1)*csz c0<=i.toNat*csz c0:=Nat.mul_le_mul_right _ hlt;rw[Nat.succ_mul] at this;omega
       ·have:(i.toNat+1)*csz c0<=q*csz c0:=Nat.mul_le_mul_right _ (by omega);rw[Nat.succ_mul] at this;omega)
     refine⟨_,m,?_,by rw[Ry st b _ _ s hW hb];exact hrel⟩;have hz':Sx.tySz cx.P t=some v2.cells.size:=hsz _ (by rw[(Zl1 hc1),<-hel.1];simp) (Eu hc4).1;simp[execOp,ho,Instr.storeAt,h2,h5,vx,Instr.sureAddr,storeVar,Sem.run_bind,Sem.run_pure,Result.andThen_ok,Sx.run_sizeOf hz',ne_eq,not_true_eq_false,if_false];rw[r1];simp
    ·cases h
   ·cases h
  ·cases h
 ·cases h
end
section
variable {R:Type}{px:Px R}{cx:Cx}
def Ba(x:Vx)(c:Ck)(xs:List (El c))(vs:List Value):Prop:=vs.length=xs.length*csz c/\∀i y j d,xs[i]? = some y->(enc c y)[j]? = some d->∃u,vs[i*csz c+j]? = some u/\RF x.S x.w d u
theorem Ba.nil(x:Vx)(c:Ck):Ba x c [] []:=⟨by simp,λi y j d hy=>by simp at hy⟩
theorem Ba.later{x x':Vx}(h:Nx x x'){c:Ck}{xs:List (El c)}{vs:List Value}(hr:Ba x c xs vs):Ba x' c xs vs:=⟨hr.1,λi y j d hy hd=>by obtain⟨u,hu,hf⟩:=hr.2 i y j d hy hd;exact⟨u,hu,h.rf hf⟩⟩
theorem Ba.append{x:Vx}{c:Ck}{xs ys:List (El c)}{vs us:List Value}(h:Ba x c xs vs)(k:Ba x c ys us):Ba x c (xs++ys) (vs++us):=by
 refine⟨by simp[h.1,k.1,Nat.add_mul],λi y j d hy hd =>?_⟩;have hj:j<csz c:=by rw[<-Bu c y];exact(Zi2.1 hd).1
 rw[List.getElem?_append] at hy;split at hy
 ·rename_i hi;obtain⟨u,hu,hf⟩:=h.2 i y j d hy hd;refine⟨u,?_,hf⟩;rw[List.getElem?_append_left,hu];exact(Zi2.1 hu).1
 ·rename_i hi;obtain⟨u,hu,hf⟩:=k.2 _ y j d hy hd;refine⟨u,?_,hf⟩;have hle:xs.length*csz c<=i*csz c:=Nat.mul_le_mul_right _ (by omega);rw[List.getElem?_append_right (by rw[h.1];omega),h.1];rwa[Nat.sub_mul,<-Nat.sub_add_comm hle] at hu
theorem Ba.cons{x:Vx}{c:Ck}{y:El c}{xs:List (El c)}{us vs:List Value}(h:ElR x c y us)(k:Ba x c xs vs):Ba x c (y::xs) (us++vs):=by
 have:Ba x c [y] us:=⟨by simpa using h.1,λi z j d hz hd=>by
  cases i with
  |zero=>simp at hz;subst hz;simpa using h.2 j d hd
  |succ i=>simp at hz⟩
 exact this.append k
theorem Ba.one{x:Vx}{c:Ck}{xs:List (El c)}{vs:List Value}(h:Ba x c xs vs):∀v,v∈vs->Sx.one v=true:=by
 intro v hv;obtain⟨q,hq,rfl⟩:=List.mem_iff_getElem.1 hv;have hp:=Afx c;have hi:q / csz c<xs.length:=by rw[Nat.div_lt_iff_lt_mul hp,<-h.1];exact hq
 have hj:q % csz c<csz c:=Nat.mod_lt _ hp;obtain⟨u,hu,hf⟩:=h.2 (q / csz c) _ (q % csz c) _ (Zo1 hi) (Zo1 (by rw[Bu];exact hj));rw[show q / csz c*csz c+q % csz c=q by rw[Nat.mul_comm];exact Nat.div_add_mod q (csz c),Zo1 hq] at hu;simp at hu;rw[hu];exact A1g hf.here
theorem Alg{x:Vx}{c:Ck}{xs:List (El c)}{vs:List Value}{g cap:Nat}(h:Ba x c xs vs)(hle:xs.length<=cap/\cap<=maxLen)(hm:∀(j:Nat) u,vs[j]? = some u->x.w.cell? ⟨g,j,none⟩=some u)(hS:∀i,i<xs.length*csz c->¬x.S g i):RF x.S x.w (.sl c xs .no) (.slice (some ⟨g,0,none⟩) xs.length cap):=by
 refine Jl rfl (.inr ⟨g,0,rfl,hle,λi y hy w' hw j d hd =>?_⟩);obtain⟨u,hu,hf⟩:=h.2 i y j d hy hd;have hlt:i*csz c+j<xs.length*csz c:=by rw[<-h.1];exact(Zi2.1 hu).1
 refine⟨u,?_,hf w' hw⟩;rw[Nat.zero_add];exact hw.cell g _ u (hm _ u hu) (hS _ hlt)
theorem Fi{x:Vx}{c:Ck}{xs:List (El c)}{v:Value}(h:RF x.S x.w (.sl c xs .no) v):∃a cap vs,v = .slice a xs.length cap/\Ba x c xs vs/\∀b o,a=some ⟨b,o,none⟩->xs≠[]->∀(j:Nat) u,vs[j]? = some u->x.w.cell? ⟨b,o+j,none⟩=some u:=by
 obtain⟨a,cap,rfl,hf⟩:=Br h;rcases hf with rfl|⟨b,o,rfl,hle,hat⟩
 ·exact⟨a,cap,[],rfl,Ba.nil _ _,λ_ _ _ h=>absurd rfl h⟩
 ·have key:∀(n:Nat),n<=xs.length->∃vs,Ba x c (xs.take n) vs/\∀(j:Nat) u,vs[j]? = some u->x.w.cell? ⟨b,o+j,none⟩=some u:=by
   intro n;induction n with
   |zero=>intro _;exact⟨[],by simpa using Ba.nil x c,by simp⟩
   |succ n ih =>
    intro hn;obtain⟨vs,h1,h2⟩:=ih (by omega);have hx:xs[n]? = some (xs[n]'(by omega)):=Zo1 (by omega);obtain⟨us,h3,h4⟩:=At.elR rfl (hat n _ hx);have h5:=h1.append (show Ba x c [xs[n]'(by omega)] us from by simpa using Ba.cons h3 (Ba.nil x c));rw[List.take_append_getElem] at h5;refine⟨vs++us,h5,λj u hj =>?_⟩;rw[List.getElem?_append] at hj;split at hj
    ·exact h2 j u hj
    ·rename_i hlt;have hl:vs.length=n*csz c:=by rw[h1.1,List.length_take,Nat.min_eq_left (by omega)]
     have:=h4 _ u hj;rw[hl] at this hlt;rwa[show o+n*csz c+(j-n*csz c)=o+j by omega] at this
  obtain⟨vs,h1,h2⟩:=key xs.length (Zn1 _);rw[List.take_length] at h1;refine⟨_,cap,vs,rfl,h1,λb' o' he _ =>?_⟩;simp at he;obtain⟨rfl,rfl⟩:=he;exact h2
theorem Azw{x:Vx}{c:Ck}:∀{l:List D}{ys:List (El c)}{vs:List Value},A32 c l=some ys->Reps x l vs->Ba x c ys (vs.flatMap λv=>v.cells.toList)/\(∀v,v∈vs->v.cells.size=csz c)/\ys.length=l.length
 |[],ys,vs,h,hr=>by simp[A32] at h;simp[Reps] at hr;subst h;subst hr;exact⟨Ba.nil _ _,by simp,rfl⟩
 |d::l,ys,vs,h,hr=>by
  simp[A32] at h;split at h
  ·rename_i y hy;split at h
   ·rename_i ys' hys;simp at h;subst h;simp[Reps] at hr;obtain⟨u,us,rfl,h1,h2⟩:=hr;obtain⟨i1,i2,i3⟩:=Azw hys h2;obtain⟨e1,_,_⟩:=M3 hy h1;refine⟨by simpa using Ba.cons e1 i1,λv hv =>?_,by simp[i3]⟩;simp at hv;rcases hv with rfl|hv
    ·have:=e1.1;simpa using this
    ·exact i2 v hv
   ·cases h
  ·cases h
theorem Ajw(st:St)(al:List Nat)(t0:Option Nat)(s:FS)(h:Dc s (fs st))(hal:∀t,t∈al↔(t∈st.tk/\t0≠some t)):Ef (fs (D4 { st with tk:=al })) s={ s with al:=λt=>(s.al t/\t0≠some t)\/t=s.nt,nt:=s.nt+1 }:=by
 obtain⟨h1,h2,h3,h4⟩:=h;refine FS.eq rfl rfl rfl rfl rfl h1.symm h2.symm ?_ ?_
 ·funext t;simp[ fs,D4,h3,h4,hal];exact or_comm
 ·simp[Ef,fs,D4,h4]
theorem Apt{m:Mp}{a:Act}{as_:List Act}{s:FS}{w:World}(h:Rel cx m a as_ s w){b:Nat}(hb:w.heap.size<=b)(i:Nat):¬(vx cx m s w).S b i:=by
 rintro(hM|hf)
 ·have:=(h.away b i 0 hM).1;have:=h.chg.size;omega
 ·have:=(h.own b i hf).1;omega
theorem Zc{m:Mp}{a:Act}{as_:List Act}{s:FS}{w w':World}(hr:Rel cx m a as_ s w){c:Ck}{xs:List (El c)}{vs:List Value}{cur:Array Value}{cap:Nat}{t0:Option Nat}(hrow:Ba (vx cx m s w) c xs vs)(hch:Chg B9 w w')(hsz:w.heap.size<w'.heap.size)(hh:w'.heap[w.heap.size]? = some (.cells cur (cx.el c) (0,0)))(hcur:cur.size=cap*csz c)(hle:xs.length<=cap)(hmax:cap<=maxLen)(hpre:∀(j:Nat) u,vs[j]? = some u->cur[j]? = some u) :
  Rel cx { m with tk:=λt=>if t=s.nt then some (w.heap.size,xs.length*csz c) else m.tk t } a as_ { s with al:=λt=>(s.al t/\t0≠some t)\/t=s.nt,nt:=s.nt+1 } w'/\Rep (vx cx { m with tk:=λt=>if t=s.nt then some (w.heap.size,xs.length*csz c) else m.tk t } { s with al:=λt=>(s.al t/\t0≠some t)\/t=s.nt,nt:=s.nt+1 } w') (.sl c xs (.id s.nt)) (.slice (some ⟨w.heap.size,0,none⟩) xs.length cap):=by
 obtain⟨hrel,nx⟩:=hr.right (t0:=t0) (p:=some (w.heap.size,xs.length*csz c)) (hch.mono (λ_ _ h=>h.elim)) (λg o hg=>by simp at hg;obtain⟨rfl,rfl⟩:=hg;exact⟨hsz,.inl (Zn1 _)⟩)
 refine⟨hrel,?_⟩;simp;refine⟨Alg (hrow.later nx) ⟨hle,hmax⟩ (λj u hj =>?_) (λi hi =>?_),Nat.lt_succ_self _,λ_ =>.inr ⟨w.heap.size,cap,cur,rfl,by simp[vx],hh,hcur,hle,hmax⟩⟩
 ·show w'.cell? _=_;simp[World.cell?,hh];exact hpre j u hj
 ·rintro(hM|hf)
  ·have:=(hr.away _ i 0 hM).1;have:=hr.chg.size;omega
  ·rcases hf with ⟨q,hq,he⟩|⟨t,o,h1,h2,h3⟩
   ·have:=hr.own_b hq;have he:m.bl q=w.heap.size:=he;omega
   ·by_cases ht:t=s.nt
    ·subst ht;simp at h2;omega
    ·simp[if_neg ht] at h2;rcases h1 with h1|h1
     ·have:=hr.own_t h1.1 h2;omega
     ·exact absurd h1 ht
theorem Y5(hp:PxOk cx px){o:Oper}{t len:Nat}{ps:Array (Nat×Operand)}(ho:o.op = .buildSlice t len ps){c:Ck}(hty:px.tt t = .sl c){l:List D}(hlen:l.length=len)(hmax:len*csz c<=16777216){xs:List (El c)}(hxs:A32 c l=some xs){s:FS}{m:Mp}{a:Act}{w:World}{vs:List Value}(h0:ps.toList.map (·.1)=List.range' 0 l.length)(h2:(ps.toList.map (·.2)).map a.eval=vs)(h3:Reps (vx cx m s w) l vs):xs.length=len/\len<=maxLen/\∃us,Ba (vx cx m s w) c xs us/\(execOp a.eval o).run cx.P w = .ok (.value (.slice (some ⟨w.heap.size,0,none⟩) len len)) (w.alloc (.cells us.toArray (cx.el c))):=by
 obtain⟨hrow,hcs,hxl⟩:=Azw hxs h3;obtain⟨by_,⟨hu,i0,z,hi0,hz,hsize,hby,hzs,hpos⟩,_,_⟩:=Cj (hp.tt t) hty;have hvl:vs.length=len:=by rw[h3.len,hlen]
 have hpl:(ps.map λx=>match x with|(i,x)=>(i,a.eval x))=((List.range' 0 vs.length).zip vs).toArray:=by apply Array.ext';rw[Array.toList_map];exact A8o (by rw[h0,h3.len]) h2
 have hzero:(((Array.range (len*csz c)).map λi=>z.cells[i % z.cells.size]!)).toList.length=len*csz c:=by simp
 have hfill:=Sx.fill_all (csz c) vs 0 [] (((Array.range (len*csz c)).map λi=>z.cells[i % z.cells.size]!)).toList hcs (by simp) (by rw[hzero,hvl];exact Zn1 _);have hdrop:(((Array.range (len*csz c)).map λi=>z.cells[i % z.cells.size]!)).toList.drop (vs.length*csz c)=[]:=Zk1 (by rw[hzero,hvl];exact Zn1 _);rw[hdrop] at hfill;simp only[Zf2,List.append_nil] at hfill;have hzv:(zeroValue (cx.el c)).run cx.P w = .ok z w:=by simp[zeroValue,typeInfo,hi0,hz]
 have hszr:(sizeOf (cx.el c)).run cx.P w = .ok (csz c) w:=by simp[sizeOf,typeInfo,hi0,hsize]
 have hm':¬(len*csz c > 2 ^ 24):=by have:(2:Nat) ^ 24=16777216:=rfl;omega
 refine⟨by omega,by have:=Afx c;have:len<=len*csz c:=Nat.le_mul_of_pos_right _ this;simp[maxLen];omega,_,hrow,?_⟩;by_cases h0':len*csz c=0
 ·have hv0:vs=[]:=by
   have:len=0:=by
    rcases Nat.mul_eq_zero.1 h0' with h|h
    ·exact h
    ·omega
   exact List.eq_nil_of_length_eq_zero (by omega)
  subst hv0;have hfe:Instr.fill (λi=>some (i*csz c,csz c)) ((Array.range (len*csz c)).map (λx=>(#[]:Array Value)[x % (#[]:Array Value).size]!)) []=some #[]:=by rw[h0'];simp[Instr.fill]
  simp only[execOp,ho,hpl,Instr.buildSlice,Sem.run_bind,run_underlying hu,Result.andThen_ok,hszr,if_neg hm',if_pos h0'];simp only[Zi1,List.range'_zero,List.zip_nil_left,hfe,newRow,newObj,Sem.run_bind,Sem.run,Sem.run_pure,Result.andThen_ok,World.alloc,List.flatMap_nil]
 ·simp only[execOp,ho,hpl,Instr.buildSlice,Sem.run_bind,run_underlying hu,Result.andThen_ok,hszr,if_neg hm',if_neg h0',hzv,hfill,newRow,newObj,Sem.run,Sem.run_pure,World.alloc]
theorem Btx(c:Ck):csz c<=18:=by cases c<;>decide
theorem Ae3(hp:PxOk cx px){o:Oper}{t len:Nat}{ps:Array (Nat×Operand)}(ho:o.op = .buildSlice t len ps){st:St}{c:Ck}(hty:px.tt t = .sl c){xs:List (El c)}(hxs:Aix px st c len ps.toList=some xs){s:FS}{m:Mp}{a:Act}{as_:List Act}{w:World}(hag:∀t x,x∈o.op.operands->evF px s.env t x=evF px (get st.env) t x)(hr:Rel cx m a as_ s w):xs.length=len/\len<=maxLen/\∃us,Ba (vx cx m s w) c xs us/\(execOp a.eval o).run cx.P w = .ok (.value (.slice (some ⟨w.heap.size,0,none⟩) len len)) (w.alloc (.cells us.toArray (cx.el c))):=by
 unfold Aix at hxs;split at hxs
 ·rename_i cs hcs;split at hxs
  ·rename_i ds hds;split at hxs
   ·rename_i x hc hx;simp only[Zb1] at hc;obtain⟨hg,h1⟩:=hc;obtain rfl:=Zl1 h1;simp at hxs;subst hxs;unfold Bsh at hcs;split at hcs
    ·rename_i cs0 hps;simp at hcs;subst hcs;obtain⟨hrep,hlf⟩:=Aiu (x:=vx cx m s w) hds;have hcz:=Btx c;refine Y5 hp ho hty (l:=[.agg ds]) rfl (by omega) (xs:=[x]) (by simp[A32,toK,hg,hx]) (vs:=[.agg cs0]) (by rw[hps];rfl) (by rw[hps];rfl) ?_;simp only[Reps];exact⟨_,[],rfl,⟨hlf,cs0.toList,by simp,hrep⟩,rfl⟩
    ·cases hcs
   ·cases hxs
  ·cases hxs
 ·split at hxs
  ·rename_i l hl;split at hxs
   ·rename_i ys hcd hys;simp only[Zb1] at hcd;simp at hxs;subst hxs;obtain⟨vs,h0,_,h2,h3⟩:=Abh hr.env hl (λu q hq=>by rw[Av];exact hag u q (by rw[ho];simpa[Op.operands] using hq));exact Y5 hp ho hty (Zl1 hcd.1) (by simpa using hcd.2) hys h0 h2 h3
   ·cases hxs
  ·cases hxs
theorem A2d(hp:PxOk cx px){o:Oper}{t len:Nat}{ps:Array (Nat×Operand)}(ho:o.op = .buildSlice t len ps){st:St}{c:Ck}(hty:px.tt t = .sl c){xs:List (El c)}(hxs:Aix px st c len ps.toList=some xs):Eff cx px o st (D4 st) (.sl c xs (.id st.nt)):=by refine⟨⟨rfl,rfl,rfl,rfl,rfl⟩,λs m a as_ w hag hW hr =>?_⟩;obtain⟨hxl,hml,us,hrow,hrun⟩:=Ae3 hp ho hty hxs hag hr;have hnr:=Zc (t0:=none) hr (xs:=xs) (cur:=us.toArray) (cap:=len) hrow (Ez w _).1 (Ez w _).2 (B2 w _) (by simp;rw[hrow.1,hxl]) (by omega) hml (λj u hj=>by simpa using hj);have hfs:=Ajw st st.tk none s hW (λt=>by simp);have hst:({ st with tk:=st.tk }:St)=st:=rfl;rw[hst] at hfs;have hnt:st.nt=s.nt:=hW.2.2.2.symm;rw[hxl] at hnr;rw[<-hfs] at hnr;exact .inl ⟨_,_,hrun,_,hnr.1,by rw[hnt];exact hnr.2⟩
theorem Aww{m:Mp}{a:Act}{as_:List Act}{s:FS}{w w':World}(hr:Rel cx m a as_ s w)(hch:Chg B9 w w'){c:Ck}{xs:List (El c)}{us:List Value}(hrow:Ba (vx cx m s w) c xs us){cap:Nat}(hle:xs.length<=cap/\cap<=maxLen)(hm:∀(j:Nat) u,us[j]? = some u->w'.cell? ⟨w.heap.size,j,none⟩=some u):Rep (vx cx m s w') (.sl c xs .no) (.slice (some ⟨w.heap.size,0,none⟩) xs.length cap):=by have nx:Nx (vx cx m s w) (vx cx m s w'):=⟨hch.mono (λ_ _ h=>h.elim),λb i hi =>.inl hi,rfl,λ_ _=>rfl,Zn1 _,Zn1 _,λt _ ha=>⟨ha,rfl,λg o hg=>hch.block g (hr.own_t ha hg) (λ_ h=>h)⟩⟩;simp[Rep];exact⟨Alg (hrow.later nx) hle hm (λi _=>Apt hr (Zn1 _) i),trivial⟩
theorem G8(w:World)(n o:Nat)(e:TypeId):n<=grownCap w n o e:=by unfold grownCap Question.cut;exact Nat.le_add_right _ _
theorem Mk(w:World)(n o:Nat)(e:TypeId)(h:n<=9223372036854775807):grownCap w n o e<=maxLen:=by show n+w.tape w.drawn (.appendCap n o e) % (2 ^ 63-n)<=9223372036854775807;have:w.tape w.drawn (.appendCap n o e) % (2 ^ 63-n)<2 ^ 63-n:=Nat.mod_lt _ (by have:(2:Nat) ^ 63=9223372036854775808:=rfl;omega);have h2:(2:Nat) ^ 63=9223372036854775808:=rfl;omega
theorem U4(hp:PxOk cx px){o:Oper}{q t:Nat}{x:Operand}(ho:o.op = .convert q t x){st:St}{l:Str}(hx:ev px st q x=some (.str l))(hty:px.tt t = .sl .byte)(hq:px.tt q = .str){s:FS}{m:Mp}{a:Act}{as_:List Act}{w:World}(hag:∀t x,x∈o.op.operands->evF px s.env t x=evF px (get st.env) t x)(hr:Rel cx m a as_ s w):∃v w',(execOp a.eval o).run cx.P w = .ok (.value v) w'/\Rel cx m a as_ s w'/\Rep (vx cx m s w') (.sl .byte l .no) v:=by
 rw[Av,<-hag _ x (by simp[ho,Op.operands])] at hx;obtain⟨v,_,hv,hrep⟩:=hr.env.ev hx;obtain rfl:=Rep.str hrep;obtain⟨by_,hT,_,h8⟩:=Cj (hp.tt t) hty;have hqs:=Sx.tyS_spec (Gz (hp.tt q) hq);obtain⟨cap,w',hrun,hch,hsz,hle,hcells⟩:∃cap w',(convert q t (Sx.S l)).run cx.P w = .ok (.slice (some ⟨w.heap.size,0,none⟩) l.length cap) w'/\Chg B9 w w'/\w.heap.size<w'.heap.size/\(l.length<=cap/\cap<=maxLen)/\∀(j:Nat) b,l[j]? = some b->w'.cell? ⟨w.heap.size,j,none⟩=some (.int .u8 (b.toNat:Int)):=by refine⟨_,_,run_bytes_of_string w q t (cx.el .byte) _ hqs hT.und (Sx.tyI_spec (h8 rfl)),(Chg.drew _ _).trans (Chg.alloc _ _ _),by simp,⟨G8 _ _ _ _,Mk _ _ _ _ (by have:=hrep.strLen;simp[maxLen] at this;simpa[ByteArray.size] using this)⟩,λj b hb =>?_⟩;have hh:∀o,(w.drew.alloc o).heap[w.heap.size]? = some o:=λo=>B2 w.drew o;simp only[World.cell?,hh];have hlt:j<l.length:=(Zi2.1 hb).1;simp[bytesRow];rw[Array.getElem?_append_left (by simpa using hlt)];simp[hb]
 refine⟨.slice (some ⟨w.heap.size,0,none⟩) l.length cap,w',by simp[execOp,ho,hv,hrun],hr.quiet hch,?_⟩;refine Aww hr hch (us:=l.map λb =>.int .u8 (b.toNat:Int)) ⟨by simp[csz],λi y j d hy hd =>?_⟩ hle (λj u hj =>?_)
 ·simp[enc] at hd;cases j with|succ j=>simp at hd|zero =>simp at hd;subst hd;refine⟨_,by simpa[csz] using ⟨y,hy,rfl⟩,λw'' _ =>.int _ _ (Bsa ?_)⟩;have:=y.toNat_lt;omega
 ·rw[List.getElem?_map] at hj;cases hb:l[j]? with|none=>simp[hb] at hj|some b=>simp[hb] at hj;subst hj;exact hcells j b hb
theorem Ato(hp:PxOk cx px){o:Oper}{q t:Nat}{x:Operand}(ho:o.op = .convert q t x){st:St}{l:Str}(hx:ev px st q x=some (.str l))(hty:px.tt t = .sl .byte)(hq:px.tt q = .str):Eff cx px o st st (.sl .byte l .no):=by refine⟨⟨rfl,rfl,rfl,rfl,rfl⟩,λs m a as_ w hag hW hr =>?_⟩;obtain⟨v,w',h1,h2,h3⟩:=U4 hp ho hx hty hq hag hr;rw[I5 hW];exact .inl ⟨v,w',h1,m,h2,h3⟩
theorem Jw{c:Ck}{d:D}{ys:List (El c)}(h:toS c d=some ys):∃t,d = .sl c ys t:=by
 unfold toS at h;split at h
 ·split at h
  ·rename_i c' xs t hc;subst hc;simp at h;subst h;exact⟨t,rfl⟩
  ·cases h
 ·cases h
theorem Lt{P:Program}{t ty u:TypeId}{sz by_:Nat}{w:World}(hT:Sx.ElTy P t u sz by_){v:Value}{ad:Option Addr}{c:Nat}(hv:v = .slice none 0 0\/∃g n cap,v = .slice (some ⟨g,0,none⟩) n cap/\n<=cap):(Builtin.append_ #[t,t] ty #[v,.slice ad 0 c]).run P w = .ok v w:=by
 obtain⟨hu,i0,z,hi0,hz,hsz,hby,hzs,hpos⟩:=hT;rcases hv with rfl|⟨g,n,cap,rfl,hnc⟩
 ·cases ad<;>simp[ run_underlying hu,go_sem,sizeOf,typeInfo,hi0,loadCells]
 ·cases ad<;>simp[ run_underlying hu,go_sem,sizeOf,typeInfo,hi0,loadCells,loadCellsFrom,hnc,storeCells]
theorem P1{c:Ck}{i0:TypeInfo}{z:Value}(hsize:i0.size=csz c)(hzs:z.cells.size=csz c){st:St}{xs ys:List (El c)}{tk:Tk}{al:List Nat}(hal:F1 st.tk tk=some al)(h63:xs.length+ys.length<=9223372036854775807){s:FS}{m:Mp}{a:Act}{as_:List Act}{w:World}(hW:Dc s (fs st))(hr:Rel cx m a as_ s w){v:Value}(hrf:RF (vx cx m s w).S (vx cx m s w).w (.sl c xs .no) v)(htk:TkR (vx cx m s w) c xs v tk){us:List Value}(hus:Ba (vx cx m s w) c ys us){Ap:Value->World->Prop}
  (hA0:ys=[]->(v = .slice none 0 0\/∃g n cap,v = .slice (some ⟨g,0,none⟩) n cap/\n<=cap)->Ap v w)
  (hAnil:v = .slice none 0 0->xs=[]->ys≠[]->Ap (.slice (some ⟨w.heap.size,0,none⟩) ys.length (grownCap w ys.length 0 (cx.el c))) (w.drew.alloc (.cells (us.toArray++Builtin.zeroCells z.cells (grownCap w ys.length 0 (cx.el c)-ys.length)) (cx.el c))))
  (hAroom:∀g cap cur,v = .slice (some ⟨g,0,none⟩) xs.length cap->w.heap[g]? = some (.cells cur (cx.el c) (0,0))->ys≠[]->xs.length+ys.length<=cap->xs.length*csz c+us.length<=cur.size->Ap (.slice (some ⟨g,0,none⟩) (xs.length+ys.length) cap) (w.setRow g (cur.toList.take (xs.length*csz c)++us++cur.toList.drop (xs.length*csz c+us.length)).toArray))
  (hAgrow:∀(g cap:Nat) (vs:List Value),v = .slice (some ⟨g,0,none⟩) xs.length cap->vs.length=xs.length*csz c->(∀(j:Nat) u,vs[j]? = some u->w.cell? ⟨g,j,none⟩=some u)->ys≠[]->¬xs.length+ys.length<=cap->Ap (.slice (some ⟨w.heap.size,0,none⟩) (xs.length+ys.length) (grownCap w (xs.length+ys.length) cap (cx.el c))) (w.drew.alloc (.cells (vs.toArray++us.toArray++Builtin.zeroCells z.cells (grownCap w (xs.length+ys.length) cap (cx.el c)-(xs.length+ys.length))) (cx.el c)))) :
  ∃v w',Ap v w'/\∃m',Rel cx m' a as_ (Ef (fs (D4 { st with tk:=al })) s) w'/\Rep (vx cx m' (Ef (fs (D4 { st with tk:=al })) s) w') (.sl c (xs++ys) (.id st.nt)) v:=by
 obtain⟨t0,hal',hrow⟩:∃t0:Option Nat,(∀q,q∈al↔(q∈st.tk/\t0≠some q))/\((v = .slice none 0 0/\xs=[])\/∃tt g cap cur,t0=some tt/\s.al tt/\m.tk tt=some (g,xs.length*csz c)/\v = .slice (some ⟨g,0,none⟩) xs.length cap/\w.heap[g]? = some (.cells cur (cx.el c) (0,0))/\cur.size=cap*csz c/\xs.length<=cap/\cap<=maxLen):=by
  unfold F1 at hal;split at hal
  ·cases hal
  ·simp at hal;subst hal;exact⟨none,λq=>by simp,.inl htk⟩
  ·rename_i tt;split at hal
   ·rename_i hc;simp at hal;subst hal;have hin:tt∈st.tk:=by simpa using hc
    refine⟨some tt,λq =>?_,?_⟩
    ·simp only[List.mem_filter,Bool.not_eq_true',ne_eq,Za1];constructor
     ·rintro⟨h1,h2⟩;refine⟨h1,λe =>?_⟩;subst e;simp at h2
     ·rintro⟨h1,h2⟩;exact⟨h1,Ga (Ne.symm h2)⟩
    ·have halive:s.al tt:=by rw[hW.2.2.1];exact hin
     rcases htk.2 halive with ⟨h1,_,h3⟩|⟨g,cap,cur,h1,h2,h3⟩
     ·exact .inl ⟨h1,h3⟩
     ·exact .inr ⟨tt,g,cap,cur,rfl,halive,h2,h1,h3⟩
   ·cases hal
  all_goals cases hal
 have hfs:=Ajw st al t0 s hW hal';have hnt:st.nt=s.nt:=hW.2.2.2.symm;have hid:(D.sl c (xs++ys) (.id st.nt)) = .sl c (xs++ys) (.id s.nt):=by rw[hnt]
 by_cases hy0:ys=[]
 ·subst hy0;rw[List.append_nil];have hrun:=hA0 rfl (by
   rcases hrow with ⟨h1,_⟩|⟨_,g,cap,_,_,_,_,h1,_,_,h2,_⟩
   ·exact .inl h1
   ·exact .inr ⟨g,_,cap,h1,h2⟩)
  refine⟨v,w,hrun,?_⟩;have hid:(D.sl c xs (.id st.nt)) = .sl c xs (.id s.nt):=by rw[hnt]
  rw[hfs,hid];rcases hrow with ⟨h1,h2⟩|⟨tt,g,cap,cur,e1,e2,e3,e4,e5,e6,e7,e8⟩
  ·obtain⟨hrel,nx⟩:=hr.right (t0:=t0) (p:=none) (Chg.refl _ _) (λg o h=>by cases h);refine⟨_,hrel,?_⟩;simp[Rep];exact⟨nx.rf hrf,Nat.lt_succ_self _,λ_ =>.inl ⟨h1,by simp[vx],h2⟩⟩
  ·obtain⟨hrel,nx⟩:=hr.right (t0:=t0) (p:=some (g,xs.length*csz c)) (Chg.refl _ _) (λg' o' h=>by simp[Za1,Zp1] at h;obtain⟨rfl,rfl⟩:=h;exact⟨hr.own_t e2 e3,.inr ⟨tt,_,e1,e2,e3,Zn1 _⟩⟩)
   refine⟨_,hrel,?_⟩;simp[Rep];exact⟨nx.rf hrf,Nat.lt_succ_self _,λ_ =>.inr ⟨g,cap,cur,e4,by simp[vx],e5,e6,e7,e8⟩⟩
 ·have hyl : 0<ys.length:=List.length_pos_iff.2 hy0;have hul:us.length=ys.length*i0.size:=by rw[hus.1,hsize]
  rcases hrow with ⟨rfl,rfl⟩|⟨tt,g,cap,cur,e1,e2,e3,rfl,e5,e6,e7,e8⟩
  ·have hrun:=hAnil rfl rfl hy0;have hrow0:Ba (vx cx m s w) c ([]++ys) us:=by simpa using hus
   have hnr:=Zc (t0:=t0) hr (cur:=us.toArray++Builtin.zeroCells z.cells (grownCap w ys.length 0 (cx.el c)-ys.length)) (cap:=grownCap w ys.length 0 (cx.el c)) hrow0 ((Chg.drew _ _).trans (Chg.alloc B9 w.drew (.cells (us.toArray++Builtin.zeroCells z.cells (grownCap w ys.length 0 (cx.el c)-ys.length)) (cx.el c)))) (by simp) (B2 w.drew _) (by
    have hge:=G8 w ys.length 0 (cx.el c);simp[Array.size_append,List.size_toArray,hus.1,Builtin.zeroCells,Array.size_map,Array.size_range,hzs];rw[<-Nat.add_mul];congr 1;omega) (by simpa using G8 w ys.length 0 (cx.el c)) (Mk _ _ _ _ (by simp at h63;omega)) (λj u hj=>by
    have hlt:j<us.length:=(Zi2.1 hj).1;rw[Array.getElem?_append_left (by simpa using hlt)];simpa using hj)
   rw[<-hfs] at hnr;refine⟨_,_,hrun,_,hnr.1,?_⟩;rw[hid];simpa using hnr.2
  ·obtain⟨a1,cap1,vs,ev1,hvs,hvcell⟩:=Fi hrf;have hvcell:∀(j:Nat) u,vs[j]? = some u->w.cell? ⟨g,j,none⟩=some u:=by
    by_cases hx0:xs=[]
    ·subst hx0;intro j u hj;have:vs=[]:=List.eq_nil_of_length_eq_zero (by rw[hvs.1];simp);subst this;simp at hj
    ·simp at ev1;intro j u hj;have:=hvcell g 0 ev1.1.symm hx0 j u hj;rwa[Nat.zero_add] at this
   have hvl:vs.length=xs.length*i0.size:=by rw[hvs.1,hsize]
   by_cases hroom:xs.length+ys.length<=cap
   ·have hfit:xs.length*i0.size+us.length<=cur.size:=by rw[hul,e6,<-Nat.add_mul,hsize];exact Nat.mul_le_mul_right _ hroom
    rw[hsize] at hfit;have hrun:=hAroom g cap cur rfl e5 hy0 hroom hfit;have hnew:∀(j:Nat) u,(vs++us)[j]? = some u->(cur.toList.take (xs.length*csz c)++us++cur.toList.drop (xs.length*csz c+us.length)).toArray[j]? = some u:=by
     intro j u hj;have hvcur:∀(j:Nat) u,vs[j]? = some u->cur[j]? = some u:=λj u hj=>by have:=hvcell j u hj;simp[World.cell?,e5] at this;exact this
     have hlt:j<(vs++us).length:=(Zi2.1 hj).1;have htl:(cur.toList.take (xs.length*csz c)).length=xs.length*csz c:=by simp;omega
     simp only[List.getElem?_toArray];rw[List.getElem?_append_left (by simp[Zh1,htl];simp[Zh1,hvs.1] at hlt;exact hlt)];rw[List.getElem?_append] at hj ⊢;rw[htl];rw[hvs.1] at hj;split
     ·rename_i hlt2;rw[if_pos hlt2] at hj;rw[List.getElem?_take,if_pos hlt2];simpa using hvcur j u hj
     ·rename_i hlt2;rw[if_neg hlt2] at hj;exact hj
    have hcur':∀j,j<xs.length*csz c->(cur.toList.take (xs.length*csz c)++us++cur.toList.drop (xs.length*csz c+us.length)).toArray[j]? = cur[j]? := by
     intro j hj;have htl:(cur.toList.take (xs.length*csz c)).length=xs.length*csz c:=by simp;omega
     simp only[List.getElem?_toArray];rw[Zj1,List.getElem?_append_left (by rw[htl];exact hj),List.getElem?_take,if_pos hj];simp
    have hhg:(w.setRow g (cur.toList.take (xs.length*csz c)++us++cur.toList.drop (xs.length*csz c+us.length)).toArray).heap[g]? = some (.cells (cur.toList.take (xs.length*csz c)++us++cur.toList.drop (xs.length*csz c+us.length)).toArray (cx.el c) (0,0)):=setRow_heap w g cur _ _ _ e5;have hch:Chg (λb i=>∃t o,t0=some t/\s.al t/\m.tk t=some (b,o)/\o<=i) w (w.setRow g (cur.toList.take (xs.length*csz c)++us++cur.toList.drop (xs.length*csz c+us.length)).toArray):=by
     refine⟨rfl,rfl,rfl,by simp,λk _ hn=>setRow_other w g k _ (λe=>hn (xs.length*csz c) ⟨tt,_,e1,e2,by rw[e];exact e3,Zn1 _⟩),λb i v hcv hn =>?_,λb cs t f hq =>?_⟩
     rotate_left
     ·by_cases hb:b=g
      ·subst hb;rw[e5] at hq;simp[Za1,Obj.cells.injEq] at hq;obtain⟨rfl,rfl,rfl⟩:=hq;exact⟨_,_,hhg,by simp;omega⟩
      ·exact⟨cs,f,by rw[setRow_other w g b _ hb];exact hq,rfl⟩
     by_cases hb:b=g
     ·subst hb;have hi:i<xs.length*csz c:=by
       rcases Nat.lt_or_ge i (xs.length*csz c) with h|h
       ·exact h
       ·exact absurd ⟨tt,_,e1,e2,e3,h⟩ hn
      simp only[World.cell?,hhg,hcur' i hi];simpa only[World.cell?,e5] using hcv
     ·rw[World.cell?_of_block (a:=⟨b,i,none⟩) (setRow_other w g b _ hb)];exact hcv
    obtain⟨hrel,nx⟩:=hr.right (t0:=t0) (p:=some (g,(xs++ys).length*csz c)) hch (λg' o' h=>by simp only[Za1,Zp1] at h;obtain⟨rfl,rfl⟩:=h;refine⟨by simpa using hr.own_t e2 e3,.inr ⟨tt,_,e1,e2,e3,?_⟩⟩;simp;exact Nat.mul_le_mul_right _ (by omega))
    rw[<-hfs] at hrel;refine⟨_,_,hrun,_,hrel,?_⟩;rw[hid];simp only[Rep];rw[hfs];have hxyl:(xs++ys).length=xs.length+ys.length:=by simp
    rw[<-hxyl];refine⟨Alg ((hvs.append hus).later nx) ⟨by rw[hxyl];exact hroom,e8⟩ (λj u hj =>?_) (λi hi =>?_),Nat.lt_succ_self _,λ_ =>.inr ⟨g,cap,_,rfl,by simp[vx],hhg,?_,by rw[hxyl];exact hroom,e8⟩⟩
    ·show World.cell? _ _=_;simp only[vx,World.cell?,hhg];exact hnew j u hj
    ·rintro(hM|hf)
     ·exact hr.disj hM (.inr ⟨tt,_,e2,e3,Zn1 _⟩:Dv m s g (xs.length*csz c))
     ·rcases hf with ⟨q,hq,he⟩|⟨t',o',h1,h2,h3⟩
      ·exact hr.injbt q tt g _ hq e2 e3 he
      ·by_cases ht:t' = s.nt
       ·subst ht;simp at h2;rw[hxyl] at hi;omega
       ·simp[if_neg ht] at h2;rcases h1 with h1|h1
        ·exact h1.2 (by rw[e1,hr.injt tt t' g _ _ e2 h1.1 e3 h2])
        ·exact absurd h1 ht
    ·have htl:(cur.toList.take (xs.length*csz c)).length=xs.length*csz c:=by simp;omega
     simp[List.size_toArray,htl,Za2];omega
   ·have hnr:=Zc (t0:=t0) hr (cur:=vs.toArray++us.toArray++Builtin.zeroCells z.cells (grownCap w (xs.length+ys.length) cap (cx.el c)-(xs.length+ys.length))) (cap:=grownCap w (xs.length+ys.length) cap (cx.el c)) (hvs.append hus) ((Chg.drew _ _).trans (Chg.alloc B9 w.drew (.cells (vs.toArray++us.toArray++Builtin.zeroCells z.cells (grownCap w (xs.length+ys.length) cap (cx.el c)-(xs.length+ys.length))) (cx.el c)))) (by simp) (B2 w.drew _) (by
     have hge:=G8 w (xs.length+ys.length) cap (cx.el c);simp[Array.size_append,List.size_toArray,hus.1,hvs.1,Builtin.zeroCells,Array.size_map,Array.size_range,hzs];rw[<-Nat.add_mul,<-Nat.add_mul];congr 1;omega) (by simpa using G8 w (xs.length+ys.length) cap (cx.el c)) (Mk _ _ _ _ h63) (λj u hj=>by
     have hlt:j<(vs++us).length:=(Zi2.1 hj).1;rw[Array.getElem?_append_left (by simpa using hlt)];simpa using hj)
    rw[<-hfs] at hnr;refine⟨_,_,(hAgrow g cap vs rfl hvs.1 hvcell hy0 hroom),_,hnr.1,?_⟩;rw[hid];simpa using hnr.2
theorem Ahx(hp:PxOk cx px){o:Oper}{t:Nat}{x y:Operand}(ho:o.op = .call ⟨.builtin .append, #[x,y], #[t,t]⟩){st:St}{c:Ck}(hty:px.tt t = .sl c){xs ys:List (El c)}{tk tk':Tk}(hx:ev px st t x=some (.sl c xs tk))(hy:ev px st t y=some (.sl c ys tk')){al:List Nat}(hal:F1 st.tk tk=some al)(hlen:xs.length+ys.length<=Ah):Eff cx px o st (D4 { st with tk:=al }) (.sl c (xs++ys) (.id st.nt)):=by
 refine⟨⟨rfl,rfl,rfl,rfl,rfl⟩,λs m a as_ w hag hW hr =>?_⟩;rw[Av,<-hag _ x (by simp[ho,Op.operands,Call.operands])] at hx;rw[Av,<-hag _ y (by simp[ho,Op.operands,Call.operands])] at hy;obtain⟨v,_,hv,hrx⟩:=hr.env.ev hx;obtain⟨v2,_,hv2,hry⟩:=hr.env.ev hy;simp[Rep] at hrx hry;obtain⟨hrf,htk⟩:=hrx;obtain⟨ad,cap2,us,rfl,hus,hucell⟩:=Fi hry.1;obtain⟨by_,hT,hby512,_⟩:=Cj (hp.tt t) hty;have hT0:=hT;obtain⟨hu,i0,z,hi0,hz,hsize,hby,hzs,hpos⟩:=hT;have hbound:(xs.length+ys.length)*by_<=140737488355328:=by
  have hlen':xs.length+ys.length<=274877906944:=by unfold Ah at hlen;exact hlen
  have h1:(xs.length+ys.length)*by_<=274877906944*512:=Nat.mul_le_mul hlen' hby512;omega
 have h63:xs.length+ys.length<=9223372036854775807:=by unfold Ah at hlen;omega
 have hexec:∀(r:Value) (w':World),(Builtin.append_ #[t,t] o.type #[v,.slice ad ys.length cap2]).run cx.P w = .ok r w'->(execOp a.eval o).run cx.P w = .ok (.value r) w':=by intro r w' hr;simp[execOp,ho,resolve,invoke,builtin,Sem.run_bind,Sem.run_pure,Zw1,List.map_nil,hv,hv2,hr]
 have hul:us.length=ys.length*i0.size:=by rw[hus.1,hsize]
 have hone:∀u,u∈us->u.oneCell' = true:=λu hu=>Sx.one_oneCell (hus.one u hu);have hadr:ys≠[]->∃b2 o2,ad=some ⟨b2,o2,none⟩:=λhy0=>by
  obtain⟨a',cap',e1,h⟩:=Br hry.1;simp at e1;rcases h with h|⟨b,o',h,_⟩
  ·exact absurd h hy0
  ·exact⟨b,o',by rw[e1.1,h]⟩
 have hnews:∀b2 o2,ad=some ⟨b2,o2,none⟩->ys≠[]->∀(j:Nat) u,us[j]? = some u->w.cell? ((⟨b2,o2,none⟩:Addr).add j)=some u:=λb2 o2 e hy0 j u hj=>by rw[Sx.add_mk];exact hucell b2 o2 e hy0 j u hj
 refine(λh=>by obtain⟨v,w',h1,h2⟩:=h;exact .inl ⟨v,w',hexec _ _ h1,h2⟩) (P1 (Ap:=λr w'=>(Builtin.append_ #[t,t] o.type #[v,.slice ad ys.length cap2]).run cx.P w = .ok r w') hsize hzs hal h63 hW hr hrf htk hus ?_ ?_ ?_ ?_)
 ·intro hy0 hvv;subst hy0;exact Lt (P:=cx.P) (t:=t) (ty:=o.type) (w:=w) hT0 (v:=v) (ad:=ad) (c:=cap2) hvv
 ·intro hv0 hx0 hy0;obtain⟨b2,o2,had⟩:=hadr hy0;subst hv0 hx0 had;have hyl : 0<ys.length:=List.length_pos_iff.2 hy0;exact run_append_nil (P:=cx.P) w t o.type (cx.el c) i0 z hu hi0 hz ⟨b2,o2,none⟩ ys.length cap2 us hul (hnews b2 o2 rfl hy0) hyl (by simp at h63;omega) (by rw[hby];simp at hbound;omega)
 ·intro g cap cur hvv e5 hy0 hroom hfit;obtain⟨b2,o2,had⟩:=hadr hy0;subst hvv had;have hrun:=run_append_room (P:=cx.P) w t o.type (cx.el c) i0 hu hi0 g xs.length cap cur e5 ⟨b2,o2,none⟩ ys.length cap2 us hul (hnews b2 o2 rfl hy0) hone hroom (by rw[hsize];exact hfit);rw[hsize] at hrun;exact hrun
 ·intro g cap vs hvv hvl hvcell hy0 hroom;obtain⟨b2,o2,had⟩:=hadr hy0;subst hvv had;have hyl : 0<ys.length:=List.length_pos_iff.2 hy0;exact run_append_grow (P:=cx.P) w t o.type (cx.el c) i0 z hu hi0 hz ⟨g,0,none⟩ xs.length cap vs (by rw[hsize];exact hvl) (λj u hj=>by rw[Sx.add_mk,Nat.zero_add];exact hvcell j u hj) ⟨b2,o2,none⟩ ys.length cap2 us hul (hnews b2 o2 rfl hy0) (by omega) (by omega) (growslice_fits (by omega) (by rw[hby];exact hbound))
theorem O4(hp:PxOk cx px){o:Oper}{t:Nat}{x y:Operand}(ho:o.op = .call ⟨.builtin .append, #[x,y], #[t,t]⟩){st:St}{c:Ck}(hty:px.tt t = .sl c){xs ys:List (El c)}{tk':Tk}(hx:ev px st t x=some (.sl c xs .f))(hy:ev px st t y=some (.sl c ys tk'))(hy0:ys≠[])(hlen:xs.length+ys.length<=Ah):Eff cx px o st (D4 st) (.sl c (xs++ys) (.id st.nt)):=by
 refine⟨⟨rfl,rfl,rfl,rfl,rfl⟩,λs m a as_ w hag hW hr =>?_⟩;rw[Av,<-hag _ x (by simp[ho,Op.operands,Call.operands])] at hx;rw[Av,<-hag _ y (by simp[ho,Op.operands,Call.operands])] at hy;obtain⟨v,_,hv,hrx⟩:=hr.env.ev hx;obtain⟨v2,_,hv2,hry⟩:=hr.env.ev hy;simp[Rep] at hrx hry;obtain⟨hrf,ad1,rfl⟩:=hrx;obtain⟨ad,cap2,us,rfl,hus,hucell⟩:=Fi hry.1;obtain⟨by_,hT,hby512,_⟩:=Cj (hp.tt t) hty;obtain⟨hu,i0,z,hi0,hz,hsize,hby,hzs,hpos⟩:=hT;have hbound:(xs.length+ys.length)*by_<=140737488355328:=by
  have hlen':xs.length+ys.length<=274877906944:=by unfold Ah at hlen;exact hlen
  have h1:(xs.length+ys.length)*by_<=274877906944*512:=Nat.mul_le_mul hlen' hby512;omega
 have h63:xs.length+ys.length<=9223372036854775807:=by unfold Ah at hlen;omega
 have hul:us.length=ys.length*i0.size:=by rw[hus.1,hsize]
 have hyl : 0<ys.length:=List.length_pos_iff.2 hy0;obtain⟨b2,o2,had⟩:∃b2 o2,ad=some ⟨b2,o2,none⟩:=by
  obtain⟨a',cap',e1,h⟩:=Br hry.1;simp at e1;rcases h with h|⟨b,o',h,_⟩
  ·exact absurd h hy0
  ·exact⟨b,o',by rw[e1.1,h]⟩
 subst had;have hnews:∀(j:Nat) u,us[j]? = some u->w.cell? ((⟨b2,o2,none⟩:Addr).add j)=some u:=λj u hj=>by rw[Sx.add_mk];exact hucell b2 o2 rfl hy0 j u hj
 have hexec:∀(r:Value) (w':World),(Builtin.append_ #[t,t] o.type #[.slice ad1 xs.length xs.length,.slice (some ⟨b2,o2,none⟩) ys.length cap2]).run cx.P w = .ok r w'->(execOp a.eval o).run cx.P w = .ok (.value r) w':=by intro r w' hr;simp[execOp,ho,resolve,invoke,builtin,Sem.run_bind,Sem.run_pure,Zw1,List.map_nil,hv,hv2,hr]
 have hfs:=Ajw st st.tk none s hW (λt=>by simp);have hfs:Ef (fs (D4 st)) s={ s with al:=λt=>(s.al t/\(none:Option Nat)≠some t)\/t=s.nt,nt:=s.nt+1 }:=hfs;have hnt:st.nt=s.nt:=hW.2.2.2.symm;obtain⟨a1,cap1,vs,ev1,hvs,hvcell⟩:=Fi hrf;cases ad1 with
 |none =>
  have hx0:xs=[]:=by
   obtain⟨a',cap',e1,h⟩:=Br hrf;simp at e1;rcases h with h|⟨b,o',h,_⟩
   ·exact h
   ·rw[h] at e1;simp at e1
  subst hx0;have hrun:=run_append_nil (P:=cx.P) w t o.type (cx.el c) i0 z hu hi0 hz ⟨b2,o2,none⟩ ys.length cap2 us hul hnews hyl (by simp at h63;omega) (by rw[hby];simp at hbound;omega);have hrow0:Ba (vx cx m s w) c ([]++ys) us:=by simpa using hus
  have hnr:=Zc (t0:=none) hr (cur:=us.toArray++Builtin.zeroCells z.cells (grownCap w ys.length 0 (cx.el c)-ys.length)) (cap:=grownCap w ys.length 0 (cx.el c)) hrow0 ((Chg.drew _ _).trans (Chg.alloc B9 w.drew (.cells (us.toArray++Builtin.zeroCells z.cells (grownCap w ys.length 0 (cx.el c)-ys.length)) (cx.el c)))) (by simp) (B2 w.drew _) (by
   have hge:=G8 w ys.length 0 (cx.el c);simp[Array.size_append,List.size_toArray,hus.1,Builtin.zeroCells,Array.size_map,Array.size_range,hzs];rw[<-Nat.add_mul];congr 1;omega) (by simpa using G8 w ys.length 0 (cx.el c)) (Mk _ _ _ _ (by simp at h63;omega)) (λj u hj=>by
   have hlt:j<us.length:=(Zi2.1 hj).1;rw[Array.getElem?_append_left (by simpa using hlt)];simpa using hj)
  rw[<-hfs] at hnr;exact .inl ⟨_,_,hexec _ _ hrun,_,hnr.1,by rw[hnt];simpa using hnr.2⟩
 |some p =>
  have hpc:∀(j:Nat) u,vs[j]? = some u->w.cell? (p.add j)=some u:=λj u hj=>by
   by_cases hx0:xs=[]
   ·subst hx0;have:vs=[]:=List.eq_nil_of_length_eq_zero (by rw[hvs.1];simp);subst this;simp at hj
   ·obtain⟨a',cap',e1,h⟩:=Br hrf;rcases h with h|⟨b,o',h,_⟩
    ·exact absurd h hx0
    ·subst h;simp at e1;obtain⟨rfl,_⟩:=e1;rw[Sx.add_mk];simp at ev1;exact hvcell b o' ev1.1.symm hx0 j u hj
  have hrun:=run_append_grow (P:=cx.P) w t o.type (cx.el c) i0 z hu hi0 hz p xs.length xs.length vs (by rw[hsize];exact hvs.1) hpc ⟨b2,o2,none⟩ ys.length cap2 us hul hnews (by omega) (by omega) (growslice_fits (by omega) (by rw[hby];exact hbound));have hnr:=Zc (t0:=none) hr (cur:=vs.toArray++us.toArray++Builtin.zeroCells z.cells (grownCap w (xs.length+ys.length) xs.length (cx.el c)-(xs.length+ys.length))) (cap:=grownCap w (xs.length+ys.length) xs.length (cx.el c)) (hvs.append hus) ((Chg.drew _ _).trans (Chg.alloc B9 w.drew (.cells (vs.toArray++us.toArray++Builtin.zeroCells z.cells (grownCap w (xs.length+ys.length) xs.length (cx.el c)-(xs.length+ys.length))) (cx.el c)))) (by simp) (B2 w.drew _) (by
   have hge:=G8 w (xs.length+ys.length) xs.length (cx.el c);simp[Array.size_append,List.size_toArray,hus.1,hvs.1,Builtin.zeroCells,Array.size_map,Array.size_range,hzs];rw[<-Nat.add_mul,<-Nat.add_mul];congr 1;omega) (by simpa using G8 w (xs.length+ys.length) xs.length (cx.el c)) (Mk _ _ _ _ h63) (λj u hj=>by
   have hlt:j<(vs++us).length:=(Zi2.1 hj).1;rw[Array.getElem?_append_left (by simpa using hlt)];simpa using hj)
  rw[<-hfs] at hnr;exact .inl ⟨_,_,hexec _ _ hrun,_,hnr.1,by rw[hnt];simpa using hnr.2⟩
theorem X7{P:Program}{t ty u:TypeId}{sz by_:Nat}{w:World}(hT:Sx.ElTy P t u sz by_){p:Addr}{n:Nat}{ad:Option Addr}{c:Nat}:(Builtin.append_ #[t,t] ty #[.slice (some p) n n,.slice ad 0 c]).run P w = .ok (.slice (some p) n n) w:=by obtain⟨hu,i0,z,hi0,hz,hsz,hby,hzs,hpos⟩:=hT;cases ad<;>simp[ run_underlying hu,go_sem,sizeOf,typeInfo,hi0,loadCells,loadCellsFrom,storeCells]
theorem Mb(hp:PxOk cx px){o:Oper}{t:Nat}{x y:Operand}(ho:o.op = .call ⟨.builtin .append, #[x,y], #[t,t]⟩){st:St}{c:Ck}(hty:px.tt t = .sl c){xs ys:List (El c)}{tk':Tk}(hx:ev px st t x=some (.sl c xs .f))(hy:ev px st t y=some (.sl c ys tk'))(hy0:ys=[]):Eff cx px o st st (.sl c xs .f):=by
 refine⟨⟨rfl,rfl,rfl,rfl,rfl⟩,λs m a as_ w hag hW hr =>?_⟩;rw[Av,<-hag _ x (by simp[ho,Op.operands,Call.operands])] at hx;rw[Av,<-hag _ y (by simp[ho,Op.operands,Call.operands])] at hy;obtain⟨v,_,hv,hrx⟩:=hr.env.ev hx;obtain⟨v2,_,hv2,hry⟩:=hr.env.ev hy;have hrx0:=hrx;simp[Rep] at hrx hry;obtain⟨hrf,ad1,rfl⟩:=hrx;obtain⟨ad,cap2,us,rfl,hus,hucell⟩:=Fi hry.1;obtain⟨by_,hT,_,_⟩:=Cj (hp.tt t) hty;subst hy0;have hrun:(Builtin.append_ #[t,t] o.type #[.slice ad1 xs.length xs.length,.slice ad ([]:List (El c)).length cap2]).run cx.P w = .ok (.slice ad1 xs.length xs.length) w:=by
  cases ad1 with
  |none =>
   have hx0:xs=[]:=by
    obtain⟨a',cap',e1,h⟩:=Br hrf;simp at e1;rcases h with h|⟨b,o',h,_⟩
    ·exact h
    ·rw[h] at e1;simp at e1
   subst hx0;exact Lt hT (.inl rfl)
  |some p=>exact X7 hT
 refine .inl ⟨.slice ad1 xs.length xs.length,w,?_,m,?_,?_⟩
 ·have hrun:(Builtin.append_ #[t,t] o.type #[.slice ad1 xs.length xs.length,.slice ad 0 cap2]).run cx.P w = .ok (.slice ad1 xs.length xs.length) w:=by simpa using hrun
  simp[execOp,ho,resolve,invoke,builtin,Sem.run_bind,Sem.run_pure,Zw1,List.map_nil,hv,hv2,hrun]
 ·rw[I5 hW];exact hr
 ·rw[I5 hW];exact hrx0
theorem Q7(hp:PxOk cx px){o:Oper}{t t':Nat}{x y:Operand}(ho:o.op = .call ⟨.builtin .append, #[x,y], #[t,t']⟩){st:St}(hty:px.tt t = .sl .byte)(hty':px.tt t' = .str){xs:List UInt8}{l:Str}{tk:Tk}(hx:ev px st t x=some (.sl .byte xs tk))(hy:ev px st t y=some (.str l)){al:List Nat}(hal:F1 st.tk tk=some al)(hlen:xs.length+l.length<=Ah):Eff cx px o st (D4 { st with tk:=al }) (.sl .byte (xs++l:List UInt8) (.id st.nt)):=by
 refine⟨⟨rfl,rfl,rfl,rfl,rfl⟩,λs m a as_ w hag hW hr =>?_⟩;rw[Av,<-hag _ x (by simp[ho,Op.operands,Call.operands])] at hx;rw[Av,<-hag _ y (by simp[ho,Op.operands,Call.operands])] at hy;obtain⟨v,_,hv,hrx⟩:=hr.env.ev hx;obtain⟨v2,_,hv2,hry⟩:=hr.env.ev hy;simp[Rep] at hrx hry;obtain⟨hrf,htk⟩:=hrx;obtain⟨rfl,hlm⟩:=hry;obtain⟨by_,hT,hby512,h8⟩:=Cj (hp.tt t) hty;have hT0:=hT;obtain⟨hu,i0,z,hi0,hz,hsize,hby,hzs,hpos⟩:=hT;have hstr:=Sx.tyS_spec (Gz (hp.tt t') hty');have hbound:(xs.length+l.length)*by_<=140737488355328:=by
  have hlen':xs.length+l.length<=274877906944:=by unfold Ah at hlen;exact hlen
  have h1:(xs.length+l.length)*by_<=274877906944*512:=Nat.mul_le_mul hlen' hby512;omega
 have h63:xs.length+l.length<=9223372036854775807:=by unfold Ah at hlen;omega
 have hexec:∀(r:Value) (w':World),(Builtin.append_ #[t,t'] o.type #[v,.string ⟨l.toArray⟩]).run cx.P w = .ok r w'->(execOp a.eval o).run cx.P w = .ok (.value r) w':=by intro r w' hr;simp[execOp,ho,resolve,invoke,builtin,Sem.run_bind,Sem.run_pure,Result.andThen_ok,List.map_toArray,Zw1,List.map_nil,hv,hv2,hr]
 have hs1:i0.size=1:=hsize;have hsz:(⟨l.toArray⟩:ByteArray).size=l.length:=by simp[ByteArray.size]
 have hcells:Lib.strCells (⟨l.toArray⟩:ByteArray)=l.map λb=>Value.int .u8 (b.toNat:Int):=by simp[Lib.strCells]
 have hus:Ba (vx cx m s w) .byte (l:List UInt8) (l.map λb=>Value.int .u8 (b.toNat:Int)):=by
  refine⟨by simp[csz],λi y j d hy hd =>?_⟩;obtain⟨rfl,rfl⟩:j=0/\d = .int .u8 (y.toNat:Int):=by cases j with|zero=>exact⟨rfl,by simpa[enc] using hd.symm⟩|succ j=>simp[enc] at hd
  refine⟨.int .u8 (y.toNat:Int),?_,λw' _ =>.int _ _ ?_⟩
  ·have hy:l[i]? = some y:=hy;simp[csz,hy]
  ·have:=y.toNat_lt;simp[E8,IntKind.min,IntKind.max,IntKind.signed,IntKind.bits];omega
 refine(λh=>by obtain⟨v,w',h1,h2⟩:=h;exact .inl ⟨v,w',hexec _ _ h1,h2⟩) (P1 (c :=.byte) (ys:=(l:List UInt8)) (Ap:=λr w'=>(Builtin.append_ #[t,t'] o.type #[v,.string ⟨l.toArray⟩]).run cx.P w = .ok r w') hsize hzs hal h63 hW hr hrf htk hus ?_ ?_ ?_ ?_)
 ·intro hy0 hvv;have hy0:l=[]:=hy0;subst hy0;rcases hvv with rfl|⟨g,n,cap,rfl,hnc⟩
  ·simp[Builtin.append_,run_underlying hu,run_underlying hstr,sizeOf,typeInfo,hi0,Builtin.lenOf,go_sem,ByteArray.size]
  ·simp[Builtin.append_,run_underlying hu,run_underlying hstr,sizeOf,typeInfo,hi0,Builtin.lenOf,go_sem,ByteArray.size,hnc,storeCells]
 ·intro hv0 hx0 hy0;have hx0:xs=[]:=hx0;subst hv0 hx0;have hyl : 0<l.length:=List.length_pos_iff.2 hy0;have hrun:=run_append_nil_string (P:=cx.P) (w:=w) t t' o.type (cx.el .byte) i0 z hu hstr hi0 hz ⟨l.toArray⟩ (by rw[hsz];exact hyl) (by rw[hsz];simp at h63;omega) (by rw[hsz,hby];simp at hbound;omega);rw[hsz] at hrun;have e1:((⟨l.toArray⟩:ByteArray).data.map λb=>Value.int .u8 b.toNat)=(l.map λb=>Value.int .u8 (b.toNat:Int)).toArray:=by apply Array.ext';simp
  rw[e1] at hrun;exact hrun
 ·intro g cap cur hvv e5 hy0 hroom hfit;subst hvv;have hrun:=Lib.run_append_room_string (P:=cx.P) (w:=w) t t' o.type (cx.el .byte) i0 hu hstr hi0 hs1 g xs.length cap cur e5 ⟨l.toArray⟩ (by rw[hsz];exact hroom) (by rw[hsz];simpa[csz] using hfit);rw[hcells,hsz] at hrun;simpa[csz] using hrun
 ·intro g cap vs hvv hvl hvcell hy0 hroom;subst hvv;have hrun:=Lib.run_append_grow_string (P:=cx.P) (w:=w) t t' o.type (cx.el .byte) i0 z hu hstr hi0 hz ⟨g,0,none⟩ xs.length cap vs (by rw[hs1];simpa[csz] using hvl) (λj u hj=>by rw[Sx.add_mk,Nat.zero_add];exact hvcell j u hj) ⟨l.toArray⟩ (by rw[hsz];omega) (by rw[hsz];omega) (by rw[hsz];exact growslice_fits (by have : 0<l.length:=List.length_pos_iff.2 hy0;omega) (by rw[hby];exact hbound));rw[hcells,hsz] at hrun;exact hrun
theorem A4n{α:Type}(xs:List α)(o:Nat):B7 xs o []=xs:=by simp[B7]
theorem Fa{α:Type}(xs:List α)(o:Nat)(l:List α)(h:o+l.length<=xs.length):(B7 xs o l).length=xs.length:=by simp[B7,Za2];omega
theorem Aln{α:Type}(xs:List α)(o:Nat)(l:List α)(h:o+l.length<=xs.length)(q:Nat):(B7 xs o l)[q]? = if o<=q/\q<o+l.length then l[q-o]? else xs[q]? := by
 have ht:(xs.take o).length=o:=by simp;omega
 simp[B7];by_cases h1:q<o
 ·rw[List.getElem?_append_left (by omega),if_neg (by omega),List.getElem?_take,if_pos h1]
 ·rw[List.getElem?_append_right (by omega),ht];by_cases h2:q<o+l.length
  ·rw[List.getElem?_append_left (by omega),if_pos (by omega)]
  ·rw[List.getElem?_append_right (by omega),if_neg (by omega),List.getElem?_drop];congr 1;omega
theorem A04(hp:PxOk cx px){o:Oper}{t t':Nat}{x y:Operand}(ho:o.op = .call ⟨.builtin .copy, #[x,y], #[t,t']⟩){st:St}{c:Ck}{b:Nat}{p n:Int}{xs ys:List (El c)}{tk:Tk}(hty:px.tt t = .sl c)(hx:ev px st t x=some (.osl b c p n))(hy:ev px st t y=some (.sl c ys tk))(hb:blk st.bl b=some (.dyn c xs))(h1:csz c=1)(hp0 : 0<=p)(_hn0 : 0<=n)(hpn:p+n<=(xs.length:Int)):Eff cx px o st { st with bl:=Dd st.bl b (.dyn c (B7 xs p.toNat (ys.take n.toNat))) } (.int .i64 ((min n.toNat ys.length:Nat):Int)):=by
 refine⟨⟨rfl,rfl,rfl,rfl,rfl⟩,λs m a as_ w hag hW hr =>?_⟩;rw[Av,<-hag _ x (by simp[ho,Op.operands,Call.operands])] at hx;rw[Av,<-hag _ y (by simp[ho,Op.operands,Call.operands])] at hy;obtain⟨v,_,hv,hrx⟩:=hr.env.ev hx;obtain⟨v2,_,hv2,hry⟩:=hr.env.ev hy;simp[Rep] at hrx hry;obtain⟨g1,_,_,g4,ad,cap,rfl,g5,g6,g7,_⟩:=hrx;obtain⟨ad2,cap2,us,rfl,hus,hucell⟩:=Fi hry.1;obtain⟨by_,⟨hu,i0,z,hi0,hz,hsize,hby,hzs,hpos⟩,hby512,_⟩:=Cj (hp.tt t) hty;have hsz:(cx.P.info? (cx.el c)).map (·.size)=some 1:=by rw[hi0];simp[hsize,h1]
 have hsb:s.bl b=some (.dyn c xs):=by rw[hW.1];exact hb
 obtain⟨_,hnl,vs,ty,hh,hlen,hreps⟩:=hr.blks b _ hsb;have hh:w.heap[m.bl b]? = some (.cells vs.toArray ty (0,0)):=hh;have hexec:∀(r:Value) (w':World),(Builtin.copy_ #[t,t'] o.type #[.slice ad n.toNat cap,.slice ad2 ys.length cap2]).run cx.P w = .ok r w'->(execOp a.eval o).run cx.P w = .ok (.value r) w':=by intro r w' hr;simp[execOp,ho,resolve,invoke,builtin,Sem.run_bind,Sem.run_pure,Result.andThen_ok,List.map_toArray,Zw1,List.map_nil,hv,hv2,hr]
 have hul:us.length=ys.length:=by rw[hus.1,h1,Nat.mul_one]
 have hres:∀(x':Vx),Rep x' (.int .i64 ((min n.toNat ys.length:Nat):Int)) (goInt ((min n.toNat ys.length:Nat):Int)):=λx'=>by simp[Rep];refine⟨rfl,Ay8 ?_⟩;have hq:min n.toNat ys.length<=n.toNat:=Nat.min_le_left _ _;have hm:maxLen=9223372036854775807:=rfl;simp only[IntKind.min,IntKind.max,IntKind.signed,IntKind.bits];simp[if_true];omega
 by_cases h0:Nat.min ys.length n.toNat=0
 ·have hrun:=run_copy_none (P:=cx.P) w t t' o.type (cx.el c) ad ad2 n.toNat cap ys.length cap2 hu hsz h0;have hk0:min n.toNat ys.length=0:=by rw[Nat.min_comm];exact h0
  have ht0:ys.take n.toNat=[]:=by apply List.eq_nil_of_length_eq_zero;rw[List.length_take];exact hk0
  refine .inl ⟨_,w,hexec _ _ hrun,m,?_,?_⟩
  ·rw[Ry st b _ _ s hW hb,ht0,A4n];have:({ s with bl:=λc'=>if c' = b then some (.dyn c xs) else s.bl c' }:FS)=s:=by
    refine FS.eq rfl rfl rfl rfl rfl ?_ rfl rfl rfl;funext c';by_cases hc:c' = b
    ·subst hc;simp[hsb]
    ·simp[hc]
   rw[this];exact hr
  ·have:=hres (vx cx m (Ef (fs { st with bl:=Dd st.bl b (.dyn c (B7 xs p.toNat (ys.take n.toNat))) }) s) w);rw[hk0] at this ⊢;exact this
 ·have hn1 : 0<n.toNat/\0<ys.length:=by have : 0<min ys.length n.toNat:=Nat.pos_of_ne_zero h0;omega
  obtain rfl:=g5.resolve_left (by omega);obtain⟨b2,o2,rfl,hcell2⟩:∃b2 o2,ad2=some ⟨b2,o2,none⟩/\∀(j:Nat) u,us[j]? = some u->w.cell? ⟨b2,o2+j,none⟩=some u:=by
   obtain⟨a',cap',hva,hf⟩:=Br hry.1;simp[Value.slice.injEq] at hva;rcases hf with e|⟨b2,o2,e,_⟩
   ·rw[e] at hn1;simp at hn1
   ·obtain⟨e1,_⟩:=hva;exact⟨b2,o2,e1.trans e,hucell b2 o2 (e1.trans e) (by intro e;rw[e] at hn1;simp at hn1)⟩
  have hcl:(us.take n.toNat).length=Nat.min ys.length n.toNat:=by rw[List.length_take,hul,Nat.min_comm]
  have hmin:Nat.min ys.length n.toNat=min ys.length n.toNat:=rfl;have hpt:p.toNat*csz c=p.toNat:=by rw[h1,Nat.mul_one]
  have hfit:p.toNat+(us.take n.toNat).length<=vs.length:=by rw[hcl];rw[h1] at hlen;omega
  have hrun:=run_copy_row (P:=cx.P) w t t' o.type (cx.el c) (m.bl b) (p.toNat*csz c) n.toNat cap ⟨b2,o2,none⟩ ys.length cap2 vs.toArray ty (us.take n.toNat) hu hsz hh hcl (λj u hj=>by
   rw[Sx.add_mk];refine hcell2 j u ?_;rw[List.getElem?_take] at hj;split at hj
   ·exact hj
   ·cases hj) (by rw[hpt];simpa using hfit) (λu hu=>by
    have:=hus.one u (List.mem_of_mem_take hu);exact this)
  rw[hpt] at hrun;have hh2:=setRow_heap w (m.bl b) vs.toArray (vs.toArray.toList.take p.toNat++us.take n.toNat++vs.toArray.toList.drop (p.toNat+(us.take n.toNat).length)).toArray ty (0,0) hh;have hnewv:(vs.toArray.toList.take p.toNat++us.take n.toNat++vs.toArray.toList.drop (p.toNat+(us.take n.toNat).length))=B7 vs p.toNat (us.take n.toNat):=by simp[B7,Zj1]
  rw[hnewv] at hrun hh2;have hch:Chg (λc' _=>c' = m.bl b) w (w.setRow (m.bl b) (B7 vs p.toNat (us.take n.toNat)).toArray):=by
   refine⟨rfl,rfl,rfl,by simp,λk _ hk=>setRow_other w _ k _ (λe=>hk 0 e),λb' i u hcv hk =>?_,λb' cs t2 f hq =>?_⟩
   ·rw[World.cell?_of_block (a:=⟨b',i,none⟩) (setRow_other w _ b' _ (λe=>hk e))];exact hcv
   ·by_cases hbb:b' = m.bl b
    ·subst hbb;rw[hh] at hq;simp[Za1,Obj.cells.injEq] at hq;obtain⟨rfl,rfl,rfl⟩:=hq;exact⟨_,_,hh2,by simp[Fa _ _ _ hfit]⟩
    ·exact⟨cs,f,by rw[setRow_other w _ b' _ hbb];exact hq,rfl⟩
  have htl:(ys.take n.toNat).length=(us.take n.toNat).length:=by simp[hul]
  have hfit2:p.toNat+(ys.take n.toNat).length<=xs.length:=by rw[htl,hcl];omega
  have hrel:=hr.write (k :=.dyn c (B7 xs p.toNat (ys.take n.toNat))) hsb hch (λx' nx hw=>by
   refine⟨by rw[Fa _ _ _ hfit2];exact hnl,B7 vs p.toNat (us.take n.toNat),ty,by rw[hw];exact hh2,by rw[Fa _ _ _ hfit2,Fa _ _ _ hfit];exact hlen,λq y j d hy' hd' =>?_⟩;have hj:j=0:=by
    have:j<csz c:=by rw[<-Bu c y];exact(Zi2.1 hd').1
    omega
   subst hj;rw[h1,Nat.mul_one,Nat.add_zero,Aln _ _ _ hfit];rw[Aln _ _ _ hfit2,htl] at hy';split at hy'
   ·rename_i hin;rw[if_pos hin];rw[List.getElem?_take] at hy' ⊢;split at hy'
    ·rename_i hlt;obtain⟨u,hu,hf⟩:=hus.2 _ y 0 d hy' hd';rw[h1,Nat.mul_one,Nat.add_zero] at hu;exact⟨u,by rw[if_pos hlt];exact hu,nx.rf hf⟩
    ·cases hy'
   ·rename_i hin;rw[if_neg hin];obtain⟨u,hu,hf⟩:=hreps q y 0 d hy' hd';rw[h1,Nat.mul_one,Nat.add_zero] at hu;exact⟨u,hu,nx.rf hf⟩)
  refine .inl ⟨_,_,hexec _ _ (by rw[hpt];exact hrun),m,by rw[Ry st b _ _ s hW hb];exact hrel,?_⟩;rw[hcl,hmin,Nat.min_comm ys.length n.toNat];exact hres _
end
theorem Mq{w:World}{A B:Array Obj}(h:∀k:Nat,A[k]? = B[k]?):({ w with heap:=A }:World)={ w with heap:=B }:=by rw[Array.ext_getElem? h]
theorem Aw4{w:World}{b:Nat}{cs:Array Value}{t:TypeId}{fz:Nat×Nat}(h:w.heap[b]? = some (.cells cs t fz)):w.setRow b cs=w:=by
 refine Mq (w:=w) (B:=w.heap) λk =>?_
 grind
theorem Amr(w:World)(b:Nat)(A B:Array Value):(w.setRow b A).setRow b B=w.setRow b B:=by
 refine Mq (w:=w) λk =>?_;simp[World.setRow,Array.getElem?_modify]
 grind
theorem Avv(w:World){b c:Nat}(h:b≠c)(A B:Array Value):(w.setRow b A).setRow c B=(w.setRow c B).setRow b A:=by
 refine Mq (w:=w) λk =>?_;simp[World.setRow,Array.getElem?_modify]
 grind
theorem Z4(w:World)(A B:Array Value)(t:TypeId):(w.alloc (.cells A t)).setRow w.heap.size B=w.alloc (.cells B t):=by
 refine Mq (w:=w) λk =>?_;simp only[World.alloc,Array.getElem?_modify,Array.getElem?_push]
 grind
theorem Ak0{w:World}{b off:Nat}{v:Value}{A:Array Value}:(w.setCell ⟨b,off,none⟩ v).setRow b A=w.setRow b A:=by
 refine Mq (w:=w) λk =>?_;simp[World.setCell,Array.getElem?_modify]
 grind
theorem Dh{t:TypeId}{fz:Nat×Nat}:∀(vs cs:List Value) (w:World) (b off:Nat),w.heap[b]? = some (.cells cs.toArray t fz)->Sx.setCells w b off vs=w.setRow b (Sx.writeAt cs off vs).toArray
 |[],cs,w,b,off,h=>(Aw4 h).symm
 |v::vs,cs,w,b,off,h=>by simp[Sx.setCells];rw[Dh vs (cs.set off v) (w.setCell ⟨b,off,none⟩ v) b (off+1) (Sx.setCell_heap h)];exact Ak0
theorem Kc:∀(us us0 pre post:List Value),us.length=us0.length->Sx.writeAt (pre++us0++post) pre.length us=pre++us++post
 |[],us0,pre,post,h=>by have:us0=[]:=List.length_eq_zero_iff.1 h.symm;subst this;rfl
 |u::us,[],pre,post,h=>by simp at h
 |u::us,u0::us0,pre,post,h=>by
  simp[Zf1] at h;have ih:=Kc us us0 (pre++[u]) post h;simp only[Sx.writeAt]
  grind
theorem Ana(w:World)(A:Array Value)(t:TypeId):(w.drew.alloc (.cells A t)).heap[w.heap.size]? = some (.cells A t (0,0)):=B2 w.drew _
section
variable {R:Type}{px:Px R}{cx:Cx}
theorem Bci(hp:PxOk cx px){t:TypeId}{c:Ck}(hty:px.tt t = .sl c){st:St}{xs:List (El c)}{z0 e:El c}{tk tkz:Tk}{al:List Nat}(hal:F1 st.tk tk=some al)(hlen:xs.length+1<=Ah){s:FS}{m:Mp}{a:Act}{as_:List Act}{w:World}(hW:Dc s (fs st))(hr:Rel cx m a as_ s w){v vz:Value}
  (hx:Rep (vx cx m s w) (.sl c xs tk) v) (hz:Rep (vx cx m s w) (.sl c [z0] tkz) vz) {us:List Value}(hus:ElR (vx cx m s w) c e us) (ty:TypeId) :
  ∃(v7:Value) (wA:World) (g cap:Nat) (cs:List Value) (t0:TypeId),(Builtin.append_ #[t,t] ty #[v,vz]).run cx.P w = .ok v7 wA/\v7 = .slice (some ⟨g,0,none⟩) (xs.length+1) cap/\wA.heap[g]? = some (.cells cs.toArray t0 (0,0))/\xs.length*csz c+csz c<=cs.length/\(∀b,s.bl b≠none->m.bl b≠g)/\(∀k,k<w.heap.size->k≠g->wA.heap[k]? = w.heap[k]?) /\
   ∃m',Rel cx m' a as_ (Ef (fs (D4 { st with tk:=al })) s) (Sx.setCells wA g (xs.length*csz c) us)/\Rep (vx cx m' (Ef (fs (D4 { st with tk:=al })) s) (Sx.setCells wA g (xs.length*csz c) us)) (.sl c (xs++[e]) (.id st.nt)) v7:=by
 simp[Rep] at hx hz;obtain⟨hrf,htk⟩:=hx;obtain⟨ad,cap2,us0,rfl,hus0,hucell⟩:=Fi hz.1;obtain⟨by_,hT,hby512,_⟩:=Cj (hp.tt t) hty;obtain⟨hu,i0,z,hi0,hz0,hsize,hby,hzs,hpos⟩:=hT;have hbound:(xs.length+1)*by_<=140737488355328:=by
  have hlen':xs.length+1<=274877906944:=by unfold Ah at hlen;exact hlen
  have h1:(xs.length+1)*by_<=274877906944*512:=Nat.mul_le_mul hlen' hby512;omega
 have h63:xs.length+[e].length<=9223372036854775807:=by unfold Ah at hlen;simp[ Zi1];omega
 have hrow:Ba (vx cx m s w) c [e] us:=by simpa using Ba.cons hus (Ba.nil (vx cx m s w) c)
 have hul:us.length=csz c:=hus.1;have hu0l:us0.length=csz c:=by have:=hus0.1;simpa using this
 have huu:us.length=us0.length:=by rw[hul,hu0l]
 have hul0:us0.length=[z0].length*i0.size:=by rw[hus0.1,hsize]
 have hone:∀u,u∈us0->u.oneCell' = true:=λu hu=>Sx.one_oneCell (hus0.one u hu);obtain⟨b2,o2,had⟩:∃b2 o2,ad=some ⟨b2,o2,none⟩:=by
  obtain⟨a',cap',e1,h⟩:=Br hz.1;simp at e1;rcases h with h|⟨b,o',h,_⟩
  ·cases h
  ·grind
 subst had;have hnews:∀(j:Nat) u,us0[j]? = some u->w.cell? ((⟨b2,o2,none⟩:Addr).add j)=some u:=λj u hj=>by rw[Sx.add_mk];exact hucell b2 o2 rfl (by simp) j u hj
 have hfresh:∀b,s.bl b≠none->m.bl b≠w.heap.size:=λb hb h=>by have:=hr.own_b hb;omega
 have hother:∀(o:Obj) (k:Nat),k<w.heap.size->k≠w.heap.size->(w.drew.alloc o).heap[k]? = w.heap[k]? :=λo k hk _=>by have h1:k<w.drew.heap.size:=hk;exact Below.heap_alloc _ _ _ h1
 refine(λh=>by obtain⟨v7,w2,⟨wA,g,cap,cs,t0,h1,h2,h3,h4,h5,h6,rfl⟩,m',h7,h8⟩:=h;exact⟨v7,wA,g,cap,cs,t0,h1,h2,h3,h4,h5,h6,m',h7,h8⟩) (P1 (Ap:=λv7 w2=>∃(wA:World) (g cap:Nat) (cs:List Value) (t0:TypeId),(Builtin.append_ #[t,t] ty #[v,.slice (some ⟨b2,o2,none⟩) [z0].length cap2]).run cx.P w = .ok v7 wA/\v7 = .slice (some ⟨g,0,none⟩) (xs.length+1) cap/\wA.heap[g]? = some (.cells cs.toArray t0 (0,0))/\xs.length*csz c+csz c<=cs.length/\(∀b,s.bl b≠none->m.bl b≠g)/\(∀k,k<w.heap.size->k≠g->wA.heap[k]? = w.heap[k]?)/\w2=Sx.setCells wA g (xs.length*csz c) us)
  hsize hzs hal h63 hW hr hrf htk hrow ?_ ?_ ?_ ?_)
 ·grind
 ·intro hv0 hx0 _;subst hv0 hx0;have hrun:=run_append_nil (P:=cx.P) w t ty (cx.el c) i0 z hu hi0 hz0 ⟨b2,o2,none⟩ [z0].length cap2 us0 hul0 hnews (by simp) (by simp) (by rw[hby];simp at hbound ⊢;omega);have hh:=Ana w (us0.toArray++Builtin.zeroCells z.cells (grownCap w [z0].length 0 (cx.el c) - [z0].length)) (cx.el c);have e0:us0.toArray++Builtin.zeroCells z.cells (grownCap w [z0].length 0 (cx.el c) - [z0].length)=(us0++(Builtin.zeroCells z.cells (grownCap w [z0].length 0 (cx.el c) - [z0].length)).toList).toArray:=by apply Array.ext';simp
  rw[e0] at hh;refine⟨_,w.heap.size,_,_,_,hrun,rfl,by rw[e0];exact hh,by simp[ Zi1];omega,hfresh,hother _,?_⟩;rw[e0,Dh us _ _ _ _ hh];have e1:=Kc us us0 [] (Builtin.zeroCells z.cells (grownCap w [z0].length 0 (cx.el c) - [z0].length)).toList huu;simp only[Zf2,Zi1,Nat.zero_mul] at e1 ⊢;rw[e1];have e2:=Z4 w.drew (us0++(Builtin.zeroCells z.cells (grownCap w [z0].length 0 (cx.el c) - [z0].length)).toList).toArray (us++(Builtin.zeroCells z.cells (grownCap w [z0].length 0 (cx.el c) - [z0].length)).toList).toArray (cx.el c);have e3:w.drew.heap.size=w.heap.size:=rfl;rw[e3] at e2;rw[e2];congr 2;apply Array.ext';simp
 ·intro g cap cur hvv e5 _ hroom hfit;subst hvv;have hrun:=run_append_room (P:=cx.P) w t ty (cx.el c) i0 hu hi0 g xs.length cap cur e5 ⟨b2,o2,none⟩ [z0].length cap2 us0 hul0 hnews hone (by simpa using hroom) (by rw[hsize,<-huu];exact hfit);rw[hsize] at hrun;have htl:(cur.toList.take (xs.length*csz c)).length=xs.length*csz c:=by simp;omega
  have hh:=setRow_heap w g cur (cur.toList.take (xs.length*csz c)++us0++cur.toList.drop (xs.length*csz c+us0.length)).toArray (cx.el c) (0,0) e5;refine⟨_,g,cap,_,_,hrun,rfl,hh,?_,λb hb =>?_,λk _ hk=>setRow_other w g k _ hk,?_⟩
  ·simp[ htl];omega
  ·unfold F1 at hal;split at hal
   ·cases hal
   ·simp only[TkR] at htk;exact absurd htk.1 (by simp)
   ·rename_i tt;split at hal
    ·rename_i hc;have hin:tt∈st.tk:=by simpa using hc
     have halive:s.al tt:=by rw[hW.2.2.1];exact hin
     rcases htk.2 halive with ⟨h1,_,_⟩|⟨g',cap',cur',h1,h2,_⟩
     ·cases h1
     ·simp[ Addr.mk.injEq] at h1;obtain⟨⟨rfl,_⟩,_⟩:=h1;exact hr.injbt b tt _ _ hb halive h2
    ·cases hal
   all_goals cases hal
  ·rw[Dh us _ _ _ _ hh,Amr];have e1:=Kc us us0 (cur.toList.take (xs.length*csz c)) (cur.toList.drop (xs.length*csz c+us0.length)) huu;rw[htl] at e1;rw[e1,huu]
 ·intro g cap vs hvv hvl hvcell _ hroom;subst hvv;have hrun:=run_append_grow (P:=cx.P) w t ty (cx.el c) i0 z hu hi0 hz0 ⟨g,0,none⟩ xs.length cap vs (by rw[hsize];exact hvl) (λj u hj=>by rw[Sx.add_mk,Nat.zero_add];exact hvcell j u hj) ⟨b2,o2,none⟩ [z0].length cap2 us0 hul0 hnews (by simp at hroom ⊢;omega) (by simp at h63 ⊢;omega) (growslice_fits (by simp at hroom ⊢;omega) (by rw[hby];simpa using hbound));have hh:=Ana w (vs.toArray++us0.toArray++Builtin.zeroCells z.cells (grownCap w (xs.length+[z0].length) cap (cx.el c)-(xs.length+[z0].length))) (cx.el c);have e0:vs.toArray++us0.toArray++Builtin.zeroCells z.cells (grownCap w (xs.length+[z0].length) cap (cx.el c)-(xs.length+[z0].length))=(vs++us0++(Builtin.zeroCells z.cells (grownCap w (xs.length+[z0].length) cap (cx.el c)-(xs.length+[z0].length))).toList).toArray:=by apply Array.ext';simp
  rw[e0] at hh;refine⟨_,w.heap.size,_,_,_,hrun,rfl,by rw[e0];exact hh,by simp;omega,hfresh,hother _,?_⟩;rw[e0,Dh us _ _ _ _ hh,<-hvl];rw[(Kc us us0 vs (Builtin.zeroCells z.cells (grownCap w (xs.length+[z0].length) cap (cx.el c)-(xs.length+[z0].length))).toList huu)];have e2:=Z4 w.drew (vs++us0++(Builtin.zeroCells z.cells (grownCap w (xs.length+[z0].length) cap (cx.el c)-(xs.length+[z0].length))).toList).toArray (vs++us++(Builtin.zeroCells z.cells (grownCap w (xs.length+[z0].length) cap (cx.el c)-(xs.length+[z0].length))).toList).toArray (cx.el c);have e3:w.drew.heap.size=w.heap.size:=rfl;rw[e3] at e2;rw[e2];congr 2;apply Array.ext';simp
end
end Go.Ax
