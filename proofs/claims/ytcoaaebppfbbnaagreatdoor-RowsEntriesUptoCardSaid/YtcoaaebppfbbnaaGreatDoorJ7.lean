/- Texts of the proof,one behind the other: Kr,Zk,Zl,Fe,Ob,Oq,Zw,Da,Db,Oc,Ora,Od,Oe,Oi,Oj,Ok,Ol,Om,Oh,On,Ooa,Oo,Or,Rv,Ce. -/
import Derived.Test.YtcoaaebppfbbnaaGreatDoorJ6
import Derived.Lib.Walk
import Derived.Lib.BytesEntry
import Derived.Laws.Externs
set_option linter.all false
namespace Go.Ax
theorem Apq{P:Program}{S:Fp}{w:World}{l:Str}{t:Tk}{v:Value}(h:RF S w (.sl .byte l t) v):(Extern.Bytes.bytesOf v).run P w = .ok ⟨l.toArray⟩ w:=by
 obtain⟨a,cap,rfl,hf⟩:=h.here.slice;cases l with
 |nil=>cases a<;>simp[Extern.Bytes.bytesOf,Extern.Bytes.loadBytes,go_sem]<;>rfl
 |cons x l =>
  rcases hf with h|⟨b,o,rfl,_,hat⟩
  ·cases h
  ·have hl:=Lib.run_loadBytesX (P:=P) w ((x::l).map λb=>(b.toNat:Int)) ⟨b,o,none⟩ .empty (λj y hj=>by rw[List.getElem?_map] at hj;obtain⟨z,hz,rfl⟩:=Option.map_eq_some_iff.1 hj;obtain⟨u,hu,hf⟩:=hat j z hz 0 (.int .u8 (z.toNat:Int)) rfl;cases hf;rw[Sx.add_mk];simpa[csz] using hu)
   have e:Lib.bytesOf ((x::l).map λb=>(b.toNat:Int))=x::l:=by simp[Lib.bytesOf,Function.comp_def]
   rw[e,List.length_map] at hl;simp only[Extern.Bytes.bytesOf,hl];congr 1;apply ByteArray.ext;simp
theorem A90{P:Program}{S:Fp}{w:World}{l:Str}{t:Tk}{v:Value}(h:RF S w (.sl .byte l t) v)(c:Int):(Extern.BytealgCount.count #[v,.int .u8 c]).run P w = .ok (.int .i64 (Lib.countByte l c.toNat.toUInt8)) w:=by
 have hs:=Lib.run_countString (P:=P) ⟨l.toArray⟩ c w;have hb:=Apq (P:=P) h;change Sem.run P (do
  let b <-Extern.Bytes.bytesOf v;let c' <-Extern.Bytes.asByte (.int .u8 c)
  pure (goInt (b.foldl (λn x=>if x == c' then n+1 else n) (0:Nat)))) w=_
 change Sem.run P (do
  let b <-Extern.Bytes.bytesOf (.string ⟨l.toArray⟩);let c' <-Extern.Bytes.asByte (.int .u8 c)
  pure (goInt (b.foldl (λn x=>if x == c' then n+1 else n) (0:Nat)))) w=_ at hs
 rw[Sem.run_bind] at hs ⊢;rw[hb];exact hs
theorem Bbd{P:Program}{S:Fp}{w:World}{l:Str}{t:Tk}{v:Value}(h:RF S w (.sl .byte l t) v)(c:Int):(Extern.BytealgIndexByte.indexByte #[v,.int .u8 c]).run P w = .ok (.int .i64 (Lib.indexByte l c.toNat.toUInt8)) w:=by
 have hs:=Lib.run_indexByteString (P:=P) ⟨l.toArray⟩ c w;have hb:=Apq (P:=P) h;change Sem.run P (do
  let b <-Extern.Bytes.bytesOf v;let c' <-Extern.Bytes.asByte (.int .u8 c);match(List.range b.size).find? λi=>b[i]! == c' with
  |some i=>pure (goInt i)
  |none=>pure (goInt (-1))) w=_
 change Sem.run P (do
  let b <-Extern.Bytes.bytesOf (.string ⟨l.toArray⟩);let c' <-Extern.Bytes.asByte (.int .u8 c);match(List.range b.size).find? λi=>b[i]! == c' with
  |some i=>pure (goInt i)
  |none=>pure (goInt (-1))) w=_ at hs
 rw[Sem.run_bind] at hs ⊢;rw[hb];exact hs
end Go.Ax
namespace Go.Proofs.YtcoaaebppfbbnaaGreatDoor
open Go.Ax
def Arj(s sep:Str):Option Int:=match sep with|[c]=>some (Lib.countByte s c)|_=>none
def Aj0:FT [.sl .byte false,.sl .byte false] [.int .i64]:=λx=>Arj x.1 x.2
theorem Bbx:FO 207 [.sl .byte false,.sl .byte false] [.int .i64] Aj0:=by
 refine⟨Sx.enters_of Tryz.func207 rfl (by kernel_rfl),λx r hx w M vs hM hgl hr =>?_⟩;obtain⟨s,sep⟩:=x;obtain⟨c,rfl⟩:∃c,sep=[c]:=by
  cases sep with
  |nil=>cases hx
  |cons c tl=>cases tl with|nil=>exact⟨c,rfl⟩|cons _ _=>cases hx
 simp only[Aj0,Arj,Za1] at hx;subst hx;simp only[B3,C4,Reps,Rep] at hr;obtain⟨u,us,rfl,⟨h1,_⟩,u2,us2,rfl,⟨h2,_⟩,rfl⟩:=hr;have h1:RF (v0 elT M w).S w (.sl .byte s .no) u:=h1;have h2:RF (v0 elT M w).S w (.sl .byte [c] .no) u2:=h2;have walk:Calls Tryz.prog 207 #[u,u2] w λe w'=>e = .returned (.int .i64 (Lib.countByte s c))/\w' = w:=by
  have hrun:=A90 (P:=Tryz.prog) h1 (c.toNat:Int);have e1:(Int.toNat (c.toNat:Int)).toUInt8=c:=by simp
  rw[e1] at hrun;obtain⟨a2,cap2,rfl,hf2⟩:=h2.here.slice;rcases hf2 with h|⟨b2,o2,rfl,_,hat⟩
  ·cases h
  obtain⟨q,hc2,hq⟩:=hat 0 c rfl 0 (.int .u8 (c.toNat:Int)) rfl;cases hq;have hc2:w.cell? ⟨b2,o2,none⟩=some (.int .u8 (c.toNat:Int)):=by simpa using hc2
  obtain⟨a,cap,rfl,_⟩:=h1.here.slice;have mixed:=follows;have t0:=Tryz.underlying5;simp only[List.length_singleton];clear h1 h2 hat hM hgl
  set_option maxRecDepth 100000 in go_enter Tryz.func207,Tryz.ntmps207
  set_option maxRecDepth 100000 in go_wp2
  rw[run_callFunc_extern Tryz.func243 (by kernel_rfl) (by kernel_rfl) (by kernel_rfl) (e:=Extern.BytealgCount.count) (by kernel_rfl),hrun];simp only[Result.andThen];rw[Oper.upon_value]
  set_option maxRecDepth 100000 in go_wp2
  go_ret
  exact⟨rfl,rfl⟩
 refine Calls.mono walk ?_;rintro en w' ⟨rfl,rfl⟩;refine⟨_,⟨λ_=>0,λ_=>Option.none⟩,rfl,Chg.refl _ _,λp g o hp=>(by simp[Be] at hp),λp q g o o2 hp=>(by simp[Be] at hp),?_⟩;simp only[Ge,B3,C4,Rep];have hl:Lib.countByte s c<=s.length:=List.count_le_length;have hs:=h1.here.len;exact⟨trivial,Qy (Nat.le_trans hl hs)⟩
theorem Bmm(l:Str)(c:UInt8) : -1<=Lib.indexByte l c/\Lib.indexByte l c<=l.length:=by
 induction l with
 |nil=>simp[Lib.indexByte]
 |cons b l ih =>
  simp only[Lib.indexByte,Zf1];split
  ·omega
  ·split<;>omega
def Abp(s:Str)(c:Int):Int:=Lib.indexByte s c.toNat.toUInt8
def Af5:FT [.sl .byte false,.int .u8] [.int .i64]:=λx=>some (Abp x.1 x.2)
theorem Bcw:FO 244 [.sl .byte false,.int .u8] [.int .i64] Af5:=by
 refine⟨Sx.enters_of Tryz.func244 rfl (by kernel_rfl),λx r hx w M vs hM hgl hr =>?_⟩;obtain⟨s,c⟩:=x;simp only[Af5,Za1] at hx;subst hx;simp only[B3,C4,Reps,Rep] at hr;obtain⟨u,us,rfl,⟨h1,_⟩,u2,us2,rfl,⟨rfl,_⟩,rfl⟩:=hr;have h1:RF (v0 elT M w).S w (.sl .byte s .no) u:=h1;have walk:Calls Tryz.prog 244 #[u,.int .u8 c] w λe w'=>e = .returned (.int .i64 (Abp s c))/\w' = w:=by
  have hrun:=Bbd (P:=Tryz.prog) h1 c;obtain⟨a,cap,rfl,_⟩:=h1.here.slice;have mixed:=follows;clear h1 hM hgl
  set_option maxRecDepth 100000 in go_enter Tryz.func244,Tryz.ntmps244
  set_option maxRecDepth 100000 in go_wp2
  rw[run_callFunc_extern Tryz.func274 (by kernel_rfl) (by kernel_rfl) (by kernel_rfl) (e:=Extern.BytealgIndexByte.indexByte) (by kernel_rfl),hrun];simp only[Result.andThen];rw[Oper.upon_value]
  set_option maxRecDepth 100000 in go_wp2
  go_ret
  exact⟨rfl,rfl⟩
 refine Calls.mono walk ?_;rintro en w' ⟨rfl,rfl⟩;refine⟨_,⟨λ_=>0,λ_=>Option.none⟩,rfl,Chg.refl _ _,λp g o hp=>(by simp[Be] at hp),λp q g o o2 hp=>(by simp[Be] at hp),?_⟩;simp only[Ge,B3,C4,Rep];have hs:=h1.here.len;refine⟨trivial,Azs ?_⟩;have hb:=Bmm s c.toNat.toUInt8;have hm:maxLen=9223372036854775807:=rfl;simp only[IntKind.min,IntKind.max,IntKind.signed,IntKind.bits,Abp];simp only[if_true];omega
def Bh8(R:Type):Px R:=pxO [(244,cA Af5)] [] [] []
def A2q(x:HV [.sl .byte false,.sl .byte false]):Option (HV [.int .i64]):=match x with
 |(s,sep) =>
 cond (decide ((sep.length:Int)=0)) (
  some 0) (
  cond (decide ((sep.length:Int)=1)) (
  chk (inb 0 sep.length) (
   some (Abp s ((at' .byte sep 0).toNat:Int)))) (
  cond (decide ((sep.length:Int)=(s.length:Int))) (
   none) (
   cond (decide ((s.length:Int)<(sep.length:Int))) (
   some (-1)) (
   none))))
theorem A97:FO 208 [.sl .byte false,.sl .byte false] [.int .i64] (A2q):=fR (px:=Bh8 _) (n:=2) Tryz.func208 rfl (λ_ H=>⟨lv H (c1 H Bcw Ae) Aa Ab,(A3 (A3 Aj (Aoh (λ_ _=>by kernel_rfl))) (Aoh (λ_ _=>by kernel_rfl)))⟩) λ(_,_)=>by kernel_rfl
def A69(s sep:Str):Option Int:=match sep with|[c]=>some (Lib.indexByte s c)|_=>none
def A63:FT [.sl .byte false,.sl .byte false] [.int .i64]:=λx=>A69 x.1 x.2
theorem Bih:FO 208 [.sl .byte false,.sl .byte false] [.int .i64] A63 :=.fin0 A97 λ(s,sep) r _ hx=>by
 obtain⟨c,rfl⟩:∃c,sep=[c]:=by
  cases sep with
  |nil=>cases hx
  |cons c tl=>cases tl with|nil=>exact⟨c,rfl⟩|cons _ _=>cases hx
 rw[<-hx];show(some (Abp s ((at' .byte [c] 0).toNat:Int)):Option Int)=some (Lib.indexByte s c);simp[Abp,at']
def esc(s:Str):Str:=s.flatMap λb=>if b=0 then [0,255] else [b]
theorem Bqp:esc []=[]:=rfl
theorem Jn(a b:Str):esc (a++b)=esc a++esc b:=by simp[esc]
theorem Bgw(l:Str):esc (0::l)=0::255::esc l:=by simp[esc]
theorem Azh{b:UInt8}(h:b≠0)(l:Str):esc (b::l)=b::esc l:=by simp[esc,h]
theorem Atw:∀{a:Str},(0:UInt8)∉a->esc a=a
 |[],_=>rfl
 |b::a,h=>by simp only[List.mem_cons,not_or] at h;rw[Azh (Ne.symm h.1),Atw h.2]
theorem Kg(s:Str):(esc s).length=s.length+s.count 0:=by
 induction s with
 |nil=>rfl
 |cons b s ih =>
  by_cases h:b=0
  ·subst h;rw[Bgw];simp only[Zf1,ih,List.count_cons_self];omega
  ·rw[Azh h,List.count_cons_of_ne h];simp only[Zf1,ih];omega
theorem Agi:∀{l:Str},0<l.count 0->∃a b,l=a++0::b/\(0:UInt8)∉a/\Lib.indexByte l 0=(a.length:Int)/\l.count 0=b.count 0+1
 |[],h=>by simp at h
 |x::l,h=>by
  by_cases hx:x=0
  ·subst hx;exact⟨[],l,rfl,by simp,by simp[Lib.indexByte],by simp⟩
  ·rw[List.count_cons_of_ne hx] at h;obtain⟨a,b,e,h1,h2,h3⟩:=Agi h;refine⟨x::a,b,by rw[e];rfl,by simp[h1,Ne.symm hx],?_,by rw[List.count_cons_of_ne hx];exact h3⟩;have h4:¬(a.length:Int) = -1:=by omega
   simp[Lib.indexByte,hx,h2,h4]
theorem Qo{α:Type}(xs:List α)(o:Nat)(l:List α)(h:o+l.length<=xs.length):(Cc xs o l).take (o+l.length)=xs.take o++l:=by
 have h1:(xs.take o).length=o:=by simp;omega
 simp only[Cc];rw[<-Zj1,List.take_append_of_le_length (by simp;omega)];rw[List.take_of_length_le (by simp;omega)]
def Aip:Sig:=⟨132,[(0,.sl .byte false),(2,.sl .byte false),(11,.int .i64),(12,.int .i64),(88,.int .i64),(89,.int .i64)],[],[(0,.one (.dn .byte))],1,0,0,[],[(10,0,.byte)]⟩
abbrev Aa6:=List UInt8×List UInt8×Int×Int×Int×Int×List UInt8×Int×Int
def At2{R:Type}(_:Aa6->Option R)(kx:Ex->Aa6->Option R)(v:Aa6):Option R:=match v with
 |(a,e,f,b,c,d,w3,w4,w5) =>
 cond (decide (d<c)) (
  chk (upto b a.length a.length) (
  none)) (
  kx (.exit 2) (a,e,f,b,c,d,w3,w4,w5))
def Ajx:Sig:=⟨132,[(0,.sl .byte false),(1,.sl .byte false),(2,.sl .byte false),(11,.int .i64),(12,.int .i64),(48,.int .i64),(49,.int .i64)],[],[(0,.one (.dn .byte))],1,0,0,[],[(10,0,.byte)]⟩
abbrev Ja:=List UInt8×List UInt8×List UInt8×Int×Int×Int×Int×List UInt8×Int×Int
def Nm{R:Type}(rec:Ja->Option R)(kx:Ex->Ja->Option R)(v:Ja):Option R:=match v with
 |(v,v1,v2,v3,v4,v5,v6,w,w1,w2) =>
 cond (decide (v6<v5)) (
  chk (upto v4 v.length v.length) (
  (A69 (v.drop (v4:Int).toNat) v1).bind λx1 =>
   chk (upI v3 w2 w2) (
   chk (upto v4 (wr .i64 (v4+x1)) v.length) (
    chk (decide ((0:Int)<=(w1+v3))&&decide ((0:Int)<=(w2-v3))&&decide ((w1+v3)+(w2-v3)<=(w.length:Int))) (
    chk (upI (wr .i64 (v3+((min ((w2-v3):Int).toNat (cut v v4 (wr .i64 (v4+x1))).length:Nat):Int))) w2 w2) (
     chk (decide ((0:Int)<=(w1+(wr .i64 (v3+((min ((w2-v3):Int).toNat (cut v v4 (wr .i64 (v4+x1))).length:Nat):Int)))))&&decide ((0:Int)<=(w2-(wr .i64 (v3+((min ((w2-v3):Int).toNat (cut v v4 (wr .i64 (v4+x1))).length:Nat):Int)))))&&decide ((w1+(wr .i64 (v3+((min ((w2-v3):Int).toNat (cut v v4 (wr .i64 (v4+x1))).length:Nat):Int))))+(w2-(wr .i64 (v3+((min ((w2-v3):Int).toNat (cut v v4 (wr .i64 (v4+x1))).length:Nat):Int))))<=((Cc w ((w1+v3):Int).toNat ((cut v v4 (wr .i64 (v4+x1))).take ((w2-v3):Int).toNat)).length:Int))) (
     rec (v,v1,v2,(wr .i64 ((wr .i64 (v3+((min ((w2-v3):Int).toNat (cut v v4 (wr .i64 (v4+x1))).length:Nat):Int)))+((min ((w2-(wr .i64 (v3+((min ((w2-v3):Int).toNat (cut v v4 (wr .i64 (v4+x1))).length:Nat):Int)))):Int).toNat v2.length:Nat):Int))),(wr .i64 ((wr .i64 (v4+x1))+(v1.length:Int))),v5,(wr .i64 (v6+1)),(Cc (Cc w ((w1+v3):Int).toNat ((cut v v4 (wr .i64 (v4+x1))).take ((w2-v3):Int).toNat)) ((w1+(wr .i64 (v3+((min ((w2-v3):Int).toNat (cut v v4 (wr .i64 (v4+x1))).length:Nat):Int)))):Int).toNat (v2.take ((w2-(wr .i64 (v3+((min ((w2-v3):Int).toNat (cut v v4 (wr .i64 (v4+x1))).length:Nat):Int)))):Int).toNat)),w1,w2)))))))) (
  kx (.exit 0) (v,v1,v2,v3,v4,v5,v6,w,w1,w2))
def Axk(R:Type)(k:Nat):Px R:=pxO [(207,cA Aj0),(208,cA A63)] [] [(13,Am k Ajx (Nm)),(21,Am k Aip (At2))] []
def W0(k:Nat)(x:HV [.sl .byte false,.sl .byte false,.sl .byte false,.int .i64]):Option (HV [.sl .byte true]):=match x with
 |(s,old,new,n) =>
 let j2:=λ(p:Int) =>
  cond (decide (p=0)) (
  chk (decide (0+s.length<=Af)) (
   some ([]++s))) (
  let j1:=λ(p3:Int) =>
   chk (upI 0 (wr .i64 ((s.length:Int)+(wr .i64 (p3*(wr .i64 ((new.length:Int)-(old.length:Int))))))) (wr .i64 ((s.length:Int)+(wr .i64 (p3*(wr .i64 ((new.length:Int)-(old.length:Int)))))))&&decide ((wr .i64 ((s.length:Int)+(wr .i64 (p3*(wr .i64 ((new.length:Int)-(old.length:Int)))))))<=(Af:Int))) (
   let j:=λ(p4:List UInt8) (p5:Int) (p6:Int) (p7:Int) (p8:Int) (q:List UInt8) =>
    chk (upI p7 p6 p6) (
    chk (upto p8 p4.length p4.length) (
     chk (decide ((0:Int)<=(p5+p7))&&decide ((0:Int)<=(p6-p7))&&decide ((p5+p7)+(p6-p7)<=(q.length:Int))) (
     chk (upI 0 (wr .i64 (p7+((min ((p6-p7):Int).toNat (p4.drop (p8:Int).toNat).length:Nat):Int))) p6) (
      chk (decide (((p5+0):Int)=0)&&decide ((0:Int)<((wr .i64 (p7+((min ((p6-p7):Int).toNat (p4.drop (p8:Int).toNat).length:Nat):Int)))-0))&&decide (((wr .i64 (p7+((min ((p6-p7):Int).toNat (p4.drop (p8:Int).toNat).length:Nat):Int)))-0)<=((Cc q ((p5+p7):Int).toNat ((p4.drop (p8:Int).toNat).take ((p6-p7):Int).toNat)).length:Int))) (
      some ((Cc q ((p5+p7):Int).toNat ((p4.drop (p8:Int).toNat).take ((p6-p7):Int).toNat)).take (((wr .i64 (p7+((min ((p6-p7):Int).toNat (p4.drop (p8:Int).toNat).length:Nat):Int)))-0):Int).toNat))))))
   cond (decide (0<(old.length:Int))) (
    Ak (λrec=>Nm rec (λe vz=>match vz with|(v7,_,_,a,b,_,_,c,d,f)=>match e with
    |.exit 0 =>j v7 d f a b c
    |_=>none)) k (s,old,new,0,0,p3,0,(List.replicate ((wr .i64 ((s.length:Int)+(wr .i64 (p3*(wr .i64 ((new.length:Int)-(old.length:Int))))))):Int).toNat (zer .byte)),0,(wr .i64 ((s.length:Int)+(wr .i64 (p3*(wr .i64 ((new.length:Int)-(old.length:Int))))))))) (
    chk (upI 0 (wr .i64 ((s.length:Int)+(wr .i64 (p3*(wr .i64 ((new.length:Int)-(old.length:Int))))))) (wr .i64 ((s.length:Int)+(wr .i64 (p3*(wr .i64 ((new.length:Int)-(old.length:Int)))))))) (
    chk (decide ((0:Int)<=0)&&decide ((0:Int)<=((wr .i64 ((s.length:Int)+(wr .i64 (p3*(wr .i64 ((new.length:Int)-(old.length:Int)))))))-0))&&decide (0+((wr .i64 ((s.length:Int)+(wr .i64 (p3*(wr .i64 ((new.length:Int)-(old.length:Int)))))))-0)<=((List.replicate ((wr .i64 ((s.length:Int)+(wr .i64 (p3*(wr .i64 ((new.length:Int)-(old.length:Int))))))):Int).toNat (zer .byte)).length:Int))) (
     Ak (λrec=>At2 rec (λe vz=>match vz with|(g,_,h,i,_,_,l,m,o)=>match e with
     |.exit 2 =>j g m o h i l
     |_=>none)) k (s,new,(wr .i64 (0+((min (((wr .i64 ((s.length:Int)+(wr .i64 (p3*(wr .i64 ((new.length:Int)-(old.length:Int)))))))-0):Int).toNat new.length:Nat):Int))),0,(wr .i64 (p3-1)),0,(Cc (List.replicate ((wr .i64 ((s.length:Int)+(wr .i64 (p3*(wr .i64 ((new.length:Int)-(old.length:Int))))))):Int).toNat (zer .byte)) (0:Int).toNat (new.take (((wr .i64 ((s.length:Int)+(wr .i64 (p3*(wr .i64 ((new.length:Int)-(old.length:Int)))))))-0):Int).toNat)),0,(wr .i64 ((s.length:Int)+(wr .i64 (p3*(wr .i64 ((new.length:Int)-(old.length:Int))))))))))))
  cond (decide (n<0)) (
   j1 p) (
   cond (decide (p<n)) (
   j1 p) (
   j1 n)))
 cond (!decide (n=0)) (
  (Arj s old).bind λx =>
  j2 x) (
  j2 0)
theorem Ba4(k:Nat):FO 169 [.sl .byte false,.sl .byte false,.sl .byte false,.int .i64] [.sl .byte true] (W0 k):=fR (px:=Axk _ k) (n:=2) Tryz.func169 rfl (λcx H=>by have h0:Lv cx (Axk (HV [.sl .byte true]) k):=lv H (c1 H Bbx (c1 H Bih Ae)) Aa Ab;have hlbrepl_0:=lO H h0 (b:=lp Tryz.f169 0) (k:=k) (n:=0) (s:=Ajx) (step:=Nm) (λ_ _ _ (_,_,_,_,_,_,_,_,_,_)=>by kernel_rfl) Aj;have hlbrepl_1:=lO H h0 (b:=lp Tryz.f169 1) (k:=k) (n:=0) (s:=Aip) (step:=At2) (λ_ _ _ (_,_,_,_,_,_,_,_,_)=>by kernel_rfl) Aj;exact⟨h0,(A3 (A3 Aj hlbrepl_0) hlbrepl_1)⟩) λ(_,_,_,_)=>by kernel_rfl
def Aql(s old new:Str)(n:Int):Option Str:=cond (decide (old=[0])&&decide (new=[0,255])&&decide (n = -1)&&decide (s.length<=68719476736)) (some (esc s)) none
def Ar0:FT [.sl .byte false,.sl .byte false,.sl .byte false,.int .i64] [.sl .byte true]:=λx=>Aql x.1 x.2.1 x.2.2.1 x.2.2.2
theorem A1y{R:Type}{rec:Ja->Option R}{kx:Ex->Ja->Option R}{s A B:Str}{p L N m i:Nat}{w:Str}(hs:s.length<=68719476736)(hN:N<=137438953472)(hi:i<m)(hm:ln m)(hp:s.drop p=A++0::B)(hA:Lib.indexByte (A++0::B) 0=(A.length:Int))(hL:L+A.length+2<=N)(hw:w.length=N):Nm rec kx (s,[0],[0,255],(L:Int),(p:Int),(m:Int),(i:Int),w,0,(N:Int))=rec (s,[0],[0,255],((L+A.length+2:Nat):Int),((p+A.length+1:Nat):Int),(m:Int),((i+1:Nat):Int),Cc (Cc w L A) (L+A.length) [0,255],0,(N:Int)):=by
 have hpl:p+(A.length+1+B.length)=s.length:=by have:=congrArg List.length hp;simp only[Za2,Zh1,Zf1] at this;omega
 have e1:upto (p:Int) (s.length:Int) s.length=true:=by rw[Z2];simp;omega
 have e2:A69 (s.drop p) [0]=some (A.length:Int):=by simp only[A69,hp,hA]
 have e3:wr .i64 ((p:Int)+(A.length:Int))=((p+A.length:Nat):Int):=by rw[Bd (by simp only[inI];omega)];rfl
 have e4:cut s (p:Int) ((p+A.length:Nat):Int)=A:=by simp only[cut,Int.toNat_natCast,hp];rw[show p+A.length-p=A.length by omega];simp
 have e5:upto (p:Int) ((p+A.length:Nat):Int) s.length=true:=by rw[Z2];simp;omega
 have e6:min ((N:Int)-(L:Int)).toNat A.length=A.length:=by omega
 have e7:wr .i64 ((L:Int)+(A.length:Int))=((L+A.length:Nat):Int):=by rw[Bd (by simp only[inI];omega)];rfl
 have e8:upI (L:Int) (N:Int) (N:Int)=true:=by simp only[upI,Zb1,Zg1];omega
 have e9:upI ((L+A.length:Nat):Int) (N:Int) (N:Int)=true:=by simp only[upI,Zb1,Zg1];omega
 have e10:A.take ((N:Int)-(L:Int)).toNat=A:=List.take_of_length_le (by omega);have e11:([0,255]:Str).take ((N:Int)-((L+A.length:Nat):Int)).toNat=[0,255]:=List.take_of_length_le (by simp;omega);have e12:min ((N:Int)-((L+A.length:Nat):Int)).toNat 2=2:=by omega
 have e13:wr .i64 (((L+A.length:Nat):Int)+2)=((L+A.length+2:Nat):Int):=by rw[Bd (by simp only[inI];omega)];rfl
 have e14:wr .i64 (((p+A.length:Nat):Int)+1)=((p+A.length+1:Nat):Int):=by rw[Bd (by simp only[inI];omega)];rfl
 have e15:wr .i64 ((i:Int)+1)=((i+1:Nat):Int):=An hi hm;have e16:decide ((i:Int)<(m:Int))=true:=Ze1 (by omega);have e17:(0:Int)+(L:Int)=(L:Int):=Int.zero_add _;have e18:(0:Int)+((L+A.length:Nat):Int)=((L+A.length:Nat):Int):=Int.zero_add _;have hsl:(Cc w L A).length=N:=by rw[E0 _ _ _ (by omega)];exact hw
 have e19:(decide ((0:Int)<=(L:Int))&&decide ((0:Int)<=((N:Int)-(L:Int)))&&decide ((L:Int)+((N:Int)-(L:Int))<=(N:Int)))=true:=by simp only[Zb1,Zg1];omega
 have e20:(decide ((0:Int)<=((L+A.length:Nat):Int))&&decide ((0:Int)<=((N:Int)-((L+A.length:Nat):Int)))&&decide (((L+A.length:Nat):Int)+((N:Int)-((L+A.length:Nat):Int))<=(N:Int)))=true:=by simp only[Zb1,Zg1];omega
 have e21:((2:Nat):Int)=2:=rfl;have e22:((1:Nat):Int)=1:=rfl;have l2:([0,255]:Str).length=2:=rfl;have l1:([0]:Str).length=1:=rfl;simp only[Nm,e16,Ag,e1,chk,Int.toNat_natCast,e2,Zc1,e8,e3,e5,e4,e6,e7,e17,hw,e19,e9,e10,e18,hsl,e20,l1,l2,e11,e12,e21,e22,e13,e14,e15]
theorem Ajk{R:Type}{kx:Ex->Ja->Option R}{s:Str}{c:Option R}{N m:Nat}(hs:s.length<=68719476736)(hN:N=(esc s).length)(hm:m<=s.length)(h0:∀(L p:Nat) (w:Str),p<=s.length->L=(esc (s.take p)).length->w.length=N->w.take L=esc (s.take p)->(s.drop p).count 0=0->kx (.exit 0) (s,[0],[0,255],(L:Int),(p:Int),(m:Int),(m:Int),w,0,(N:Int))=c) :
  ∀(k i L p:Nat) (w:Str),(s.drop p).count 0=m-i->i<=m->m-i<k->p<=s.length->L=(esc (s.take p)).length->w.length=N->w.take L=esc (s.take p)->Ak (λrec=>Nm rec kx) k (s,[0],[0,255],(L:Int),(p:Int),(m:Int),(i:Int),w,0,(N:Int))=c
 |0,i,L,p,w,_,_,h,_,_,_,_=>by omega
 |k+1,i,L,p,w,hc,him,hk,hp,hL,hw,ht=>by
  have hcl:s.count 0<=s.length:=List.count_le_length;have hNs:N<=137438953472:=by rw[hN,Kg];omega
  rw[A0];by_cases hi:i<m
  ·obtain⟨A,B,hd,hA,hix,hcb⟩:=Agi (l:=s.drop p) (by omega);have e1:s.take (p+A.length+1)=s.take p++(A++[0]):=by rw[Nat.add_assoc,List.take_add,hd];congr 1;rw[show A++0::B=(A++[0])++B by simp];exact List.take_left' (by simp)
   have e2:s.drop (p+A.length+1)=B:=by rw[Nat.add_assoc,<-List.drop_drop,hd,show A++0::B=(A++[0])++B by simp];exact List.drop_left' (by simp)
   have e3:esc (s.take (p+A.length+1))=esc (s.take p)++(A++[0,255]):=by rw[e1,Jn,Jn,Atw hA];rfl
   have hpl:p+A.length+1<=s.length:=by have:=congrArg List.length hd;simp only[Za2,Zh1,Zf1] at this;omega
   have hL2:L+A.length+2=(esc (s.take (p+A.length+1))).length:=by rw[e3,Zh1,<-hL];simp;omega
   have hLN:L+A.length+2<=N:=by
    have:esc s=esc (s.take (p+A.length+1))++esc (s.drop (p+A.length+1)):=by rw[<-Jn,List.take_append_drop]
    rw[hN,this,Zh1];omega
   have hsl:(Cc w L A).length=N:=by rw[E0 _ _ _ (by omega)];exact hw
   rw[A1y hs hNs hi (by simp only[ln];omega) hd (hd▸hix) hLN hw];refine Ajk hs hN hm h0 k (i+1) (L+A.length+2) (p+A.length+1) _ ?_ (by omega) (by omega) hpl hL2 ?_ ?_
   ·rw[e2];omega
   ·rw[E0 _ _ _ (by rw[hsl];simp;omega)];exact hsl
   ·rw[show L+A.length+2=(L+A.length)+([0,255]:Str).length by rfl,Qo _ _ _ (by rw[hsl];simp;omega),Qo _ _ _ (by omega),ht,e3];simp
  ·have him:i=m:=by omega
   subst him;simp only[Nm,Zd1 (show ¬((i:Nat):Int)<(i:Int) by omega),Ai];exact h0 L p w hp hL hw ht (by omega)
theorem Bli:FO 169 [.sl .byte false,.sl .byte false,.sl .byte false,.int .i64] [.sl .byte true] Ar0 :=.fin 0 Ba4 λ(s,old,new,n) r hb hx=>⟨s.count 0+1,by
 simp only[Ar0,Aql] at hx;cases hc:decide (old=[0])&&decide (new=[0,255])&&decide (n = -1)&&decide (s.length<=68719476736) with
 |false=>rw[hc] at hx;cases hx
 |true =>
  rw[hc] at hx;simp only[Zb1,Zg1] at hc;obtain⟨⟨⟨rfl,rfl⟩,rfl⟩,hs⟩:=hc;have hx:some (esc s)=some r:=hx;rw[<-hx];have hcl:s.count 0<=s.length:=List.count_le_length;have hNl:=Kg s;have ecount:Arj s [0]=some ((s.count 0:Nat):Int):=rfl;have l2:([0,255]:Str).length=2:=rfl;have l1:([0]:Str).length=1:=rfl;by_cases h0:s.count 0=0
  ·have hno:(0:UInt8)∉s:=List.count_eq_zero.1 h0;have c1:decide (0+s.length<=Af)=true:=Ze1 (by simp only[Af];omega);have c2:decide (((s.count 0:Nat):Int)=0)=true:=Ze1 (by omega);simp only[W0,ecount,Zc1,c2,Ag,c1,chk,Atw hno];rfl
  ·have c2:decide (((s.count 0:Nat):Int)=0)=false:=Zd1 (by omega);have c3:wr .i64 (((2:Nat):Int)-((1:Nat):Int))=1:=by decide
   have c4:wr .i64 (((s.count 0:Nat):Int)*1)=((s.count 0:Nat):Int):=by rw[Int.mul_one,Bd (by simp only[inI];omega)]
   have c5:wr .i64 ((s.length:Int)+((s.count 0:Nat):Int))=(((esc s).length:Nat):Int):=by rw[Bd (by simp only[inI];omega),hNl];rfl
   have c6:(upI 0 (((esc s).length:Nat):Int) (((esc s).length:Nat):Int)&&decide ((((esc s).length:Nat):Int)<=(Af:Int)))=true:=by
    have h1:(((esc s).length:Nat):Int)<=274877906944:=by rw[hNl];omega
    simp only[upI,Zb1,Zg1];exact⟨⟨⟨Int.le_refl _,Int.natCast_nonneg _⟩,Int.le_refl _⟩,h1⟩
   have c7:decide ((0:Int)<((1:Nat):Int))=true:=rfl;have c8:decide ((-1:Int)<0)=true:=rfl;have c9:(!decide ((-1:Int)=0))=true:=rfl;simp only[W0,c9,ecount,Zc1,c2,Ag,Ai,c8,l1,l2,c3,c4,c5,c6,chk,c7];refine Ajk (c:=some (esc s)) (N:=(esc s).length) (m:=s.count 0) hs rfl hcl (λL p w hp hL hw ht hz =>?_) (s.count 0+1) 0 0 0 _ (by simp) (Nat.zero_le _) (by omega) (Nat.zero_le _) (by simp[esc]) (by simp) (by simp[esc]);have hdn:(0:UInt8)∉s.drop p:=List.count_eq_zero.1 hz;have hes:esc s=esc (s.take p)++s.drop p:=by rw[<-Atw hdn,<-Jn,List.take_append_drop]
   have hNL:(esc s).length=L+(s.drop p).length:=by rw[hes,Zh1,<-hL]
   have hdl:(s.drop p).length=s.length-p:=Za2;have e1:upI (L:Int) (((esc s).length:Nat):Int) (((esc s).length:Nat):Int)=true:=by simp only[upI,Zb1,Zg1];omega
   have e2:upto (p:Int) (s.length:Int) s.length=true:=by rw[Z2];simp;omega
   have e3:(decide ((0:Int)<=(L:Int))&&decide ((0:Int)<=((((esc s).length:Nat):Int)-(L:Int)))&&decide ((L:Int)+((((esc s).length:Nat):Int)-(L:Int))<=(((esc s).length:Nat):Int)))=true:=by simp only[Zb1,Zg1];omega
   have e4:min ((((esc s).length:Nat):Int)-(L:Int)).toNat (s.drop p).length=(s.drop p).length:=by omega
   have e5:wr .i64 ((L:Int)+(((s.drop p).length:Nat):Int))=(((esc s).length:Nat):Int):=by rw[Bd (by simp only[inI];omega)];omega
   have e6:upI 0 (((esc s).length:Nat):Int) (((esc s).length:Nat):Int)=true:=by simp only[upI,Zb1,Zg1];omega
   have e7:(s.drop p).take ((((esc s).length:Nat):Int)-(L:Int)).toNat=s.drop p:=List.take_of_length_le (by omega);have hsl:(Cc w L (s.drop p)).length=(esc s).length:=by rw[E0 _ _ _ (by omega)];exact hw
   have e8:decide ((0:Int)<(((esc s).length:Nat):Int))=true:=Ze1 (by omega);have e10:decide ((((esc s).length:Nat):Int)<=(((esc s).length:Nat):Int))=true:=Ze1 (Int.le_refl _);have e9:(Cc w L (s.drop p)).take (esc s).length=esc s:=by have:=Qo w L (s.drop p) (by omega);rw[<-hNL,ht] at this;rw[this,hes]
   simp only[Int.zero_add,Int.add_zero,Int.sub_zero,Int.toNat_natCast,hw,e1,e2,e3,e4,e5,e6,e7,hsl,e8,e9,e10,decide_true,Bool.true_and,Ag]⟩
def Bbe(R:Type):Px R:=pxO [(169,cA Ar0)] [] [] []
def Adm(x:HV [.sl .byte false,.sl .byte false,.sl .byte false]):Option (HV [.sl .byte true]):=match x with
 |(s,old,new) =>
 (Aql s old new (-1)).bind λx =>some x
theorem A3m:FO 124 [.sl .byte false,.sl .byte false,.sl .byte false] [.sl .byte true] (Adm):=fR (px:=Bbe _) (n:=0) Tryz.func124 rfl (λ_ H=>⟨lv H (c1 H Bli Ae) Aa Ab,Aj⟩) λ(_,_,_)=>by kernel_rfl
def Al5(s old new:Str):Option Str:=Aql s old new (-1)
def Xo:FT [.sl .byte false,.sl .byte false,.sl .byte false] [.sl .byte true]:=λx=>Al5 x.1 x.2.1 x.2.2
theorem Aop:FO 124 [.sl .byte false,.sl .byte false,.sl .byte false] [.sl .byte true] Xo :=.fin0 A3m λ(s,old,new) r _ hx=>by rw[<-hx];simp only[Adm,Xo,Al5];cases Aql s old new (-1)<;>rfl
def Arh(s:Str):Option Str:=cond (decide (s.length<=2000000)) (some s) none
def Pr:FT [.sl .byte false] [.sl .byte true]:=λx=>Arh x
theorem R2:FO 69 [.sl .byte false] [.sl .byte true] Pr:=Az8
def Btc(s:Str):Option Str:=cond (decide (s.length<=2000000)) (some s) none
def Ajy:FT [.sl .byte false] [.sl .byte true]:=λx=>Btc x
theorem Aqv:FO 151 [.sl .byte false] [.sl .byte true] Ajy:=Awv
theorem Bsr{c:UInt8}(n:UInt8):decide ((c.toNat:Int)=(n.toNat:Int))=decide (c=n):=by refine Zy1.2 ⟨λe=>UInt8.toNat_inj.1 (by omega),λe=>by rw[e]⟩
def nxt:Str->Str
 |[]=>[]
 |c::l=>if nxt l=[] then(if c=255 then [] else [c+1]) else c::nxt l
theorem Asu:∀n:Nat,nxt (List.replicate n 255)=[]
 |0=>rfl
 |n+1=>by simp[List.replicate_succ,nxt,Asu n]
theorem Au1{c:UInt8}(h:c≠255)(n:Nat):∀l:Str,nxt (l++c::List.replicate n 255)=l++[c+1]
 |[]=>by simp[nxt,Asu,h]
 |d::l=>by simp[nxt,Au1 h n l]
def U6:Sig:=⟨35,[],[],[(0,.one (.dn .byte))],1,0,0,[],[(3,0,.byte)]⟩
abbrev Hi:=List UInt8×Int×Int
def Ny{R:Type}(rec:Hi->Option R)(kx:Ex->Hi->Option R)(v:Hi):Option R:=match v with
 |(w,w1,w2) =>
 cond (decide (0<w2)) (
  chk (inO (wr .i64 (w2-1)) w2) (
  chk (inb (w1+(wr .i64 (w2-1))) w.length) (
   cond (decide (((at' .byte w (w1+(wr .i64 (w2-1)))).toNat:Int)=255)) (
   chk (upI 0 (wr .i64 (w2-1)) w2) (
    rec (w,w1,(wr .i64 (w2-1))))) (
   kx (.exit 0) (w,w1,w2))))) (
  kx (.exit 0) (w,w1,w2))
noncomputable def Apr(R:Type)(_k:Nat):Px R:=pxO [(69,Li [.sl .byte false] .byte Pr)] [] [] []
noncomputable def Xv(R:Type)(k:Nat):Px R:=pxO [(69,Li [.sl .byte false] .byte Pr)] [] [(2,Asy (Apr R k) (lp Tryz.f38 0) k U6 (Ny))] []
theorem A3q(R:Type)(k:Nat):∀(fr:List Fr) (rec:Hi->Option R) (kx:Ex->Hi->Option R) (v:Hi),round (Xv R k) U6 (lp Tryz.f38 0) fr rec kx v=Ny rec kx v
 |fr,rec,kx,(w,w1,w2)=>by kernel_rfl
def Afv(k:Nat)(x:HV [.sl .byte false]):Option (HV [.sl .byte false]):=match x with
 |b =>
 (Arh b).bind λx =>
  cond (List.isEmpty x) (
  some []) (
  Ak (λrec=>Ny rec (λe vz=>match vz with|(v,v1,v2)=>match e with
   |.exit 0 =>
   cond (decide (0<v2)) (
    chk (inO (wr .i64 (v2-1)) v2) (
    chk (inb (v1+(wr .i64 (v2-1))) v.length) (
     chk (inO (wr .i64 (v2-1)) v2) (
     chk (inb (v1+(wr .i64 (v2-1))) v.length) (
      chk (decide ((0:Int)<=v1)&&decide ((0:Int)<=v2)&&decide ((v1+v2)<=((v.set ((v1+(wr .i64 (v2-1))):Int).toNat (UInt8.ofNat ((wr .u8 (((at' .byte v (v1+(wr .i64 (v2-1)))).toNat:Int)+1)):Int).toNat)).length:Int))) (
      some (cut (v.set ((v1+(wr .i64 (v2-1))):Int).toNat (UInt8.ofNat ((wr .u8 (((at' .byte v (v1+(wr .i64 (v2-1)))).toNat:Int)+1)):Int).toNat)) v1 (v1+v2)))))))) (
    chk (decide ((0:Int)<=v1)&&decide ((0:Int)<=v2)&&decide ((v1+v2)<=(v.length:Int))) (
    some (cut v v1 (v1+v2))))
   |_=>none)) k (x,0,(x.length:Int)))
theorem Ba7(k:Nat):FO 38 [.sl .byte false] [.sl .byte false] (Afv k):=fR (px:=Xv _ k) (n:=1) Tryz.func38 rfl (λcx H=>by have h0:Lv cx (Xv (HV [.sl .byte false]) k):=lv H (A2 (cT H R2) Ae) Aa Ab;have h00:Lv cx (Apr (HV [.sl .byte false]) k):=lv H (A2 (cT H R2) Ae) Aa Ab;have hlknext_0:B8 cx (Xv (HV [.sl .byte false]) k) (lp Tryz.f38 0):=Akc h0.p h0.c h0.q (by rw[H.p];exact follows) h00.p h00.c h00.q (λ_ _ _=>rfl) (k:=k) (s:=U6) (step:=Ny) (λ_ _=>by kernel_rfl) (by kernel_rfl) (A3q _ k) (Ag1 (n:=0) (by kernel_rfl) Aj);exact⟨h0,(A3 Aj hlknext_0)⟩) λ_=>by kernel_rfl
def Brv(b:Str):Option Str:=cond (decide (b.length<=2000000)) (some (nxt b)) none
def At8:FT [.sl .byte false] [.sl .byte false]:=λx=>Brv x
theorem A2p{w:Str}{n:Nat}(hn:n<w.length)(h:w.drop (n+1)=List.replicate (w.length-(n+1)) 255)(h2:w[n]=255):w.drop n=List.replicate (w.length-n) 255:=by rw[Ah hn,h2,h,show w.length-n=(w.length-(n+1))+1 by omega,List.replicate_succ]
theorem Ajb{R:Type}{kx:Ex->Hi->Option R}{w:Str}{c:Option R}(hw:w.length<=2000000)(h:∀m:Nat,m<=w.length->w.drop m=List.replicate (w.length-m) 255->(∀(h:m-1<w.length),0<m->w[m-1]≠255)->kx (.exit 0) (w,0,(m:Int))=c) :
  ∀(k n:Nat),n<=w.length->n<k->w.drop n=List.replicate (w.length-n) 255->Ak (λrec=>Ny rec kx) k (w,0,(n:Int))=c
 |0,n,_,h,_=>by omega
 |k+1,n,hn,hk,hd=>by
  rw[A0];by_cases h0 : 0<n
  ·have hl:n-1<w.length:=by omega
   have e0:wr .i64 ((n:Int)-1)=((n-1:Nat):Int):=by rw[Bd (by simp only[inI];omega)];omega
   have e1:decide ((0:Int)<(n:Int))=true:=Ze1 (by omega);have e2:inO ((n-1:Nat):Int) (n:Int)=true:=by simp only[inO,Zb1,Zg1];omega
   have e3:upI 0 ((n-1:Nat):Int) (n:Int)=true:=by simp only[upI,Zb1,Zg1];omega
   simp only[Ny,e1,Ag,e0,e2,chk,Int.zero_add,Ao hl,Al (c :=.byte) hl,e3];have q:decide (((w[n-1]).toNat:Int)=255)=decide (w[n-1]=255):=Bsr 255;rw[q];by_cases hc:w[n-1]=255
   ·rw[Ze1 hc,Ag];refine Ajb hw h k (n-1) (by omega) (by omega) (A2p hl ?_ hc);rw[show n-1+1=n by omega];exact hd
   ·rw[Zd1 hc,Ai];exact h n hn hd λ_ _=>hc
  ·have h00:n=0:=by omega
   subst h00;have e1:decide ((0:Int)<((0:Nat):Int))=false:=rfl;simp only[Ny,e1,Ai];exact h 0 hn hd λ_ h=>absurd h (by omega)
theorem Bsm{w:Str}{m:Nat}(hm:m<=w.length)(hd:w.drop m=List.replicate (w.length-m) 255)(h0 : 0<m)(hc:w[m-1]≠255):nxt w=w.take (m-1)++[w[m-1]+1]:=by
 have e:w=w.take (m-1)++w[m-1]::List.replicate (w.length-m) 255:=by
  rw[<-hd]
  conv=>lhs;rw[<-List.take_append_drop (m-1) w]
  rw[Ah (show m-1<w.length by omega),show m-1+1=m by omega]
 rw[<-Au1 hc (w.length-m) (w.take (m-1)),<-e]
theorem Bis{w:Str}(hd:w.drop 0=List.replicate (w.length-0) 255):nxt w=[]:=by rw[Zq1] at hd;rw[hd];exact Asu _
theorem Bbr(b:UInt8):UInt8.ofNat (wr .u8 ((b.toNat:Int)+1)).toNat=b+1:=by
 have:wr .u8 ((b.toNat:Int)+1)=(((b.toNat+1) % 256:Nat):Int):=by simp[wr,IntKind.wrap,IntKind.bits,IntKind.signed]
 rw[this,Int.toNat_natCast];apply UInt8.toNat_inj.1;simp
theorem Bpq{w:Str}{m:Nat}{c:UInt8}(h0 : 0<m)(hm:m<=w.length):cut (w.set (m-1) c) 0 (m:Int)=w.take (m-1)++[c]:=by
 simp only[cut,Int.toNat_zero,Zq1,Int.toNat_natCast,Nat.sub_zero];rw[List.take_set];have:w.take m=w.take (m-1)++[w[m-1]]:=by
  conv=>lhs;rw[show m=(m-1)+1 by omega]
  exact(List.take_append_getElem _).symm
 have hl:(w.take (m-1)).length=m-1:=by rw[List.length_take];omega
 rw[this,List.set_append_right (h:=by omega),hl,Nat.sub_self];rfl
theorem Bln:FO 38 [.sl .byte false] [.sl .byte false] At8 :=.fin 0 Ba7 λb r hb hx=>⟨b.length+1,by
 simp only[At8,Brv] at hx;cases hc:decide (b.length<=2000000) with
 |false=>rw[hc] at hx;cases hx
 |true =>
  rw[hc] at hx;have hl:=of_decide_eq_true hc;have hx:some (nxt b)=some r:=hx;rw[<-hx];have e1:Arh b=some b:=by simp only[Arh];rw[Ze1 hl];rfl
  simp only[Afv,e1,Zc1];by_cases hb0:b=[]
  ·subst hb0;rfl
  ·have e2:List.isEmpty b=false:=by cases b with|nil=>exact absurd rfl hb0|cons _ _=>rfl
   rw[e2,Ai];refine Ajb (c:=some (nxt b)) hl (λm hm hd hcc =>?_) (b.length+1) b.length (Zn1 _) (by omega) (by simp);by_cases h0 : 0<m
   ·have hml:m-1<b.length:=by omega
    have f0:wr .i64 ((m:Int)-1)=((m-1:Nat):Int):=by rw[Bd (by simp only[inI];omega)];omega
    have f1:decide ((0:Int)<(m:Int))=true:=Ze1 (by omega);have f2:inO ((m-1:Nat):Int) (m:Int)=true:=by simp only[inO,Zb1,Zg1];omega
    have f3:∀x:UInt8,(decide ((0:Int)<=0)&&decide ((0:Int)<=(m:Int))&&decide ((m:Int)<=(((b.set (m-1) x).length:Nat):Int)))=true:=λx=>by simp only[List.length_set,Zb1,Zg1];omega
    simp only[f1,Ag,f0,f2,chk,Int.zero_add,Ao hml,Al (c :=.byte) hml,Int.toNat_natCast,f3,Bbr];rw[Bpq h0 hm,Bsm hm hd h0 (hcc hml h0)]
   ·have hm0:m=0:=by omega
    subst hm0;have f1:decide ((0:Int)<((0:Nat):Int))=false:=rfl;have f3:(decide ((0:Int)<=0)&&decide ((0:Int)<=((0:Nat):Int))&&decide ((0:Int)+((0:Nat):Int)<=((b.length:Nat):Int)))=true:=by simp
    simp only[f1,Ai,f3,chk,Ag];rw[Bis hd];simp[cut]⟩
def Bn4(R:Type):Px R:=pxO [(124,cA Xo)] [] [] []
def Ao7(x:HV [.str]):Option (HV [.sl .byte true]):=match x with
 |s =>
 chk (decide (s.length<=Af)) (
  (Al5 s [(UInt8.ofNat (0:Int).toNat)] [(UInt8.ofNat (0:Int).toNat),(UInt8.ofNat (255:Int).toNat)]).bind λx =>
  chk (decide (x.length+2<=Af)) (
   some (x++[(UInt8.ofNat (0:Int).toNat),(UInt8.ofNat (1:Int).toNat)])))
theorem Bfk:FO 81 [.str] [.sl .byte true] (Ao7):=fR (px:=Bn4 _) (n:=0) Tryz.func81 rfl (λ_ H=>⟨lv H (c1 H Aop Ae) Aa Ab,Aj⟩) λ_=>by kernel_rfl
def A4c(s:Str):Option Str:=cond (decide (s.length<=68719476736)) (some (esc s++[0,1])) none
def A1t:FT [.str] [.sl .byte true]:=λx=>A4c x
theorem Bn9:FO 81 [.str] [.sl .byte true] A1t :=.fin0 Bfk λs r _ hx=>by
 simp only[A1t,A4c] at hx;cases hc:decide (s.length<=68719476736) with
 |false=>rw[hc] at hx;cases hx
 |true =>
  rw[hc] at hx;have hl:=of_decide_eq_true hc;have hcl:s.count 0<=s.length:=List.count_le_length;have hNl:=Kg s;rw[<-hx];have c1:decide (s.length<=Af)=true:=Ze1 (by simp only[Af];omega);have c2:Al5 s [0] [0,255]=some (esc s):=by simp[Al5,Aql,hc]
  have c3:decide ((esc s).length+2<=Af)=true:=Ze1 (by simp only[Af];omega);simp[Ao7,c1,c2,c3,chk]
def B2(x s:Nat):UInt8:=UInt8.ofNat (x / 2 ^ s % 256)
def Alz(x:Nat):Str:=[B2 x 56,B2 x 48,B2 x 40,B2 x 32,B2 x 24,B2 x 16,B2 x 8,B2 x 0]
def A0y(n:Int):Str:=Alz (n+9223372036854775808).toNat
def Fu(v:Val):Str:=cond (decide (v.kind=2)) [UInt8.ofNat v.n.toNat] (cond (decide (v.kind=3)) (A0y v.n) (cond (decide (v.kind=4)||decide (v.kind=5)) (esc v.s++[0,1]) []))
def Og(v:Val):Str:=UInt8.ofNat v.kind.toNat::Fu v
def Ic(l:List Val):Str:=l.flatMap Og
def vsz:List Val->Nat
 |[]=>0
 |v::l=>v.s.length+1+vsz l
theorem Ahx:∀a b,vsz (a++b)=vsz a+vsz b
 |[],b=>by simp[vsz]
 |v::a,b=>by simp only[Zb2,vsz,Ahx a b];omega
theorem A7o{l:List Val}{i:Nat}(h:i<l.length):vsz (l.take i)+(l[i].s.length+1)<=vsz l:=by have h1:=Ahx (l.take i) (l.drop i);rw[List.take_append_drop,Ah h] at h1;simp only[vsz] at h1;omega
theorem Bmo(v:Val):(Og v).length<=9*(v.s.length+1):=by have h:=Kg v.s;have hc:v.s.count 0<=v.s.length:=List.count_le_length;simp only[Og,Fu,Zf1];cases decide (v.kind=2)<;>cases decide (v.kind=3)<;>cases (decide (v.kind=4)||decide (v.kind=5))<;>simp[A0y,Alz]<;>omega
theorem Awb(l:List Val):(Ic l).length<=9*vsz l:=by induction l with|nil=>simp[Ic]|cons v l ih =>have:=Bmo v;simp only[Ic,List.flatMap_cons,Zh1,vsz] at ih ⊢;omega
theorem Azp(a b:List Val):Ic (a++b)=Ic a++Ic b:=by simp[Ic]
theorem Aoa{l:List Val}{i:Nat}(h:i<l.length):Ic (l.take (i+1))=Ic (l.take i)++Og l[i]:=by rw[<-List.take_append_getElem h,Azp];simp[Ic]
theorem Brz{x:Nat}(h:x<2 ^ 63):x ^^^ 2 ^ 63=x+2 ^ 63:=by
 rw[Nat.add_comm,Nat.xor_comm];apply Nat.eq_of_testBit_eq;intro i;rw[Nat.testBit_xor,Nat.testBit_two_pow];rcases Nat.lt_trichotomy i 63 with hi|rfl|hi
 ·rw[Nat.testBit_two_pow_add_gt hi];simp[Nat.ne_of_gt hi]
 ·rw[Nat.testBit_two_pow_add_eq,Nat.testBit_lt_two_pow h];simp
 ·rw[Nat.testBit_lt_two_pow (Zx1 h (Nat.pow_le_pow_right (by omega) (by omega)))];rw[Nat.testBit_lt_two_pow (show 2 ^ 63+x<2 ^ i from Zx1 (show 2 ^ 63+x<2 ^ 64 by omega) (Nat.pow_le_pow_right (by omega) (by omega)))];simp[Nat.ne_of_lt hi]
theorem Afr{m:Nat}(h:m<18446744073709551616):IntKind.wrap .u64 (m:Int)=(m:Int):=by simp[IntKind.wrap,IntKind.bits,IntKind.signed];omega
theorem A55{n:Int}(h:inI n):∃a:Nat,wr .u64 n=(a:Int)/\a<18446744073709551616/\((0<=n/\(a:Int)=n)\/(n<0/\(a:Int)=n+18446744073709551616)):=by
 simp only[inI] at h;have e:wr .u64 n=n % 18446744073709551616:=by simp[wr,IntKind.wrap,IntKind.bits,IntKind.signed]
 refine⟨(n % 18446744073709551616).toNat,?_,?_,?_⟩<;>omega
theorem Bt2{n:Int}(h:inI n):Aa3 .u64 (wr .u64 n) 9223372036854775808=n+9223372036854775808:=by
 obtain⟨a,ha,hlt,hc⟩:=A55 h;have e1:(BitVec.ofInt 64 (a:Int)).toNat=a:=by simp;omega
 have e2:(BitVec.ofInt 64 (9223372036854775808:Int)).toNat=2 ^ 63:=by decide
 have e3:Aa3 .u64 (a:Int) 9223372036854775808=IntKind.wrap .u64 (((a ^^^ 2 ^ 63:Nat)):Int):=by show IntKind.wrap .u64 (((BitVec.ofInt 64 (a:Int) ^^^ BitVec.ofInt 64 (9223372036854775808:Int)).toNat:Nat):Int)=_;rw[BitVec.toNat_xor,e1,e2]
 rw[ha,e3];simp only[inI] at h;rcases hc with ⟨h0,h1⟩|⟨h0,h1⟩
 ·rw[Brz (by omega),Afr (by omega)];omega
 ·obtain⟨b,rfl⟩:∃b,a=b+2 ^ 63:=⟨a-2 ^ 63,by omega⟩;rw[<-Brz (x:=b) (by omega),Nat.xor_assoc,Nat.xor_self,Nat.xor_zero,Afr (by omega)];omega
theorem A9n(x s:Nat)(hs:s<=63):UInt8.ofNat (wr .u8 (Ev .u64 (x:Int) (s:Int))).toNat=UInt8.ofNat (x / 2 ^ s % 256):=by
 have e:min (s:Int).toNat (IntKind.bits .u64)=s:=by simp[IntKind.bits];omega
 have e2:Ev .u64 (x:Int) (s:Int)=((x / 2 ^ s:Nat):Int):=by
  simp only[Ev,e];have e0:((2:Int) ^ s)=((2 ^ s:Nat):Int):=by simp
  rw[e0,Int.fdiv_eq_ediv_of_nonneg _ (Int.natCast_nonneg _)];rfl
 have e3:wr .u8 ((x / 2 ^ s:Nat):Int)=((x / 2 ^ s % 256:Nat):Int):=by simp[wr,IntKind.wrap,IntKind.bits,IntKind.signed]
 rw[e2,e3,Int.toNat_natCast]
def Apu:Sig:=⟨64,[(2,.sl .byte true),(3,.int .i64),(4,.sl .byte true),(8,.int .u64),(9,.int .i64),(10,.sl .val false),(11,.int .i64),(12,.int .i64)],[],[],0,0,0,[],[]⟩
abbrev Lq:=List UInt8×Int×List UInt8×Int×Int×List Val×Int×Int
def Oz{R:Type}(rec:Lq->Option R)(kx:Ex->Lq->Option R)(v:Lq):Option R:=match v with
 |(v6,v7,v8,v9,a,b,c,d) =>
 cond (decide (0<=a)) (
  chk (decide (0<=a)) (
  chk (decide (v8.length+1<=Af)) (
   rec (v6,v7,(v8++[(UInt8.ofNat ((wr .u8 (Ev .u64 v9 a)):Int).toNat)]),v9,(wr .i64 (a-8)),b,c,d)))) (
  kx (.exit 3) (v6,v7,v8,v9,a,b,c,d))
def Aoj:Sig:=⟨64,[(2,.sl .byte true),(3,.int .i64),(4,.sl .byte true),(10,.sl .val false),(11,.int .i64),(12,.int .i64)],[],[],0,0,0,[],[]⟩
abbrev Ly:=List UInt8×Int×List UInt8×List Val×Int×Int
def V8{R:Type}(k:Nat)(rec:Ly->Option R)(kx:Ex->Ly->Option R)(v:Ly):Option R:=match v with
 |(v,v1,v2,v3,v4,v5) =>
 cond (decide (v5<v4)) (
  chk (inb v5 v3.length) (
  cond (!decide ((B7 (at' .val v3 v5))=0)) (
   kx .ret ([],(B7 (at' .val v3 v5)),v2,v3,v4,v5)) (
   chk (decide (v2.length+1<=Af)) (
   cond (decide ((at' .val v3 v5).kind=2)) (
    chk (decide ((v2++[(UInt8.ofNat ((wr .u8 ((at' .val v3 v5).kind)):Int).toNat)]).length+1<=Af)) (
    rec (v,v1,((v2++[(UInt8.ofNat ((wr .u8 ((at' .val v3 v5).kind)):Int).toNat)])++[(UInt8.ofNat ((wr .u8 ((at' .val v3 v5).n)):Int).toNat)]),v3,v4,(wr .i64 (v5+1))))) (
    cond (decide ((at' .val v3 v5).kind=3)) (
    Ak (λrc=>Oz rc (λe vz=>match vz with|(a,b,c,_,_,d,f,g)=>match e with
     |.exit 3 =>
     rec (a,b,c,d,f,(wr .i64 (g+1)))
     |_=>none)) k (v,v1,(v2++[(UInt8.ofNat ((wr .u8 ((at' .val v3 v5).kind)):Int).toNat)]),(Aa3 .u64 (wr .u64 ((at' .val v3 v5).n)) 9223372036854775808),56,v3,v4,v5)) (
    let j:=λ(p:Bool) =>
     cond (p) (
     (A4c ((at' .val v3 v5).s)).bind λx =>
      chk (decide ((v2++[(UInt8.ofNat ((wr .u8 ((at' .val v3 v5).kind)):Int).toNat)]).length+x.length<=Af)) (
      rec (v,v1,((v2++[(UInt8.ofNat ((wr .u8 ((at' .val v3 v5).kind)):Int).toNat)])++x),v3,v4,(wr .i64 (v5+1))))) (
     rec (v,v1,(v2++[(UInt8.ofNat ((wr .u8 ((at' .val v3 v5).kind)):Int).toNat)]),v3,v4,(wr .i64 (v5+1))))
    cond (decide ((at' .val v3 v5).kind=4)) (
     j (decide ((at' .val v3 v5).kind=4))) (
     j (decide ((at' .val v3 v5).kind=5))))))))) (
  kx (.exit 0) (v,v1,v2,v3,v4,v5))
def A6s(R:Type)(k:Nat):Px R:=pxO [(80,cA X6),(81,cA A1t)] [] [(15,Am k Apu (Oz)),(3,Am k Aoj (V8 k))] []
def Aos(k:Nat)(x:HV [.sl .val false]):Option (HV [.sl .byte true,.int .i64]):=match x with
 |l =>
 Ak (λrec=>V8 k rec (λe vz=>match vz with|(a,b,c,_,_,_)=>match e with
  |.ret =>
  some (a,b)
  |.exit 0 =>
  some (c,0)
  |_=>none)) k ([],0,[],l,(l.length:Int),0)
theorem Bme(k:Nat):FO 45 [.sl .val false] [.sl .byte true,.int .i64] (Aos k):=fR (px:=A6s _ k) (n:=2) Tryz.func45 rfl (λcx H=>by have h0:Lv cx (A6s (HV [.sl .byte true,.int .i64]) k):=lv H (c1 H Abv (c1 H Bn9 Ae)) Aa Ab;have hlkenc_1:=lO H h0 (b:=lpC (lp Tryz.f45 0) 0) (k:=k) (n:=0) (s:=Apu) (step:=Oz) (λ_ _ _ (_,_,_,_,_,_,_,_)=>by kernel_rfl) Aj;have hlkenc_0:=lO H h0 (b:=lp Tryz.f45 0) (k:=k) (n:=1) (s:=Aoj) (step:=V8 k) (λ_ _ _ (_,_,_,_,_,_)=>by kernel_rfl) (A3 Aj hlkenc_1);exact⟨h0,(A3 (A3 Aj hlkenc_0) hlkenc_1)⟩) λ_=>by kernel_rfl
def A15(l:List Val):Option (Str×Int):=cond (decide (vsz l<=1000000)) (some (cond (l.all Aq) (Ic l,0) ([],2))) none
def A3h:FT [.sl .val false] [.sl .byte true,.int .i64]:=λx=>A15 x
theorem Bcm{R:Type}{rec:Lq->Option R}{kx:Ex->Lq->Option R}{q acc:Str}{e:Int}{x s:Nat}{l:List Val}{n i:Int}(hs:s<=63)(ha:acc.length<=20000000):Oz rec kx (q,e,acc,(x:Int),(s:Int),l,n,i)=rec (q,e,acc++[B2 x s],(x:Int),wr .i64 ((s:Int)-8),l,n,i):=by have c1:decide ((0:Int)<=(s:Int))=true:=Ze1 (by omega);have c2:decide (acc.length+1<=Af)=true:=Ze1 (by simp only[Af];omega);simp only[Oz,c1,c2,chk,Ag,A9n x s hs,B2]
theorem A0q{R:Type}{kx:Ex->Lq->Option R}{q acc:Str}{e:Int}{x:Nat}{l:List Val}{n i:Int}{k:Nat}(ha:acc.length<=10000000):Ak (λrec=>Oz rec kx) (k+9) (q,e,acc,(x:Int),56,l,n,i)=kx (.exit 3) (q,e,acc++Alz x,(x:Int), -8,l,n,i):=by
 have st:∀(k s:Nat) (acc:Str) (t:Int),s<=63->acc.length<=20000000->wr .i64 ((s:Int)-8)=t->Ak (λrec=>Oz rec kx) (k+1) (q,e,acc,(x:Int),(s:Int),l,n,i)=Ak (λrec=>Oz rec kx) k (q,e,acc++[B2 x s],(x:Int),t,l,n,i):=λk s acc t h1 h2 h3=>by rw[A0,Bcm h1 h2,h3]
 have e1:=st (k+8) 56 acc 48 (by omega) (by omega) (by decide);have e2:=st (k+7) 48 (acc++[B2 x 56]) 40 (by omega) (by simp;omega) (by decide);have e3:=st (k+6) 40 (acc++[B2 x 56]++[B2 x 48]) 32 (by omega) (by simp;omega) (by decide);have e4:=st (k+5) 32 (acc++[B2 x 56]++[B2 x 48]++[B2 x 40]) 24 (by omega) (by simp;omega) (by decide);have e5:=st (k+4) 24 (acc++[B2 x 56]++[B2 x 48]++[B2 x 40]++[B2 x 32]) 16 (by omega) (by simp;omega) (by decide);have e6:=st (k+3) 16 (acc++[B2 x 56]++[B2 x 48]++[B2 x 40]++[B2 x 32]++[B2 x 24]) 8 (by omega) (by simp;omega) (by decide);have e7:=st (k+2) 8 (acc++[B2 x 56]++[B2 x 48]++[B2 x 40]++[B2 x 32]++[B2 x 24]++[B2 x 16]) 0 (by omega) (by simp;omega) (by decide);have e8:=st (k+1) 0 (acc++[B2 x 56]++[B2 x 48]++[B2 x 40]++[B2 x 32]++[B2 x 24]++[B2 x 16]++[B2 x 8]) (-8) (by omega) (by simp;omega) (by decide);refine e1.trans (e2.trans (e3.trans (e4.trans (e5.trans (e6.trans (e7.trans (e8.trans ?_)))))));rw[A0];have c1:decide ((0:Int) <= -8)=false:=rfl;simp only[Oz,c1,Ai,Alz,Zj1,Zb2,Zf2]
theorem Np{v:Val}:Aq v=true↔(v.kind=1/\v.n=0/\v.s=[])\/(v.kind=2/\(v.n=0\/v.n=1)/\v.s=[])\/(v.kind=3/\v.s=[])\/(v.kind=4/\v.n=0/\v.s.length<=1000/\I2 v.s=true)\/(v.kind=5/\v.n=0/\v.s.length<=1000):=by
 have hl:(v.s.length:Int)<=1000↔v.s.length<=1000:=by omega
 by_cases h1:v.kind=1
 ·by_cases h0:v.n=0<;>simp[Aq,h1,h0]
 by_cases h2:v.kind=2
 ·by_cases h0:v.n=0
  ·simp[Aq,h2,h0]
  ·by_cases h3:v.n=1<;>simp[Aq,h2,h0,h3]
 by_cases h3:v.kind=3
 ·simp[Aq,h3]
 by_cases h4:v.kind=4
 ·by_cases h0:v.n=0
  ·by_cases h5:v.s.length<=1000<;>simp[Aq,h4,h0,h5,hl]
  ·simp[Aq,h4,h0]
 by_cases h5:v.kind=5
 ·by_cases h0:v.n=0<;>simp[Aq,h5,h0,hl]
 simp[Aq,h1,h2,h3,h4,h5]
theorem A2v{R:Type}{rec:Ly->Option R}{kx:Ex->Ly->Option R}{l:List Val}{q:Str}{e:Int}{acc:Str}{i k:Nat}(hl:ln l.length)(hi:i<l.length)(hb:Ak9 l[i])(ha:acc.length<=9000000)(hs:l[i].s.length<=1000000):V8 (k+9) rec kx (q,e,acc,l,(l.length:Int),(i:Int))=cond (Aq l[i]) (rec (q,e,acc++Og l[i],l,(l.length:Int),((i+1:Nat):Int))) (kx .ret ([],2,acc,l,(l.length:Int),(i:Int))):=by
 have c1:decide ((i:Int)<(l.length:Int))=true:=Ze1 (by omega);have c2:wr .i64 ((i:Int)+1)=((i+1:Nat):Int):=An hi hl;have c3:decide (acc.length+1<=Af)=true:=Ze1 (by simp only[Af];omega);simp only[V8,c1,Ag,Ao hi,chk,Al (c :=.val) hi,c2,c3];generalize l[i]=v at *;cases hr:Aq v with
 |false =>
  have hc:B7 v=2:=by simp[B7,hr]
  simp only[hc];rfl
 |true =>
  have hc:B7 v=0:=O8.2 hr;have c4:(!decide (B7 v=0))=false:=by rw[hc];rfl
  have c5:∀b:UInt8,decide ((acc++[b]).length+1<=Af)=true:=λb=>Ze1 (by simp only[Af,Zh1,List.length_singleton];omega);simp only[c4,Ai,c5,Ag];have w1:wr .u8 1=1:=by decide
  have w2:wr .u8 2=2:=by decide
  have w3:wr .u8 3=3:=by decide
  have w4:wr .u8 4=4:=by decide
  have w5:wr .u8 5=5:=by decide
  have w0:wr .u8 0=0:=by decide
  rcases Np.1 hr with ⟨h,_⟩|⟨h,hn,_⟩|⟨h,_⟩|⟨h,_,hsl,_⟩|⟨h,_,hsl⟩
  ·simp[h,Og,Fu,w1]
  ·rcases hn with hn|hn<;>simp[h,hn,Og,Fu,w0,w1,w2]
  ·obtain⟨x,hxe,hx⟩:∃x:Nat,(v.n+9223372036854775808).toNat=x/\Aa3 .u64 (wr .u64 v.n) 9223372036854775808=(x:Int):=by have:=hb.2.1;refine⟨_,rfl,?_⟩;rw[Bt2 this];simp only[inI] at this;omega
   have h8:=A0q (R:=R) (kx:=λe v=>match v with|(a,d,f,_,_,g,j,m)=>match e with
     |.exit 3=>rec (a,d,f,g,j,(wr .i64 (m+1)))
     |_=>none) (q:=q) (acc:=acc++[3]) (e:=e) (x:=x) (l:=l) (n:=(l.length:Int)) (i:=(i:Int)) (k:=k) (by simp;omega)
   have p1:Og v=3::Alz x:=by simp[Og,Fu,h,A0y,hxe]
   have d2:decide (v.kind=2)=false:=by rw[h];rfl
   have d3:decide (v.kind=3)=true:=by rw[h];rfl
   have d0:UInt8.ofNat (wr .u8 v.kind).toNat=3:=by rw[h,w3];rfl
   simp only[d2,d3,d0,Ai,Ag,hx,p1,h8,c2,Zj1,Zb2,Zf2]
  ·have hk:A4c v.s=some (esc v.s++[0,1]):=by simp only[A4c,Ze1 (show v.s.length<=68719476736 by omega),Ag]
   have hc1:v.s.count 0<=v.s.length:=List.count_le_length;have hc2:=Kg v.s;have hc3:acc.length+1+((esc v.s).length+2)<=Af:=by simp only[Af];omega
   simp[h,Og,Fu,w4,hk,hc3]
  ·have hk:A4c v.s=some (esc v.s++[0,1]):=by simp only[A4c,Ze1 (show v.s.length<=68719476736 by omega),Ag]
   have hc1:v.s.count 0<=v.s.length:=List.count_le_length;have hc2:=Kg v.s;have hc3:acc.length+1+((esc v.s).length+2)<=Af:=by simp only[Af];omega
   simp[h,Og,Fu,w5,hk,hc3]
theorem Aow{R:Type}{kx:Ex->Ly->Option R}{l:List Val}{c1 c2:Option R}{k0:Nat}(hl:ln l.length)(hb:∀v,v∈l->Ak9 v)(hz:vsz l<=1000000)(h1:∀q i,kx .ret ([],2,q,l,(l.length:Int),i)=c1)(h2:∀q e,kx (.exit 0) (q,e,Ic l,l,(l.length:Int),(l.length:Int))=c2) :
  ∀(k i:Nat) (q:Str) (e:Int),i<=l.length->l.length-i<k->Ak (λrec=>V8 (k0+9) rec kx) k (q,e,Ic (l.take i),l,(l.length:Int),(i:Int))=cond ((l.drop i).all Aq) c2 c1
 |0,i,q,e,_,h=>by omega
 |k+1,i,q,e,hi,h=>by
  rw[A0];by_cases hlt:i<l.length
  ·have hg:=A7o hlt;have hel:=Awb (l.take i);rw[A2v hl hlt (hb _ (List.getElem_mem hlt)) (by omega) (by omega),<-Aoa hlt,Aow hl hb hz h1 h2 k (i+1) q e (by omega) (by omega),h1,Ah hlt];simp only[Zv1];cases Aq l[i]<;>rfl
  ·have hi:i=l.length:=by omega
   subst hi;simp only[V8,Zd1 (show ¬((l.length:Nat):Int)<(l.length:Int) by omega),Ai,List.take_length,h2,Zc2];rfl
theorem Bos:FO 45 [.sl .val false] [.sl .byte true,.int .i64] A3h :=.fin 0 Bme λl r hb hx=>⟨l.length+10,by
 simp only[A3h,A15] at hx;cases hc:decide (vsz l<=1000000) with
 |false=>rw[hc] at hx;cases hx
 |true =>rw[hc] at hx;have hx:some (cond (l.all Aq) (Ic l,0) ([],2))=some r:=hx;rw[<-hx];simp only[Aos];refine(Aow (c1:=some ([],2)) (c2:=some (Ic l,0)) (k0:=l.length+1) hb.1 hb.2 (of_decide_eq_true hc) (λ_ _=>rfl) (λ_ _=>rfl) (l.length+10) 0 [] 0 (Nat.zero_le _) (by omega)).trans ?_;rw[Zq1];cases l.all Aq<;>rfl⟩
def A1w(R:Type):Px R:=pxO [] [] [] []
def M2(x:HV [.int .u8]):Option (HV [.int .u8]):=match x with
 |c =>
 cond (decide (c<128)) (
  some (wr .u8 (c+128))) (
  some (wr .u8 (c-128)))
theorem Ax9:FO 197 [.int .u8] [.int .u8] (M2):=fR (px:=A1w _) (n:=0) Tryz.func197 rfl (λ_ H=>⟨lv H Ae Aa Ab,Aj⟩) λ_=>by kernel_rfl
def H0(c:Int):Int :=
 cond (decide (c<128)) (
  (wr .u8 (c+128))) (
  (wr .u8 (c-128)))
theorem Azo(x:HV [.int .u8]):M2 x=some (H0 x):=by
 first
  |exact rfl
  |simp only[M2,H0,As]
def Arf:FT [.int .u8] [.int .u8]:=λx=>some (H0 x)
theorem A1x:FO 197 [.int .u8] [.int .u8] Arf :=.fin0 Ax9 λx _ _ hx=>(Azo x).trans hx
def Ah6:Sig:=⟨28,[(4,.int .u64),(5,.int .i64)],[],[(0,.one (.dn .byte))],1,0,0,[],[(3,0,.byte)]⟩
abbrev I8:=Int×Int×List UInt8×Int×Int
def I1{R:Type}(rec:I8->Option R)(kx:Ex->I8->Option R)(v:I8):Option R:=match v with
 |(v,v1,w,w1,w2) =>
 cond (decide (0<=v1)) (
  chk (inO v1 w2) (
  chk (inb (w1+v1) w.length) (
   rec ((wr .u64 (Int.tdiv v 256)),(wr .i64 (v1-1)),(w.set ((w1+v1):Int).toNat (UInt8.ofNat ((wr .u8 (Int.tmod v 256)):Int).toNat)),w1,w2)))) (
  kx (.exit 0) (v,v1,w,w1,w2))
def Avl(R:Type)(k:Nat):Px R:=pxO [(197,cA Arf)] [] [(4,Am k Ah6 (I1))] []
def Alx(k:Nat)(x:HV [.int .i64]):Option (HV [.sl .byte false]):=match x with
 |n =>
 Ak (λrec=>I1 rec (λe vz=>match vz with|(_,_,v4,v5,v6)=>match e with
  |.exit 0 =>
  chk (inO 0 v6) (
   chk (inb (v5+0) v4.length) (
   chk (inO 0 v6) (
    chk (inb (v5+0) v4.length) (
    chk (decide ((0:Int)<=v5)&&decide ((0:Int)<=v6)&&decide ((v5+v6)<=((v4.set ((v5+0):Int).toNat (UInt8.ofNat ((H0 ((at' .byte v4 (v5+0)).toNat:Int)):Int).toNat)).length:Int))) (
     some (cut (v4.set ((v5+0):Int).toNat (UInt8.ofNat ((H0 ((at' .byte v4 (v5+0)).toNat:Int)):Int).toNat)) v5 (v5+v6)))))))
  |_=>none)) k ((wr .u64 n),7,(List.replicate (8:Int).toNat (zer .byte)),0,8)
theorem Bb3(k:Nat):FO 148 [.int .i64] [.sl .byte false] (Alx k):=fR (px:=Avl _ k) (n:=1) Tryz.func148 rfl (λcx H=>by have h0:Lv cx (Avl (HV [.sl .byte false]) k):=lv H (c1 H A1x Ae) Aa Ab;have hlrhigh_0:=lO H h0 (b:=lp Tryz.f148 0) (k:=k) (n:=0) (s:=Ah6) (step:=I1) (λ_ _ _ (_,_,_,_,_)=>by kernel_rfl) Aj;exact⟨h0,(A3 Aj hlrhigh_0)⟩) λ_=>by kernel_rfl
def Ao6(n:Int):Str:=A0y n
def Aru:FT [.int .i64] [.sl .byte false]:=λx=>some (Ao6 x)
theorem Ava{R:Type}{rec:I8->Option R}{kx:Ex->I8->Option R}{x i:Nat}{w:Str}(hi:i<8)(hw:w.length=8)(hx:x<18446744073709551616):I1 rec kx ((x:Int),(i:Int),w,0,8)=rec (((x / 256:Nat):Int),wr .i64 ((i:Int)-1),w.set i (UInt8.ofNat (x % 256)),0,8):=by
 have c1:decide ((0:Int)<=(i:Int))=true:=Ze1 (by omega);have c2:inO (i:Int) 8=true:=by simp only[inO,Zb1,Zg1];omega
 have c3:inb (i:Int) w.length=true:=Ao (by omega);have c4:wr .u64 (Int.tdiv (x:Int) 256)=((x / 256:Nat):Int):=by rw[show Int.tdiv (x:Int) 256=((x / 256:Nat):Int) from rfl];exact Afr (by omega)
 have c5:UInt8.ofNat (wr .u8 (Int.tmod (x:Int) 256)).toNat=UInt8.ofNat (x % 256):=by rw[show Int.tmod (x:Int) 256=((x % 256:Nat):Int) from rfl];simp[wr,IntKind.wrap,IntKind.bits,IntKind.signed];congr 1
 simp only[I1,c1,c2,c3,c4,c5,chk,Ag,Int.zero_add,Int.toNat_natCast]
theorem Ayf{R:Type}{kx:Ex->I8->Option R}{x k:Nat}(hx:x<18446744073709551616):∃q:Int,Ak (λrec=>I1 rec kx) (k+9) ((x:Int),7,List.replicate (8:Int).toNat (zer .byte),0,8)=kx (.exit 0) (q, -1,[UInt8.ofNat (x / 256 / 256 / 256 / 256 / 256 / 256 / 256 % 256),UInt8.ofNat (x / 256 / 256 / 256 / 256 / 256 / 256 % 256),UInt8.ofNat (x / 256 / 256 / 256 / 256 / 256 % 256),UInt8.ofNat (x / 256 / 256 / 256 / 256 % 256),UInt8.ofNat (x / 256 / 256 / 256 % 256),UInt8.ofNat (x / 256 / 256 % 256),UInt8.ofNat (x / 256 % 256),UInt8.ofNat (x % 256)],0,8):=by
 have st:∀(k i x:Nat) (w:Str) (t:Int),i<8->w.length=8->x<18446744073709551616->wr .i64 ((i:Int)-1)=t->Ak (λrec=>I1 rec kx) (k+1) ((x:Int),(i:Int),w,0,8)=Ak (λrec=>I1 rec kx) k (((x / 256:Nat):Int),t,w.set i (UInt8.ofNat (x % 256)),0,8):=λk i x w t h1 h2 h3 h4=>by rw[A0,Ava h1 h2 h3,h4]
 have e1:=st (k+8) 7 x (List.replicate (8:Int).toNat (zer .byte)) 6 (by omega) rfl hx (by decide);have e2:=st (k+7) 6 (x / 256) [0,0,0,0,0,0,0,UInt8.ofNat (x % 256)] 5 (by omega) rfl (by omega) (by decide);have e3:=st (k+6) 5 (x / 256 / 256) [0,0,0,0,0,0,UInt8.ofNat (x / 256 % 256),UInt8.ofNat (x % 256)] 4 (by omega) rfl (by omega) (by decide);have e4:=st (k+5) 4 (x / 256 / 256 / 256) [0,0,0,0,0,UInt8.ofNat (x / 256 / 256 % 256),UInt8.ofNat (x / 256 % 256),UInt8.ofNat (x % 256)] 3 (by omega) rfl (by omega) (by decide);have e5:=st (k+4) 3 (x / 256 / 256 / 256 / 256) [0,0,0,0,UInt8.ofNat (x / 256 / 256 / 256 % 256),UInt8.ofNat (x / 256 / 256 % 256),UInt8.ofNat (x / 256 % 256),UInt8.ofNat (x % 256)] 2 (by omega) rfl (by omega) (by decide);have e6:=st (k+3) 2 (x / 256 / 256 / 256 / 256 / 256) [0,0,0,UInt8.ofNat (x / 256 / 256 / 256 / 256 % 256),UInt8.ofNat (x / 256 / 256 / 256 % 256),UInt8.ofNat (x / 256 / 256 % 256),UInt8.ofNat (x / 256 % 256),UInt8.ofNat (x % 256)] 1 (by omega) rfl (by omega) (by decide);have e7:=st (k+2) 1 (x / 256 / 256 / 256 / 256 / 256 / 256) [0,0,UInt8.ofNat (x / 256 / 256 / 256 / 256 / 256 % 256),UInt8.ofNat (x / 256 / 256 / 256 / 256 % 256),UInt8.ofNat (x / 256 / 256 / 256 % 256),UInt8.ofNat (x / 256 / 256 % 256),UInt8.ofNat (x / 256 % 256),UInt8.ofNat (x % 256)] 0 (by omega) rfl (by omega) (by decide);have e8:=st (k+1) 0 (x / 256 / 256 / 256 / 256 / 256 / 256 / 256) [0,UInt8.ofNat (x / 256 / 256 / 256 / 256 / 256 / 256 % 256),UInt8.ofNat (x / 256 / 256 / 256 / 256 / 256 % 256),UInt8.ofNat (x / 256 / 256 / 256 / 256 % 256),UInt8.ofNat (x / 256 / 256 / 256 % 256),UInt8.ofNat (x / 256 / 256 % 256),UInt8.ofNat (x / 256 % 256),UInt8.ofNat (x % 256)] (-1) (by omega) rfl (by omega) (by decide);refine⟨((x / 256 / 256 / 256 / 256 / 256 / 256 / 256 / 256:Nat):Int),e1.trans (e2.trans (e3.trans (e4.trans (e5.trans (e6.trans (e7.trans (e8.trans ?_)))))))⟩;rw[A0];have c1:decide ((0:Int) <= -1)=false:=rfl;simp only[I1,c1,Ai];rfl
theorem Ar8{m:Nat}(h:m<256):UInt8.ofNat (H0 ((UInt8.ofNat m).toNat:Int)).toNat=UInt8.ofNat ((m+128) % 256):=by
 have e:((UInt8.ofNat m).toNat:Int)=(m:Int):=by simp;omega
 rw[e];simp only[H0,Bool.cond_decide];split
 ·rw[show(m:Int)+128=((m+128:Nat):Int) from rfl];simp[wr,IntKind.wrap,IntKind.bits,IntKind.signed];exact congrArg UInt8.ofNat (by omega)
 ·have:(m:Int)-128=((m-128:Nat):Int):=by omega
  rw[this];have h2:(m+128) % 256=m-128:=by omega
  rw[h2];simp[wr,IntKind.wrap,IntKind.bits,IntKind.signed];exact congrArg UInt8.ofNat (by omega)
theorem Bew:FO 148 [.int .i64] [.sl .byte false] Aru :=.fin 0 Bb3 λn r hb hx=>⟨9,by
 simp only[Aru,Za1] at hx;subst hx;have hn:inI n:=Bb hb;obtain⟨a,ha,hlt,hc⟩:=A55 hn;simp only[Alx,ha];obtain⟨q,hq⟩:=Ayf (R:=Str) (k:=0) hlt (kx:=λe v=>match v with|(_,_,v4,v5,v6)=>match e with
  |.exit 0 =>
  chk (inO 0 v6) (
   chk (inb (v5+0) v4.length) (
   chk (inO 0 v6) (
    chk (inb (v5+0) v4.length) (
    chk (decide ((0:Int)<=v5)&&decide ((0:Int)<=v6)&&decide ((v5+v6)<=((v4.set ((v5+0):Int).toNat (UInt8.ofNat ((H0 ((at' .byte v4 (v5+0)).toNat:Int)):Int).toNat)).length:Int))) (
     some (cut (v4.set ((v5+0):Int).toNat (UInt8.ofNat ((H0 ((at' .byte v4 (v5+0)).toNat:Int)):Int).toNat)) v5 (v5+v6)))))))
  |_=>none)
 refine hq.trans ?_;have h256:a / 256 / 256 / 256 / 256 / 256 / 256 / 256 % 256<256:=Nat.mod_lt _ (by omega);have ht:=Ar8 h256;show some [UInt8.ofNat (H0 ((UInt8.ofNat (a / 256 / 256 / 256 / 256 / 256 / 256 / 256 % 256)).toNat:Int)).toNat,_,_,_,_,_,_,_]=some (A0y n);rw[ht];simp only[inI] at hn;simp only[A0y,Alz,B2];have hy:∃y:Nat,(n+9223372036854775808).toNat=y/\((a<9223372036854775808/\y=a+9223372036854775808)\/(9223372036854775808<=a/\y+9223372036854775808=a)):=⟨_,rfl,by omega⟩;obtain⟨y,hye,hy⟩:=hy;rw[hye];have g0:(a / 256 / 256 / 256 / 256 / 256 / 256 / 256 % 256+128) % 256=y / 2 ^ 56 % 256:=by simp only[show(2:Nat) ^ 56=72057594037927936 from rfl];omega
 have g1:a / 256 / 256 / 256 / 256 / 256 / 256 % 256=y / 2 ^ 48 % 256:=by simp only[show(2:Nat) ^ 48=281474976710656 from rfl];omega
 have g2:a / 256 / 256 / 256 / 256 / 256 % 256=y / 2 ^ 40 % 256:=by simp only[show(2:Nat) ^ 40=1099511627776 from rfl];omega
 have g3:a / 256 / 256 / 256 / 256 % 256=y / 2 ^ 32 % 256:=by simp only[show(2:Nat) ^ 32=4294967296 from rfl];omega
 have g4:a / 256 / 256 / 256 % 256=y / 2 ^ 24 % 256:=by simp only[show(2:Nat) ^ 24=16777216 from rfl];omega
 have g5:a / 256 / 256 % 256=y / 2 ^ 16 % 256:=by simp only[show(2:Nat) ^ 16=65536 from rfl];omega
 have g6:a / 256 % 256=y / 2 ^ 8 % 256:=by simp only[show(2:Nat) ^ 8=256 from rfl];omega
 have g7:a % 256=y / 2 ^ 0 % 256:=by simp only[Nat.pow_zero];omega
 rw[g0,g1,g2,g3,g4,g5,g6,g7]⟩
def Ag3:Sig:=⟨76,[(0,.sl .val false),(2,.sl .byte true),(3,.int .i64),(4,.sl .byte true),(5,.int .i64),(8,.int .i64)],[(6,.ptr 0 0)],[(0,.one (.sv .val))],1,0,0,[],[]⟩
abbrev Rj:=List Val×List UInt8×Int×List UInt8×Int×Int×Val
def Nc{R:Type}(rec:Rj->Option R)(kx:Ex->Rj->Option R)(v:Rj):Option R:=match v with
 |(v5,v6,v7,v8,v9,a,w) =>
 cond (decide (a<(w.s.length:Int))) (
  chk (inb a w.s.length) (
  chk (decide (v8.length+1<=Af)) (
   chk (inb a w.s.length) (
   cond (decide ((bat w.s a)=0)) (
    chk (decide ((v8++[(UInt8.ofNat ((bat w.s a):Int).toNat)]).length+1<=Af)) (
    rec (v5,v6,v7,((v8++[(UInt8.ofNat ((bat w.s a):Int).toNat)])++[(UInt8.ofNat (255:Int).toNat)]),v9,(wr .i64 (a+1)),w))) (
    rec (v5,v6,v7,(v8++[(UInt8.ofNat ((bat w.s a):Int).toNat)]),v9,(wr .i64 (a+1)),w)))))) (
  kx (.exit 2) (v5,v6,v7,v8,v9,a,w))
def Akd:Sig:=⟨76,[(0,.sl .val false),(2,.sl .byte true),(3,.int .i64),(4,.sl .byte true),(5,.int .i64)],[],[],0,0,0,[],[]⟩
abbrev I6:=List Val×List UInt8×Int×List UInt8×Int
def Ni{R:Type}(k:Nat)(rec:I6->Option R)(kx:Ex->I6->Option R)(v:I6):Option R:=match v with
 |(v,v1,v2,v3,v4) =>
 cond (decide (v4<(v.length:Int))) (
  chk (inb v4 v.length) (
  cond (!decide ((Jg (at' .val v v4))=0)) (
   kx .ret (v,[],(Jg (at' .val v v4)),v3,v4)) (
   chk (decide (v3.length+1<=Af)) (
   let j1:=λ(p:List UInt8) =>
    let j:=λ(p1:List UInt8) =>
    cond (decide (4<=(at' .val v v4).kind)) (
     Ak (λrc=>Nc rc (λe vz=>match vz with|(b,c,d,a,f,_,_)=>match e with
     |.exit 2 =>
      chk (decide (a.length+2<=Af)) (
      rec (b,c,d,(a++[(UInt8.ofNat (0:Int).toNat),(UInt8.ofNat (1:Int).toNat)]),(wr .i64 (f+1))))
     |_=>none)) k (v,v1,v2,p1,v4,0,(at' .val v v4))) (
     rec (v,v1,v2,p1,(wr .i64 (v4+1))))
    cond (decide ((at' .val v v4).kind=3)) (
    chk (decide (p.length+(Ao6 ((at' .val v v4).n)).length<=Af)) (
     j (p++(Ao6 ((at' .val v v4).n))))) (
    j p)
   cond (decide ((at' .val v v4).kind=2)) (
    chk (decide ((v3++[(UInt8.ofNat ((wr .u8 ((at' .val v v4).kind)):Int).toNat)]).length+1<=Af)) (
    j1 ((v3++[(UInt8.ofNat ((wr .u8 ((at' .val v v4).kind)):Int).toNat)])++[(UInt8.ofNat ((wr .u8 ((at' .val v v4).n)):Int).toNat)]))) (
    j1 (v3++[(UInt8.ofNat ((wr .u8 ((at' .val v v4).kind)):Int).toNat)])))))) (
  kx (.exit 0) (v,v1,v2,v3,v4))
def Av1(R:Type)(k:Nat):Px R:=pxO [(101,cA Lu),(148,cA Aru)] [] [(16,Am k Ag3 (Nc)),(3,Am k Akd (Ni k))] []
def Afz(k:Nat)(x:HV [.sl .val false]):Option (HV [.sl .byte true,.int .i64]):=match x with
 |l =>
 Ak (λrec=>Ni k rec (λe vz=>match vz with|(_,a,b,c,_)=>match e with
  |.ret =>
  some (a,b)
  |.exit 0 =>
  some (c,0)
  |_=>none)) k (l,[],0,[],0)
theorem Bcb(k:Nat):FO 104 [.sl .val false] [.sl .byte true,.int .i64] (Afz k):=fR (px:=Av1 _ k) (n:=2) Tryz.func104 rfl (λcx H=>by have h0:Lv cx (Av1 (HV [.sl .byte true,.int .i64]) k):=lv H (c1 H Sf (c1 H Bew Ae)) Aa Ab;have hlrkenc_1:=lO H h0 (b:=lpC (lp Tryz.f104 0) 0) (k:=k) (n:=0) (s:=Ag3) (step:=Nc) (λ_ _ _ (_,_,_,_,_,_,_)=>by kernel_rfl) Aj;have hlrkenc_0:=lO H h0 (b:=lp Tryz.f104 0) (k:=k) (n:=1) (s:=Akd) (step:=Ni k) (λ_ _ _ (_,_,_,_,_)=>by kernel_rfl) (A3 Aj hlrkenc_1);exact⟨h0,(A3 (A3 Aj hlrkenc_0) hlrkenc_1)⟩) λ_=>by kernel_rfl
abbrev A5g(l:List Val):Option (Str×Int):=A15 l
def Atp:FT [.sl .val false] [.sl .byte true,.int .i64]:=λx=>A5g x
theorem Agx{R:Type}{kx:Ex->Rj->Option R}{l:List Val}{q acc:Str}{e i:Int}{v:Val}(hs:v.s.length<=1000000)(ha:acc.length<=10000000):∀(k p:Nat),p<=v.s.length->v.s.length-p<k->Ak (λrec=>Nc rec kx) k (l,q,e,acc++esc (v.s.take p),i,(p:Int),v)=kx (.exit 2) (l,q,e,acc++esc v.s,i,(v.s.length:Int),v)
 |0,p,_,h=>by omega
 |k+1,p,hp,h=>by
  rw[A0];by_cases hl:p<v.s.length
  ·have ih:=Agx (kx:=kx) (l:=l) (q:=q) (e:=e) (i:=i) hs ha k (p+1) (by omega) (by omega);have c0:=Kg (v.s.take p);have c00:(v.s.take p).count 0<=(v.s.take p).length:=List.count_le_length;have c01:(v.s.take p).length<=v.s.length:=by rw[List.length_take];omega
   have c1:∀b:Str,b.length<=2->decide ((acc++esc (v.s.take p)++b).length+1<=Af)=true:=λb hb=>Ze1 (by simp only[Af,Zh1];omega);have c2:decide ((p:Int)<(v.s.length:Int))=true:=Ze1 (by omega);have c3:decide ((acc++esc (v.s.take p)).length+1<=Af)=true:=by simpa using c1 [] (by simp)
   have c4:wr .i64 ((p:Int)+1)=((p+1:Nat):Int):=An hl (by simp only[ln];omega);have c5:UInt8.ofNat (((v.s[p]).toNat:Int)).toNat=v.s[p]:=by simp
   have c6:v.s.take (p+1)=v.s.take p++[v.s[p]]:=(List.take_append_getElem hl).symm;have c7:=c1 [v.s[p]] (by simp);have c8:UInt8.ofNat (255:Int).toNat=255:=rfl;rw[c6,Jn] at ih;simp only[Nc,c2,Ag,Ao hl,chk,c3,Rp hl,c5,c7,c4,c8];by_cases h0:v.s[p]=0
   ·have c9:decide (((v.s[p]).toNat:Int)=0)=true:=by rw[h0];rfl
    simp only[c9,Ag];rw[h0] at ih ⊢;simpa[esc] using ih
   ·have c9:decide (((v.s[p]).toNat:Int)=0)=false:=Zd1 λh=>h0 (UInt8.toNat_inj.1 (by simpa using h));simp only[c9,Ai];simpa[esc,h0] using ih
  ·have hp:p=v.s.length:=by omega
   subst hp;simp only[Nc,Zd1 (show ¬((v.s.length:Nat):Int)<(v.s.length:Int) by omega),Ai,List.take_length]
theorem Aw7{R:Type}{rec:I6->Option R}{kx:Ex->I6->Option R}{l:List Val}{q:Str}{e:Int}{acc:Str}{i k:Nat}(hl:ln l.length)(hi:i<l.length)(ha:acc.length<=9000000)(hs:l[i].s.length<=1000000)(hk : 1000000<k):Ni k rec kx (l,q,e,acc,(i:Int))=cond (Aq l[i]) (rec (l,q,e,acc++Og l[i],((i+1:Nat):Int))) (kx .ret (l,[],2,acc,(i:Int))):=by
 have c1:decide ((i:Int)<(l.length:Int))=true:=Ze1 (by omega);have c2:wr .i64 ((i:Int)+1)=((i+1:Nat):Int):=An hi hl;have c3:decide (acc.length+1<=Af)=true:=Ze1 (by simp only[Af];omega);simp only[Ni,c1,Ag,Ao hi,chk,Al (c :=.val) hi,c2,c3,Jg];generalize l[i]=v at *;cases hr:Aq v with
 |false =>
  have hc:B7 v=2:=by simp[B7,hr]
  simp only[hc];rfl
 |true =>
  have hc:B7 v=0:=O8.2 hr;have c4:(!decide (B7 v=0))=false:=by rw[hc];rfl
  have c5:∀b:UInt8,decide ((acc++[b]).length+1<=Af)=true:=λb=>Ze1 (by simp only[Af,Zh1,List.length_singleton];omega);have c6:∀b:UInt8,decide ((acc++[b]).length+(Ao6 v.n).length<=Af)=true:=λb=>Ze1 (by simp only[Af,Ao6,A0y,Alz,Zh1,Zf1,Zi1];omega);simp only[c4,Ai,c5,c6,Ag];have w1:wr .u8 1=1:=by decide
  have w2:wr .u8 2=2:=by decide
  have w3:wr .u8 3=3:=by decide
  have w4:wr .u8 4=4:=by decide
  have w5:wr .u8 5=5:=by decide
  have w0:wr .u8 0=0:=by decide
  have text:∀b:UInt8,v.s.length<=1000->Ak (λrc=>Nc rc (λe v=>match v with|(d,f,g,a,j,_,_)=>match e with
     |.exit 2 =>
      cond (decide (a.length+2<=Af)) (
      rec (d,f,g,(a++[(UInt8.ofNat (0:Int).toNat),(UInt8.ofNat (1:Int).toNat)]),(wr .i64 (j+1)))) none
     |_=>none)) k (l,q,e,acc++[b],(i:Int),0,v)=rec (l,q,e,acc++[b]++(esc v.s++[0,1]),((i+1:Nat):Int)):=λb hsl=>by
   have hc1:v.s.count 0<=v.s.length:=List.count_le_length;have hc2:=Kg v.s;have hc3:decide ((acc++[b]++esc v.s).length+2<=Af)=true:=Ze1 (by simp only[Af,Zh1,List.length_singleton];omega);have:=Agx (R:=R) (kx:=λe v=>match v with|(d,f,g,a,j,_,_)=>match e with
     |.exit 2 =>
      cond (decide (a.length+2<=Af)) (
      rec (d,f,g,(a++[(UInt8.ofNat (0:Int).toNat),(UInt8.ofNat (1:Int).toNat)]),(wr .i64 (j+1)))) none
     |_=>none) (l:=l) (q:=q) (acc:=acc++[b]) (e:=e) (i:=(i:Int)) hs (by simp;omega) k 0 (Nat.zero_le _) (by omega)
   simp only[hc3,c2,Ag] at this;rw[List.take_zero,Bqp,List.append_nil] at this;refine this.trans ?_;rw[Zj1 _ (esc v.s)];rfl
  rcases Np.1 hr with ⟨h,_⟩|⟨h,hn,_⟩|⟨h,_⟩|⟨h,_,hsl,_⟩|⟨h,_,hsl⟩
  ·simp[h,Og,Fu,w1]
  ·rcases hn with hn|hn<;>simp[h,hn,Og,Fu,w0,w1,w2]
  ·simp[h,Og,Fu,w3,Ao6]
  ·have p1:Og v=4::(esc v.s++[0,1]):=by simp[Og,Fu,h]
   have d2:decide (v.kind=2)=false:=by rw[h];rfl
   have d3:decide (v.kind=3)=false:=by rw[h];rfl
   have d4:decide (4<=v.kind)=true:=by rw[h];rfl
   have d0:UInt8.ofNat (wr .u8 v.kind).toNat=4:=by rw[h,w4];rfl
   simp only[d2,d3,d4,d0,Ai,Ag,p1];rw[show acc++4::(esc v.s++[0,1])=acc++[4]++(esc v.s++[0,1]) by simp];exact text 4 hsl
  ·have p1:Og v=5::(esc v.s++[0,1]):=by simp[Og,Fu,h]
   have d2:decide (v.kind=2)=false:=by rw[h];rfl
   have d3:decide (v.kind=3)=false:=by rw[h];rfl
   have d4:decide (4<=v.kind)=true:=by rw[h];rfl
   have d0:UInt8.ofNat (wr .u8 v.kind).toNat=5:=by rw[h,w5];rfl
   simp only[d2,d3,d4,d0,Ai,Ag,p1];rw[show acc++5::(esc v.s++[0,1])=acc++[5]++(esc v.s++[0,1]) by simp];exact text 5 hsl
theorem Ajr{R:Type}{kx:Ex->I6->Option R}{l:List Val}{c1 c2:Option R}{k0:Nat}(hk : 1000000<k0)(hl:ln l.length)(hz:vsz l<=1000000)(h1:∀q i,kx .ret (l,[],2,q,i)=c1)(h2:∀q e,kx (.exit 0) (l,q,e,Ic l,(l.length:Int))=c2) :
  ∀(k i:Nat) (q:Str) (e:Int),i<=l.length->l.length-i<k->Ak (λrec=>Ni k0 rec kx) k (l,q,e,Ic (l.take i),(i:Int))=cond ((l.drop i).all Aq) c2 c1
 |0,i,q,e,_,h=>by omega
 |k+1,i,q,e,hi,h=>by
  rw[A0];by_cases hlt:i<l.length
  ·have hg:=A7o hlt;have hel:=Awb (l.take i);rw[Aw7 hl hlt (by omega) (by omega) hk,<-Aoa hlt,Ajr hk hl hz h1 h2 k (i+1) q e (by omega) (by omega),h1,Ah hlt];simp only[Zv1];cases Aq l[i]<;>rfl
  ·have hi:i=l.length:=by omega
   subst hi;simp only[Ni,Zd1 (show ¬((l.length:Nat):Int)<(l.length:Int) by omega),Ai,List.take_length,h2,Zc2];rfl
theorem Blf:FO 104 [.sl .val false] [.sl .byte true,.int .i64] Atp :=.fin 0 Bcb λl r hb hx=>⟨l.length+1000001,by
 simp only[Atp,A5g,A15] at hx;cases hc:decide (vsz l<=1000000) with
 |false=>rw[hc] at hx;cases hx
 |true =>rw[hc] at hx;have hx:some (cond (l.all Aq) (Ic l,0) ([],2))=some r:=hx;rw[<-hx];simp only[Afz];refine(Ajr (c1:=some ([],2)) (c2:=some (Ic l,0)) (k0:=l.length+1000001) (by omega) hb.1 (of_decide_eq_true hc) (λ_ _=>rfl) (λ_ _=>rfl) (l.length+1000001) 0 [] 0 (Nat.zero_le _) (by omega)).trans ?_;rw[Zq1];cases l.all Aq<;>rfl⟩
theorem Wu:∀{cols:List Col}{row:List Val},Di cols row=true->∀(i:Nat) (h1:i<cols.length) (h2:i<row.length),Mg row[i] cols[i].kind=true
 |[],_,_,i,h1,_=>by simp at h1
 |_::_,[],_,i,_,h2=>by simp at h2
 |c::cs,v::vs,h,i,h1,h2=>by simp only[Di,Zb1] at h;cases i with|zero=>exact h.1|succ i=>exact Wu h.2 i (by simpa using h1) (by simpa using h2)
theorem Anw{v:Val}{k:Int}:Mg v k=true↔Aq v=true/\(v.kind=1\/v.kind=k):=by simp only[Mg];cases Aq v<;>simp
theorem Aco(b:Bool):Aq (Dx b)=true/\(Dx b).kind=2:=by cases b<;>decide
theorem A3v:Aq ⟨1,0,[]⟩=true:=by decide
theorem A9i(n:Int):Aq ⟨3,n,[]⟩=true:=by simp[Aq]
theorem Bub(a b:Int):(Yn a b).2=0\/(Yn a b).2=20:=by simp only[Yn];cases decide (decide (a<wr .i64 (a+b))=decide (0<b))<;>simp
theorem Bf3(a b:Int):(Ms a b).2=0\/(Ms a b).2=20:=by simp only[Ms];cases decide (decide (wr .i64 (a-b)<a)=decide (0<b))<;>simp
theorem Bs7(a b:Int):(Yk a b).2=0\/(Yk a b).2=20:=by simp only[Yk];generalize decide (0<(Hb (De a) (De b)).1)=p;generalize decide ((Hb (De a) (De b)).2=9223372036854775808)=q;generalize decide (9223372036854775808<(Hb (De a) (De b)).2)=r;generalize (!decide ((decide (a<0))=(decide (b<0))))=t;cases p<;>cases q<;>cases r<;>cases t<;>simp
theorem Bpf(k a b:Int):(∃n,Fl k a b=(⟨3,n,[]⟩,0))\/Fl k a b=(⟨0,0,[]⟩,20):=by
 have h1:=Bub a b;have h2:=Bf3 a b;have h3:=Bs7 a b;have h4:=Bf3 0 a;simp only[Fl,Bool.cond_decide];split
 ·rcases h1 with h|h<;>simp[h]
 ·split
  ·rcases h2 with h|h<;>simp[h]
  ·split
   ·rcases h3 with h|h<;>simp[h]
   ·rcases h4 with h|h<;>simp[h]
theorem A0a(k:Int)(l:List Val):(∃b,Qm k l=Dx b)\/Qm k l=⟨1,0,[]⟩:=by
 simp only[Qm];cases l.any λv=>decide (v=Dx (decide (k=5)))
 ·cases l.any Dt
  ·exact .inl ⟨_,rfl⟩
  ·exact .inr rfl
 ·exact .inl ⟨_,rfl⟩
def A9y(v:Val)(f k:Int):Prop:=(f=0/\Aq v=true/\(v.kind=1\/v.kind=k))\/(f=20/\v=⟨0,0,[]⟩)
theorem M4(b:Bool):A9y (Dx b) 0 2 :=.inl ⟨rfl,(Aco b).1,.inr (Aco b).2⟩
theorem T3(k:Int):A9y ⟨1,0,[]⟩ 0 k :=.inl ⟨rfl,A3v,.inl rfl⟩
theorem Aw2(k a b:Int):A9y (Fl k a b).1 (Fl k a b).2 3:=by
 rcases Bpf k a b with ⟨n,h⟩|h
 ·rw[h];exact .inl ⟨rfl,A9i n,.inr rfl⟩
 ·rw[h];exact .inr ⟨rfl,rfl⟩
theorem Aj3(k:Int)(l:List Val):A9y (Qm k l) 0 2:=by
 rcases A0a k l with ⟨b,h⟩|h
 ·rw[h];exact M4 b
 ·rw[h];exact T3 2
theorem Brw{e:Xpr}{cols:List Col}{a b:Int}(h:(Gf e cols a b).2=0)(h3:e.kind=3\/e.kind=4\/e.kind=5):Gf e cols a b=(2,0):=by
 simp only[Gf] at h ⊢;rw[if_neg (by omega),if_neg (by omega),if_neg (by omega),if_pos h3] at h ⊢;split at h
 ·rename_i hc;rw[if_pos hc]
 ·simp at h
theorem Brq{e:Xpr}{cols:List Col}{a b:Int}(h:(Gf e cols a b).2=0)(h3:e.kind=12\/e.kind=13\/e.kind=14\/e.kind=15):Gf e cols a b=(3,0):=by
 simp only[Gf] at h ⊢;rw[if_neg (by omega),if_neg (by omega),if_neg (by omega),if_neg (by omega),if_pos h3] at h ⊢;split at h
 ·rename_i hc;rw[if_pos hc]
 ·simp at h
theorem Bvu{e:Xpr}{cols:List Col}{a b:Int}(h:(Gf e cols a b).2=0)(h3 : 6<=e.kind/\e.kind<=11):Gf e cols a b=(2,0):=by
 simp only[Gf] at h ⊢;rw[if_neg (by omega),if_neg (by omega),if_neg (by omega),if_neg (by omega),if_neg (by omega)] at h ⊢;split at h
 ·rename_i hc;rw[if_pos hc]
 ·simp at h
theorem Bs3{e:Xpr}{cols:List Col}{a b:Int}(h3:e.kind=16):Gf e cols a b=(2,0):=by simp only[Gf];rw[if_neg (by omega),if_neg (by omega),if_pos h3]
theorem Fv{cols:List Col}{row:List Val}(hf:Di cols row=true):∀(n:Nat) (e:Xpr) (m:Int),Aw e<=n->A5 e m=true->(A4 e cols).2=0->∃v f,H9 e cols row=some (v,f)/\A9y v f (A4 e cols).1
 |0,e,_,h,_,_=>by have:=Cn e;omega
 |n+1,e,m,h,hr,hk=>by
  obtain⟨hp,hok,hs⟩:=Gm hr;rw[Ci] at h;rw[H7] at hk ⊢;rw[Xg];have i1:∀v:Val,inb 0 [v].length=true:=λv=>rfl;have i2:∀v u:Val,inb 0 [v,u].length=true:=λv u=>rfl;have i3:∀v u:Val,inb 1 [v,u].length=true:=λv u=>rfl;rcases Ng e.kind with ⟨h0,hk0⟩|⟨h0,hk1⟩|⟨h0,hk2⟩|h0
  ·
   have hl:e.l=[]:=List.eq_nil_of_length_eq_zero (by omega);rw[hl] at hk ⊢;simp only[kindL,Q0,evalL] at hk ⊢;have hc:chk (decide (([]:List Xpr).length<=Af))=λx:Option (Val×Int)=>x:=rfl;rw[hc];simp only[if_true];rcases hk0 with h1|h2
   ·refine⟨e.v,0,by simp[Po,h1],.inl ⟨rfl,?_,.inr ?_⟩⟩
    ·simp only[eok,h1] at hok;simp only[decide_true,Ag,Zb1,Zg1] at hok;exact O8.1 hok.1.1
    ·simp[Gf,h1]
   ·simp only[Gf,h2] at hk ⊢;simp only[show ¬((2:Int)=1) by decide,if_false,if_true] at hk ⊢;by_cases hfd:B9 cols e.name<0
    ·simp[hfd] at hk
    ·rw[if_neg hfd];have hlen:=F1 hf;have hrg:=N4 cols e.name;obtain⟨i,hi⟩:∃i:Nat,B9 cols e.name=(i:Int):=⟨(B9 cols e.name).toNat,by omega⟩;have h1:i<cols.length:=by omega
     have h2':i<row.length:=by omega
     have hfit:=Wu hf i h1 h2';rw[Anw] at hfit;refine⟨row[i],0,?_,.inl ⟨rfl,hfit.1,?_⟩⟩
     ·simp only[Po,h2];rw[hi,Ao h2',Al (c :=.val) h2'];rfl
     ·rw[hi,Al (c :=.col) h1];exact hfit.2
  ·
   obtain⟨x,hl⟩:∃x,e.l=[x]:=List.length_eq_one_iff.1 (by omega);rw[hl] at hk hs ⊢;simp only[kindL,Q0,erights,Bool.and_true] at hk hs ⊢;have hx0:(A4 x cols).2=0:=by
    by_cases hx:(A4 x cols).2=0
    ·exact hx
    ·rw[if_neg hx] at hk;exact absurd hk hx
   rw[if_pos hx0] at hk ⊢;obtain⟨v,f,hv,hg⟩:=Fv hf n x _ (by rw[hl] at h;simp only[esizes] at h;omega) hs hx0;simp only[evalL,hv];rcases hg with ⟨rfl,hg⟩|⟨rfl,rfl⟩
   ·simp only[if_true];have hc:chk (decide (([x]:List Xpr).length<=Af))=λy:Option (Val×Int)=>y:=rfl;rw[hc];simp only[Po];have at0:at' .val [v] 0=v:=rfl;rcases hk1 with h3|h15|h16
    ·rw[Brw hk (.inl h3)];simp only[h3,show decide ((3:Int)=1)=false from rfl,show decide ((3:Int)=2)=false from rfl,show decide ((3:Int)=16)=false from rfl,show decide ((3:Int)=4)=false from rfl,show decide ((3:Int)=5)=false from rfl,Ai,decide_true,Ag,i1,chk,at0];cases [v].any Dt
     ·exact⟨_,_,rfl,M4 _⟩
     ·exact⟨_,_,rfl,T3 _⟩
    ·rw[Brq hk (.inr (.inr (.inr h15)))];simp only[h15,show decide ((15:Int)=1)=false from rfl,show decide ((15:Int)=2)=false from rfl,show decide ((15:Int)=16)=false from rfl,show decide ((15:Int)=3)=false from rfl,show decide ((15:Int)=4)=false from rfl,show decide ((15:Int)=5)=false from rfl,Ai,decide_true,Ag,i1,chk,at0];cases [v].any Dt
     ·exact⟨_,_,rfl,Aw2 _ _ _⟩
     ·exact⟨_,_,rfl,T3 _⟩
    ·rw[Bs3 h16];simp only[h16,show decide ((16:Int)=1)=false from rfl,show decide ((16:Int)=2)=false from rfl,decide_true,Ai,Ag];exact⟨_,_,rfl,M4 _⟩
   ·exact⟨_,_,rfl,.inr ⟨rfl,rfl⟩⟩
  ·
   obtain⟨x,y,hl⟩:∃x y,e.l=[x,y]:=by match hq:e.l,(show e.l.length=2 by omega) with|[x,y],_=>exact⟨x,y,rfl⟩
   rw[hl] at hk hs ⊢;simp only[kindL,Q0,erights,Bool.and_true,Zb1] at hk hs ⊢;have hx0:(A4 x cols).2=0:=by
    by_cases hx:(A4 x cols).2=0
    ·exact hx
    ·rw[if_neg hx] at hk;exact absurd hk hx
   rw[if_pos hx0] at hk ⊢;have hy0:(A4 y cols).2=0:=by
    by_cases hy:(A4 y cols).2=0
    ·exact hy
    ·rw[if_neg hy] at hk;exact absurd hk hy
   rw[if_pos hy0] at hk ⊢;have hsz:Aw x<=n/\Aw y<=n:=by rw[hl] at h;simp only[esizes] at h;omega
   obtain⟨v,f,hv,hg⟩:=Fv hf n x _ hsz.1 hs.1 hx0;obtain⟨u,g,hu,hg'⟩:=Fv hf n y _ hsz.2 hs.2 hy0;simp only[evalL,hv,hu];rcases hg with ⟨rfl,hg⟩|⟨rfl,rfl⟩
   ·simp only[if_true];rcases hg' with ⟨rfl,hg'⟩|⟨rfl,rfl⟩
    ·simp only[if_true];have hc:chk (decide (([x,y]:List Xpr).length<=Af))=λz:Option (Val×Int)=>z:=rfl;rw[hc];simp only[Po];have at0:at' .val [v,u] 0=v:=rfl;have at1:at' .val [v,u] 1=u:=rfl;rw[Zd1 (show ¬e.kind=1 by omega),Zd1 (show ¬e.kind=2 by omega),Zd1 (show ¬e.kind=16 by omega),Zd1 (show ¬e.kind=3 by omega),Zd1 (show ¬e.kind=15 by omega)];simp only[Ai,i2,i3,chk,Ag,at0,at1];by_cases h45:e.kind=4\/e.kind=5
     ·rw[Brw hk (.inr h45)];rcases h45 with h4|h5
      ·simp only[h4,decide_true,Ag];exact⟨_,_,rfl,Aj3 _ _⟩
      ·simp only[h5,show decide ((5:Int)=4)=false from rfl,decide_true,Ag,Ai];exact⟨_,_,rfl,Aj3 _ _⟩
     ·rw[Zd1 (show ¬e.kind=4 by omega),Zd1 (show ¬e.kind=5 by omega)];simp only[Ai];cases hn:[v,u].any Dt
      ·simp only[Ai];by_cases h12 : 12<=e.kind
       ·rw[Brq hk (by omega),Ze1 h12];exact⟨_,_,rfl,Aw2 _ _ _⟩
       ·rw[Bvu hk (by omega),Zd1 h12];exact⟨_,_,rfl,M4 _⟩
      ·exact⟨_,_,rfl,T3 _⟩
    ·exact⟨_,_,rfl,.inr ⟨rfl,rfl⟩⟩
   ·exact⟨_,_,rfl,.inr ⟨rfl,rfl⟩⟩
  ·omega
def D8(e:Xpr)(cols:List Col)(row:List Val):Val×Int:=cond (!decide (Dk e=0)) (⟨0,0,[]⟩,2) (cond (!Dr cols row) (⟨0,0,[]⟩,2) (cond (!decide ((A4 e cols).2=0)) (⟨0,0,[]⟩,(A4 e cols).2) ((H9 e cols row).getD (⟨0,0,[]⟩,0))))
theorem W6(e:Xpr)(cols:List Col)(row:List Val):(Dk e≠0\/Dr cols row=false)/\D8 e cols row=(⟨0,0,[]⟩,2)\/(Dk e=0/\Dr cols row=true/\(A4 e cols).2≠0/\D8 e cols row=(⟨0,0,[]⟩,(A4 e cols).2))\/(Dk e=0/\Dr cols row=true/\(A4 e cols).2=0/\H9 e cols row=some (D8 e cols row)/\A9y (D8 e cols row).1 (D8 e cols row).2 (A4 e cols).1):=by
 simp only[D8];by_cases h1:Dk e=0
 ·rw[Ze1 h1];cases h2:Dr cols row with
  |false=>left;simp
  |true =>
   by_cases h3:(A4 e cols).2=0
   ·right;right;obtain⟨v,f,h4,h5⟩:=Fv h2 (Aw e) e 30 (Zn1 _) (Mw.1 h1) h3;rw[h4];refine⟨h1,rfl,h3,?_,?_⟩
    ·simp[h3]
    ·simpa[h3] using h5
   ·right;left;refine⟨h1,rfl,h3,?_⟩;simp[h3]
 ·left;refine⟨.inl h1,?_⟩;simp[h1]
theorem Blv(e:Xpr)(cols:List Col)(row:List Val):A7l e cols row=some (D8 e cols row):=by
 simp only[A7l,V3];rcases W6 e cols row with ⟨h,h2⟩|⟨h1,h2,h3,h4⟩|⟨h1,h2,h3,h4,_⟩
 ·rw[h2];by_cases h1:Dk e=0
  ·rw[h.resolve_left (by simpa using h1)];simp[h1]
  ·simp[h1]
 ·rw[h4,h2];simp[h1,h3]
 ·rw[h2,h4];simp[h1,h3]
def A0g(key:List Str):List Col->List Val->Bool
 |c::cs,v::vs=>(decide (v.kind=1)&&(c.notNull||key.contains c.name))||A0g key cs vs
 |_,_=>false
def U0(cols:List Col)(row:List Val):List Xpr->Int
 |[]=>0
 |e::l=>cond (decide ((D8 e cols row).2=0)) (cond (decide ((D8 e cols row).1=⟨2,0,[]⟩)) 162 (U0 cols row l)) (D8 e cols row).2
def Gc(t:Tbl)(row:List Val):Int:=cond (Ip t) (cond (Dr t.cols row) (cond (A0g t.key t.cols row) 161 (U0 t.cols row t.checks)) 151) 2
theorem Asw{R:Type}{kx:Ex->Rc->Option R}{l:List Str}{nm:Str}{w:Tbl}{a b:Option R}{k:Nat}(hn:l.length<=4000)(h4 : 4000<k)(h1:∀i:Nat,kx .ret (l,nm,(i:Int),(l.length:Int),(i:Int),w)=a)(h2:kx (.exit 0) (l,nm,0,(l.length:Int),(l.length:Int),w)=b) :
  Ak (λrec=>Tl rec kx) k (l,nm,0,(l.length:Int),0,w)=cond (l.contains nm) a b:=by
 have hl:ln l.length:=by simp only[ln];omega
 refine(Ay l.length (λi=>(l,nm,0,(l.length:Int),(i:Int),w)) (λi=>cond ((l.drop i).contains nm) a b) (λi hi rec hr =>?_) (λrec =>?_) k 0 (Nat.zero_le _) (by omega)).trans (by rw[Zq1])
 ·have e:decide (nm=l[i])=(nm == l[i]):=by rw[Bool.eq_iff_iff];simp
  simp only[Tl,Br hi,Ag,Ao hi,chk,Al (c :=.str) hi,An hi hl,hr,h1,Ah hi,List.contains_cons,e];cases nm == l[i]<;>rfl
 ·simp only[Tl,Bu,Ai,h2];rw[Zk1 (Zn1 _)];rfl
theorem Aue{R:Type}{kx:Ex->Rz->Option R}{t:Tbl}{row:List Val}{a b:Option R}(hk:t.key.length<=4000)(hn:t.cols.length<=4000){k:Nat}(h4 : 4000<k)(he:t.cols.length=row.length)(h1:∀i,kx .ret (row,161,t.cols,(t.cols.length:Int),i,t)=a)(h2:kx (.exit 0) (row,0,t.cols,(t.cols.length:Int),(t.cols.length:Int),t)=b) :
  Ak (λrec=>Ro k rec kx) k (row,0,t.cols,(t.cols.length:Int),0,t)=cond (A0g t.key t.cols row) a b:=by
 have hl:ln t.cols.length:=by simp only[ln];omega
 refine(Ay t.cols.length (λi=>(row,0,t.cols,(t.cols.length:Int),(i:Int),t)) (λi=>cond (A0g t.key (t.cols.drop i) (row.drop i)) a b) (λi hi rec hr =>?_) (λrec =>?_) k 0 (Nat.zero_le _) (by omega)).trans (by rw[Zq1,Zq1])
 ·have hi2:i<row.length:=by omega
  simp only[Ro,Br hi,Ag,Ao hi,Ao hi2,chk,Al (c :=.col) hi,Al (c :=.val) hi2,An hi hl,Ah hi,Ah hi2,A0g,h1];cases decide (row[i].kind=1) with
  |false=>exact hr
  |true =>
   cases t.cols[i].notNull with
   |true=>rfl
   |false =>
    simp only[Ag,Ai,Bool.true_and,Bool.false_or];refine(Asw (a:=a) (b:=rec (row,0,t.cols,(t.cols.length:Int),((i+1:Nat):Int),t)) hk h4 (λj =>?_) rfl).trans ?_
    ·simp only[Ze1 (show(0:Int)<=(j:Int) by omega),Ag];exact h1 _
    ·rw[hr];cases t.key.contains t.cols[i].name<;>rfl
 ·simp only[Ro,Bu,Ai,h2];rw[Zk1 (Zn1 _)];rfl
theorem At7{R:Type}{kx:Ex->Rk->Option R}{t:Tbl}{row:List Val}{c:Int->Option R}{k:Nat}(hn:t.checks.length<=4000)(h4 : 4000<k)(h1:∀r i,kx .ret (row,r,t.checks,(t.checks.length:Int),i,t)=c r)(h2:kx (.exit 2) (row,0,t.checks,(t.checks.length:Int),(t.checks.length:Int),t)=c 0) :
  Ak (λrec=>Sa rec kx) k (row,0,t.checks,(t.checks.length:Int),0,t)=c (U0 t.cols row t.checks):=by
 have hl:ln t.checks.length:=by simp only[ln];omega
 refine(Ay t.checks.length (λi=>(row,0,t.checks,(t.checks.length:Int),(i:Int),t)) (λi=>c (U0 t.cols row (t.checks.drop i))) (λi hi rec hr =>?_) (λrec =>?_) k 0 (Nat.zero_le _) (by omega)).trans (by rw[Zq1])
 ·have e:decide (Nw (D8 t.checks[i] t.cols row).1 ⟨2,0,[]⟩=0)=decide ((D8 t.checks[i] t.cols row).1=⟨2,0,[]⟩):=Zy1.2 (vcmp_lin.eq _ _);simp only[Sa,Br hi,Ag,Ao hi,chk,Al (c :=.expr) hi,Blv,Zc1,An hi hl,hr,h1,Ah hi,U0,e];cases decide ((D8 t.checks[i] t.cols row).2=0) with|false=>rfl|true=>cases decide ((D8 t.checks[i] t.cols row).1=⟨2,0,[]⟩)<;>rfl
 ·simp only[Sa,Bu,Ai,h2];rw[Zk1 (Zn1 _)];rfl
theorem Bny{t:Tbl}{row:List Val}(hk:t.key.length<=4000)(hn:t.cols.length<=4000)(hl:t.checks.length<=4000)(hs:Ij t=true){k:Nat}(h4 : 4000<k):Hs k (t,row)=some (Gc t row):=by
 simp only[Hs,Ajf,hs,Ag,Zc1,Gc];cases Ip t with
 |false=>rfl
 |true =>simp only[Ag,decide_true,Zt1,Ai];cases hf:Dr t.cols row with|false=>rfl|true =>simp only[Ag,Zt1,Ai];refine(Aue (a:=some 161) (b:=some (U0 t.cols row t.checks)) hk hn h4 (F1 hf) (λ_=>rfl) ?_).trans (As);exact At7 (c:=some) hl h4 (λ_ _=>rfl) rfl
def A8k(s:Stm):Nat:=s.cols.length+s.l.length+s.order.length+s.rows.length+s.sets.length+(s.rows.map List.length).sum+1
def Ac0:Sig:=⟨58,[(0,.int .u8),(2,.int .i64),(3,.str),(4,.int .i64)],[],[],0,0,0,[],[]⟩
abbrev Xa:=Int×Int×Str×Int
def Akp{R:Type}(rec:Xa->Option R)(kx:Ex->Xa->Option R)(v:Xa):Option R:=match v with
 |(v,v1,v2,v3) =>
 cond (decide (v3<(v2.length:Int))) (
  chk (inb v3 v2.length) (
  cond (decide ((bat v2 v3)=v)) (
   kx .ret (v,7,v2,v3)) (
   rec (v,v1,v2,(wr .i64 (v3+1)))))) (
  kx (.exit 1) (v,v1,v2,v3))
def Aqu(R:Type)(k:Nat):Px R:=pxO [] [] [(15,Am k Ac0 (Akp))] []
def Adb(k:Nat)(x:HV [.int .u8]):Option (HV [.int .i64]):=match x with
 |c =>
 let j3:Bool->Option (HV [.int .i64]):=λ(p1:Bool) =>
  cond (p1) (
  some 1) (
  let j2:Bool->Option (HV [.int .i64]):=λ(p3:Bool) =>
   cond (p3) (
   some 2) (
   let j1:Bool->Option (HV [.int .i64]):=λ(p5:Bool) =>
    cond (p5) (
    some 3) (
    cond (decide (c=95)) (
     some 4) (
     cond (decide (c=39)) (
     some 5) (
     let j:Bool->Option (HV [.int .i64]):=λ(p6:Bool) =>
      cond (p6) (
      some 6) (
      cond (decide (c=10)) (
       some 6) (
       cond (decide (c=13)) (
       some 6) (
       Ak (λrec=>Akp rec (λe vz=>match vz with|(_,v5,_,_)=>match e with
        |.ret =>
        some v5
        |.exit 1 =>
        some 0
        |_=>none)) k (c,0,[40,41,44,42,61,60,62,43,45,59],0))))
     cond (decide (c=32)) (
      j true) (
      j (decide (c=9))))))
   cond (decide (48<=c)) (
    j1 (decide (c<=57))) (
    j1 false))
  cond (decide (97<=c)) (
   j2 (decide (c<=122))) (
   j2 false))
 cond (decide (65<=c)) (
  j3 (decide (c<=90))) (
  j3 false)
theorem A12(k:Nat):FO 163 [.int .u8] [.int .i64] (Adb k):=fR (px:=Aqu _ k) (n:=1) Tryz.func163 rfl (λcx H=>by have h0:Lv cx (Aqu (HV [.int .i64]) k):=lv H Ae Aa Ab;have hlrclass_0:=lO H h0 (b:=lp Tryz.f163 0) (k:=k) (n:=0) (s:=Ac0) (step:=Akp) (λ_ _ _ (_,_,_,_)=>by kernel_rfl) Aj;exact⟨h0,(A3 Aj hlrclass_0)⟩) λ_=>by kernel_rfl
def Ai9(c:Int):Int:=Lp.clsF c
def Agl:FT [.int .u8] [.int .i64]:=λx=>some (Ai9 x)
theorem A2j:((List.range 256).all λn=>decide (Adb 11 (n:Int)=some (Lp.clsF (n:Int))))=true:=by kernel_rfl
theorem Bde:FO 163 [.int .u8] [.int .i64] Agl :=.fin 0 A12 λ(c:Int) r hb hx=>⟨11,by
 simp only[Agl,Za1] at hx;have h : 0<=c/\c<=255:=by have h0:inK .u8 c:=hb;simp only[inK,IntKind.min,IntKind.max] at h0;exact⟨h0.1,h0.2⟩
 obtain⟨n,rfl⟩:∃n:Nat,c=(n:Int):=⟨c.toNat,by omega⟩;have h2:=Zg2.1 A2j n (List.mem_range.2 (by omega));exact(of_decide_eq_true h2).trans (congrArg some hx)⟩
def Agu:Sig:=⟨37,[(0,.str),(2,.bool),(3,.int .i64)],[],[],0,0,0,[],[]⟩
abbrev Uj:=Str×Bool×Int
def T8{R:Type}(rec:Uj->Option R)(kx:Ex->Uj->Option R)(v:Uj):Option R:=match v with
 |(v,v1,v2) =>
 cond (decide (v2<(v.length:Int))) (
  chk (inb v2 v.length) (
  cond (!decide ((Ai9 (bat v v2))=2)) (
   cond (decide (v2=0)) (
   kx .ret (v,false,v2)) (
   cond (!decide ((Ai9 (bat v v2))=3)) (
    cond (!decide ((Ai9 (bat v v2))=4)) (
    kx .ret (v,false,v2)) (
    rec (v,v1,(wr .i64 (v2+1))))) (
    rec (v,v1,(wr .i64 (v2+1)))))) (
   rec (v,v1,(wr .i64 (v2+1)))))) (
  kx (.exit 0) (v,v1,v2))
def Axr(R:Type)(k:Nat):Px R:=pxO [(163,cA Agl)] [] [(2,Am k Agu (T8))] []
def Agz(k:Nat)(x:HV [.str]):Option (HV [.bool]):=match x with
 |s =>
 Ak (λrec=>T8 rec (λe vz=>match vz with|(v3,v4,_)=>match e with
  |.ret =>
  some v4
  |.exit 0 =>
  cond (decide (1<=(v3.length:Int))) (
   some (decide ((v3.length:Int)<=30))) (
   some false)
  |_=>none)) k (s,false,0)
theorem Bdi(k:Nat):FO 118 [.str] [.bool] (Agz k):=fR (px:=Axr _ k) (n:=1) Tryz.func118 rfl (λcx H=>by have h0:Lv cx (Axr (HV [.bool]) k):=lv H (c1 H Bde Ae) Aa Ab;have hlrname_0:=lO H h0 (b:=lp Tryz.f118 0) (k:=k) (n:=0) (s:=Agu) (step:=T8) (λ_ _ _ (_,_,_)=>by kernel_rfl) Aj;exact⟨h0,(A3 Aj hlrname_0)⟩) λ_=>by kernel_rfl
def X4(s:Str):Bool:=Lp.rnameF s
def Xs:FT [.str] [.bool]:=λx=>some (X4 x)
theorem Aja{R:Type}{kx:Ex->Uj->Option R}{s:Str}{c:Bool->Option R}(hn:ln s.length)(h1:∀j,kx .ret (s,false,j)=c false)(h2:∀q j,kx (.exit 0) (s,q,j)=c true):∀(k i:Nat) q,i<=s.length->s.length-i<k->Ak (λrec=>T8 rec kx) k (s,q,(i:Int))=c (Lp.okGo (s.drop i) i)
 |0,i,q,_,h=>absurd h (Zm1 _)
 |k+1,i,q,hi,h=>by
  rw[A0];by_cases hl:i<s.length
  ·have en:((i+1:Nat):Int)=(i:Int)+1:=by omega
   simp only[T8,An hl hn,(Aja hn h1 h2 k (i+1) q (by omega) (by omega)),h1,Ah hl,Rp hl,Ao hl,chk,Ai9,Lp.okGo,Lp.nmOk]
   grind
  ·simp[T8,h2];rw[Zd1 (by omega),Zk1 (by omega)];rfl
theorem Agd:FO 118 [.str] [.bool] Xs :=.fin 0 Bdi λs r hb hx=>⟨s.length+1,by simp only[Xs,Za1] at hx;subst hx;simp only[Agz];refine(Aja (s:=s) (c:=λb=>cond b (cond (decide (1<=(s.length:Int))) (some (decide ((s.length:Int)<=30))) (some false)) (some false)) hb (λ_=>rfl) (λ_ _=>rfl) (s.length+1) 0 false (Nat.zero_le _) (by omega)).trans ?_;rw[Zq1,X4,Lp.rnameF];show cond (Lp.okGo s 0) _ _=_;cases Lp.okGo s 0<;>cases decide (1<=(s.length:Int))<;>rfl⟩
theorem Kf(s:Str):X4 s=Cj s:=(Lp.name_eq s).symm
def Bja(R:Type):Px R:=pxO [] [] [] []
def Ajo(x:HV [.int .i64]):Option (HV [.str]):=match x with
 |kind =>
 cond (decide (kind<0)) (
  some []) (
  cond (decide (15<=kind)) (
  some []) (
  chk (inb kind 15) (
   some (at' .str [[],[],[],[],[65,78,68],[79,82],[61],[60,62],[60],[60,61],[62],[62,61],[43],[45],[42]] kind))))
theorem Bb4:FO 164 [.int .i64] [.str] (Ajo):=fR (px:=Bja _) (n:=0) Tryz.func164 rfl (λ_ H=>⟨lv H Ae Aa Ab,Aj⟩) λ_=>by kernel_rfl
def Btt:List Str:=[[],[],[],[],[65,78,68],[79,82],[61],[60,62],[60],[60,61],[62],[62,61],[43],[45],[42]]
def Ac4(k:Int):Str:=if k<0\/15<=k then [] else at' .str Btt k
def Ato:FT [.int .i64] [.str]:=λx=>some (Ac4 x)
theorem Bj0:FO 164 [.int .i64] [.str] Ato :=.fin0 Bb4 λ(k:Int) r _ hx=>by
 simp only[Ato,Za1] at hx;subst hx;simp only[Ajo,Ac4];by_cases h1:k<0
 ·rw[Ze1 h1,if_pos (.inl h1)];rfl
 ·by_cases h2 : 15<=k
  ·rw[Zd1 h1,Ze1 h2,if_pos (.inr h2)];rfl
  ·rw[Zd1 h1,Zd1 h2,if_neg (by omega)];obtain⟨j,rfl⟩:∃j:Nat,k=(j:Int):=⟨k.toNat,by omega⟩;rw[Ao (i:=j) (n:=15) (by omega)];rfl
def Bgy(R:Type)(rf:FT [.sv .expr] [.int .i64]):Px R:=pxO [(101,cA Lu),(118,cA Xs),(164,cA Ato),(121,cA rf)] [] [] []
def J5(rf:FT [.sv .expr] [.int .i64])(x:HV [.sv .expr]):Option (HV [.int .i64]):=match x with
 |e =>
 let j2:=λ(a:Int) =>
  cond (!decide ((e.l.length:Int)=a)) (
  some 31) (
  cond (!decide (e.v=(Val.mk 0 0 []))) (
   some 31) (
   cond (!decide (e.name=[])) (
   some 31) (
   chk (inb 0 e.l.length) (
    (rf (at' .expr e.l 0)).bind λx =>
    cond (decide (a=2)) (
     chk (inb 1 e.l.length) (
     (rf (at' .expr e.l 1)).bind λx1 =>some (wr .i64 (1+(max2 x x1))))) (
     some (wr .i64 (1+x)))))))
 cond (decide (e.kind=1)) (
  let j:=λ(p1:Bool) =>
  cond (p1) (
   some 31) (
   cond (!decide (e.name=[])) (
   some 31) (
   cond (decide (0<(e.l.length:Int))) (
    some 31) (
    some 1)))
  cond (!decide ((Jg e.v)=0)) (
  j true) (
  cond (decide (e.v.kind=3)) (
   j (decide (e.v.n<0))) (
   j false))) (
  cond (decide (e.kind=2)) (
  cond (!(X4 e.name)) (
   some 31) (
   cond (!decide (e.v=(Val.mk 0 0 []))) (
   some 31) (
   cond (decide (0<(e.l.length:Int))) (
    some 31) (
    some 1)))) (
  let j1:=λ(b:Bool) =>
   cond (b) (
   j2 1) (
   cond (decide ((Ac4 e.kind)=[])) (
    some 31) (
    j2 2))
  cond (decide (e.kind=3)) (
   j1 (decide (e.kind=3))) (
   cond (decide (e.kind=15)) (
   j1 (decide (e.kind=15))) (
   j1 (decide (e.kind=16))))))
theorem Bd2(rf:FT [.sv .expr] [.int .i64])(hrf:FO 121 [.sv .expr] [.int .i64] rf):FO 121 [.sv .expr] [.int .i64] (J5 rf):=fR (px:=Bgy _ rf) (n:=0) Tryz.func121 rfl (λ_ H=>⟨lv H (c1 H Sf (c1 H Agd (c1 H Bj0 (c1 H hrf Ae)))) Aa Ab,Aj⟩) λ_=>by kernel_rfl
def hd(q:List Int)(i:Nat):Int:=q.getD i 0
def Auj(e:Xpr)(q:List Int):Int :=
 if e.kind=1 then(if B7 e.v=0/\¬(e.v.kind=3/\e.v.n<0)/\e.name=[]/\¬ 0<(e.l.length:Int) then 1 else 31)
 else if e.kind=2 then(if Cj e.name=true/\e.v=⟨0,0,[]⟩/\¬ 0<(e.l.length:Int) then 1 else 31)
 else if e.kind=3\/e.kind=15\/e.kind=16 then(if(e.l.length:Int)=1/\e.v=⟨0,0,[]⟩/\e.name=[] then wr .i64 (1+hd q 0) else 31)
 else if Ac4 e.kind=[] then 31
 else if(e.l.length:Int)=2/\e.v=⟨0,0,[]⟩/\e.name=[] then wr .i64 (1+max2 (hd q 0) (hd q 1)) else 31
mutual
def Bc:Xpr->Int
 |.mk k v nm l=>Auj (.mk k v nm l) (rdeepL l)
def rdeepL:List Xpr->List Int
 |[]=>[]
 |x::l=>Bc x::rdeepL l
end
theorem Ak4(e:Xpr):Bc e=Auj e (rdeepL e.l):=by cases e;simp[Bc,Xpr.l]
def Afg:FT [.sv .expr] [.int .i64]:=λx=>some (Bc x)
theorem Ag6{e:Xpr}{rf:FT [.sv .expr] [.int .i64]}(hrf:∀x,x∈e.l->rf x=some (Bc x))(p:Int->Option Int):(cond (!decide ((e.l.length:Int)=1)) (some 31) (cond (!decide (e.v=Val.mk 0 0 [])) (some 31) (cond (!decide (e.name=[])) (some 31) (chk (inb 0 e.l.length) ((rf (at' .expr e.l 0)).bind λx=>cond (decide ((1:Int)=2)) (p x) (some (wr .i64 (1+x))))))))=some (if(e.l.length:Int)=1/\e.v=⟨0,0,[]⟩/\e.name=[] then wr .i64 (1+hd (rdeepL e.l) 0) else 31):=by
 by_cases b1:(e.l.length:Int)=1
 ·obtain⟨x,hl⟩:∃x,e.l=[x]:=List.length_eq_one_iff.1 (by omega);have hrx:=hrf x (by rw[hl];simp);rw[hl];have a0:at' .expr [x] 0=x:=rfl;have i0:inb 0 [x].length=true:=rfl;by_cases b2:e.v=⟨0,0,[]⟩
  ·by_cases b3:e.name=[]
   ·rw[Ze1 b2,Ze1 b3,if_pos ⟨rfl,b2,b3⟩,a0,i0,hrx];rfl
   ·grind
  ·grind
 ·grind
theorem X8{l:List Xpr}(h:l.length=2):∃x y,l=[x,y]:=by match l,h with|[x,y],_=>exact⟨x,y,rfl⟩
theorem Bgc{e:Xpr}{rf:FT [.sv .expr] [.int .i64]}(hrf:∀x,x∈e.l->rf x=some (Bc x))(p:Int->Option Int):(cond (!decide ((e.l.length:Int)=2)) (some 31) (cond (!decide (e.v=Val.mk 0 0 [])) (some 31) (cond (!decide (e.name=[])) (some 31) (chk (inb 0 e.l.length) ((rf (at' .expr e.l 0)).bind λx=>cond (decide ((2:Int)=2)) (chk (inb 1 e.l.length) ((rf (at' .expr e.l 1)).bind λx1=>some (wr .i64 (1+(max2 x x1))))) (p x))))))=some (if(e.l.length:Int)=2/\e.v=⟨0,0,[]⟩/\e.name=[] then wr .i64 (1+max2 (hd (rdeepL e.l) 0) (hd (rdeepL e.l) 1)) else 31):=by
 by_cases b1:(e.l.length:Int)=2
 ·obtain⟨x,y,hl⟩:∃x y,e.l=[x,y]:=X8 (by omega);have hrx:=hrf x (by rw[hl];simp);have hry:=hrf y (by rw[hl];simp);rw[hl];have a0:at' .expr [x,y] 0=x:=rfl;have a1:at' .expr [x,y] 1=y:=rfl;have i0:inb 0 [x,y].length=true:=rfl;have i1:inb 1 [x,y].length=true:=rfl;by_cases b2:e.v=⟨0,0,[]⟩
  ·by_cases b3:e.name=[]
   ·rw[Ze1 b2,Ze1 b3,if_pos ⟨rfl,b2,b3⟩,a0,i0,a1,i1,hrx,hry];rfl
   ·grind
  ·grind
 ·grind
theorem A14{e:Xpr}{rf:FT [.sv .expr] [.int .i64]}(hrf:∀x,x∈e.l->rf x=some (Bc x)):J5 rf e=some (Bc e):=by
 have ro:∀v:Val,Jg v=B7 v:=λ_=>rfl;have rn:∀s:Str,X4 s=Cj s:=Kf;have a6 : 0<e.l.length↔¬e.l=[]:=List.length_pos_iff;rw[Ak4];simp only[J5,Auj];by_cases k1:e.kind=1
 ·grind
 ·by_cases k2:e.kind=2
  ·grind
  ·rw[if_neg k1,if_neg k2,Zd1 k1,Zd1 k2];by_cases k3:e.kind=3
   ·rw[if_pos (.inl k3),Ze1 k3];exact Ag6 hrf _
   ·by_cases k15:e.kind=15
    ·rw[if_pos (.inr (.inl k15)),Zd1 k3,Ze1 k15];exact Ag6 hrf _
    ·by_cases k16:e.kind=16
     ·rw[if_pos (.inr (.inr k16)),Zd1 k3,Zd1 k15,Ze1 k16];exact Ag6 hrf _
     ·rw[if_neg (by omega),Zd1 k3,Zd1 k15,Zd1 k16];by_cases ks:Ac4 e.kind=[]
      ·grind
      ·rw[if_neg ks,Zd1 ks];exact Bgc hrf _
theorem Am8:∀(n:Nat) (e:Xpr),Aw e<=n->Ak J5 n e=some (Bc e)
 |0,e,h=>by have:=Cn e;omega
 |n+1,e,h=>by rw[A0];refine A14 λx hx=>Am8 n x ?_;have:=A9 hx;rw[Ci] at h;omega
theorem Ahu:FO 121 [.sv .expr] [.int .i64] Afg:=by refine .fin (ι:=Nat) 0 (F:=λn=>Ak J5 n) (λn=>FnOk.rec' (Sx.enters_of Tryz.func121 rfl rfl) (λrf hrf=>Bd2 rf hrf) n) λe r hb hx=>⟨Aw e,?_⟩;exact(Am8 (Aw e) e (Zn1 _)).trans hx
def Bk5(R:Type):Px R:=pxO [(121,cA Afg)] [] [] []
def Wc(x:HV [.sv .expr]):Option (HV [.int .i64]):=match x with
 |e =>
 cond (decide (30<(Bc e))) (
  some 2) (
  some 0)
theorem Ba9:FO 98 [.sv .expr] [.int .i64] (Wc):=fR (px:=Bk5 _) (n:=0) Tryz.func98 rfl (λ_ H=>⟨lv H (c1 H Ahu Ae) Aa Ab,Aj⟩) λ_=>by kernel_rfl
def Mb(e:Xpr):Int :=
 cond (decide (30<(Bc e))) (
  2) (
  0)
theorem Bca(x:HV [.sv .expr]):Wc x=some (Mb x):=by
 first
  |exact rfl
  |simp only[Wc,Mb,As]
def Ark:FT [.sv .expr] [.int .i64]:=λx=>some (Mb x)
theorem Av5:FO 98 [.sv .expr] [.int .i64] Ark :=.fin0 Ba9 λx _ _ hx=>(Bca x).trans hx
theorem Nl:∀(n:Nat) (e:Xpr),Aw e<=n->n<1000000->1<=Bc e/\Bc e<=31+(n:Int)
 |0,e,h,_=>by have:=Cn e;omega
 |n+1,e,h,hn=>by
  have one:(e.l.length:Int)=1->1<=wr .i64 (1+hd (rdeepL e.l) 0)/\wr .i64 (1+hd (rdeepL e.l) 0)<=31+((n+1:Nat):Int):=λhl=>by
   obtain⟨x,hx⟩:∃x,e.l=[x]:=List.length_eq_one_iff.1 (by omega);have hb:=Nl n x (by rw[Ci,hx] at h;simp[esizes] at h;omega) (by omega);have h0:hd (rdeepL e.l) 0=Bc x:=by rw[hx];rfl
   rw[h0,Bd (by simp[inI];omega)];omega
  have two:(e.l.length:Int)=2->1<=wr .i64 (1+max2 (hd (rdeepL e.l) 0) (hd (rdeepL e.l) 1))/\wr .i64 (1+max2 (hd (rdeepL e.l) 0) (hd (rdeepL e.l) 1))<=31+((n+1:Nat):Int):=λhl=>by
   obtain⟨x,y,hx⟩:∃x y,e.l=[x,y]:=X8 (by omega);have hb:=Nl n x (by rw[Ci,hx] at h;simp[esizes] at h;omega) (by omega);have hc:=Nl n y (by rw[Ci,hx] at h;simp[esizes] at h;omega) (by omega);have h0:hd (rdeepL e.l) 0=Bc x:=by rw[hx];rfl
   have h1:hd (rdeepL e.l) 1=Bc y:=by rw[hx];rfl
   have hm:max2 (Bc x) (Bc y)=Bc x\/max2 (Bc x) (Bc y)=Bc y:=by simp only[max2];split<;>simp
   rw[h0,h1];rcases hm with hm|hm<;>rw[hm,Bd (by simp[inI];omega)]<;>omega
  rw[Ak4];simp[Auj];split
  ·split<;>omega
  ·grind
theorem A9f{k:Int}(h : 4<=k/\k<=14):¬Ac4 k=[]:=by rcases(by omega:k=4\/k=5\/k=6\/k=7\/k=8\/k=9\/k=10\/k=11\/k=12\/k=13\/k=14) with rfl|rfl|rfl|rfl|rfl|rfl|rfl|rfl|rfl|rfl|rfl<;>decide
theorem Bms{k:Int}(h1:¬(4<=k/\k<=14)):Ac4 k=[]:=by
 by_cases h2:k<0\/15<=k
 ·rw[Ac4,if_pos h2]
 ·rcases(by omega:k=0\/k=1\/k=2\/k=3) with rfl|rfl|rfl|rfl<;>decide
theorem Be1{k:Int}(h:parts k = -1):¬(1<=k/\k<=16):=λhk=>by rcases(by omega:k=1\/k=2\/k=3\/k=4\/k=5\/k=6\/k=7\/k=8\/k=9\/k=10\/k=11\/k=12\/k=13\/k=14\/k=15\/k=16) with rfl|rfl|rfl|rfl|rfl|rfl|rfl|rfl|rfl|rfl|rfl|rfl|rfl|rfl|rfl|rfl<;>exact absurd h (by decide)
theorem F2:∀(n:Nat) (e:Xpr) (m:Nat),Aw e<=n->n<1000000->m<=30->(A5 e (m:Int)=true↔Bc e<=(m:Int))
 |0,e,_,h,_,_=>by have:=Cn e;omega
 |n+1,e,m,h,hn,hm=>by
  have hb:=Nl (n+1) e h hn;rw[L8];by_cases h0:m=0
  ·subst h0;constructor
   ·intro hx;rw[Ze1 (show((0:Nat):Int)=0 from rfl)] at hx;cases hx
   ·intro hx;omega
  ·have hw:wr .i64 ((m:Int)-1)=((m-1:Nat):Int):=by rw[Bd (by simp[inI];omega)];omega
   have m1:(1:Int)<=(m:Int):=by omega
   have m31:¬(31:Int)<=(m:Int):=by omega
   rw[hw,Zd1 (show ¬(m:Int)=0 by omega),Ak4];rcases Ng e.kind with ⟨p,hk⟩|⟨p,hk⟩|⟨p,hk⟩|p
   ·rw[p];have hz:decide ((e.l.length:Int)=0)=decide (e.l=[]):=Zy1.2 ⟨λh=>List.eq_nil_of_length_eq_zero (by omega),λh=>by rw[h];rfl⟩;have hy : 0<e.l.length↔¬e.l=[]:=List.length_pos_iff;rw[hz];rcases hk with k1|k2
    ·simp only[Auj,eok,k1];by_cases hl:e.l=[]<;>by_cases a1:B7 e.v=0<;>by_cases a2:e.v.kind=3<;>by_cases a3:e.v.n<0<;>by_cases a4:e.name=[]<;>simp[hl,a1,a2,a3,a4,m1,m31,erights]
    ·simp[Auj,eok,k2];by_cases hl:e.l=[]<;>by_cases a1:Cj e.name=true<;>by_cases a2:e.v=⟨0,0,[]⟩<;>simp[hl,a1,a2,m1,m31,erights]
   ·have k1:¬e.kind=1:=by omega
    have k2:¬e.kind=2:=by omega
    rw[p];simp only[Auj,eok,if_neg k1,if_neg k2,if_pos hk,Zd1 k1,Zd1 k2];by_cases hl:(e.l.length:Int)=1
    ·obtain⟨x,hx⟩:∃x,e.l=[x]:=List.length_eq_one_iff.1 (by omega);have hs:Aw x<=n:=by rw[Ci,hx] at h;simp[esizes] at h;omega
     have hbx:=Nl n x hs (by omega);have ih:A5 x ((m-1:Nat):Int)=true↔1+Bc x<=(m:Int):=(F2 n x (m-1) hs (by omega) (by omega)).trans (by omega);have hr:erights e.l ((m-1:Nat):Int)=A5 x ((m-1:Nat):Int):=by rw[hx];simp[erights]
     have h0:hd (rdeepL e.l) 0=Bc x:=by rw[hx];rfl
     have hwx:wr .i64 (1+Bc x)=1+Bc x:=Bd (by simp[inI];omega);rw[hr,h0,hwx,Ze1 hl];by_cases b2:e.v=⟨0,0,[]⟩<;>by_cases b3:e.name=[]<;>simp[hl,b2,b3,ih,m31]
    ·rw[Zd1 hl];simp[hl,m31]
   ·have k1:¬e.kind=1:=by omega
    have k2:¬e.kind=2:=by omega
    have k3:¬(e.kind=3\/e.kind=15\/e.kind=16):=by omega
    rw[p];simp only[Auj,eok,if_neg k1,if_neg k2,if_neg k3,if_neg (A9f hk),Zd1 k1,Zd1 k2];by_cases hl:(e.l.length:Int)=2
    ·obtain⟨x,y,hx⟩:∃x y,e.l=[x,y]:=X8 (by omega);have hs:Aw x<=n:=by rw[Ci,hx] at h;simp[esizes] at h;omega
     have ht:Aw y<=n:=by rw[Ci,hx] at h;simp[esizes] at h;omega
     have hbx:=Nl n x hs (by omega);have hby:=Nl n y ht (by omega);have ih:A5 x ((m-1:Nat):Int)=true↔1+Bc x<=(m:Int):=(F2 n x (m-1) hs (by omega) (by omega)).trans (by omega);have jh:A5 y ((m-1:Nat):Int)=true↔1+Bc y<=(m:Int):=(F2 n y (m-1) ht (by omega) (by omega)).trans (by omega);have hr:erights e.l ((m-1:Nat):Int)=(A5 x ((m-1:Nat):Int)&&A5 y ((m-1:Nat):Int)):=by rw[hx];simp[erights]
     have h0:hd (rdeepL e.l) 0=Bc x:=by rw[hx];rfl
     have h1:hd (rdeepL e.l) 1=Bc y:=by rw[hx];rfl
     have hwx:wr .i64 (1+max2 (Bc x) (Bc y))=1+max2 (Bc x) (Bc y):=Bd (by simp[inI,max2];split<;>omega)
     have hmx : 1+max2 (Bc x) (Bc y)<=(m:Int)↔(1+Bc x<=(m:Int)/\1+Bc y<=(m:Int)):=by simp[max2];split<;>omega
     rw[hr,h0,h1,hwx,Ze1 hl];by_cases b2:e.v=⟨0,0,[]⟩<;>by_cases b3:e.name=[]<;>simp[hl,b2,b3,ih,jh,hmx,m31]
    ·rw[Zd1 hl];simp[hl,m31]
   ·have hk:=Be1 p;rw[p,Zd1 (show ¬(e.l.length:Int) = -1 by omega)];simp only[Auj,if_neg (show ¬e.kind=1 by omega),if_neg (show ¬e.kind=2 by omega),if_neg (show ¬(e.kind=3\/e.kind=15\/e.kind=16) by omega),if_pos (Bms (show ¬(4<=e.kind/\e.kind<=14) by omega))];simp[m31]
def Bh5(R:Type):Px R:=pxO [] [] [] []
def Wo(x:HV [.int .i64]):Option (HV [.int .i64,.int .i64]):=match x with
 |kind =>
 let j1:=λ(p1:Bool) =>
  cond (p1) (
  some (2,2)) (
  let j:=λ(p3:Bool) =>
   cond (p3) (
   some (0,2)) (
   cond (decide (12<=kind)) (
    cond (decide (kind<=15)) (
    some (3,3)) (
    some (0,2))) (
    some (0,2)))
  cond (decide (6<=kind)) (
   j (decide (kind<=11))) (
   j false))
 cond (decide (3<=kind)) (
  j1 (decide (kind<=5))) (
  j1 false)
theorem Bcn:FO 141 [.int .i64] [.int .i64,.int .i64] (Wo):=fR (px:=Bh5 _) (n:=0) Tryz.func141 rfl (λ_ H=>⟨lv H Ae Aa Ab,Aj⟩) λ_=>by kernel_rfl
def Bv(kind:Int):Int×Int :=
 let j1:=λ(p1:Bool) =>
  cond (p1) (
  (2,2)) (
  let j:=λ(p3:Bool) =>
   cond (p3) (
   (0,2)) (
   cond (decide (12<=kind)) (
    cond (decide (kind<=15)) (
    (3,3)) (
    (0,2))) (
    (0,2)))
  cond (decide (6<=kind)) (
   j (decide (kind<=11))) (
   j false))
 cond (decide (3<=kind)) (
  j1 (decide (kind<=5))) (
  j1 false)
theorem Bee(x:HV [.int .i64]):Wo x=some (Bv x):=by
 first
  |exact rfl
  |simp only[Wo,Bv,As]
def A6g:FT [.int .i64] [.int .i64,.int .i64]:=λx=>some (Bv x)
theorem Bl1:FO 141 [.int .i64] [.int .i64,.int .i64] A6g :=.fin0 Bcn λx _ _ hx=>(Bee x).trans hx
def Air:Sig:=⟨117,[(1,.sl .col false),(4,.int .i64),(5,.int .i64),(6,.int .i64)],[(2,.ptr 0 0)],[(0,.one (.sv .expr))],1,0,0,[],[]⟩
abbrev M1:=List Col×Int×Int×Int×Xpr
def Kz{R:Type}(rec:M1->Option R)(kx:Ex->M1->Option R)(v:M1):Option R:=match v with
 |(v,v1,v2,v3,w) =>
 cond (decide (v3<(v.length:Int))) (
  cond (decide (w.kind=2)) (
  chk (inb v3 v.length) (
   cond (decide (((at' .col v v3).name)=w.name)) (
   chk (inb v3 v.length) (
    kx .ret (v,(at' .col v v3).kind,0,v3,w))) (
   rec (v,v1,v2,(wr .i64 (v3+1)),w)))) (
  kx (.exit 0) (v,v1,v2,v3,w))) (
  kx (.exit 0) (v,v1,v2,v3,w))
def Auv(R:Type)(k:Nat)(rf:FT [.sv .expr,.sl .col false] [.int .i64,.int .i64]):Px R:=pxO [(99,cA rf),(141,cA A6g)] [] [(4,Am k Air (Kz))] []
def Jk(k:Nat)(rf:FT [.sv .expr,.sl .col false] [.int .i64,.int .i64])(x:HV [.sv .expr,.sl .col false]):Option (HV [.int .i64,.int .i64]):=match x with
 |(e,cols) =>
 cond (decide (e.kind=1)) (
  some (e.v.kind,0)) (
  Ak (λrec=>Kz rec (λe vz=>match vz with|(v4,v5,v6,_,v8)=>match e with
  |.ret =>some (v5,v6)
  |.exit 0 =>
   cond (decide (v8.kind=2)) (
   some (0,150)) (
   chk (inb 0 v8.l.length) (
    (rf ((at' .expr v8.l 0),v4)).bind λ(x,x1) =>
    cond (!decide (x1=0)) (
     some (0,x1)) (
     let j2:Int->Option (HV [.int .i64,.int .i64]):=λ(p2:Int) =>
     let j1:Unit->Option (HV [.int .i64,.int .i64]):=λ(_:Unit) =>
      let j:Bool->Option (HV [.int .i64,.int .i64]):=λ(p9:Bool) =>
      cond (p9) (
       cond (decide (p2=(Bv v8.kind).1)) (
       some ((Bv v8.kind).2,0)) (
       cond (decide (p2=1)) (
        some ((Bv v8.kind).2,0)) (
        some (0,151)))) (
       some (0,151))
      cond (decide (0<(Bv v8.kind).1)) (
      cond (decide (x=(Bv v8.kind).1)) (
       j true) (
       j (decide (x=1)))) (
      j false)
     cond (decide ((Bv v8.kind).1=0)) (
      cond (decide (x=p2)) (
      some ((Bv v8.kind).2,0)) (
      cond (decide (x=1)) (
       some ((Bv v8.kind).2,0)) (
       cond (decide (p2=1)) (
       some ((Bv v8.kind).2,0)) (
       j1 ())))) (
      j1 ())
     cond (decide ((v8.l.length:Int)=2)) (
     chk (inb 1 v8.l.length) (
      (rf ((at' .expr v8.l 1),v4)).bind λ(x2,x3) =>
      cond (!decide (x3=0)) (
       some (0,x3)) (
       j2 x2))) (
     j2 x))))
  |_=>none)) k (cols,0,0,0,e))
theorem Ba2(k:Nat)(rf:FT [.sv .expr,.sl .col false] [.int .i64,.int .i64])(hrf:FO 99 [.sv .expr,.sl .col false] [.int .i64,.int .i64] rf):FO 99 [.sv .expr,.sl .col false] [.int .i64,.int .i64] (Jk k rf):=fR (px:=Auv _ k rf) (n:=1) Tryz.func99 rfl (λcx H=>by have h0:Lv cx (Auv (HV [.int .i64,.int .i64]) k rf):=lv H (c1 H hrf (c1 H Bl1 Ae)) Aa Ab;have hlrkind_0:=lO H h0 (b:=lp Tryz.f99 0) (k:=k) (n:=0) (s:=Air) (step:=Kz) (λ_ _ _ (_,_,_,_,_)=>by kernel_rfl) Aj;exact⟨h0,(A3 Aj hlrkind_0)⟩) λ(_,_)=>by kernel_rfl
mutual
def wfx:Xpr->Bool
 |.mk k _ _ l=>decide ((l.length:Int)=parts k)&&wfl l
def wfl:List Xpr->Bool
 |[]=>true
 |x::l=>wfx x&&wfl l
end
theorem A00(e:Xpr):wfx e=(decide ((e.l.length:Int)=parts e.kind)&&wfl e.l):=by cases e;simp[ Xpr.l];rfl
theorem A51:∀{l:List Xpr}{x:Xpr},wfl l=true->x∈l->wfx x=true
 |y::l,x,h,hx=>by
  simp[wfl] at h;rcases List.mem_cons.1 hx with rfl|hx
  ·exact h.1
  ·exact A51 h.2 hx
def Ape(e:Xpr)(cols:List Col):Option (Int×Int):=cond (wfx e) (some (A4 e cols)) none
def Aew:FT [.sv .expr,.sl .col false] [.int .i64,.int .i64]:=λx=>Ape x.1 x.2
theorem Bpi{k:Int}(h : 3<=k/\k<=5):Bv k=(2,2):=by rcases(by omega:k=3\/k=4\/k=5) with rfl|rfl|rfl<;>rfl
theorem Brb{k:Int}(h : 6<=k/\k<=11):Bv k=(0,2):=by rcases(by omega:k=6\/k=7\/k=8\/k=9\/k=10\/k=11) with rfl|rfl|rfl|rfl|rfl|rfl<;>rfl
theorem Bon{k:Int}(h : 12<=k/\k<=15):Bv k=(3,3):=by rcases(by omega:k=12\/k=13\/k=14\/k=15) with rfl|rfl|rfl|rfl<;>rfl
theorem A4v{e:Xpr}{cols:List Col}{a b:Int}(h : 3<=e.kind/\e.kind<=16)(h16:e.kind=16->a=b):(cond (decide ((Bv e.kind).1=0)) (cond (decide (a=b)) (some ((Bv e.kind).2,0)) (cond (decide (a=1)) (some ((Bv e.kind).2,0)) (cond (decide (b=1)) (some ((Bv e.kind).2,0)) (cond (decide (0<(Bv e.kind).1)) (cond (decide (a=(Bv e.kind).1)) (cond true (cond (decide (b=(Bv e.kind).1)) (some ((Bv e.kind).2,0)) (cond (decide (b=1)) (some ((Bv e.kind).2,0)) (some (0,151)))) (some (0,151))) (cond (decide (a=1)) (cond (decide (b=(Bv e.kind).1)) (some ((Bv e.kind).2,0)) (cond (decide (b=1)) (some ((Bv e.kind).2,0)) (some (0,151)))) (some (0,151)))) (cond false (cond (decide (b=(Bv e.kind).1)) (some ((Bv e.kind).2,0)) (cond (decide (b=1)) (some ((Bv e.kind).2,0)) (some (0,151)))) (some (0,151))))))) (cond (decide (0<(Bv e.kind).1)) (cond (decide (a=(Bv e.kind).1)) (cond true (cond (decide (b=(Bv e.kind).1)) (some ((Bv e.kind).2,0)) (cond (decide (b=1)) (some ((Bv e.kind).2,0)) (some (0,151)))) (some (0,151))) (cond (decide (a=1)) (cond (decide (b=(Bv e.kind).1)) (some ((Bv e.kind).2,0)) (cond (decide (b=1)) (some ((Bv e.kind).2,0)) (some (0,151)))) (some (0,151)))) (cond false (cond (decide (b=(Bv e.kind).1)) (some ((Bv e.kind).2,0)) (cond (decide (b=1)) (some ((Bv e.kind).2,0)) (some (0,151)))) (some (0,151)))):Option (Int×Int))=some (Gf e cols a b):=by
 have n1:¬e.kind=1:=by omega
 have n2:¬e.kind=2:=by omega
 simp[Gf,if_neg n1,if_neg n2];by_cases c1:e.kind<=5
 ·rw[Bpi ⟨h.1,c1⟩,if_neg (by omega),if_pos (by omega)];by_cases a2:a=2<;>by_cases a1:a=1<;>by_cases b2:b=2<;>by_cases b1:b=1<;>simp[Gu,a1,a2,b1,b2]
 ·by_cases c2:e.kind<=11
  ·rw[Brb ⟨by omega,c2⟩,if_neg (by omega),if_neg (by omega),if_neg (by omega)];by_cases a2:a=b<;>by_cases a1:a=1<;>by_cases b1:b=1<;>simp[a1,a2,b1]
  ·by_cases c3:e.kind<=15
   ·rw[Bon ⟨by omega,c3⟩,if_neg (by omega),if_neg (by omega),if_pos (by omega)];by_cases a2:a=3<;>by_cases a1:a=1<;>by_cases b2:b=3<;>by_cases b1:b=1<;>simp[Gu,a1,a2,b1,b2]
   ·have k16:e.kind=16:=by omega
    rw[if_pos k16,k16,h16 k16];have e1:Bv 16=(0,2):=rfl;rw[e1,Ze1 (rfl:b=b)];rfl
theorem Af9{R:Type}{kx:Ex->M1->Option R}{cols:List Col}{e:Xpr}{a:Int->Option R}{b:Option R}(hn:ln cols.length)(he:e.kind=2)(h1:∀q j,kx .ret (cols,q,0,j,e)=a q)(h2:∀q r j,kx (.exit 0) (cols,q,r,j,e)=b):∀(k i:Nat) q r,i<=cols.length->cols.length-i<k->Ak (λrec=>Kz rec kx) k (cols,q,r,(i:Int),e)=if A7 (cols.drop i) e.name i<0 then b else a (at' .col cols (A7 (cols.drop i) e.name i)).kind
 |0,i,q,r,_,h=>by omega
 |k+1,i,q,r,hi,h=>by
  rw[A0];by_cases hl:i<cols.length
  ·simp only[Kz,Ao hl,Al (c :=.col) hl,An hl hn,h1,(Af9 hn he h1 h2 k (i+1) q r (by omega) (by omega)),Ah hl];rw[Ze1 (show(i:Int)<(cols.length:Int) by omega),Ze1 he];by_cases hc:cols[i].name=e.name
   ·have e1:∀l,A7 (cols[i]::l) e.name i=(i:Int):=λl=>by simp only[A7];rw[if_pos hc]
    rw[e1,Ze1 hc,if_neg (show ¬(i:Int)<0 by omega),Al (c :=.col) hl];rfl
   ·have e1:∀l,A7 (cols[i]::l) e.name i=A7 l e.name (i+1):=λl=>by simp only[A7];rw[if_neg hc]
    rw[e1,Zd1 hc];rfl
  ·have e1:A7 [] e.name i = -1:=rfl;simp only[Kz,h2];rw[Zd1 (by omega),Zk1 (by omega),e1,if_pos (by omega)];rfl
theorem Bm1{R:Type}{kx:Ex->M1->Option R}{cols:List Col}{e:Xpr}{b:Option R}(h:¬e.kind=2)(h2:kx (.exit 0) (cols,0,0,0,e)=b)(k:Nat):Ak (λrec=>Kz rec kx) (k+1) (cols,0,0,0,e)=b:=by rw[A0];simp only[Kz,h2,Zd1 h];cases decide ((0:Int)<(cols.length:Int))<;>rfl
theorem A2y(k:Nat){e:Xpr}{cols:List Col}{rf:FT [.sv .expr,.sl .col false] [.int .i64,.int .i64]}(hn:ln cols.length)(hk:cols.length<k)(hw:wfx e=true)(hrf:∀x,x∈e.l->rf (x,cols)=some (A4 x cols)):Jk k rf (e,cols)=some (A4 e cols):=by
 rw[A00,Zb1,Zg1] at hw;have hp:=hw.1;obtain⟨k,rfl⟩:∃j,k=j+1:=⟨k-1,by omega⟩;simp only[Jk];by_cases k1:e.kind=1
 ·have hl:e.l=[]:=List.eq_nil_of_length_eq_zero (by rw[k1] at hp;have:parts 1=0:=rfl;omega);rw[Ze1 k1,H7,hl];simp[kindL,Q0,Gf,if_pos k1]
 ·rw[Zd1 k1,Ai];by_cases k2:e.kind=2
  ·have hl:e.l=[]:=List.eq_nil_of_length_eq_zero (by rw[k2] at hp;have:parts 2=0:=rfl;omega);refine(Af9 (a:=λq=>some (q,0)) (b:=some (0,150)) hn k2 (λ_ _=>rfl) (λq r j =>?_) (k+1) 0 0 0 (Nat.zero_le _) (by omega)).trans ?_
   ·show cond (decide (e.kind=2)) _ _=_;rw[Ze1 k2];rfl
   ·rw[H7,hl];simp[kindL,Q0,Gf,if_neg k1,if_pos k2];show(if B9 cols e.name<0 then some (0,150) else some ((at' .col cols (B9 cols e.name)).kind,0))=_;by_cases hf:B9 cols e.name<0
    ·rw[if_pos hf,if_pos hf]
    ·rw[if_neg hf,if_neg hf]
  ·refine Bm1 k2 ?_ k;show cond (decide (e.kind=2)) _ _=_;rw[Zd1 k2];rcases Ng e.kind with ⟨h0,h⟩|⟨h0,h⟩|⟨h0,h⟩|h0
   ·omega
   ·obtain⟨x,hl⟩:∃x,e.l=[x]:=List.length_eq_one_iff.1 (by omega);have hrx:=hrf x (by rw[hl];simp);have a0:at' .expr [x] 0=x:=rfl;have i0:inb 0 [x].length=true:=rfl;rw[H7,hl,a0,i0,hrx];simp only[kindL,Q0];cases A4 x cols with
    |mk a f =>
     show cond (!decide (f=0)) _ _=_;by_cases hf:f=0
     ·rw[Ze1 hf,if_pos hf];show cond (decide ((([x]:List Xpr).length:Int)=2)) _ _=_;rw[show decide ((([x]:List Xpr).length:Int)=2)=false from rfl];have hj:=A4v (e:=e) (cols:=cols) (a:=a) (b:=a) (by omega) (λ_=>rfl);rw[Ze1 (rfl:a=a)] at hj;rw[@Ze1 True _ trivial];exact hj
     ·rw[Zd1 hf,if_neg hf];rfl
   ·obtain⟨x,y,hl⟩:∃x y,e.l=[x,y]:=X8 (by omega);have hrx:=hrf x (by rw[hl];simp);have hry:=hrf y (by rw[hl];simp);have a0:at' .expr [x,y] 0=x:=rfl;have i0:inb 0 [x,y].length=true:=rfl;have a1:at' .expr [x,y] 1=y:=rfl;have i1:inb 1 [x,y].length=true:=rfl;rw[H7,hl,a0,i0,hrx,a1,i1,hry];simp only[kindL,Q0];cases A4 x cols with
    |mk a f =>
     show cond (!decide (f=0)) _ _=_;by_cases hf:f=0
     ·rw[Ze1 hf,if_pos hf];cases A4 y cols with
      |mk b g =>
       show cond (!decide (g=0)) _ _=_;by_cases hg:g=0
       ·rw[Ze1 hg,if_pos hg];exact A4v (e:=e) (by omega) (λ_=>by omega)
       ·rw[Zd1 hg,if_neg hg];rfl
     ·rw[Zd1 hf,if_neg hf];rfl
   ·omega
theorem Aq4(k:Nat):∀(n:Nat) (e:Xpr) (cols:List Col),ln cols.length->cols.length<k->wfx e=true->Aw e<=n->Ak (Jk k) n (e,cols)=some (A4 e cols)
 |0,e,_,_,_,_,h=>by have:=Cn e;omega
 |n+1,e,cols,hn,hk,hw,h=>by
  rw[A0];refine A2y k hn hk hw λx hx=>Aq4 k n x cols hn hk ?_ ?_
  ·rw[A00,Zb1] at hw;exact A51 hw.2 hx
  ·have:=A9 hx;rw[Ci] at h;omega
theorem Au9:FO 99 [.sv .expr,.sl .col false] [.int .i64,.int .i64] Aew:=by refine .fin (ι:=Nat×Nat) (0,0) (F:=λn=>Ak (Jk n.1) n.2) (λn=>FnOk.rec' (Sx.enters_of Tryz.func99 rfl rfl) (λrf hrf=>Ba2 n.1 rf hrf) n.2) λ(e,cols) r hb hx=>⟨(cols.length+1,Aw e),?_⟩;simp only[Aew,Ape] at hx;cases hw:wfx e with|false=>rw[hw] at hx;cases hx|true =>rw[hw] at hx;exact(Aq4 (cols.length+1) (Aw e) e cols hb.2.1 (by omega) hw (Zn1 _)).trans hx
theorem A3l{v:Val}(h:Aq v=true) : 1<=v.kind:=by
 by_cases h1:v.kind=1
 ·omega
 by_cases h2:v.kind=2
 ·omega
 by_cases h3:v.kind=3
 ·omega
 by_cases h4:v.kind=4
 ·omega
 by_cases h5:v.kind=5
 ·omega
 simp[Aq,h1,h2,h3,h4,h5] at h
theorem Ait{l:List Col}{s:Str}(h:¬B9 l s<0):∃i:Nat,∃hi:i<l.length,B9 l s=(i:Int)/\at' .col l (B9 l s)=l[i]:=by
 rcases N4 l s with h1|⟨h1,h2⟩
 ·omega
 ·obtain⟨i,hi⟩:∃i:Nat,B9 l s=(i:Int):=⟨(B9 l s).toNat,by omega⟩;refine⟨i,by omega,hi,?_⟩;rw[hi];exact Al (c :=.col) (by omega)
theorem Age{e:Xpr}{cols:List Col}{a b:Int}(hv:e.kind=1->1<=e.v.kind)(hc:cols.all Hc=true)(h:(Gf e cols a b).2=0) : 1<=(Gf e cols a b).1:=by
 simp[Gf] at h ⊢;split
 ·rename_i h1;exact hv h1
 split
 ·split
  ·grind
  ·rename_i h3;obtain⟨i,hi,_,h5⟩:=Ait h3;have h6:=Zg2.1 hc _ (List.getElem_mem hi);simp[Hc,Zb1] at h6;simp[h5];omega
 grind
theorem Ban{e:Xpr}{cols:List Col}(hr:Dk e=0)(hc:cols.all Hc=true)(h:(A4 e cols).2=0) : 1<=(A4 e cols).1:=by
 obtain⟨_,h2,_⟩:=Gm (Mw.1 hr);have hv:e.kind=1->1<=e.v.kind:=λh1=>by simp[eok,h1,Zb1] at h2;exact A3l (O8.1 h2.1.1)
 rw[H7] at h ⊢;match hl:kindL e.l cols with
 |[] =>rw[hl] at h;exact Age hv hc h
 |[(a,f)] =>
  rw[hl] at h;simp[Q0] at h ⊢;by_cases hf:f=0
  ·rw[if_pos hf] at h ⊢;exact Age hv hc h
  ·grind
 |(a,f)::(b,g)::t =>
  rw[hl] at h;simp[Q0] at h ⊢;by_cases hf:f=0
  ·rw[if_pos hf] at h ⊢;by_cases hg:g=0
   ·rw[if_pos hg] at h ⊢;exact Age hv hc h
   ·grind
  ·grind
theorem Bcl{e:Xpr}{cols:List Col}(hc:cols.all Hc=true)(h:(D5 e cols).2=0) : 1<=(D5 e cols).1:=by
 simp[D5] at h ⊢;by_cases h0:Dk e=0
 ·simp[h0,Ai] at h ⊢;exact Ban h0 hc h
 ·simp[h0] at h
theorem Bmf{e:Xpr}{cols:List Col}(hc:cols.all Hc=true):Ax3 cols e=cond (decide ((D5 e cols).2=0)) (cond (decide (2<(D5 e cols).1)) 151 0) (D5 e cols).2:=by
 simp[Ax3];by_cases h:(D5 e cols).2=0
 ·have:=Bcl hc h
  grind
 ·simp[h]
def Ams(t:Tbl):Option Str->List Idx->Bool
 |_,[]=>true
 |none,x::l=>Io t x&&Ams t (some x.name) l
 |some p,x::l=>Io t x&&(ltN p x.name&&Ams t (some x.name) l)
theorem Anl{t:Tbl}:∀(l:List Idx) (p:Str),Ams t (some p) l=(l.all (Io t)&&(l.all (λy=>ltN p y.name)&&A8 l))
 |[],_=>rfl
 |x::l,p=>by
  rw[Bool.eq_iff_iff];simp[Ams,Anl l,A8,Zg2];constructor
  ·rintro⟨h1,h2,h3,h4,h5⟩;exact⟨⟨h1,h3⟩,⟨h2,λy hy=>A3w h2 (h4 y hy)⟩,h4,h5⟩
  ·grind
theorem Bbk{t:Tbl}(l:List Idx):Ams t none l=(A8 l&&l.all (Io t)):=by
 cases l with
 |nil=>rfl
 |cons x l =>
  rw[Bool.eq_iff_iff];simp[Ams,Anl l,A8,Zg2];constructor
  ·grind
  ·grind
theorem Auy:∀a b:Str,Op.bytesLess a b=decide (Hl a b = -1)
 |[],[]=>rfl
 |[],_::_=>rfl
 |_::_,[]=>rfl
 |a::x,b::y=>by
  have ih:=Auy x y;simp only[Op.bytesLess,Hl,Lib.compareBytes] at ih ⊢
  grind
theorem Bpc(a b:Str):Op.bytesLess a b=ltN a b:=by rw[Auy];exact Zy1.2 (by rcases scmp_lin.rng a b with h|h|h<;>omega)
def Dl(cols:List Col)(row:List Val):List Str->List Val->List Val×Int
 |[],acc=>(acc,0)
 |s::l,acc=>cond (decide (B9 cols s<0)) ([],150) (Dl cols row l (acc++[at' .val row (B9 cols s)]))
def Bcf(R:Type):Px R:=pxO [(101,cA Lu)] [] [] []
def Pq(x:HV [.sv .val,.int .i64]):Option (HV [.bool]):=match x with
 |(v,kind) =>
 cond (decide ((Jg v)=0)) (
  cond (decide (v.kind=1)) (
  some true) (
  some (decide (v.kind=kind)))) (
  some false)
theorem A02:FO 97 [.sv .val,.int .i64] [.bool] (Pq):=fR (px:=Bcf _) (n:=0) Tryz.func97 rfl (λ_ H=>⟨lv H (c1 H Sf Ae) Aa Ab,Aj⟩) λ(_,_)=>by kernel_rfl
def Aa8(v:Val)(kind:Int):Bool :=
 cond (decide ((Jg v)=0)) (
  cond (decide (v.kind=1)) (
  true) (
  (decide (v.kind=kind)))) (
  false)
theorem A2r(x:HV [.sv .val,.int .i64]):Pq x=some (Aa8 x.1 x.2):=by
 first
  |exact rfl
  |simp only[Pq,Aa8,As]
def Av9:FT [.sv .val,.int .i64] [.bool]:=λx=>some (Aa8 x.1 x.2)
theorem A9s:FO 97 [.sv .val,.int .i64] [.bool] Av9 :=.fin0 A02 λx _ _ hx=>(A2r x).trans hx
theorem Bg7(v:Val)(k:Int):Aa8 v k=Mg v k:=by
 simp only[Aa8,Mg];have:decide (B7 v=0)=Aq v:=by
  cases h:Aq v
  ·simp[B7,h]
  ·simp[B7,h]
 rw[this]
def Bmb(R:Type):Px R:=pxO [] [] [] []
def Vn(x:HV [.int .i64]):Option (HV [.sv .val]):=match x with
 |n =>
 cond (decide (n=1)) (
  some (Val.mk 1 0 [])) (
  some (Val.mk 2 (wr .i64 (Int.tdiv n 2)) []))
theorem A8p:FO 142 [.int .i64] [.sv .val] (Vn):=fR (px:=Bmb _) (n:=0) Tryz.func142 rfl (λ_ H=>⟨lv H Ae Aa Ab,Aj⟩) λ_=>by kernel_rfl
def Ik(n:Int):Val :=
 cond (decide (n=1)) (
  (Val.mk 1 0 [])) (
  (Val.mk 2 (wr .i64 (Int.tdiv n 2)) []))
theorem Bbp(x:HV [.int .i64]):Vn x=some (Ik x):=by
 first
  |exact rfl
  |simp only[Vn,Ik,As]
def Ae7:FT [.int .i64] [.sv .val]:=λx=>some (Ik x)
theorem Akl:FO 142 [.int .i64] [.sv .val] Ae7 :=.fin0 A8p λx _ _ hx=>(Bbp x).trans hx
def A9d(R:Type):Px R:=pxO [] [] [] []
def Qr(x:HV [.sv .val]):Option (HV [.int .i64]):=match x with
 |v =>
 cond (decide (v.kind=1)) (
  some 1) (
  some (wr .i64 (2*v.n)))
theorem A1m:FO 143 [.sv .val] [.int .i64] (Qr):=fR (px:=A9d _) (n:=0) Tryz.func143 rfl (λ_ H=>⟨lv H Ae Aa Ab,Aj⟩) λ_=>by kernel_rfl
def Ig(v:Val):Int :=
 cond (decide (v.kind=1)) (
  1) (
  (wr .i64 (2*v.n)))
theorem A4o(x:HV [.sv .val]):Qr x=some (Ig x):=by
 first
  |exact rfl
  |simp only[Qr,Ig,As]
def X0:FT [.sv .val] [.int .i64]:=λx=>some (Ig x)
theorem Abf:FO 143 [.sv .val] [.int .i64] X0 :=.fin0 A1m λx _ _ hx=>(A4o x).trans hx
def Bta(R:Type):Px R:=pxO [(142,cA Ae7)] [] [] []
def Ahl(x:HV [.bool]):Option (HV [.sv .val]):=match x with
 |b =>
 cond (b) (
  some (Ik 2)) (
  some (Ik 0))
theorem Bol:FO 145 [.bool] [.sv .val] (Ahl):=fR (px:=Bta _) (n:=0) Tryz.func145 rfl (λ_ H=>⟨lv H (c1 H Akl Ae) Aa Ab,Aj⟩) λ_=>by kernel_rfl
def ris(b:Bool):Val :=
 cond (b) (
  (Ik 2)) (
  (Ik 0))
theorem Bqh(x:HV [.bool]):Ahl x=some (ris x):=by
 first
  |exact rfl
  |simp only[Ahl,ris,As]
def Bi0:FT [.bool] [.sv .val]:=λx=>some (ris x)
theorem Blp:FO 145 [.bool] [.sv .val] Bi0 :=.fin0 Bol λx _ _ hx=>(Bqh x).trans hx
def Alt:Sig:=⟨34,[(0,.sl .col false),(1,.sl .val false),(4,.bool),(5,.int .i64)],[],[],0,0,0,[],[]⟩
abbrev Uf:=List Col×List Val×Bool×Int
def M7{R:Type}(rec:Uf->Option R)(kx:Ex->Uf->Option R)(v:Uf):Option R:=match v with
 |(v,v1,v2,v3) =>
 cond (decide (v3<(v.length:Int))) (
  cond (decide (v3<(v1.length:Int))) (
  chk (inb v3 v1.length) (
   chk (inb v3 v.length) (
   cond (!(Aa8 (at' .val v1 v3) ((at' .col v v3).kind))) (
    kx .ret (v,v1,false,v3)) (
    rec (v,v1,v2,(wr .i64 (v3+1))))))) (
  kx (.exit 0) (v,v1,v2,v3))) (
  kx (.exit 0) (v,v1,v2,v3))
def Axt(R:Type)(k:Nat):Px R:=pxO [(97,cA Av9)] [] [(2,Am k Alt (M7))] []
def Ai6(k:Nat)(x:HV [.sl .col false,.sl .val false]):Option (HV [.bool]):=match x with
 |(cols,row) =>
 Ak (λrec=>M7 rec (λe vz=>match vz with|(v4,v5,v6,_)=>match e with
  |.ret =>
  some v6
  |.exit 0 =>
  some (decide ((v4.length:Int)=(v5.length:Int)))
  |_=>none)) k (cols,row,false,0)
theorem Beb(k:Nat):FO 60 [.sl .col false,.sl .val false] [.bool] (Ai6 k):=fR (px:=Axt _ k) (n:=1) Tryz.func60 rfl (λcx H=>by have h0:Lv cx (Axt (HV [.bool]) k):=lv H (c1 H A9s Ae) Aa Ab;have hlrFits_0:=lO H h0 (b:=lp Tryz.f60 0) (k:=k) (n:=0) (s:=Alt) (step:=M7) (λ_ _ _ (_,_,_,_)=>by kernel_rfl) Aj;exact⟨h0,(A3 Aj hlrFits_0)⟩) λ(_,_)=>by kernel_rfl
abbrev Ao2(cols:List Col)(row:List Val):Bool:=Dr cols row
def Ae3:FT [.sl .col false,.sl .val false] [.bool]:=λx=>some (Ao2 x.1 x.2)
def U1:List Col->List Val->Bool
 |c::cs,v::vs=>Mg v c.kind&&U1 cs vs
 |_,_=>true
theorem An3:∀(cols:List Col) (row:List Val),Di cols row=(U1 cols row&&decide (cols.length=row.length))
 |[],[]=>rfl
 |c::cs,v::vs=>by simp only[Di,U1,An3 cs vs,Zf1,Nat.add_right_cancel_iff,Bool.and_assoc]
 |[],_::_=>by simp[Di,U1]
 |_::_,[]=>by simp[Di,U1]
theorem Bd4(row:List Val):U1 [] row=true:=by cases row<;>rfl
theorem Bbi(cols:List Col):U1 cols []=true:=by cases cols<;>rfl
theorem Aks{R:Type}{kx:Ex->Uf->Option R}{row:List Val}{cols:List Col}{a b:Option R}(hn:ln cols.length)(h1:∀j,kx .ret (cols,row,false,j)=a)(h2:∀q j,kx (.exit 0) (cols,row,q,j)=b):∀(k i:Nat) q,i<=cols.length->cols.length-i<k->Ak (λrec=>M7 rec kx) k (cols,row,q,(i:Int))=cond (U1 (cols.drop i) (row.drop i)) b a
 |0,i,q,_,h=>by omega
 |k+1,i,q,hi,h=>by
  rw[A0];by_cases hl:i<cols.length
  ·by_cases hl2:i<row.length
   ·have ih:=Aks hn h1 h2 k (i+1) q (by omega) (by omega);simp only[M7,An hl hn,ih,h1,Ah hl,Ah hl2,Al (c :=.col) hl,Al (c :=.val) hl2,Ao hl,Ao hl2,chk,Ag,U1,Bg7];rw[Ze1 (show(i:Int)<(cols.length:Int) by omega),Ze1 (show(i:Int)<(row.length:Int) by omega)];cases Mg row[i] cols[i].kind<;>rfl
   ·simp only[M7,h2];rw[Ze1 (show(i:Int)<(cols.length:Int) by omega),Zd1 (show ¬(i:Int)<(row.length:Int) by omega),Zk1 (show row.length<=i by omega),Bbi];rfl
  ·simp only[M7,h2];rw[Zd1 (show ¬(i:Int)<(cols.length:Int) by omega),Zk1 (show cols.length<=i by omega),Bd4];rfl
theorem Avw:FO 60 [.sl .col false,.sl .val false] [.bool] Ae3 :=.fin 0 Beb λ(cols,row) r hb hx=>⟨cols.length+1,by simp only[Ae3,Za1] at hx;subst hx;simp only[Ai6];refine(Aks (a:=some false) (b:=some (decide ((cols.length:Int)=(row.length:Int)))) hb.1.1 (λ_=>rfl) (λ_ _=>rfl) (cols.length+1) 0 false (Nat.zero_le _) (by omega)).trans ?_;rw[Zq1,Zq1,Ao2,Dr,An3,Zy1.2 (show((cols.length:Int)=(row.length:Int))↔cols.length=row.length by omega)];cases U1 cols row<;>rfl⟩
def Bq8(R:Type):Px R:=pxO [] [] [] []
def Abi(x:HV [.sv .val,.sv .val]):Option (HV [.int .i64]):=match x with
 |(a,b) =>
 let j:=λ(p1:Bool) =>
  cond (p1) (
  some (-1)) (
  cond (decide (a.kind=b.kind)) (
   cond (decide (a.n=b.n)) (
   cond (Op.bytesLess a.s b.s) (
    some (-1)) (
    cond (decide (a=b)) (
    some 0) (
    some 1))) (
   cond (decide (a=b)) (
    some 0) (
    some 1))) (
   cond (decide (a=b)) (
   some 0) (
   some 1)))
 cond (decide (a.kind<b.kind)) (
  j true) (
  cond (decide (a.kind=b.kind)) (
  j (decide (a.n<b.n))) (
  j false))
theorem Bh3:FO 41 [.sv .val,.sv .val] [.int .i64] (Abi):=fR (px:=Bq8 _) (n:=0) Tryz.func41 rfl (λ_ H=>⟨lv H Ae Aa Ab,Aj⟩) λ(_,_)=>by kernel_rfl
def P8(a:Val)(b:Val):Int :=
 let j:=λ(p1:Bool) =>
  cond (p1) (
  (-1)) (
  cond (decide (a.kind=b.kind)) (
   cond (decide (a.n=b.n)) (
   cond (Op.bytesLess a.s b.s) (
    (-1)) (
    cond (decide (a=b)) (
    0) (
    1))) (
   cond (decide (a=b)) (
    0) (
    1))) (
   cond (decide (a=b)) (
   0) (
   1)))
 cond (decide (a.kind<b.kind)) (
  j true) (
  cond (decide (a.kind=b.kind)) (
  j (decide (a.n<b.n))) (
  j false))
theorem Bkx(x:HV [.sv .val,.sv .val]):Abi x=some (P8 x.1 x.2):=by
 first
  |exact rfl
  |simp only[Abi,P8,As]
def Bi2:FT [.sv .val,.sv .val] [.int .i64]:=λx=>some (P8 x.1 x.2)
theorem Bp4:FO 41 [.sv .val,.sv .val] [.int .i64] Bi2 :=.fin0 Bh3 λx _ _ hx=>(Bkx x).trans hx
theorem An2:∀a b:Str,Op.bytesLess a b=decide (Hl a b = -1)
 |[],[]=>rfl
 |[],_::_=>rfl
 |_::_,[]=>rfl
 |a::x,b::y=>by
  have ih:=An2 x y;simp only[Op.bytesLess,Hl,Lib.compareBytes] at ih ⊢;by_cases h1:a<b
  ·simp[h1]
  ·by_cases h2:b<a
   ·have h3:¬a=b:=λh=>by subst h;exact h1 h2
    simp[h1,h2,h3]
   ·have h3:a=b:=UInt8.le_antisymm (UInt8.not_lt.1 h2) (UInt8.not_lt.1 h1);simp[h3,ih];exact Zy1.2 Iff.rfl
theorem Aqw:∀a b:Str,Hl a b=0↔a=b
 |[],[]=>by simp[Hl,Lib.compareBytes]
 |[],_::_=>by simp[Hl,Lib.compareBytes]
 |_::_,[]=>by simp[Hl,Lib.compareBytes]
 |a::x,b::y=>by
  have ih:=Aqw x y;simp only[Hl,Lib.compareBytes] at ih ⊢;by_cases h1:a<b
  ·have h3:¬a=b:=λh=>by subst h;exact UInt8.lt_irrefl _ h1
   simp[h1,h3]
  ·by_cases h2:b<a
   ·have h3:¬a=b:=λh=>by subst h;exact h1 h2
    simp[h1,h2,h3]
   ·have h3:a=b:=UInt8.le_antisymm (UInt8.not_lt.1 h2) (UInt8.not_lt.1 h1);simp[h3,ih]
theorem Bdu:∀a b:Val,P8 a b=Nw a b
 |⟨k,n,s⟩,⟨k',n',s'⟩=>by
  simp only[P8,Nw,D7,Gg,An2];by_cases h1:k<k'
  ·simp[h1]
  ·by_cases h2:k'<k
   ·have h3:¬k=k':=by omega
    simp[h1,h2,h3]
   ·obtain rfl:k=k':=by omega
    by_cases h4:n<n'
    ·simp[h4]
    ·by_cases h5:n'<n
     ·have h6:¬n=n':=by omega
      simp[h4,h5,h6]
     ·obtain rfl:n=n':=by omega
      have h7:=Aqw s s';rcases O7 s s' with h|h|h
      ·simp[h]
      ·have h8:s=s':=h7.1 h;subst h8;simp[h]
      ·have h8:¬s=s':=λe=>by rw[h7.2 e] at h;cases h
       simp[h,h8]
def Bb5(R:Type):Px R:=pxO [] [] [] []
def Adf(x:HV [.sl .int false,.int .i64]):Option (HV [.int .i64]):=match x with
 |(l,i) =>
 cond (decide (i<(l.length:Int))) (
  chk (inb i l.length) (
  some (at' .int l i))) (
  some 0)
theorem A0z:FO 270 [.sl .int false,.int .i64] [.int .i64] (Adf):=fR (px:=Bb5 _) (n:=0) Tryz.func270 rfl (λ_ H=>⟨lv H Ae Aa Ab,Aj⟩) λ(_,_)=>by kernel_rfl
def Ih(l:List Int)(i:Int):Option Int:=cond (decide (0<=i)) (some (l.getD i.toNat 0)) none
def Qv:FT [.sl .int false,.int .i64] [.int .i64]:=λx=>Ih x.1 x.2
theorem Abo:FO 270 [.sl .int false,.int .i64] [.int .i64] Qv :=.fin0 A0z λ(l,i) r _ hx=>by
 simp only[Qv,Ih] at hx;by_cases h0 : 0<=i
 ·rw[Ze1 h0] at hx;obtain⟨j,hj⟩:∃j:Nat,i=(j:Int):=⟨Int.toNat i,(Int.toNat_of_nonneg h0).symm⟩;subst hj;rw[<-hx];simp only[Adf];by_cases hl:j<l.length
  ·rw[Ze1 (show(j:Int)<(l.length:Int) from Int.ofNat_lt.2 hl),Ao hl,Al (c :=.int) hl];simp[chk,List.getD_eq_getElem?_getD,hl]
  ·rw[Zd1 (show ¬(j:Int)<(l.length:Int) fromλh=>hl (Int.ofNat_lt.1 h))];simp[List.getD_eq_getElem?_getD,List.getElem?_eq_none (Nat.le_of_not_lt hl)]
 ·rw[Zd1 h0] at hx;cases hx
theorem Ow(l:List Int)(i:Nat):Ih l (i:Int)=some (dgt l i):=by simp only[Ih,dgt];rw[Ze1 (Int.natCast_nonneg i)];rfl
theorem Ate{l:List Int}{i:Nat}(h:i<l.length):at' .int l (i:Int)=dgt l i:=by rw[Al (c :=.int) h];simp[dgt,h]
def Ah7:Sig:=⟨29,[(0,.bool),(1,.sl .int false),(5,.int .i64)],[(4,.ptr 0 0)],[(0,.one (.sv .num))],1,0,0,[],[]⟩
abbrev S2:=Bool×List Int×Int×Num
def To{R:Type}(rec:S2->Option R)(kx:Ex->S2->Option R)(v:S2):Option R:=match v with
 |(v,v1,v2,w) =>
 cond (decide (0<v2)) (
  chk (inb (wr .i64 (v2-1)) v1.length) (
  cond (decide ((at' .int v1 (wr .i64 (v2-1)))=0)) (
   rec (v,v1,(wr .i64 (v2-1)),w)) (
   kx (.exit 0) (v,v1,v2,w)))) (
  kx (.exit 0) (v,v1,v2,w))
def Ax0(R:Type)(k:Nat):Px R:=pxO [] [] [(2,Am k Ah7 (To))] []
def Alv(k:Nat)(x:HV [.bool,.sl .int false]):Option (HV [.sv .num]):=match x with
 |(m,d) =>
 Ak (λrec=>To rec (λe vz=>match vz with|(v3,v4,v5,_)=>match e with
  |.exit 0 =>
  cond (v3) (
   chk (upto 0 v5 v4.length) (
   some (Num.mk (decide (0<v5)) (v4.take (v5:Int).toNat)))) (
   chk (upto 0 v5 v4.length) (
   some (Num.mk false (v4.take (v5:Int).toNat))))
  |_=>none)) k (m,d,(d.length:Int),(Num.mk false []))
theorem Bdc(k:Nat):FO 269 [.bool,.sl .int false] [.sv .num] (Alv k):=fR (px:=Ax0 _ k) (n:=1) Tryz.func269 rfl (λcx H=>by have h0:Lv cx (Ax0 (HV [.sv .num]) k):=lv H Ae Aa Ab;have hlrtrim_0:=lO H h0 (b:=lp Tryz.f269 0) (k:=k) (n:=0) (s:=Ah7) (step:=To) (λ_ _ _ (_,_,_,_)=>by kernel_rfl) Aj;exact⟨h0,(A3 Aj hlrtrim_0)⟩) λ(_,_)=>by kernel_rfl
def H5(m:Bool)(d:List Int):Num:=⟨m&&decide (0<((Il d).length:Int)),Il d⟩
def Yb:FT [.bool,.sl .int false] [.sv .num]:=λx=>some (H5 x.1 x.2)
theorem Akn{R:Type}{kx:Ex->S2->Option R}{m:Bool}{d:List Int}{w:Num}{b:Option R}(hn:ln d.length)(h2:∀i:Nat,i<=d.length->d.take i=Il d->kx (.exit 0) (m,d,(i:Int),w)=b):∀(i k:Nat),i<=d.length->i<k->Il (d.take i)=Il d->Ak (λrec=>To rec kx) k (m,d,(i:Int),w)=b
 |i,0,_,h,_=>by omega
 |0,k+1,hi,_,ht=>by rw[A0];simp only[To];rw[Zd1 (by omega)];exact h2 0 hi ht
 |i+1,k+1,hi,h,ht=>by
  rw[A0];have hl:i<d.length:=by omega
  have e1:wr .i64 (((i+1:Nat):Int)-1)=(i:Int):=by rw[Bd (by simp only[inI,ln] at *;omega)];omega
  simp only[To];rw[Ze1 (show(0:Int)<((i+1:Nat):Int) by omega),e1,Ao hl,Al (c :=.int) hl];show cond (decide (d[i]=0)) _ _=b;have ht':=ht;rw[List.take_add_one,Zo1 hl] at ht';by_cases h0:d[i]=0
  ·rw[Ze1 h0];refine Akn hn h2 i k (by omega) (by omega) ?_;rw[<-ht',h0];exact(Ajj _).symm
  ·rw[Zd1 h0];refine h2 (i+1) hi ?_;rw[<-ht',List.take_add_one,Zo1 hl];exact(Alf h0 _).symm
theorem Ah9:FO 269 [.bool,.sl .int false] [.sv .num] Yb :=.fin 0 Bdc λ(m,d) r hb hx=>⟨d.length+1,by
 simp only[Yb,Za1] at hx;subst hx;simp only[Alv];refine Akn hb.2.1 (λi hi ht =>?_) d.length (d.length+1) (Zn1 _) (by omega) (by rw[List.take_length]);have hlen:(Il d).length=i:=by rw[<-ht];simp;omega
 have hu:upto 0 (i:Int) d.length=true:=by rw[show(0:Int)=((0:Nat):Int) from rfl,Z2];simp[hi]
 rw[hu];simp only[Bjj,Int.toNat_natCast,ht,H5,hlen];cases m<;>rfl⟩
theorem Yl{m:Bool}{d:List Int}(h:dg d=true):H5 m d=Amy m (val d):=by
 have e:=Aif h;have hv:=E3 h;simp only[H5,Amy,e];by_cases h0:val d=0
 ·rw[h0,show J9 (Int.toNat 0)=[] from digs_zero];rfl
 ·rw[Gw (n:=(val d).toNat) (by omega),Ze1 (show(0:Int)<val d by omega)];rw[Ze1 (by simp only[Zf1];omega)]
def Ay9:Sig:=⟨24,[(0,.int .i64),(3,.sl .int true),(4,.int .i64)],[(2,.ptr 0 0)],[(0,.one (.sv .num))],1,0,0,[],[]⟩
abbrev Aev:=Int×List Int×Int×Num
def Aze{R:Type}(rec:Aev->Option R)(kx:Ex->Aev->Option R)(v:Aev):Option R:=match v with
 |(v,v1,v2,w) =>
 cond (!decide (v2=0)) (
  chk (decide (v1.length+1<=Af)) (
  rec (v,(v1++[(max2 (Int.tmod v2 10) (wr .i64 (0-(Int.tmod v2 10))))]),(wr .i64 (Int.tdiv v2 10)),w))) (
  kx (.exit 0) (v,v1,v2,w))
def Bkb(R:Type)(k:Nat):Px R:=pxO [(269,cA Yb)] [] [(3,Am k Ay9 (Aze))] []
def Az9(k:Nat)(x:HV [.int .i64]):Option (HV [.sv .num]):=match x with
 |n =>
 Ak (λrec=>Aze rec (λe vz=>match vz with|(v3,v4,_,_)=>match e with
  |.exit 0 =>
  some (H5 (decide (v3<0)) v4)
  |_=>none)) k (n,[],n,(Num.mk false []))
theorem Bqk(k:Nat):FO 235 [.int .i64] [.sv .num] (Az9 k):=fR (px:=Bkb _ k) (n:=1) Tryz.func235 rfl (λcx H=>by have h0:Lv cx (Bkb (HV [.sv .num]) k):=lv H (c1 H Ah9 Ae) Aa Ab;have hlrOf_0:=lO H h0 (b:=lp Tryz.f235 0) (k:=k) (n:=0) (s:=Ay9) (step:=Aze) (λ_ _ _ (_,_,_,_)=>by kernel_rfl) Aj;exact⟨h0,(A3 Aj hlrOf_0)⟩) λ_=>by kernel_rfl
abbrev rOf(n:Int):Num:=D6 n
def Apy:FT [.int .i64] [.sv .num]:=λx=>some (rOf x)
theorem Bd3{x:Int}(hx:inI x)(h0:¬x=0):max2 (Int.tmod x 10) (wr .i64 (0-Int.tmod x 10))=((x.natAbs % 10:Nat):Int)/\inI (wr .i64 (Int.tdiv x 10))/\(wr .i64 (Int.tdiv x 10)).natAbs=x.natAbs / 10:=by
 simp only[inI] at *;rcases Int.natAbs_eq x with h|h
 ·generalize x.natAbs=a at h;subst h;have e1:Int.tmod (a:Int) 10=((a % 10:Nat):Int):=rfl;have e2:Int.tdiv (a:Int) 10=((a / 10:Nat):Int):=rfl;rw[e1,e2,Bd (by simp only[inI];omega),Bd (by simp only[inI];omega)];refine⟨?_,by omega,by omega⟩;simp only[max2];split<;>omega
 ·generalize x.natAbs=a at h;subst h;have e1:Int.tmod (-(a:Int)) 10 = -((a % 10:Nat):Int):=by rw[Int.neg_tmod];rfl
  have e2:Int.tdiv (-(a:Int)) 10 = -((a / 10:Nat):Int):=by rw[Int.neg_tdiv];rfl
  rw[e1,e2,Bd (by simp only[inI];omega),Bd (by simp only[inI];omega)];refine⟨?_,by omega,by omega⟩;simp only[max2];split<;>omega
theorem Axh{R:Type}{kx:Ex->Aev->Option R}{n:Int}{w:Num}{b:List Int->Option R}(h2:∀out x,kx (.exit 0) (n,out,x,w)=b out):∀(k:Nat) (x:Int) (out:List Int),inI x->(J9 x.natAbs).length<k->out.length+(J9 x.natAbs).length<=1000->Ak (λrec=>Aze rec kx) k (n,out,x,w)=b (out++J9 x.natAbs)
 |0,x,out,_,h,_=>by omega
 |k+1,x,out,hx,h,ho=>by
  rw[A0];simp only[Aze,h2];by_cases h0:x=0
  ·subst h0;rw[Ze1 rfl];show b out=_;rw[show(0:Int).natAbs=0 from rfl,digs_zero,List.append_nil]
  ·have hd:=Gw (n:=x.natAbs) (by omega);obtain⟨e1,e2,e3⟩:=Bd3 hx h0;rw[hd,Zf1] at h ho;have ih:=Axh h2 k (wr .i64 (Int.tdiv x 10)) (out++[((x.natAbs % 10:Nat):Int)]) e2 (by rw[e3];omega) (by rw[e3];simp only[Zh1,Zf1,Zi1];omega);rw[Zd1 h0,e1,ih,e3,Ze1 (show out.length+1<=Af by simp only[Af];omega),hd];simp[chk]
theorem Bk7{x:Int}(h:inI x):(J9 x.natAbs).length<=20:=Afq 20 _ (by
 simp only[inI] at h;have:pw 20=100000000000000000000:=by kernel_rfl
 omega)
theorem Ar7:FO 235 [.int .i64] [.sv .num] Apy :=.fin 0 Bqk λn r hb hx=>⟨21,by have hb:=Bb hb;have hl:=Bk7 hb;simp only[Apy,Za1] at hx;subst hx;simp only[Az9];refine(Axh (b:=λout=>some (H5 (decide (n<0)) out)) (λ_ _=>rfl) 21 n [] hb (by omega) (by simp only[Zi1];omega)).trans ?_;rw[Zf2,Yl (At9 _),Ayx];rfl⟩
def Ak5:Sig:=⟨43,[(2,.int .i64),(3,.int .i64),(4,.int .i64),(5,.int .i64)],[(1,.ptr 0 0)],[(0,.one (.sv .num))],1,0,0,[],[]⟩
abbrev Mk:=Int×Int×Int×Int×Num
def N8{R:Type}(rec:Mk->Option R)(kx:Ex->Mk->Option R)(v:Mk):Option R:=match v with
 |(v,v1,v2,v3,w) =>
 cond (decide (0<=v3)) (
  cond (decide (v2<(-922337203685477580))) (
  kx .ret (0,20,v2,v3,w)) (
  cond (decide (v2=(-922337203685477580))) (
   chk (inb v3 w.d.length) (
   cond (decide (8<(at' .int w.d v3))) (
    kx .ret (0,20,v2,v3,w)) (
    chk (inb v3 w.d.length) (
    rec (v,v1,(wr .i64 ((wr .i64 (10*v2))-(at' .int w.d v3))),(wr .i64 (v3-1)),w))))) (
   chk (inb v3 w.d.length) (
   rec (v,v1,(wr .i64 ((wr .i64 (10*v2))-(at' .int w.d v3))),(wr .i64 (v3-1)),w))))) (
  kx (.exit 0) (v,v1,v2,v3,w))
def Ayh(R:Type)(k:Nat):Px R:=pxO [] [] [(3,Am k Ak5 (N8))] []
def Aiw(k:Nat)(x:HV [.sv .num]):Option (HV [.int .i64,.int .i64]):=match x with
 |n =>
 Ak (λrec=>N8 rec (λe vz=>match vz with|(v4,v5,v6,_,v8)=>match e with
  |.ret =>
  some (v4,v5)
  |.exit 0 =>
  cond (v8.minus) (
   some (v6,0)) (
   cond (decide (v6=(-9223372036854775808))) (
   some (0,20)) (
   some ((wr .i64 (0-v6)),0)))
  |_=>none)) k (0,0,0,(wr .i64 ((n.d.length:Int)-1)),n)
theorem Ba8(k:Nat):FO 234 [.sv .num] [.int .i64,.int .i64] (Aiw k):=fR (px:=Ayh _ k) (n:=1) Tryz.func234 rfl (λcx H=>by have h0:Lv cx (Ayh (HV [.int .i64,.int .i64]) k):=lv H Ae Aa Ab;have hlrtold_0:=lO H h0 (b:=lp Tryz.f234 0) (k:=k) (n:=0) (s:=Ak5) (step:=N8) (λ_ _ _ (_,_,_,_,_)=>by kernel_rfl) Aj;exact⟨h0,(A3 Aj hlrtold_0)⟩) λ_=>by kernel_rfl
def Ahv(n:Num):Option (Int×Int):=cond (dg n.d) (some (Pl (nv n))) none
def Aaf:FT [.sv .num] [.int .i64,.int .i64]:=λx=>Ahv x
theorem Aky{R:Type}{kx:Ex->Mk->Option R}{n:Num}{a:Option R}{b:Int->Option R}(hd:dg n.d=true)(hn:ln n.d.length)(h1:∀x i,kx .ret (0,20,x,i,n)=a)(h2:∀p q x i,kx (.exit 0) (p,q,x,i,n)=b x):∀(k j:Nat) p q,j<=n.d.length->j<k->val (n.d.drop j)<=9223372036854775808->Ak (λrec=>N8 rec kx) k (p,q, -(val (n.d.drop j)),(j:Int)-1,n)=if val n.d<=9223372036854775808 then b (-(val n.d)) else a
 |0,j,p,q,_,h,_=>by omega
 |k+1,0,p,q,_,_,hv=>by rw[A0];simp only[N8,h2,Zq1] at hv ⊢;rw[Zd1 (by omega),if_pos hv];rfl
 |k+1,j+1,p,q,hj,h,hv=>by
  rw[A0];have hl:j<n.d.length:=by omega
  have e0:(((j+1:Nat):Int)-1)=(j:Int):=by omega
  have hs:=Mh n.d j;have hb:=P9 hd j;have hnn:=E3 (Aex (j+1) hd);have hle:=Axj hd j;have e1:wr .i64 ((j:Int)-1)=(j:Int)-1:=Bd (by simp only[inI,ln] at *;omega);rw[e0];simp only[N8,h1,Ao hl,chk,Ag,Ate hl,e1];rw[Ze1 (Int.natCast_nonneg j)];have Bdw:val (n.d.drop j) > 9223372036854775808->(if val n.d<=9223372036854775808 then b (-(val n.d)) else a)=a:=λh=>if_neg (by omega);have next:val (n.d.drop j)<=9223372036854775808->Ak (λrec=>N8 rec kx) k (p,q,wr .i64 (wr .i64 (10 * -(val (n.d.drop (j+1))))-dgt n.d j),(j:Int)-1,n)=(if val n.d<=9223372036854775808 then b (-(val n.d)) else a):=λh=>by
   have e2:wr .i64 (10 * -(val (n.d.drop (j+1))))=10 * -(val (n.d.drop (j+1))):=Bd (by simp only[inI];omega);have e3:wr .i64 (10 * -(val (n.d.drop (j+1)))-dgt n.d j) = -(val (n.d.drop j)):=by rw[Bd (by simp only[inI];omega)];omega
   rw[e2,e3];exact Aky hd hn h1 h2 k j p q (by omega) (by omega) h
  by_cases c1 : -(val (n.d.drop (j+1))) < -922337203685477580
  ·rw[Ze1 c1,Bdw (by omega)];rfl
  ·rw[Zd1 c1];by_cases c2 : -(val (n.d.drop (j+1))) = -922337203685477580
   ·rw[Ze1 c2];by_cases c3 : 8<dgt n.d j
    ·rw[Ze1 c3,Bdw (by omega)];rfl
    ·rw[Zd1 c3];exact next (by omega)
   ·rw[Zd1 c2];exact next (by omega)
theorem Ahj:FO 234 [.sv .num] [.int .i64,.int .i64] Aaf :=.fin 0 Ba8 λn r hb hx=>⟨n.d.length+1,by
 have hln:ln n.d.length:=hb.1;simp only[Aaf,Ahv] at hx;cases hd:dg n.d with
 |false=>rw[hd] at hx;cases hx
 |true =>
  rw[hd] at hx;have hx:some (Pl (nv n))=some r:=hx;rw[<-hx];have hnn:=E3 hd;have e0:wr .i64 ((n.d.length:Int)-1)=(n.d.length:Int)-1:=Bd (by simp only[inI,ln] at *;omega);simp only[Aiw,e0];have e1:(0:Int) = -(val (n.d.drop n.d.length)):=by rw[Zc2];rfl
  have e2:((0,0,0,(n.d.length:Int)-1,n):Mk)=(0,0, -(val (n.d.drop n.d.length)),(n.d.length:Int)-1,n):=by rw[<-e1]
  rw[e2];refine(Aky (a:=some (0,20)) (b:=λx=>cond n.minus (some (x,0)) (cond (decide (x = -9223372036854775808)) (some (0,20)) (some (wr .i64 (0-x),0)))) hd hln (λ_ _=>rfl) (λ_ _ _ _=>rfl) (n.d.length+1) n.d.length 0 0 (Zn1 _) (by omega) (by rw[Zc2];decide)).trans ?_
  ·by_cases hm:n.minus=true
   ·have hv:nv n = -(val n.d):=by simp only[nv,if_pos hm]
    rw[hv,hm];simp only[Ag,Pl];by_cases h:val n.d<=9223372036854775808
    ·rw[if_pos h,if_pos (by omega)]
    ·rw[if_neg h,if_neg (by omega)]
   ·have hv:nv n=val n.d:=by simp only[nv,if_neg hm]
    rw[hv,Bool.eq_false_iff.2 hm];simp only[Ai,Pl];by_cases h:val n.d<=9223372036854775808
    ·rw[if_pos h];by_cases h9:val n.d=9223372036854775808
     ·rw[h9];rfl
     ·rw[Zd1 (by omega),if_pos (by omega),Bd (by simp only[inI];omega)];simp
    ·rw[if_neg h,if_neg (by omega)]⟩
def Af3:Sig:=⟨30,[(0,.sl .int false),(1,.sl .int false),(4,.bool),(5,.int .i64)],[],[],0,0,0,[],[]⟩
abbrev Rb:=List Int×List Int×Bool×Int
def Rw{R:Type}(rec:Rb->Option R)(kx:Ex->Rb->Option R)(v:Rb):Option R:=match v with
 |(v,v1,v2,v3) =>
 cond (decide (0<=v3)) (
  (Ih v v3).bind λx =>
  (Ih v1 v3).bind λx1 =>
   cond (!decide (x=x1)) (
   (Ih v v3).bind λx2 =>
    (Ih v1 v3).bind λx3 =>
    kx .ret (v,v1,decide (x2<x3),v3)) (
   rec (v,v1,v2,(wr .i64 (v3-1))))) (
  kx (.exit 0) (v,v1,v2,v3))
def Au8(R:Type)(k:Nat):Px R:=pxO [(270,cA Qv)] [] [(2,Am k Af3 (Rw))] []
def Ajc(k:Nat)(x:HV [.sl .int false,.sl .int false]):Option (HV [.bool]):=match x with
 |(a,b) =>
 Ak (λrec=>Rw rec (λe vz=>match vz with|(_,_,v6,_)=>match e with
  |.ret =>
  some v6
  |.exit 0 =>
  some false
  |_=>none)) k (a,b,false,(wr .i64 ((max2 (a.length:Int) (b.length:Int))-1)))
theorem Bba(k:Nat):FO 271 [.sl .int false,.sl .int false] [.bool] (Ajc k):=fR (px:=Au8 _ k) (n:=1) Tryz.func271 rfl (λcx H=>by have h0:Lv cx (Au8 (HV [.bool]) k):=lv H (c1 H Abo Ae) Aa Ab;have hlrless_0:=lO H h0 (b:=lp Tryz.f271 0) (k:=k) (n:=0) (s:=Af3) (step:=Rw) (λ_ _ _ (_,_,_,_)=>by kernel_rfl) Aj;exact⟨h0,(A3 Aj hlrless_0)⟩) λ(_,_)=>by kernel_rfl
def Av2(a b:List Int):Option Bool:=cond (dg a&&dg b) (some (decide (val a<val b))) none
def Atd:FT [.sl .int false,.sl .int false] [.bool]:=λx=>Av2 x.1 x.2
theorem Agv{R:Type}{kx:Ex->Rb->Option R}{a b:List Int}{c:Bool->Option R}(ha:dg a=true)(hb:dg b=true)(h1:∀p i,kx .ret (a,b,p,i)=c p)(h2:∀p i,kx (.exit 0) (a,b,p,i)=c false):∀(k j:Nat) (p:Bool),ln j->j<k->val (a.drop j)=val (b.drop j)->Ak (λrec=>Rw rec kx) k (a,b,p,(j:Int)-1)=c (decide (val a<val b))
 |0,j,p,_,h,_=>absurd h (Zm1 _)
 |k+1,0,p,_,_,hv=>by rw[A0];simp only[Zq1] at hv;simp only[Rw,h2];rw[Zd1 (by omega),Zd1 (by omega)];rfl
 |k+1,j+1,p,hj,h,hv=>by
  rw[A0];have e0:(((j+1:Nat):Int)-1)=(j:Int):=by omega
  have e1:wr .i64 ((j:Int)-1)=(j:Int)-1:=Bd (by simp only[inI,ln] at *;omega);have sa:=Mh a j;have sb:=Mh b j;rw[e0];simp only[Rw,h1,Ow,Zc1,e1];rw[Ze1 (Int.natCast_nonneg j),Ag];by_cases h0:dgt a j=dgt b j
  ·rw[Ze1 h0];exact Agv ha hb h1 h2 k j p (by simp only[ln] at *;omega) (by omega) (by omega)
  ·rw[Zd1 h0];show c _=_;obtain⟨la,a1,a2,a3⟩:=Abn ha j;obtain⟨lb,b1,b2,b3⟩:=Abn hb j;have hp:=P6 j;congr 1;refine Zy1.2 ?_;have lt:∀{x y lx ly:Int},x<y->lx<pw j->0<=ly->lx+pw j*x<ly+pw j*y:=λ{x y lx ly} hxy h3 h4=>by have:pw j*(x+1)<=pw j*y:=Int.mul_le_mul_of_nonneg_left hxy (by omega);rw[Int.mul_add,Int.mul_one] at this;omega
   constructor
   ·intro hlt;rw[a3,b3];exact lt (by omega) a2 b1
   ·intro hlt;by_cases hgt:dgt b j<dgt a j
    ·have:=lt (x:=val (b.drop j)) (y:=val (a.drop j)) (by omega) b2 a1;omega
    ·omega
theorem Bky:FO 271 [.sl .int false,.sl .int false] [.bool] Atd :=.fin 0 Bba λ(a,b) r hb hx=>⟨max a.length b.length+1,by
 have l1:ln a.length:=hb.1.1;have l2:ln b.length:=hb.2.1;simp only[Atd,Av2] at hx;cases hd:dg a&&dg b with
 |false=>rw[hd] at hx;cases hx
 |true =>
  rw[hd] at hx;simp only[Zb1] at hd;have hx:some (decide (val a<val b))=some r:=hx;rw[<-hx];have e0:wr .i64 (max2 (a.length:Int) (b.length:Int)-1)=((max a.length b.length:Nat):Int)-1:=by simp only[ln] at l1 l2;rw[Bd (by simp only[inI,max2];split<;>omega)];simp only[max2];split<;>omega
  simp only[Ajc,e0];refine Agv (c:=λp=>some p) hd.1 hd.2 (λ_ _=>rfl) (λ_ _=>rfl) (max a.length b.length+1) (max a.length b.length) false (Nat.max_le.2 ⟨l1,l2⟩) (by omega) ?_;rw[Zk1 (by omega),Zk1 (by omega)]⟩
def Ahi:Sig:=⟨99,[(5,.sl .int true),(6,.int .i64),(11,.int .i64)],[(4,.ptr 2 0),(9,.ptr 3 0),(10,.ptr 4 0)],[(2,.one (.sv .num)),(3,.one (.sv .num)),(4,.one (.sv .num))],5,0,0,[],[]⟩
abbrev Lt:=List Int×Int×Int×Num×Num×Num
def Rf{R:Type}(rec:Lt->Option R)(kx:Ex->Lt->Option R)(v:Lt):Option R:=match v with
 |(v9,b,a,w3,w4,w5) =>
 cond (decide (a<(w4.d.length:Int))) (
  chk (inb a w4.d.length) (
  (Ih w5.d a).bind λx3 =>
   chk (decide (v9.length+1<=Af)) (
   rec ((v9++[(Int.tmod (wr .i64 ((wr .i64 ((wr .i64 ((at' .int w4.d a)-x3))-b))+10)) 10)]),(wr .i64 (1-(wr .i64 (Int.tdiv (wr .i64 ((wr .i64 ((wr .i64 ((at' .int w4.d a)-x3))-b))+10)) 10)))),(wr .i64 (a+1)),w3,w4,w5)))) (
  kx (.exit 2) (v9,b,a,w3,w4,w5))
def Ah3:Sig:=⟨99,[(5,.sl .int true),(6,.int .i64),(7,.int .i64)],[(2,.ptr 0 0),(3,.ptr 1 0),(4,.ptr 2 0)],[(0,.one (.sv .num)),(1,.one (.sv .num)),(2,.one (.sv .num))],3,0,0,[],[]⟩
abbrev R6:=List Int×Int×Int×Num×Num×Num
def Yg{R:Type}(rec:R6->Option R)(kx:Ex->R6->Option R)(v:R6):Option R:=match v with
 |(v,v1,v2,w,w1,w2) =>
 let j:=λ(_:Unit) =>
  (Ih w.d v2).bind λx =>
  (Ih w1.d v2).bind λx1 =>
   chk (decide (v.length+1<=Af)) (
   rec ((v++[(Int.tmod (wr .i64 ((wr .i64 (x+x1))+v1)) 10)]),(wr .i64 (Int.tdiv (wr .i64 ((wr .i64 (x+x1))+v1)) 10)),(wr .i64 (v2+1)),w,w1,w2))
 cond (decide (v2<(w.d.length:Int))) (
  j ()) (
  cond (decide (v2<(w1.d.length:Int))) (
  j ()) (
  cond (decide (0<v1)) (
   j ()) (
   kx (.exit 0) (v,v1,v2,w,w1,w2))))
def Ax1(R:Type)(k:Nat):Px R:=pxO [(269,cA Yb),(271,cA Atd)] [(270,qA Qv)] [(5,Am k Ah3 (Yg)),(17,Am k Ahi (Rf))] []
def Al1(k:Nat)(x:HV [.sv .num,.sv .num]):Option (HV [.sv .num]):=match x with
 |(n,m) =>
 cond (decide (n.minus=m.minus)) (
  Ak (λrec=>Yg rec (λe vz=>match vz with|(v3,_,_,v6,_,_)=>match e with
  |.exit 0 =>some (H5 v6.minus v3)
  |_=>none)) k ([],0,0,n,m,(Num.mk false []))) (
  let j1:=λ(q:Num) (q1:Num) =>
  Ak (λrec=>Rf rec (λe vz=>match vz with|(a,_,_,_,b,_)=>match e with
   |.exit 2 =>
   some (H5 b.minus a)
   |_=>none)) k ([],0,0,(Num.mk false []),q,q1)
  (Av2 n.d m.d).bind λx2 =>
  cond (x2) (
   j1 m n) (
   j1 n m))
theorem Bc4(k:Nat):FO 236 [.sv .num,.sv .num] [.sv .num] (Al1 k):=fR (px:=Ax1 _ k) (n:=2) Tryz.func236 rfl (λcx H=>by have h0:Lv cx (Ax1 (HV [.sv .num]) k):=lv H (c1 H Ah9 (c1 H Bky Ae)) (q1 H Abo Aa) Ab;have hlrPlus_0:=lO H h0 (b:=lp Tryz.f236 0) (k:=k) (n:=0) (s:=Ah3) (step:=Yg) (λ_ _ _ (_,_,_,_,_,_)=>by kernel_rfl) Aj;have hlrPlus_1:=lO H h0 (b:=lp Tryz.f236 1) (k:=k) (n:=0) (s:=Ahi) (step:=Rf) (λ_ _ _ (_,_,_,_,_,_)=>by kernel_rfl) Aj;exact⟨h0,(A3 (A3 Aj hlrPlus_0) hlrPlus_1)⟩) λ(_,_)=>by kernel_rfl
def Al6(n m:Num):Option Num:=cond (okN n&&okN m) (some (D6 (nv n+nv m))) none
def Afd:FT [.sv .num,.sv .num] [.sv .num]:=λx=>Al6 x.1 x.2
theorem Aza{R:Type}{kx:Ex->R6->Option R}{n m w2:Num}{b:List Int->Option R}(hn:dg n.d=true)(hm:dg m.d=true){L:Nat}(hL:L<=1000)(h3:n.d.length<=L)(h4:m.d.length<=L)(h2:∀out c i,kx (.exit 0) (out,c,i,n,m,w2)=b out):∀(k i:Nat) (out:List Int) (c:Int),0<=c->c<=1->out.length=i->(i:Int)+c<=(L:Int)+1->2*(L-i)+c.toNat<k->dg out=true->∃D,dg (out++D)=true/\val D=val (n.d.drop i)+val (m.d.drop i)+c/\Ak (λrec=>Yg rec kx) k (out,c,(i:Int),n,m,w2)=b (out++D)
 |0,i,out,c,_,_,_,_,h,_=>by omega
 |k+1,i,out,c,c0,c1,ho,hi,hk,hd=>by
  have dn:=P9 hn i;have dm:=P9 hm i;have vn:=Mh n.d i;have vm:=Mh m.d i;rw[A0];simp only[Yg,Ow,Zc1,h2];by_cases hgo:i<n.d.length\/i<m.d.length\/0<c
  ·have hx : 0<=dgt n.d i+dgt m.d i+c/\dgt n.d i+dgt m.d i+c<=19:=by omega
   obtain⟨x,hxe⟩:∃x,x=dgt n.d i+dgt m.d i+c:=⟨_,rfl⟩;have e1:wr .i64 (wr .i64 (dgt n.d i+dgt m.d i)+c)=x:=by rw[Bd (n:=dgt n.d i+dgt m.d i) (by simp only[inI];omega),Bd (by simp only[inI];omega),hxe]
   rw[<-hxe] at hx;obtain⟨t1,t2⟩:=ten hx.1;have e2:wr .i64 (x / 10)=x / 10:=Bd (by simp only[inI];omega);have e3:wr .i64 ((i:Int)+1)=((i+1:Nat):Int):=by rw[Bd (by simp only[inI];omega)];omega
   have hdx:dg (out++[x % 10])=true:=Bhn.2 ⟨hd,D1.2 ⟨by omega,rfl⟩⟩;have hbeyond:¬i<n.d.length->¬i<m.d.length->x=c:=λa b=>by
    have z1:dgt n.d i=0:=by simp[dgt,List.getElem?_eq_none (Nat.le_of_not_lt a)]
    have z2:dgt m.d i=0:=by simp[dgt,List.getElem?_eq_none (Nat.le_of_not_lt b)]
    omega
   obtain⟨D,q1,q2,q3⟩:=Aza hn hm hL h3 h4 h2 k (i+1) (out++[x % 10]) (x / 10) (by omega) (by omega) (by simp[ho]) (by omega) (by
    by_cases a:i<L
    ·omega
    ·have:=hbeyond (by omega) (by omega);omega) hdx
   have ha:out.length+1<=Af:=by simp only[Af];omega
   rw[e1,t1,t2,e2,e3,q3,Ze1 ha];refine⟨x % 10::D,by simpa using q1,by simp only[val];omega,?_⟩;simp only[chk,Ag];have ee:out++[x % 10]++D=out++x % 10::D:=by simp
   rw[ee];by_cases a:(i:Int)<(n.d.length:Int)
   ·rw[Ze1 a];rfl
   ·rw[Zd1 a];by_cases b':(i:Int)<(m.d.length:Int)
    ·rw[Ze1 b'];rfl
    ·rw[Zd1 b',Ze1 (show 0<c by omega)];rfl
  ·refine⟨[],by simpa using hd,?_,?_⟩
   ·rw[Zk1 (by omega),Zk1 (by omega)];simp only[val];omega
   ·rw[Zd1 (show ¬(i:Int)<(n.d.length:Int) by omega),Zd1 (show ¬(i:Int)<(m.d.length:Int) by omega),Zd1 (show ¬ 0<c by omega),List.append_nil];rfl
theorem Aym{R:Type}{kx:Ex->Lt->Option R}{n m w2:Num}{b:List Int->Option R}(hn:dg n.d=true)(hm:dg m.d=true)(hL:n.d.length<=1000)(h2:∀out c i,kx (.exit 2) (out,c,i,w2,n,m)=b out):∀(k i:Nat) (out:List Int) (c:Int),0<=c->c<=1->out.length=i->i<=n.d.length->n.d.length-i<k->dg out=true->∃D cf,dg (out++D)=true/\D.length=n.d.length-i/\(0<=cf/\cf<=1)/\val D=val (n.d.drop i)-val ((m.d.drop i).take (n.d.length-i))-c+pw (n.d.length-i)*cf/\Ak (λrec=>Rf rec kx) k (out,c,(i:Int),w2,n,m)=b (out++D)
 |0,i,out,c,_,_,_,_,h,_=>by omega
 |k+1,i,out,c,c0,c1,ho,hi,hk,hd=>by
  rw[A0];simp only[Rf,Ow,Zc1,h2];by_cases hl:i<n.d.length
  ·have dn:=P9 hn i;have dm:=P9 hm i;have vn:=Mh n.d i;obtain⟨l,hle⟩:∃l,n.d.length-i=l+1:=⟨n.d.length-i-1,by omega⟩;have vm:=Bty m.d i l;obtain⟨x,hxe⟩:∃x,x=dgt n.d i-dgt m.d i-c+10:=⟨_,rfl⟩;have hx : 0<=x/\x<=19:=by omega
   have e1:wr .i64 (wr .i64 (wr .i64 (dgt n.d i-dgt m.d i)-c)+10)=x:=by rw[Bd (n:=dgt n.d i-dgt m.d i) (by simp only[inI];omega),Bd (n:=dgt n.d i-dgt m.d i-c) (by simp only[inI];omega),Bd (by simp only[inI];omega),hxe]
   obtain⟨t1,t2⟩:=ten hx.1;have e2:wr .i64 (1-wr .i64 (x / 10))=1-x / 10:=by rw[Bd (n:=x / 10) (by simp only[inI];omega),Bd (by simp only[inI];omega)]
   have e3:wr .i64 ((i:Int)+1)=((i+1:Nat):Int):=by rw[Bd (by simp only[inI];omega)];omega
   have hdx:dg (out++[x % 10])=true:=Bhn.2 ⟨hd,D1.2 ⟨by omega,rfl⟩⟩;obtain⟨D,cf,q1,q2,q3,q4,q5⟩:=Aym hn hm hL h2 k (i+1) (out++[x % 10]) (1-x / 10) (by omega) (by omega) (by simp[ho]) (by omega) (by omega) hdx;have ha:out.length+1<=Af:=by simp only[Af];omega
   have hl2:n.d.length-(i+1)=l:=by omega
   rw[hl2] at q2 q4;rw[hle,vm];rw[Ate hl,e1,t1,t2,e2,e3,q5,Ze1 ha,Ao hl,Ze1 (show(i:Int)<(n.d.length:Int) by omega)];refine⟨x % 10::D,cf,by simpa using q1,by simp[q2],q3,?_,?_⟩
   ·simp only[val,pw,Int.mul_assoc];omega
   ·have ee:out++[x % 10]++D=out++x % 10::D:=by simp
    rw[ee];rfl
  ·have e0:n.d.length-i=0:=by omega
   refine⟨[],c,by simpa using hd,by simp[e0],⟨c0,c1⟩,?_,?_⟩
   ·rw[e0,Zk1 (by omega)];simp only[List.take_zero,val,pw];omega
   ·rw[Zd1 (show ¬(i:Int)<(n.d.length:Int) by omega),List.append_nil];rfl
theorem Arq{n:Num}(h:okN n=true) : 0<=val n.d/\dg n.d=true/\n.d.length<=1000:=by obtain⟨h1,h2⟩:=Bie h;exact⟨E3 h1,h1,h2⟩
theorem Ap9{R:Type}{kx:Ex->Lt->Option R}{n m w2:Num}{b:List Int->Option R}(hn:dg n.d=true)(hm:dg m.d=true)(hL:n.d.length<=1000)(hle:val m.d<=val n.d)(h2:∀out c i,kx (.exit 2) (out,c,i,w2,n,m)=b out)(k:Nat)(hk:n.d.length<k):∃D,dg D=true/\val D=val n.d-val m.d/\Ak (λrec=>Rf rec kx) k ([],0,0,w2,n,m)=b D:=by
 obtain⟨D,cf,q1,q2,q3,q4,q5⟩:=Aym hn hm hL h2 k 0 [] 0 (by omega) (by omega) rfl (Nat.zero_le _) (by omega) rfl;rw[Zf2] at q1 q5;rw[Nat.sub_zero,Zq1,Zq1] at q4;have d1:=E3 q1;have d2:=Aix q1;rw[q2,Nat.sub_zero] at d2;have m0:=Bsk m.d n.d.length;have m1:=E3 (Ae0 n.d.length hm);have m2:=E3 (Aex n.d.length hm);have n1:=Aix hn;have hp:=P6 n.d.length;have hz:val (m.d.drop n.d.length)=0:=by
  rcases Int.le_iff_lt_or_eq.1 m2 with h|h
  ·exfalso;have:pw n.d.length*1<=pw n.d.length*val (m.d.drop n.d.length):=Int.mul_le_mul_of_nonneg_left (by omega) (by omega);omega
  ·exact h.symm
 rw[hz,Int.mul_zero,Int.add_zero] at m0;rw[<-m0] at q4;have hc:cf=0:=by
  rcases(by omega:cf=0\/cf=1) with h|h
  ·exact h
  ·rw[h,Int.mul_one] at q4;omega
 rw[hc,Int.mul_zero] at q4;exact⟨D,q1,by omega,q5⟩
theorem Aws:FO 236 [.sv .num,.sv .num] [.sv .num] Afd :=.fin 0 Bc4 λ(n,m) r hb hx=>⟨2002,by
 simp only[Afd,Al6] at hx;cases hd:okN n&&okN m with
 |false=>rw[hd] at hx;cases hx
 |true =>
  rw[hd] at hx;have hx:some (D6 (nv n+nv m))=some r:=hx;rw[<-hx];simp only[Zb1] at hd;obtain⟨n0,n1,n2⟩:=Arq hd.1;obtain⟨m0,m1,m2⟩:=Arq hd.2;simp only[Al1];by_cases hs:n.minus=m.minus
  ·rw[Ze1 hs];obtain⟨D,q1,q2,q3⟩:=Aza (w2:=Num.mk false []) (kx:=λe v=>match v with|(v3,_,_,v6,_,_)=>match e with|.exit 0=>some (H5 v6.minus v3)|_=>none) (b:=λout=>some (H5 n.minus out)) n1 m1 (L:=max n.d.length m.d.length) (Nat.max_le.2 ⟨n2,m2⟩) (Nat.le_max_left _ _) (Nat.le_max_right _ _) (λ_ _ _=>rfl) 2002 0 [] 0 (by omega) (by omega) rfl (by omega) (by have:=Nat.max_le.2 ⟨n2,m2⟩;simp only[Nat.sub_zero,Int.toNat_zero];omega) rfl;refine q3.trans ?_;rw[Zf2] at q1 ⊢;simp only[Zq1] at q2;rw[Yl q1,Arm _ (E3 q1),q2];simp only[nv,<-hs];by_cases hm:n.minus=true
   ·simp only[if_pos hm];congr 2;omega
   ·simp only[if_neg hm];congr 2;omega
  ·rw[Zd1 hs];have hl:Av2 n.d m.d=some (decide (val n.d<val m.d)):=by simp only[Av2,n1,m1];rfl
   simp only[hl,Zc1,Ai];by_cases hlt:val n.d<val m.d
   ·rw[Ze1 hlt];obtain⟨D,q1,q2,q3⟩:=Ap9 (w2:=Num.mk false []) (kx:=λe v=>match v with|(a,_,_,_,c,_)=>match e with|.exit 2=>some (H5 c.minus a)|_=>none) (b:=λout=>some (H5 m.minus out)) m1 n1 m2 (by omega) (λ_ _ _=>rfl) 2002 (by omega);refine q3.trans ?_;rw[Yl q1,Arm _ (E3 q1),q2];simp only[nv];cases hm:m.minus<;>cases hn:n.minus<;>first|(exact absurd (hn.trans hm.symm) hs)|(simp only[Zj2,if_false,if_true];congr 2<;>omega)
   ·rw[Zd1 hlt];obtain⟨D,q1,q2,q3⟩:=Ap9 (w2:=Num.mk false []) (kx:=λe v=>match v with|(a,_,_,_,c,_)=>match e with|.exit 2=>some (H5 c.minus a)|_=>none) (b:=λout=>some (H5 n.minus out)) n1 m1 n2 (by omega) (λ_ _ _=>rfl) 2002 (by omega);refine q3.trans ?_;rw[Yl q1,Arm _ (E3 q1),q2];simp only[nv];cases hm:m.minus<;>cases hn:n.minus<;>first|(exact absurd (hn.trans hm.symm) hs)|(simp only[Zj2,if_false,if_true];congr 2<;>omega)⟩
def Ade:Sig:=⟨72,[(6,.int .i64),(7,.int .i64),(8,.int .i64)],[(2,.ptr 0 0),(3,.ptr 1 0),(4,.ptr 2 0)],[(0,.one (.sv .num)),(1,.one (.sv .num)),(2,.one (.sv .num)),(3,.one (.dn .int))],4,0,0,[],[(5,3,.int)]⟩
abbrev N3:=Int×Int×Int×Num×Num×Num×List Int×Int×Int
def Qt{R:Type}(rec:N3->Option R)(kx:Ex->N3->Option R)(v:N3):Option R:=match v with
 |(v1,v2,v3,w6,w7,w8,w9,a,b) =>
 let j:=λ(_:Unit) =>
  chk (inO (wr .i64 (v1+v3)) b) (
  chk (inb (a+(wr .i64 (v1+v3))) w9.length) (
   chk (inb v1 w6.d.length) (
   (Ih w7.d v3).bind λx =>
    chk (inO (wr .i64 (v1+v3)) b) (
    chk (inb (a+(wr .i64 (v1+v3))) w9.length) (
     rec (v1,(wr .i64 (Int.tdiv (wr .i64 ((wr .i64 ((at' .int w9 (a+(wr .i64 (v1+v3))))+(wr .i64 ((at' .int w6.d v1)*x))))+v2)) 10)),(wr .i64 (v3+1)),w6,w7,w8,(w9.set ((a+(wr .i64 (v1+v3))):Int).toNat (Int.tmod (wr .i64 ((wr .i64 ((at' .int w9 (a+(wr .i64 (v1+v3))))+(wr .i64 ((at' .int w6.d v1)*x))))+v2)) 10)),a,b))))))
 cond (decide (v3<(w7.d.length:Int))) (
  j ()) (
  cond (decide (0<v2)) (
  j ()) (
  kx (.exit 2) (v1,v2,v3,w6,w7,w8,w9,a,b)))
def Aee:Sig:=⟨72,[(6,.int .i64)],[(2,.ptr 0 0),(3,.ptr 1 0),(4,.ptr 2 0)],[(0,.one (.sv .num)),(1,.one (.sv .num)),(2,.one (.sv .num)),(3,.one (.dn .int))],4,0,0,[],[(5,3,.int)]⟩
abbrev Ot:=Int×Num×Num×Num×List Int×Int×Int
def Ie{R:Type}(k:Nat)(rec:Ot->Option R)(kx:Ex->Ot->Option R)(v:Ot):Option R:=match v with
 |(v,w,w1,w2,w3,w4,w5) =>
 cond (decide (v<(w.d.length:Int))) (
  Ak (λrc=>Qt rc (λe vz=>match vz with|(v4,_,_,v7,v8,v9,a,b,c)=>match e with
  |.exit 2 =>rec ((wr .i64 (v4+1)),v7,v8,v9,a,b,c)
  |_=>none)) k (v,0,0,w,w1,w2,w3,w4,w5)) (
  kx (.exit 0) (v,w,w1,w2,w3,w4,w5))
def Am1(R:Type)(k:Nat):Px R:=pxO [(269,cA Yb)] [(270,qA Qv)] [(7,Am k Ade (Qt)),(3,Am k Aee (Ie k))] []
def Ady(k:Nat)(x:HV [.sv .num,.sv .num]):Option (HV [.sv .num]):=match x with
 |(n,m) =>
 chk (upI 0 (wr .i64 ((wr .i64 ((n.d.length:Int)+(m.d.length:Int)))+1)) (wr .i64 ((wr .i64 ((n.d.length:Int)+(m.d.length:Int)))+1))&&decide ((wr .i64 ((wr .i64 ((n.d.length:Int)+(m.d.length:Int)))+1))<=(Af:Int))) (
  Ak (λrec=>Ie k rec (λe vz=>match vz with|(_,f,g,_,c,a,b)=>match e with
  |.exit 0 =>
   chk (decide ((0:Int)<=a)&&decide ((0:Int)<=b)&&decide ((a+b)<=(c.length:Int))) (
   some (H5 (!decide (f.minus=g.minus)) (cut c a (a+b))))
  |_=>none)) k (0,n,m,(Num.mk false []),(List.replicate ((wr .i64 ((wr .i64 ((n.d.length:Int)+(m.d.length:Int)))+1)):Int).toNat (zer .int)),0,(wr .i64 ((wr .i64 ((n.d.length:Int)+(m.d.length:Int)))+1))))
theorem A2t(k:Nat):FO 237 [.sv .num,.sv .num] [.sv .num] (Ady k):=fR (px:=Am1 _ k) (n:=2) Tryz.func237 rfl (λcx H=>by have h0:Lv cx (Am1 (HV [.sv .num]) k):=lv H (c1 H Ah9 Ae) (q1 H Abo Aa) Ab;have hlrTimes_1:=lO H h0 (b:=lpC (lp Tryz.f237 0) 0) (k:=k) (n:=0) (s:=Ade) (step:=Qt) (λ_ _ _ (_,_,_,_,_,_,_,_,_)=>by kernel_rfl) Aj;have hlrTimes_0:=lO H h0 (b:=lp Tryz.f237 0) (k:=k) (n:=1) (s:=Aee) (step:=Ie k) (λ_ _ _ (_,_,_,_,_,_,_)=>by kernel_rfl) (A3 Aj hlrTimes_1);exact⟨h0,(A3 (A3 Aj hlrTimes_0) hlrTimes_1)⟩) λ(_,_)=>by kernel_rfl
def Ah4(n m:Num):Option Num:=cond (okN n&&okN m) (some (D6 (nv n*nv m))) none
def Ajd:FT [.sv .num,.sv .num] [.sv .num]:=λx=>Ah4 x.1 x.2
theorem Ara(l:List Int)(j:Nat):val (l.take (j+1))=val (l.take j)+pw j*dgt l j:=by
 by_cases h:j<l.length
 ·exact Bg4 l j h
 ·have z:dgt l j=0:=by simp[dgt,List.getElem?_eq_none (Nat.le_of_not_lt h)]
  rw[z,Int.mul_zero,Int.add_zero,List.take_of_length_le (by omega),List.take_of_length_le (by omega)]
theorem An6{R:Type}{kx:Ex->N3->Option R}{n m w8:Num}{b:List Int->Option R}(hn:dg n.d=true)(hm:dg m.d=true){i N:Nat}{V:Int}(hi:i<n.d.length)(hN:N=n.d.length+m.d.length+1)(hN2:N<=2001)(hT:V+pw i*(dgt n.d i*val m.d)<pw (i+1+m.d.length))(h2:∀c j d,kx (.exit 2) ((i:Int),c,j,n,m,w8,d,0,(N:Int))=b d):∀(k j:Nat) (c:Int) (d:List Int),0<=c->c<=9->j<=m.d.length+1->m.d.length+1-j<k->dg d=true->d.length=N->val d+c*pw (i+j)=V+pw i*(dgt n.d i*val (m.d.take j))->∃D,dg D=true/\D.length=N/\val D=V+pw i*(dgt n.d i*val m.d)/\Ak (λrec=>Qt rec kx) k ((i:Int),c,(j:Int),n,m,w8,d,0,(N:Int))=b D
 |0,j,c,d,_,_,_,h,_,_,_=>absurd h (Zm1 _)
 |k+1,j,c,d,c0,c9,hj,hk,hd,hl,hv=>by
  have dn:=P9 hn i;have dm:=P9 hm j;have dd:=P9 hd (i+j);have hdn:=E3 hd;rw[A0];have stop : 0<c->m.d.length<=j->j=m.d.length:=λh1 h3=>by
   rw[List.take_of_length_le h3] at hv;rcases Nat.lt_or_ge m.d.length j with h|h
   ·exfalso;have h4:=A4t (show i+1+m.d.length<=i+j by omega);have h5 : 1*pw (i+j)<=c*pw (i+j):=Int.mul_le_mul_of_nonneg_right (by omega) (by have:=P6 (i+j);omega);omega
   ·omega
  simp only[Qt,Ow,Zc1,h2];by_cases hgo:j<m.d.length\/0<c
  ·have hjm:j<=m.d.length:=by
    rcases hgo with h|h
    ·omega
    ·rcases Nat.lt_or_ge j m.d.length with h3|h3
     ·omega
     ·have:=stop h h3;omega
   have hpr:dgt n.d i*dgt m.d j<=9*9:=Int.mul_le_mul dn.2 dm.2 dm.1 (by omega);have hpr0 : 0<=dgt n.d i*dgt m.d j:=Int.mul_nonneg dn.1 dm.1;obtain⟨p,hp⟩:∃p,p=dgt n.d i*dgt m.d j:=⟨_,rfl⟩;obtain⟨x,hxe⟩:∃x,x=dgt d (i+j)+p+c:=⟨_,rfl⟩;rw[<-hp] at hpr hpr0;have hx : 0<=x/\x<=99:=by omega
   have e1:wr .i64 (wr .i64 (dgt d (i+j)+wr .i64 (dgt n.d i*dgt m.d j))+c)=x:=by rw[<-hp,Bd (n:=p) (by simp only[inI];omega),Bd (n:=dgt d (i+j)+p) (by simp only[inI];omega),Bd (by simp only[inI];omega),hxe]
   obtain⟨t1,t2⟩:=ten hx.1;have e2:wr .i64 (x / 10)=x / 10:=Bd (by simp only[inI];omega);have e3:wr .i64 ((j:Int)+1)=((j+1:Nat):Int):=by rw[Bd (by simp only[inI];omega)];omega
   have e4:wr .i64 ((i:Int)+(j:Int))=((i+j:Nat):Int):=by rw[Bd (by simp only[inI];omega)];omega
   have hlt:i+j<d.length:=by omega
   have e5:inO ((i+j:Nat):Int) (N:Int)=true:=by simp only[inO,Zb1,Zg1];omega
   have hvs:=Bng d (x % 10) (i+j) hlt;have hvt:=Ara m.d j;have hpa:=A1a i j;obtain⟨D,q1,q2,q3,q4⟩:=An6 hn hm hi hN hN2 hT h2 k (j+1) (x / 10) (d.set (i+j) (x % 10)) (by omega) (by omega) (by omega) (by omega) (Bsi (by omega) (i+j) hd) (by simpa using hl) (by
    rw[hvs,hvt,show i+(j+1)=i+j+1 by omega];simp only[pw];have hq:x=10*(x / 10)+x % 10:=by omega
    generalize x / 10=q at hq;generalize x % 10=r at hq;generalize pw (i+j)=P at *;generalize pw i=A at *;generalize pw j=B at *
    grind)
   refine⟨D,q1,q2,q3,?_⟩;rw[e4,Int.zero_add,e5,Ao hlt,Ao hi,Ate hlt,Ate hi,e1,t1,t2,e2,e3,Int.toNat_natCast,q4];by_cases a:(j:Int)<(m.d.length:Int)
   ·rw[Ze1 a];rfl
   ·rw[Zd1 a,Ze1 (show 0<c by omega)];rfl
  ·refine⟨d,hd,hl,?_,?_⟩
   ·have hc:c=0:=by omega
    rw[List.take_of_length_le (by omega),hc,Int.zero_mul,Int.add_zero] at hv;exact hv
   ·rw[Zd1 (show ¬(j:Int)<(m.d.length:Int) by omega),Zd1 (show ¬ 0<c by omega)];rfl
theorem Bqd{x y p q:Int}(hx : 0<=x)(hy : 0<=y)(h1:x<p)(h2:y<q):x*y<p*q:=by have h3:x*y<=p*y:=Int.mul_le_mul_of_nonneg_right (by omega) hy;have h4:p*y<p*q:=Int.mul_lt_mul_of_pos_left h2 (by omega);omega
theorem Aje{R:Type}{kx:Ex->Ot->Option R}{n m w:Num}{b:List Int->Option R}(hn:dg n.d=true)(hm:dg m.d=true){N K:Nat}(hN:N=n.d.length+m.d.length+1)(hN2:N<=2001)(hK:m.d.length+1<K)(h2:∀i d,kx (.exit 0) (i,n,m,w,d,0,(N:Int))=b d):∀(k i:Nat) (d:List Int),i<=n.d.length->n.d.length-i<k->dg d=true->d.length=N->val d=val (n.d.take i)*val m.d->∃D,dg D=true/\D.length=N/\val D=val n.d*val m.d/\Ak (λrec=>Ie K rec kx) k ((i:Int),n,m,w,d,0,(N:Int))=b D
 |0,i,d,_,h,_,_,_=>absurd h (Zm1 _)
 |k+1,i,d,hi,hk,hd,hl,hv=>by
  rw[A0];by_cases hlt:i<n.d.length
  ·have hvt:=Ara n.d i;have hmul:val d+pw i*(dgt n.d i*val m.d)=val (n.d.take (i+1))*val m.d:=by rw[hv,hvt,Int.add_mul,Int.mul_assoc]
   have hT:val d+pw i*(dgt n.d i*val m.d)<pw (i+1+m.d.length):=by rw[hmul,A1a];have l1:=Aix (Ae0 (i+1) hn);rw[List.length_take,Nat.min_eq_left (by omega)] at l1;exact Bqd (E3 (Ae0 (i+1) hn)) (E3 hm) l1 (Aix hm)
   obtain⟨D,q1,q2,q3,q4⟩:=An6 (w8:=w) (kx:=λe v=>match v with|(v4,_,_,v7,v8,v9,a,c,f)=>match e with|.exit 2=>Ak (λrec=>Ie K rec kx) k ((wr .i64 (v4+1)),v7,v8,v9,a,c,f)|_=>none) (b:=λd=>Ak (λrec=>Ie K rec kx) k (wr .i64 ((i:Int)+1),n,m,w,d,0,(N:Int))) hn hm hlt hN hN2 hT (λ_ _ _=>rfl) K 0 0 d (by omega) (by omega) (Nat.zero_le _) (by omega) hd hl (by simp[val]);have e3:wr .i64 ((i:Int)+1)=((i+1:Nat):Int):=by rw[Bd (by simp only[inI];omega)];omega
   obtain⟨E,r1,r2,r3,r4⟩:=Aje hn hm hN hN2 hK h2 k (i+1) D (by omega) (by omega) q1 q2 (q3.trans hmul);refine⟨E,r1,r2,r3,?_⟩;simp only[Ie];rw[Ze1 (show(i:Int)<(n.d.length:Int) by omega)];rw[e3] at q4;exact q4.trans r4
  ·refine⟨d,hd,hl,?_,?_⟩
   ·rw[hv,List.take_of_length_le (by omega)]
   ·simp only[Ie,h2];rw[Zd1 (show ¬(i:Int)<(n.d.length:Int) by omega)];rfl
theorem A9l:FO 237 [.sv .num,.sv .num] [.sv .num] Ajd :=.fin 0 A2t λ(n,m) r hb hx=>⟨1003,by
 simp only[Ajd,Ah4] at hx;cases hd:okN n&&okN m with
 |false=>rw[hd] at hx;cases hx
 |true =>
  rw[hd] at hx;have hx:some (D6 (nv n*nv m))=some r:=hx;rw[<-hx];simp only[Zb1] at hd;obtain⟨n0,n1,n2⟩:=Arq hd.1;obtain⟨m0,m1,m2⟩:=Arq hd.2;obtain⟨N,hN⟩:∃N,N=n.d.length+m.d.length+1:=⟨_,rfl⟩;have e1:wr .i64 (wr .i64 ((n.d.length:Int)+(m.d.length:Int))+1)=(N:Int):=by rw[Bd (n:=(n.d.length:Int)+(m.d.length:Int)) (by simp only[inI];omega),Bd (by simp only[inI];omega)];omega
  have e2:(upI 0 (N:Int) (N:Int)&&decide ((N:Int)<=(Af:Int)))=true:=by
   have h1:(N:Int)<=(Af:Int):=by simp only[Af];omega
   rw[Ze1 h1];simp only[upI];rw[Ze1 (Int.le_refl 0),Ze1 (Int.natCast_nonneg N),Ze1 (Int.le_refl (N:Int))];rfl
  obtain⟨D,q1,q2,q3,q4⟩:=Aje (w:=Num.mk false []) (kx:=λe v=>match v with|(_,g,h,_,f,a,c)=>match e with|.exit 0=>chk (decide ((0:Int)<=a)&&decide ((0:Int)<=c)&&decide ((a+c)<=(f.length:Int))) (some (H5 (!decide (g.minus=h.minus)) (cut f a (a+c))))|_=>none) (b:=λd=>chk (decide ((0:Int)<=0)&&decide ((0:Int)<=(N:Int))&&decide ((0+(N:Int))<=(d.length:Int))) (some (H5 (!decide (n.minus=m.minus)) (cut d 0 (0+(N:Int)))))) n1 m1 hN (by omega) (K:=1003) (by omega) (λ_ _=>rfl) 1003 0 (List.replicate N 0) (Nat.zero_le _) (by omega) (Bup N) (by simp) (by simp[Bp5,val]);simp only[Ady,e1,e2,Int.toNat_natCast,Bjj];refine q4.trans ?_;have hcut:cut D 0 (0+(N:Int))=D:=by simp only[cut,Int.zero_add,Int.toNat_natCast,Int.toNat_zero,Zq1,Nat.sub_zero];exact List.take_of_length_le (by omega)
  rw[hcut,Ze1 (Int.le_refl 0),Ze1 (Int.natCast_nonneg N),Ze1 (show(0+(N:Int))<=(D.length:Int) by omega),Yl q1,Arm _ (E3 q1),q3];simp only[nv];cases n.minus<;>cases m.minus<;>simp[chk,Int.neg_mul,Int.mul_neg]⟩
theorem Bwd:pw 40=10000000000000000000000000000000000000000:=by kernel_rfl
theorem Brp{z:Int}(h : -10000000000000000000000000000000000000000<z/\z<10000000000000000000000000000000000000000):okN (D6 z)=true:=okZ (by have:=A4t (show 40<=1000 by omega);rw[Bwd] at this;omega)
theorem A61{a b:Int}(ha:okN (D6 a)=true)(hb:okN (D6 b)=true):Al6 (D6 a) (D6 b)=some (D6 (a+b)):=by simp only[Al6,ha,hb,Btv];rfl
theorem Bfe{a b:Int}(ha:okN (D6 a)=true)(hb:okN (D6 b)=true):Ah4 (D6 a) (D6 b)=some (D6 (a*b)):=by simp only[Ah4,ha,hb,Btv];rfl
theorem Afa(z:Int):Ahv (D6 z)=some (Pl z):=by have h:dg (D6 z).d=true:=At9 _;simp only[Ahv,h,Btv];rfl
theorem Bgr(z:Int):(⟨!(D6 z).minus&&decide (0<((D6 z).d.length:Int)),(D6 z).d⟩:Num)=D6 (-z):=by
 by_cases h0:z=0
 ·subst h0;have e:J9 ((0:Int).natAbs:Int).toNat=[]:=digs_zero;simp only[D6,Amy,e,Int.neg_zero];simp
 ·have hd:=Gw (n:=z.natAbs) (by omega);have e:D6 z=⟨decide (z<0),J9 z.natAbs⟩:=by simp only[D6,Amy,Int.toNat_natCast];rw[Ze1 (show(0:Int)<(z.natAbs:Int) by omega),Bool.and_true]
  have e':D6 (-z)=⟨decide (-z<0),J9 z.natAbs⟩:=by simp only[D6,Amy,Int.toNat_natCast,Int.natAbs_neg];rw[Ze1 (show(0:Int)<(z.natAbs:Int) by omega),Bool.and_true]
  rw[e,e',hd];have hl:decide ((0:Int)<((((z.natAbs % 10:Nat):Int)::J9 (z.natAbs / 10)).length:Int))=true:=Ze1 (by simp only[Zf1];omega);simp only[hl,Bool.and_true];by_cases h:z<0
  ·rw[Ze1 h,Zd1 (show ¬ -z<0 by omega)];rfl
  ·rw[Zd1 h,Ze1 (show -z<0 by omega)];rfl
theorem Ayq{z:Int}(h:inI z):okN (D6 z)=true:=Brp (by simp only[inI] at h;omega)
def Bo4(R:Type):Px R:=pxO [(235,cA Apy),(236,cA Afd),(234,cA Aaf)] [] [] []
def Api(x:HV [.int .i64,.int .i64]):Option (HV [.int .i64,.int .i64]):=match x with
 |(a,b) =>
 (Al6 (rOf a) (rOf b)).bind λx =>
  (Ahv x).bind λ(x1,x2) =>
  some (x1,x2)
theorem Bii:FO 194 [.int .i64,.int .i64] [.int .i64,.int .i64] (Api):=fR (px:=Bo4 _) (n:=0) Tryz.func194 rfl (λ_ H=>⟨lv H (c1 H Ar7 (c1 H Aws (c1 H Ahj Ae))) Aa Ab,Aj⟩) λ(_,_)=>by kernel_rfl
abbrev Aux(a b:Int):Int×Int:=Pl (a+b)
def A21:FT [.int .i64,.int .i64] [.int .i64,.int .i64]:=λx=>some (Aux x.1 x.2)
theorem Bqu:FO 194 [.int .i64,.int .i64] [.int .i64,.int .i64] A21 :=.fin0 Bii λ(a,b) r hb hx=>by have ha:=Ayq (Bb hb.1);have hb':=Ayq (Bb hb.2);simp only[A21,Za1] at hx;subst hx;simp only[Api,rOf,A61 ha hb',Zc1,Afa]
def Bqm(R:Type):Px R:=pxO [(235,cA Apy)] [(235,qA Apy),(236,qA Afd),(234,qA Aaf)] [] []
def Arc(x:HV [.int .i64,.int .i64]):Option (HV [.int .i64,.int .i64]):=match x with
 |(a,b) =>
 let j:=λ(p:Bool) =>
  (Al6 (rOf a) (Num.mk p ((rOf b).d))).bind λx =>
  (Ahv x).bind λ(x1,x2) =>some (x1,x2)
 cond (!((rOf b).minus)) (
  j (decide (0<(((rOf b).d).length:Int)))) (
  j false)
theorem Bk9:FO 195 [.int .i64,.int .i64] [.int .i64,.int .i64] (Arc):=fR (px:=Bqm _) (n:=0) Tryz.func195 rfl (λ_ H=>⟨lv H (c1 H Ar7 Ae) (q1 H Ar7 (q1 H Aws (q1 H Ahj Aa))) Ab,Aj⟩) λ(_,_)=>by kernel_rfl
abbrev Atq(a b:Int):Int×Int:=Pl (a-b)
def A1z:FT [.int .i64,.int .i64] [.int .i64,.int .i64]:=λx=>some (Atq x.1 x.2)
theorem Bnv:FO 195 [.int .i64,.int .i64] [.int .i64,.int .i64] A1z :=.fin0 Bk9 λ(a,b) r hb hx=>by have ha:=Ayq (Bb hb.1);have hb1:=Bb hb.2;have hb':okN (D6 (-b))=true:=Brp (by simp only[inI] at hb1;omega);have hn:=Bgr b;simp only[A1z,Za1] at hx;subst hx;have e:Al6 (D6 a) (D6 (-b))=some (D6 (a-b)):=(A61 ha hb').trans (by rw[Int.sub_eq_add_neg]);simp only[Arc,rOf];cases hm:(D6 b).minus with|true =>simp only[hm,Zt1,Bool.false_and] at hn;simp only[Zt1,Ai,hn,e,Zc1,Afa]|false =>simp only[hm,Zs1,Bool.true_and] at hn;simp only[Zs1,Ag,hn,e,Zc1,Afa]
def Bqa(R:Type):Px R:=pxO [(235,cA Apy),(237,cA Ajd),(234,cA Aaf)] [] [] []
def Ap1(x:HV [.int .i64,.int .i64]):Option (HV [.int .i64,.int .i64]):=match x with
 |(a,b) =>
 (Ah4 (rOf a) (rOf b)).bind λx =>
  (Ahv x).bind λ(x1,x2) =>
  some (x1,x2)
theorem Bh0:FO 196 [.int .i64,.int .i64] [.int .i64,.int .i64] (Ap1):=fR (px:=Bqa _) (n:=0) Tryz.func196 rfl (λ_ H=>⟨lv H (c1 H Ar7 (c1 H A9l (c1 H Ahj Ae))) Aa Ab,Aj⟩) λ(_,_)=>by kernel_rfl
abbrev Azq(a b:Int):Int×Int:=Pl (a*b)
def A31:FT [.int .i64,.int .i64] [.int .i64,.int .i64]:=λx=>some (Azq x.1 x.2)
theorem Bof:FO 196 [.int .i64,.int .i64] [.int .i64,.int .i64] A31 :=.fin0 Bh0 λ(a,b) r hb hx=>by have ha:=Ayq (Bb hb.1);have hb':=Ayq (Bb hb.2);simp only[A31,Za1] at hx;subst hx;simp only[Ap1,rOf,Bfe ha hb',Zc1,Afa]
theorem Ad1:∀(l:List Xpr) (m:Int),(∀x,x∈l->∀m,A5 x m=true->wfx x=true)->erights l m=true->wfl l=true
 |[],_,_,_=>rfl
 |x::l,m,hx,h=>by simp only[erights,Zb1] at h;simp only[wfl,hx x (.head _) m h.1,Ad1 l m (λy hy=>hx y (.tail _ hy)) h.2,Bool.and_self]
theorem Ayw:∀(n:Nat) (e:Xpr) (m:Int),Aw e<=n->A5 e m=true->wfx e=true
 |0,e,_,h,_=>by have:=Cn e;omega
 |n+1,e,m,h,hr=>by obtain⟨hp,_,hs⟩:=Gm hr;rw[A00,Ze1 hp,Bool.true_and];refine Ad1 e.l _ (λx hx m h2=>Ayw n x m ?_ h2) hs;have:=A9 hx;rw[Ci] at h;omega
def Bpp(R:Type):Px R:=pxO [(143,cA X0),(142,cA Ae7),(41,cA Bi2),(145,cA Bi0),(194,cA A21),(195,cA A1z),(196,cA A31)] [(143,qA X0)] [] []
def Aav(x:HV [.int .i64,.sv .val,.sv .val]):Option (HV [.sv .val,.int .i64]):=match x with
 |(k,a,b) =>
 cond (decide (k=4)) (
  some ((Ik (min2 (Ig a) (Ig b))),0)) (
  cond (decide (k=5)) (
  some ((Ik (max2 (Ig a) (Ig b))),0)) (
  cond (decide (a.kind=1)) (
   some ((Ik 1),0)) (
   cond (decide (b.kind=1)) (
   some ((Ik 1),0)) (
   cond (decide (k=6)) (
    some ((ris (decide ((P8 a b)=0))),0)) (
    cond (decide (k=7)) (
    some ((ris (!decide ((P8 a b)=0))),0)) (
    cond (decide (k=8)) (
     some ((ris (decide ((P8 a b)=(-1)))),0)) (
     cond (decide (k=9)) (
     some ((ris (!decide ((P8 a b)=1))),0)) (
     cond (decide (k=10)) (
      some ((ris (decide ((P8 a b)=1))),0)) (
      cond (decide (k=11)) (
      some ((ris (!decide ((P8 a b)=(-1)))),0)) (
      cond (decide (k=12)) (
       cond (!decide ((Aux a.n b.n).2=0)) (
       some ((Val.mk 0 0 []),(Aux a.n b.n).2)) (
       some ((Val.mk 3 ((Aux a.n b.n).1) []),0))) (
       cond (decide (k=13)) (
       cond (!decide ((Atq a.n b.n).2=0)) (
        some ((Val.mk 0 0 []),(Atq a.n b.n).2)) (
        some ((Val.mk 3 ((Atq a.n b.n).1) []),0))) (
       cond (decide (k=14)) (
        cond (!decide ((Azq a.n b.n).2=0)) (
        some ((Val.mk 0 0 []),(Azq a.n b.n).2)) (
        some ((Val.mk 3 ((Azq a.n b.n).1) []),0))) (
        some ((Val.mk 3 0 []),0))))))))))))))
theorem Bjc:FO 144 [.int .i64,.sv .val,.sv .val] [.sv .val,.int .i64] (Aav):=fR (px:=Bpp _) (n:=0) Tryz.func144 rfl (λ_ H=>⟨lv H (c1 H Abf (c1 H Akl (c1 H Bp4 (c1 H Blp (c1 H Bqu (c1 H Bnv (c1 H Bof Ae))))))) (q1 H Abf Aa) Ab,Aj⟩) λ(_,_,_)=>by kernel_rfl
def J8(k:Int)(a:Val)(b:Val):Val×Int :=
 cond (decide (k=4)) (
  ((Ik (min2 (Ig a) (Ig b))),0)) (
  cond (decide (k=5)) (
  ((Ik (max2 (Ig a) (Ig b))),0)) (
  cond (decide (a.kind=1)) (
   ((Ik 1),0)) (
   cond (decide (b.kind=1)) (
   ((Ik 1),0)) (
   cond (decide (k=6)) (
    ((ris (decide ((P8 a b)=0))),0)) (
    cond (decide (k=7)) (
    ((ris (!decide ((P8 a b)=0))),0)) (
    cond (decide (k=8)) (
     ((ris (decide ((P8 a b)=(-1)))),0)) (
     cond (decide (k=9)) (
     ((ris (!decide ((P8 a b)=1))),0)) (
     cond (decide (k=10)) (
      ((ris (decide ((P8 a b)=1))),0)) (
      cond (decide (k=11)) (
      ((ris (!decide ((P8 a b)=(-1)))),0)) (
      cond (decide (k=12)) (
       cond (!decide ((Aux a.n b.n).2=0)) (
       ((Val.mk 0 0 []),(Aux a.n b.n).2)) (
       ((Val.mk 3 ((Aux a.n b.n).1) []),0))) (
       cond (decide (k=13)) (
       cond (!decide ((Atq a.n b.n).2=0)) (
        ((Val.mk 0 0 []),(Atq a.n b.n).2)) (
        ((Val.mk 3 ((Atq a.n b.n).1) []),0))) (
       cond (decide (k=14)) (
        cond (!decide ((Azq a.n b.n).2=0)) (
        ((Val.mk 0 0 []),(Azq a.n b.n).2)) (
        ((Val.mk 3 ((Azq a.n b.n).1) []),0))) (
        ((Val.mk 3 0 []),0))))))))))))))
theorem Bm0(x:HV [.int .i64,.sv .val,.sv .val]):Aav x=some (J8 x.1 x.2.1 x.2.2):=by
 first
  |exact rfl
  |simp only[Aav,J8,As]
def Bhu:FT [.int .i64,.sv .val,.sv .val] [.sv .val,.int .i64]:=λx=>some (J8 x.1 x.2.1 x.2.2)
theorem Bpg:FO 144 [.int .i64,.sv .val,.sv .val] [.sv .val,.int .i64] Bhu :=.fin0 Bjc λx _ _ hx=>(Bm0 x).trans hx
def Ahb:Sig:=⟨97,[(1,.sl .col false),(2,.sl .val false),(7,.int .i64),(8,.int .i64)],[(3,.ptr 0 0),(6,.ptr 1 0)],[(0,.one (.sv .expr)),(1,.one (.sv .val))],2,0,0,[],[]⟩
abbrev L4:=List Col×List Val×Int×Int×Xpr×Val
def Kv{R:Type}(rec:L4->Option R)(kx:Ex->L4->Option R)(v:L4):Option R:=match v with
 |(v,v1,v2,v3,w,w1) =>
 cond (decide (v3<(v.length:Int))) (
  cond (decide (w.kind=2)) (
  chk (inb v3 v.length) (
   cond (decide (((at' .col v v3).name)=w.name)) (
   chk (inb v3 v1.length) (
    kx .ret (v,v1,0,v3,w,(at' .val v1 v3)))) (
   rec (v,v1,v2,(wr .i64 (v3+1)),w,w1)))) (
  kx (.exit 0) (v,v1,v2,v3,w,w1))) (
  kx (.exit 0) (v,v1,v2,v3,w,w1))
def A0b(R:Type)(k:Nat)(rf:FT [.sv .expr,.sl .col false,.sl .val false] [.sv .val,.int .i64]):Px R:=pxO [(100,cA rf),(143,cA X0),(142,cA Ae7),(144,cA Bhu),(145,cA Bi0)] [] [(4,Am k Ahb (Kv))] []
def Jv(k:Nat)(rf:FT [.sv .expr,.sl .col false,.sl .val false] [.sv .val,.int .i64])(x:HV [.sv .expr,.sl .col false,.sl .val false]):Option (HV [.sv .val,.int .i64]):=match x with
 |(e,cols,row) =>
 cond (decide (e.kind=1)) (
  some (e.v,0)) (
  Ak (λrec=>Kv rec (λe vz=>match vz with|(v4,v5,v6,_,v8,v9)=>match e with
  |.ret =>some (v9,v6)
  |.exit 0 =>
   chk (inb 0 v8.l.length) (
   (rf ((at' .expr v8.l 0),v4,v5)).bind λ(x,x1) =>
    cond (!decide (x1=0)) (
    some ((Val.mk 0 0 []),x1)) (
    cond (decide (v8.kind=3)) (
     some ((Ik (wr .i64 (2-(Ig x)))),0)) (
     cond (decide (v8.kind=15)) (
     some ((J8 13 (Val.mk 3 0 []) x).1,(J8 13 (Val.mk 3 0 []) x).2)) (
     cond (decide (v8.kind=16)) (
      some ((ris (decide (x.kind=1))),0)) (
      chk (inb 1 v8.l.length) (
      (rf ((at' .expr v8.l 1),v4,v5)).bind λ(x2,x3) =>
       cond (!decide (x3=0)) (
       some ((Val.mk 0 0 []),x3)) (
       some ((J8 v8.kind x x2).1,(J8 v8.kind x x2).2))))))))
  |_=>none)) k (cols,row,0,0,e,(Val.mk 0 0 [])))
theorem A92(k:Nat)(rf:FT [.sv .expr,.sl .col false,.sl .val false] [.sv .val,.int .i64])(hrf:FO 100 [.sv .expr,.sl .col false,.sl .val false] [.sv .val,.int .i64] rf):FO 100 [.sv .expr,.sl .col false,.sl .val false] [.sv .val,.int .i64] (Jv k rf):=fR (px:=A0b _ k rf) (n:=1) Tryz.func100 rfl (λcx H=>by have h0:Lv cx (A0b (HV [.sv .val,.int .i64]) k rf):=lv H (c1 H hrf (c1 H Abf (c1 H Akl (c1 H Bpg (c1 H Blp Ae))))) Aa Ab;have hlreval_0:=lO H h0 (b:=lp Tryz.f100 0) (k:=k) (n:=0) (s:=Ahb) (step:=Kv) (λ_ _ _ (_,_,_,_,_,_)=>by kernel_rfl) Aj;exact⟨h0,(A3 Aj hlreval_0)⟩) λ(_,_,_)=>by kernel_rfl
theorem Kn:∀(m q:Nat) (e:Xpr),m<=q->q<=30->A5 e (m:Int)=true->A5 e (q:Int)=true
 |0,q,e,_,_,h=>by rw[L8] at h;simp only[Int.natCast_zero,decide_true,Zt1,Bool.false_and,Zj2] at h
 |m+1,0,e,h,_,_=>absurd h (Nat.not_succ_le_zero m)
 |m+1,q+1,e,hq,h30,h=>by
  obtain⟨h1,h2,h3⟩:=Gm h;have w1:wr .i64 (((m+1:Nat):Int)-1)=(m:Int):=by rw[Bd (by simp only[inI];omega)];omega
  have w2:wr .i64 (((q+1:Nat):Int)-1)=(q:Int):=by rw[Bd (by simp only[inI];omega)];omega
  have mono:∀l:List Xpr,erights l (m:Int)=true->erights l (q:Int)=true:=by intro l;induction l with|nil=>exactλh=>h|cons x l ih =>intro h;simp only[erights,Zb1] at h ⊢;exact⟨Kn m q x (by omega) (by omega) h.1,ih h.2⟩
  rw[w1] at h3;rw[L8,w2,Ze1 h1,h2,mono _ h3,Zd1 (by omega)];rfl
theorem Auh{v:Val}(h:Aq v=true)(hk:v.kind=1\/v.kind=2):v=⟨1,0,[]⟩\/v=⟨2,0,[]⟩\/v=⟨2,1,[]⟩:=by
 obtain⟨k,n,s⟩:=v;simp only at hk;rcases hk with rfl|rfl
 ·left;simp[Aq] at h;simp[h]
 ·right;simp[Aq] at h;by_cases h0:n=0
  ·left;simp[h0] at h;simp[h0,h]
  ·right;simp[h0] at h;simp[h]
theorem Ace{v:Val}(h:Aq v=true)(hk:v.kind=1\/v.kind=3):v=⟨1,0,[]⟩\/v=⟨3,v.n,[]⟩:=by
 obtain⟨k,n,s⟩:=v;simp only at hk;rcases hk with rfl|rfl
 ·left;simp[Aq] at h;simp[h]
 ·right;simp[Aq] at h;simp[h]
theorem Bkh{a k:Int}:Gu a k=true↔(a=k\/a=1):=by simp only[Gu];by_cases h:a=k<;>simp[h]
theorem Ax2{e:Xpr}{cols:List Col}{a b:Int}(h:(Gf e cols a b).2=0)(h3:e.kind=3\/e.kind=4\/e.kind=5):(a=2\/a=1)/\(b=2\/b=1):=by
 simp only[Gf] at h;rw[if_neg (by omega),if_neg (by omega),if_neg (by omega),if_pos h3] at h;split at h
 ·rename_i hc;simp only[Zb1,Bkh] at hc;exact hc
 ·simp at h
theorem Ajh{e:Xpr}{cols:List Col}{a b:Int}(h:(Gf e cols a b).2=0)(h3:e.kind=12\/e.kind=13\/e.kind=14\/e.kind=15):(a=3\/a=1)/\(b=3\/b=1):=by
 simp only[Gf] at h;rw[if_neg (by omega),if_neg (by omega),if_neg (by omega),if_neg (by omega),if_pos h3] at h;split at h
 ·rename_i hc;simp only[Zb1,Bkh] at hc;exact hc
 ·simp at h
theorem Ao0(b:Bool):ris b=Dx b:=by cases b<;>kernel_rfl
theorem Bao{k:Int}(hk:k=4\/k=5){v u:Val}(hv:v=⟨1,0,[]⟩\/v=⟨2,0,[]⟩\/v=⟨2,1,[]⟩)(hu:u=⟨1,0,[]⟩\/u=⟨2,0,[]⟩\/u=⟨2,1,[]⟩):J8 k v u=(Qm k [v,u],0):=by rcases hk with rfl|rfl<;>rcases hv with rfl|rfl|rfl<;>rcases hu with rfl|rfl|rfl<;>kernel_rfl
theorem Bnj(a b:Val):Nw a b = -1\/Nw a b=0\/Nw a b=1:=by
 have h:∀x y,D7 x y = -1\/D7 x y=0\/D7 x y=1:=λx y=>by
  simp only[D7,Bool.cond_decide];split
  ·simp
  ·split<;>simp
 simp only[Nw];rcases h a.kind b.kind with h1|h1|h1<;>rw[h1]<;>simp
 rcases h a.n b.n with h2|h2|h2<;>rw[h2]<;>simp
 exact O7 _ _
theorem Bo9{k:Int}(hk : 6<=k/\k<=11){v u:Val}(hv:¬v.kind=1)(hu:¬u.kind=1):J8 k v u=(Dx (Q8 k (Nw v u)),0):=by obtain⟨c,hc'⟩:∃c,Nw v u=c:=⟨_,rfl⟩;have hc:=Bnj v u;simp only[J8,Q8,Bdu,Ao0];rw[hc'] at hc ⊢;rw[Zd1 hv,Zd1 hu];clear hc';rcases(by omega:k=6\/k=7\/k=8\/k=9\/k=10\/k=11) with rfl|rfl|rfl|rfl|rfl|rfl<;>rcases hc with rfl|rfl|rfl<;>rfl
theorem Bia{k:Int}(hk : 6<=k/\k<=14){v u:Val}(h:v.kind=1\/u.kind=1):J8 k v u=(⟨1,0,[]⟩,0):=by
 simp only[J8];rw[Zd1 (show ¬k=4 by omega),Zd1 (show ¬k=5 by omega)];by_cases h1:v.kind=1
 ·rw[Ze1 h1];kernel_rfl
 ·rw[Zd1 h1,Ze1 (h.resolve_left h1)];kernel_rfl
theorem Bnd{k:Int}(hk : 12<=k/\k<=14){n m:Int}(hn:inI n)(hm:inI m):J8 k ⟨3,n,[]⟩ ⟨3,m,[]⟩=Fl k n m:=by
 have h1:=Bmr hn hm;have h2:=Asf hn hm;have h3:=Blr hn hm;rcases(by omega:k=12\/k=13\/k=14) with rfl|rfl|rfl
 ·simp only[J8,Fl,Aux,h1];rfl
 ·simp only[J8,Fl,Atq,h2];rfl
 ·simp only[J8,Fl,Azq,h3];rfl
theorem Bo0{n:Int}(hn:inI n):J8 13 ⟨3,0,[]⟩ ⟨3,n,[]⟩=Fl 15 n 0:=by have h2:=Asf (a:=0) (by simp only[inI];omega) hn;simp only[J8,Fl,Atq,h2];rfl
theorem Bn2{R:Type}{b:Bool}{x:Option R}{r:R}(h:chk b x=some r):x=some r:=by
 cases b
 ·cases h
 ·exact h
theorem Ata:inI 0:=by simp only[inI];omega
theorem Bv6:inI 1:=by simp only[inI];omega
theorem Bct(k:Int){a b:Int}(ha:inI a)(hb:inI b):inI (Fl k a b).1.n:=by
 have fz:∀z,inI (Pl z).1:=λz=>by
  simp only[Pl];split
  ·rename_i h;exact h
  ·exact Ata
 have one:∀(p:Int×Int),inI p.1->inI (cond (!decide (p.2=0)) ((⟨0,0,[]⟩:Val),p.2) (⟨3,p.1,[]⟩,0)).1.n:=λp h=>by
  cases decide (p.2=0)
  ·exact Ata
  ·exact h
 simp only[Fl,Bmr ha hb,Asf ha hb,Blr ha hb,Asf Ata ha];cases decide (k=12)
 ·cases decide (k=13)
  ·cases decide (k=14)
   ·exact one _ (fz _)
   ·exact one _ (fz _)
  ·exact one _ (fz _)
 ·exact one _ (fz _)
theorem N7(b:Bool):inI (Dx b).n:=by cases b<;>first|exact Ata|exact Bv6
theorem A04(k:Int)(l:List Val):inI (Qm k l).n:=by
 rcases A0a k l with ⟨b,h⟩|h
 ·rw[h];exact N7 b
 ·rw[h];exact Ata
theorem Aet{row:List Val}(h:∀v,v∈row->inI v.n)(i:Int):inI (at' .val row i).n:=by simp only[at',List.getD_eq_getElem?_getD];cases hg:row[i.toNat]? with|none=>exact Ata|some v=>exact h v (List.mem_of_getElem? hg)
theorem A9z{e:Xpr}{cols:List Col}{row vs:List Val}{u:Bool}{v:Val}{f:Int}(he:inI e.v.n)(hr:∀v,v∈row->inI v.n)(hv:∀v,v∈vs->inI v.n)(h:Po e cols row vs u=some (v,f)):inI v.n:=by
 have ck:∀{b:Bool}{x:Option (Val×Int)}{r:Val×Int},chk b x=some r->x=some r:=λ{b x r} h=>by
  cases b
  ·cases h
  ·exact h
 have s2:∀(k a b:Int),inI a->inI b->some ((Fl k a b).1,(Fl k a b).2)=some (v,f)->inI v.n:=λk a b ha hb h=>by simp only[Za1,Zp1] at h;rw[<-h.1];exact Bct k ha hb
 simp only[Po] at h;cases h1:decide (e.kind=1)
 ·rw[h1] at h;cases h2:decide (e.kind=2)
  ·rw[h2] at h;cases h3:decide (e.kind=16)
   ·rw[h3] at h;simp only[Ai] at h;have body:∀p:Bool,cond p (some (Qm e.kind vs,(0:Int))) (cond u (some (⟨1,0,[]⟩,0)) (cond (decide (e.kind=3)) (chk (inb 0 vs.length) (some (Dx (decide ((at' .val vs 0).n=0)),0))) (cond (decide (e.kind=15)) (chk (inb 0 vs.length) (some ((Fl e.kind (at' .val vs 0).n 0).1,(Fl e.kind (at' .val vs 0).n 0).2))) (cond (decide (12<=e.kind)) (chk (inb 0 vs.length) (chk (inb 1 vs.length) (some ((Fl e.kind (at' .val vs 0).n (at' .val vs 1).n).1,(Fl e.kind (at' .val vs 0).n (at' .val vs 1).n).2)))) (chk (inb 0 vs.length) (chk (inb 1 vs.length) (some (Dx (Q8 e.kind (Nw (at' .val vs 0) (at' .val vs 1))),0))))))))=some (v,f)->inI v.n:=λp h=>by
     cases p
     ·simp only[Ai] at h;cases u
      ·simp only[Ai] at h;cases h4:decide (e.kind=3)
       ·rw[h4] at h;simp only[Ai] at h;cases h5:decide (e.kind=15)
        ·rw[h5] at h;simp only[Ai] at h;cases h6:decide (12<=e.kind)
         ·rw[h6] at h;have h:=ck (ck h);simp only[Za1,Zp1] at h;rw[<-h.1];exact N7 _
         ·rw[h6] at h;exact s2 _ _ _ (Aet hv 0) (Aet hv 1) (ck (ck h))
        ·rw[h5] at h;exact s2 _ _ _ (Aet hv 0) Ata (ck h)
       ·rw[h4] at h;have h:=ck h;simp only[Za1,Zp1] at h;rw[<-h.1];exact N7 _
      ·simp only[Ag,Za1,Zp1] at h;rw[<-h.1];exact Ata
     ·simp only[Ag,Za1,Zp1] at h;rw[<-h.1];exact A04 _ _
    cases h7:decide (e.kind=4)
    ·rw[h7] at h;exact body _ h
    ·rw[h7] at h;exact body true h
   ·rw[h3] at h;simp only[Ag,Ai,Za1,Zp1] at h;rw[<-h.1];exact N7 _
  ·rw[h2] at h;have h:=ck h;simp only[Za1,Zp1] at h;rw[<-h.1];exact Aet hr _
 ·rw[h1] at h;simp only[Ag,Za1,Zp1] at h;rw[<-h.1];exact he
theorem Nk{cols:List Col}{row:List Val}(hr:∀v,v∈row->inI v.n):∀(n:Nat) (e:Xpr) (v:Val) (f:Int),Aw e<=n->BdExpr e->H9 e cols row=some (v,f)->inI v.n
 |0,e,_,_,h,_,_=>by have:=Cn e;omega
 |n+1,e,v,f,h,hb,he=>by
  have list:∀(l:List Xpr) (g:Int) (vs:List Val),(∀x,x∈l->Aw x<=n/\BdExpr x)->evalL l cols row=some (g,vs)->∀v,v∈vs->inI v.n:=by
   intro l;induction l with
   |nil=>intro g vs _ h;simp only[evalL,Za1,Zp1] at h;obtain⟨_,rfl⟩:=h;simp
   |cons x l ih =>
    intro g vs hx h;simp only[evalL] at h;split at h
    ·rename_i v f hv;have hv1:=Nk hr n x v f (hx x (.head _)).1 (hx x (.head _)).2 hv;split at h
     ·split at h
      ·rename_i g' vs' hvs;simp only[Za1,Zp1] at h;obtain⟨_,rfl⟩:=h;intro w hw;rcases List.mem_cons.1 hw with rfl|hw
       ·exact hv1
       ·exact ih g' vs' (λy hy=>hx y (.tail _ hy)) hvs w hw
      ·cases h
     ·simp only[Za1,Zp1] at h;obtain⟨_,rfl⟩:=h;simp
    ·cases h
  rw[Xg] at he;rw[Ci] at h;cases hb with
  |mk k v0 nm l b1 b2 b3 b4 b5 =>
   split at he
   ·rename_i g vs hl;have hvs:=list l g vs (λx hx=>⟨by have:=A9 hx;simp only[Xpr.l] at h;omega,b5 x hx⟩) hl;have he:(if g=0 then Po (.mk k v0 nm l) cols row vs (vs.any Dt) else some (⟨0,0,[]⟩,g))=some (v,f):=by exact Bn2 he
    split at he
    ·exact A9z (e :=.mk k v0 nm l) b2.2.1 hr hvs he
    ·simp only[Za1,Zp1] at he;rw[<-he.1];exact Ata
   ·cases he
def Avp(e:Xpr)(cols:List Col)(row:List Val):Option (Val×Int):=cond (A5 e 30&&decide ((A4 e cols).2=0)&&Di cols row) (H9 e cols row) none
def Auk:FT [.sv .expr,.sl .col false,.sl .val false] [.sv .val,.int .i64]:=λx=>Avp x.1 x.2.1 x.2.2
theorem Akk{R:Type}{kx:Ex->L4->Option R}{cols:List Col}{row:List Val}{e:Xpr}{a:Val->Option R}{b:Option R}(hn:ln cols.length)(hlen:cols.length=row.length)(he:e.kind=2)(h1:∀j w,kx .ret (cols,row,0,j,e,w)=a w)(h2:∀q j w,kx (.exit 0) (cols,row,q,j,e,w)=b):∀(k i:Nat) q w,i<=cols.length->cols.length-i<k->Ak (λrec=>Kv rec kx) k (cols,row,q,(i:Int),e,w)=if A7 (cols.drop i) e.name i<0 then b else a (at' .val row (A7 (cols.drop i) e.name i))
 |0,i,q,w,_,h=>by omega
 |k+1,i,q,w,hi,h=>by
  rw[A0];by_cases hl:i<cols.length
  ·have ih:=Akk hn hlen he h1 h2 k (i+1) q w (by omega) (by omega);have hl2:i<row.length:=by omega
   simp only[Kv,Ao hl,Ao hl2,chk,Ag,Al (c :=.col) hl,An hl hn,h1,ih,Ah hl];rw[Ze1 (show(i:Int)<(cols.length:Int) by omega),Ze1 he];by_cases hc:cols[i].name=e.name
   ·have e1:∀l,A7 (cols[i]::l) e.name i=(i:Int):=λl=>by simp only[A7];rw[if_pos hc]
    rw[e1,Ze1 hc,if_neg (show ¬(i:Int)<0 by omega)];rfl
   ·have e1:∀l,A7 (cols[i]::l) e.name i=A7 l e.name (i+1):=λl=>by simp only[A7];rw[if_neg hc]
    rw[e1,Zd1 hc];rfl
  ·have e1:A7 [] e.name i = -1:=rfl;simp only[Kv,h2];rw[Zd1 (by omega),Zk1 (by omega),e1,if_pos (by omega)];rfl
theorem Be8{R:Type}{kx:Ex->L4->Option R}{cols:List Col}{row:List Val}{e:Xpr}{w:Val}{b:Option R}(h:¬e.kind=2)(h2:kx (.exit 0) (cols,row,0,0,e,w)=b)(k:Nat):Ak (λrec=>Kv rec kx) (k+1) (cols,row,0,0,e,w)=b:=by rw[A0];simp only[Kv,h2,Zd1 h,Ai];cases decide ((0:Int)<(cols.length:Int))<;>rfl
theorem A30(k:Nat){e:Xpr}{cols:List Col}{row:List Val}{rf:FT [.sv .expr,.sl .col false,.sl .val false] [.sv .val,.int .i64]}(hn:ln cols.length)(hk:cols.length<k)(hr:A5 e 30=true)(hk0:(A4 e cols).2=0)(hf:Di cols row=true)(hb:BdExpr e)(hrow:∀v,v∈row->inI v.n)(hrf:∀x,x∈e.l->A5 x 30=true->(A4 x cols).2=0->rf (x,cols,row)=H9 x cols row):Jv k rf (e,cols,row)=H9 e cols row:=by
 obtain⟨hp,hok,hs⟩:=Gm hr;have c:wr .i64 ((30:Int)-1)=((29:Nat):Int):=by decide
 rw[c] at hs;have hbl:∀x,x∈e.l->BdExpr x:=by cases hb with|mk _ _ _ _ _ _ _ _ b5=>exact b5
 obtain⟨k,rfl⟩:∃j,k=j+1:=⟨k-1,by omega⟩;rw[Xg];rw[H7] at hk0;simp only[Jv];by_cases k1:e.kind=1
 ·have hl:e.l=[]:=List.eq_nil_of_length_eq_zero (by rw[k1] at hp;have:parts 1=0:=rfl;omega);rw[Ze1 k1,hl];simp only[evalL];show _=Po e cols row [] _;simp only[Po];rw[Ze1 k1];rfl
 ·rw[Zd1 k1,Ai];by_cases k2:e.kind=2
  ·have hl:e.l=[]:=List.eq_nil_of_length_eq_zero (by rw[k2] at hp;have:parts 2=0:=rfl;omega);rw[hl] at hk0;simp only[kindL,Q0,Gf,if_neg k1,if_pos k2] at hk0;have hfd:¬B9 cols e.name<0:=λh=>by rw[if_pos h] at hk0;cases hk0
   have hlen:=F1 hf;have hrg:=N4 cols e.name;obtain⟨i,hi⟩:∃i:Nat,B9 cols e.name=(i:Int):=⟨(B9 cols e.name).toNat,by omega⟩;have hi2:i<row.length:=by omega
   refine(Akk (a:=λw=>some (w,0)) (b:=chk (inb 0 e.l.length) none) hn (by omega) k2 (λ_ _=>rfl) (λq j w =>?_) (k+1) 0 0 _ (Nat.zero_le _) (by omega)).trans ?_
   ·show chk (inb 0 e.l.length) _=_;rw[hl];rfl
   ·show(if B9 cols e.name<0 then _ else some (at' .val row (B9 cols e.name),(0:Int)))=_;rw[if_neg hfd,hl];simp only[evalL];show _=Po e cols row [] _;simp only[Po];rw[Zd1 k1,Ze1 k2,hi,Ao hi2];rfl
  ·refine Be8 k2 ?_ k;rcases Ng e.kind with ⟨h0,h⟩|⟨h0,h⟩|⟨h0,h⟩|h0
   ·omega
   ·obtain⟨x,hl⟩:∃x,e.l=[x]:=List.length_eq_one_iff.1 (by omega);rw[hl] at hs hk0;simp only[erights,Bool.and_true] at hs;have hs30:=Kn 29 30 x (by omega) (by omega) hs;simp only[kindL,Q0] at hk0;have hx0:(A4 x cols).2=0:=by
     by_cases hx:(A4 x cols).2=0
     ·exact hx
     ·rw[if_neg hx] at hk0;exact absurd hk0 hx
    rw[if_pos hx0] at hk0;have hrx:=hrf x (by rw[hl];simp) hs30 hx0;obtain⟨v,f,hv,hg⟩:=Fv hf (Aw x) x 30 (Zn1 _) hs30 hx0;have hvr:=Nk hrow (Aw x) x v f (Zn1 _) (hbl x (by rw[hl];simp)) hv;rw[hv] at hrx;have a0:at' .expr [x] 0=x:=rfl;have i0:inb 0 [x].length=true:=rfl;show chk (inb 0 e.l.length) _=_;rw[hl,a0,i0,hrx];simp only[evalL,hv];rcases hg with ⟨rfl,hg⟩|⟨rfl,rfl⟩
    ·show cond (decide (e.kind=3)) _ _=Po e cols row [v] ([v].any Dt);simp only[Po];rw[Zd1 k1,Zd1 k2];have ag:(A4 x cols).1=2\/(A4 x cols).1=1->v=⟨1,0,[]⟩\/v=⟨2,0,[]⟩\/v=⟨2,1,[]⟩:=λh=>Auh hg.1 (by omega);have ag3:(A4 x cols).1=3\/(A4 x cols).1=1->v=⟨1,0,[]⟩\/v=⟨3,v.n,[]⟩:=λh=>Ace hg.1 (by omega);rcases h with h3|h15|h16
     ·rw[h3];rcases ag (Ax2 hk0 (.inl h3)).1 with rfl|rfl|rfl<;>rfl
     ·rw[h15];rcases ag3 (Ajh hk0 (.inr (.inr (.inr h15)))).1 with h1|h1
      ·rw[h1];rfl
      ·rw[h1];have:=Bo0 hvr;show some ((J8 13 ⟨3,0,[]⟩ ⟨3,v.n,[]⟩).1,(J8 13 ⟨3,0,[]⟩ ⟨3,v.n,[]⟩).2)=some ((Fl 15 v.n 0).1,(Fl 15 v.n 0).2);rw[this]
     ·rw[h16];show some (ris (decide (v.kind=1)),(0:Int))=some (Dx ([v].any Dt),0);rw[Ao0];simp[Dt]
    ·rfl
   ·obtain⟨x,y,hl⟩:∃x y,e.l=[x,y]:=X8 (by omega);rw[hl] at hs hk0;simp only[erights,Bool.and_true,Zb1] at hs;have hsx:=Kn 29 30 x (by omega) (by omega) hs.1;have hsy:=Kn 29 30 y (by omega) (by omega) hs.2;simp only[kindL,Q0] at hk0;have hx0:(A4 x cols).2=0:=by
     by_cases hx:(A4 x cols).2=0
     ·exact hx
     ·rw[if_neg hx] at hk0;exact absurd hk0 hx
    rw[if_pos hx0] at hk0;have hy0:(A4 y cols).2=0:=by
     by_cases hy:(A4 y cols).2=0
     ·exact hy
     ·rw[if_neg hy] at hk0;exact absurd hk0 hy
    rw[if_pos hy0] at hk0;have hrx:=hrf x (by rw[hl];simp) hsx hx0;have hry:=hrf y (by rw[hl];simp) hsy hy0;obtain⟨v,f,hv,hg⟩:=Fv hf (Aw x) x 30 (Zn1 _) hsx hx0;obtain⟨u,g,hu,hg'⟩:=Fv hf (Aw y) y 30 (Zn1 _) hsy hy0;have hvr:=Nk hrow (Aw x) x v f (Zn1 _) (hbl x (by rw[hl];simp)) hv;have hur:=Nk hrow (Aw y) y u g (Zn1 _) (hbl y (by rw[hl];simp)) hu;rw[hv] at hrx;rw[hu] at hry;have a0:at' .expr [x,y] 0=x:=rfl;have i0:inb 0 [x,y].length=true:=rfl;have a1:at' .expr [x,y] 1=y:=rfl;have i1:inb 1 [x,y].length=true:=rfl;show chk (inb 0 e.l.length) _=_;rw[hl,a0,i0,hrx,a1,i1,hry];simp only[evalL,hv,hu];rw[Zd1 (show ¬e.kind=3 by omega),Zd1 (show ¬e.kind=15 by omega),Zd1 (show ¬e.kind=16 by omega)];rcases hg with ⟨rfl,hg⟩|⟨rfl,rfl⟩
    ·rcases hg' with ⟨rfl,hg'⟩|⟨rfl,rfl⟩
     ·show some ((J8 e.kind v u).1,(J8 e.kind v u).2)=Po e cols row [v,u] ([v,u].any Dt);simp only[Po];rw[Zd1 k1,Zd1 k2,Zd1 (show ¬e.kind=16 by omega),Zd1 (show ¬e.kind=3 by omega),Zd1 (show ¬e.kind=15 by omega)];have at0:at' .val [v,u] 0=v:=rfl;have at1:at' .val [v,u] 1=u:=rfl;have j0:inb 0 [v,u].length=true:=rfl;have j1:inb 1 [v,u].length=true:=rfl;simp only[Ai,j0,j1,chk,Ag,at0,at1];by_cases h45:e.kind=4\/e.kind=5
      ·obtain⟨ka,kb⟩:=Ax2 hk0 (.inr h45);have key:=Bao h45 (Auh hg.1 (by omega)) (Auh hg'.1 (by omega));rw[key];rcases h45 with h4|h5
       ·rw[Ze1 h4];rfl
       ·rw[Ze1 h5];cases decide (e.kind=4)<;>rfl
      ·rw[Zd1 (show ¬e.kind=4 by omega),Zd1 (show ¬e.kind=5 by omega)];simp only[Ai];by_cases hnul:v.kind=1\/u.kind=1
       ·have hany:[v,u].any Dt=true:=by rcases hnul with h|h<;>simp[Dt,h]
        rw[hany,Bia (by omega) hnul];rfl
       ·have hany:[v,u].any Dt=false:=by simp only[List.any_cons,List.any_nil,Dt,Bool.or_false];rw[Zd1 (λh=>hnul (.inl h)),Zd1 (λh=>hnul (.inr h))];rfl
        rw[hany];by_cases h12 : 12<=e.kind
        ·obtain⟨ka,kb⟩:=Ajh hk0 (by omega);rw[Ze1 h12];have ev:v=⟨3,v.n,[]⟩:=(Ace hg.1 (by omega)).resolve_left (λh=>hnul (.inl (by rw[h])));have eu:u=⟨3,u.n,[]⟩:=(Ace hg'.1 (by omega)).resolve_left (λh=>hnul (.inr (by rw[h])));have key:=Bnd (k:=e.kind) (by omega) hvr hur;rw[<-ev,<-eu] at key;rw[key];rfl
        ·rw[Zd1 h12,Bo9 (by omega) (λh=>hnul (.inl h)) (λh=>hnul (.inr h))];rfl
     ·rfl
    ·rfl
   ·omega
theorem Aoc(k:Nat){cols:List Col}{row:List Val}(hn:ln cols.length)(hk:cols.length<k)(hf:Di cols row=true)(hrow:∀v,v∈row->inI v.n):∀(n:Nat) (e:Xpr),A5 e 30=true->(A4 e cols).2=0->BdExpr e->Aw e<=n->Ak (Jv k) n (e,cols,row)=H9 e cols row
 |0,e,_,_,_,h=>by have:=Cn e;omega
 |n+1,e,hr,hk0,hb,h=>by
  rw[A0];refine A30 k hn hk hr hk0 hf hb hrow λx hx hrx hx0=>Aoc k hn hk hf hrow n x hrx hx0 ?_ ?_
  ·cases hb with|mk _ _ _ _ _ _ _ _ b5=>exact b5 x hx
  ·have:=A9 hx;rw[Ci] at h;omega
theorem Bgh:FO 100 [.sv .expr,.sl .col false,.sl .val false] [.sv .val,.int .i64] Auk:=by refine .fin (ι:=Nat×Nat) (0,0) (F:=λn=>Ak (Jv n.1) n.2) (λn=>FnOk.rec' (Sx.enters_of Tryz.func100 rfl rfl) (λrf hrf=>A92 n.1 rf hrf) n.2) λ(e,cols,row) r hb hx=>⟨(cols.length+1,Aw e),?_⟩;simp only[Auk,Avp] at hx;cases hw:A5 e 30&&decide ((A4 e cols).2=0)&&Di cols row with|false=>rw[hw] at hx;cases hx|true =>rw[hw] at hx;simp only[Zb1,Zg1] at hw;exact(Aoc (cols.length+1) hb.2.1.1 (by omega) hw.2 (λv hv=>(hb.2.2.2 v hv).2.1) (Aw e) e hw.1.1 hw.1.2 hb.1 (Zn1 _)).trans hx
def Bjt(R:Type):Px R:=pxO [(98,cA Ark),(99,cA Aew)] [] [] []
def Ak0(x:HV [.sv .expr,.sl .col false]):Option (HV [.int .i64,.int .i64]):=match x with
 |(e,cols) =>
 cond (!decide ((Mb e)=0)) (
  some (0,(Mb e))) (
  (Ape e cols).bind λ(x,x1) =>
  some (x,x1))
theorem Bdv:FO 79 [.sv .expr,.sl .col false] [.int .i64,.int .i64] (Ak0):=fR (px:=Bjt _) (n:=0) Tryz.func79 rfl (λ_ H=>⟨lv H (c1 H Av5 (c1 H Au9 Ae)) Aa Ab,Aj⟩) λ(_,_)=>by kernel_rfl
def Ayb(e:Xpr)(cols:List Col):Option (Int×Int):=cond (decide (Mb e=Dk e)) (some (D5 e cols)) none
def As1:FT [.sv .expr,.sl .col false] [.int .i64,.int .i64]:=λx=>Ayb x.1 x.2
theorem Bfp(e:Xpr):Dk e=0\/Dk e=2:=by simp only[Dk];cases A5 e 30<;>simp
theorem Aie{e:Xpr}{cols:List Col}(h:Dk e=0):Ape e cols=some (A4 e cols):=by simp only[Ape];rw[Ayw (Aw e) e 30 (Zn1 _) (Mw.1 h)];rfl
theorem Bh7:FO 79 [.sv .expr,.sl .col false] [.int .i64,.int .i64] As1 :=.fin0 Bdv λ(e,cols) r _ hx=>by
 simp only[As1,Ayb] at hx;by_cases h:Mb e=Dk e
 ·rw[Ze1 h] at hx;have hx:some (D5 e cols)=some r:=hx;rw[<-hx];simp only[Ak0,h,D5];by_cases h0:Dk e=0
  ·simp[h0,Aie h0]
  ·simp[h0]
 ·rw[Zd1 h] at hx;cases hx
theorem Aya{e:Xpr}(h:Aw e<=900000):Mb e=Dk e:=by
 have hd:=F2 (Aw e) e 30 (Zn1 _) (by omega) (Zn1 _);have ha:=Mw (e:=e);rcases Bfp e with h0|h2
 ·have:=hd.1 (ha.1 h0);rw[h0];simp only[Mb];rw[Zd1 (by omega)];rfl
 ·have:¬Bc e<=30:=λh=>by have:=ha.2 (hd.2 h);omega
  rw[h2];simp only[Mb];rw[Ze1 (by omega)];rfl
def Bk4(R:Type):Px R:=pxO [(98,cA Ark),(60,cA Ae3),(99,cA Aew),(100,cA Auk)] [] [] []
def Ais(x:HV [.sv .expr,.sl .col false,.sl .val false]):Option (HV [.sv .val,.int .i64]):=match x with
 |(e,cols,row) =>
 cond (!decide ((Mb e)=0)) (
  some ((Val.mk 0 0 []),2)) (
  cond (!(Ao2 cols row)) (
  some ((Val.mk 0 0 []),2)) (
  (Ape e cols).bind λ(_,x1) =>
   cond (!decide (x1=0)) (
   some ((Val.mk 0 0 []),x1)) (
   (Avp e cols row).bind λ(x2,x3) =>some (x2,x3))))
theorem Bbw:FO 62 [.sv .expr,.sl .col false,.sl .val false] [.sv .val,.int .i64] (Ais):=fR (px:=Bk4 _) (n:=0) Tryz.func62 rfl (λ_ H=>⟨lv H (c1 H Av5 (c1 H Avw (c1 H Au9 (c1 H Bgh Ae)))) Aa Ab,Aj⟩) λ(_,_,_)=>by kernel_rfl
def Av7(e:Xpr)(cols:List Col)(row:List Val):Option (Val×Int):=cond (decide (Mb e=Dk e)) (some (D8 e cols row)) none
def Atz:FT [.sv .expr,.sl .col false,.sl .val false] [.sv .val,.int .i64]:=λx=>Av7 x.1 x.2.1 x.2.2
theorem Bj8{e:Xpr}{cols:List Col}{row:List Val}(h:Dk e=0)(hf:Dr cols row=true)(hk:(A4 e cols).2=0):Avp e cols row=H9 e cols row:=by have hf':Di cols row=true:=hf;simp only[Avp,Mw.1 h,hf'];rw[Ze1 hk];rfl
theorem Bg6:FO 62 [.sv .expr,.sl .col false,.sl .val false] [.sv .val,.int .i64] Atz :=.fin0 Bbw λ(e,cols,row) r _ hx=>by
 simp only[Atz,Av7] at hx;by_cases h:Mb e=Dk e
 ·rw[Ze1 h] at hx;have hx:some (D8 e cols row)=some r:=hx;rw[<-hx];simp only[Ais,h,Ao2];rcases W6 e cols row with ⟨h1,h2⟩|⟨h1,h2,h3,h4⟩|⟨h1,h2,h3,h4,_⟩
  ·rw[h2];by_cases h0:Dk e=0
   ·rw[h1.resolve_left (by simpa using h0)];simp[h0]
   ·simp[h0]
  ·rw[h4,h2];simp[h1,h3,Aie h1]
  ·rw[h2];simp only[Aie h1,Bj8 h1 h2 h3,h4];simp[h1,h3]
 ·rw[Zd1 h] at hx;cases hx
theorem A41{cols:List Col}{row:List Val}{P:Val->Prop}:∀{l:List Str}{acc:List Val},(∀s,s∈l->¬B9 cols s<0/\P (at' .val row (B9 cols s)))->(∀v,v∈acc->P v)->(Dl cols row l acc).2=0/\∀v,v∈(Dl cols row l acc).1->P v
 |[],acc,_,ha=>⟨rfl,ha⟩
 |s::l,acc,h,ha=>by
  have h1:=h s (by simp);simp only[Dl,Zd1 h1.1,Ai];refine A41 (λq hq=>h q (by simp[hq])) λv hv =>?_;rcases List.mem_append.1 hv with hv|hv
  ·exact ha v hv
  ·rw[List.mem_singleton.1 hv];exact h1.2
theorem A0e{cols:List Col}{row:List Val}:∀{l:List Str}{acc:List Val},(Dl cols row l acc).1.length<=acc.length+l.length
 |[],acc=>by simp[Dl]
 |s::l,acc=>by simp only[Dl];cases decide (B9 cols s<0) with|true=>simp|false =>have:=A0e (cols:=cols) (row:=row) (l:=l) (acc:=acc++[at' .val row (B9 cols s)]);simp only[Ai,Zf1];simp only[Zh1,Zf1,Zi1] at this;omega
def Ann:Sig:=⟨18,[(0,.sl .str false),(1,.str),(4,.bool),(5,.int .i64)],[],[],0,0,0,[],[]⟩
abbrev X2:=List Str×Str×Bool×Int
def Abw{R:Type}(rec:X2->Option R)(kx:Ex->X2->Option R)(v:X2):Option R:=match v with
 |(v,v1,v2,v3) =>
 cond (decide (v3<(v.length:Int))) (
  chk (inb v3 v.length) (
  cond (decide ((at' .str v v3)=v1)) (
   kx .ret (v,v1,true,v3)) (
   rec (v,v1,v2,(wr .i64 (v3+1)))))) (
  kx (.exit 0) (v,v1,v2,v3))
def A6w(R:Type)(k:Nat):Px R:=pxO [] [] [(2,Am k Ann (Abw))] []
def Anq(k:Nat)(x:HV [.sl .str false,.str]):Option (HV [.bool]):=match x with
 |(l,s) =>
 Ak (λrec=>Abw rec (λe vz=>match vz with|(_,_,v6,_)=>match e with
  |.ret =>
  some v6
  |.exit 0 =>
  some false
  |_=>none)) k (l,s,false,0)
theorem Bi6(k:Nat):FO 61 [.sl .str false,.str] [.bool] (Anq k):=fR (px:=A6w _ k) (n:=1) Tryz.func61 rfl (λcx H=>by have h0:Lv cx (A6w (HV [.bool]) k):=lv H Ae Aa Ab;have hlrhas_0:=lO H h0 (b:=lp Tryz.f61 0) (k:=k) (n:=0) (s:=Ann) (step:=Abw) (λ_ _ _ (_,_,_,_)=>by kernel_rfl) Aj;exact⟨h0,(A3 Aj hlrhas_0)⟩) λ(_,_)=>by kernel_rfl
def Bt7(l:List Str)(s:Str):Bool:=l.contains s
def A38:FT [.sl .str false,.str] [.bool]:=λx=>some (Bt7 x.1 x.2)
theorem A8u{R:Type}{kx:Ex->X2->Option R}{l:List Str}{s:Str}{c:Bool->Option R}(hn:ln l.length)(h1:∀i,kx .ret (l,s,true,i)=c true)(h2:∀q i,kx (.exit 0) (l,s,q,i)=c false)(k:Nat)(hk:l.length<k) :
  Ak (λrec=>Abw rec kx) k (l,s,false,0)=c (l.contains s):=by
 refine(Ay l.length (λi=>(l,s,false,(i:Int))) (λi=>c ((l.drop i).contains s)) (λi hi rec hr =>?_) (λrec =>?_) k 0 (Nat.zero_le _) (by omega)).trans (by rw[Zq1])
 ·simp only[Abw,Br hi,Ag,Ao hi,chk,Al (c :=.str) hi,An hi hn,hr,h1,Ah hi,List.contains_cons];by_cases h:l[i]=s
  ·rw[Ze1 h,h];simp
  ·have hf:(s == l[i])=false:=beq_eq_false_iff_ne.2 (λe=>h e.symm);rw[Zd1 h,hf];rfl
 ·simp only[Abw,Bu,Ai,h2];rw[Zk1 (Zn1 _)];rfl
theorem Bor:FO 61 [.sl .str false,.str] [.bool] A38 :=.fin 0 Bi6 λ(l,s) r hb hx=>⟨l.length+1,by simp only[A38,Za1] at hx;rw[<-hx];simp only[Anq];exact A8u (c:=some) hb.1.1 (λ_=>rfl) (λ_ _=>rfl) (l.length+1) (by omega)⟩
def tbL(R:Type):List (Nat×E7 R):=[
 (38,cA At8),
 (69,cA Pr),
 (151,cA Ajy),
 (157,Aap .node),
 (199,Akf .byte),
 (113,Akf .val),
 (70,Akf .kv),
 (124,cA Xo)]
theorem Bgp{R:Type}{cx:Cx}(H:HX cx):∀g f,(g,f)∈tbL R->Gn cx g f:=(c1 H (Bln) (c1 H (R2) (c1 H (Aqv) (A2 (cCl H Awx Atr) (A2 (A7h H A4e) (A2 (A7h H Ago) (A2 (A7h H A9g) (c1 H (Aop) Ae))))))))
def tbT(R:Type)(g:Nat):Option (E7 R):=tbl (tbL R) g
def tqL(R:Type):List (Nat×E4 R):=[
 (69,qA Pr),
 (151,qA Ajy)]
theorem Bjs{R:Type}{cx:Cx}(H:HX cx):∀g f,(g,f)∈tqL R->Pg cx g f:=(q1 H (R2) (q1 H (Aqv) Aa))
def tqT(R:Type)(g:Nat):Option (E4 R):=tbl (tqL R) g
def swL:List (Nat×(Sig×Sig)):=[
 (32,(⟨2,[(1,.sl .byte false)],[(0,.ptr 0 0)],[(0,.cells [.int .i64,.sl .byte false,.bool,.sl .byte false,.sl .node false,.sl .byte false,.sl .stt true,.sl .byte false])],1,1,0,[],[]⟩,⟨3,[(0,.sl .byte false),(1,.bool),(2,.int .i64)],[],[(0,.cells [.int .i64,.sl .byte false,.bool,.sl .byte false,.sl .node false,.sl .byte false,.sl .stt true,.sl .byte false])],1,1,0,[],[]⟩)),
 (13,(⟨3,[(1,.sv .tbl),(2,.sl .val false)],[(0,.ptr 0 0)],[(0,.cells [.int .i64,.sl .byte false,.bool,.sl .byte false,.sl .node false,.sl .byte false,.sl .stt true,.sl .byte false])],1,1,0,[],[]⟩,⟨1,[(0,.int .i64)],[],[(0,.cells [.int .i64,.sl .byte false,.bool,.sl .byte false,.sl .node false,.sl .byte false,.sl .stt true,.sl .byte false])],1,1,0,[],[]⟩)),
 (18,(⟨4,[(1,.sv .tbl),(2,.str),(3,.sv .val)],[(0,.ptr 0 0)],[(0,.cells [.int .i64,.sl .byte false,.bool,.sl .byte false,.sl .node false,.sl .byte false,.sl .stt true,.sl .byte false])],1,1,0,[],[]⟩,⟨2,[(0,.sl .vals false),(1,.int .i64)],[],[(0,.cells [.int .i64,.sl .byte false,.bool,.sl .byte false,.sl .node false,.sl .byte false,.sl .stt true,.sl .byte false])],1,1,0,[],[]⟩)),
 (21,(⟨3,[(1,.sv .tbl),(2,.sl .val false)],[(0,.ptr 0 0)],[(0,.cells [.int .i64,.sl .byte false,.bool,.sl .byte false,.sl .node false,.sl .byte false,.sl .stt true,.sl .byte false])],1,1,0,[],[]⟩,⟨3,[(0,.sl .val false),(1,.bool),(2,.int .i64)],[],[(0,.cells [.int .i64,.sl .byte false,.bool,.sl .byte false,.sl .node false,.sl .byte false,.sl .stt true,.sl .byte false])],1,1,0,[],[]⟩)),
 (59,(⟨3,[(1,.sl .byte false),(2,.sl .vals false)],[(0,.ptr 0 0)],[(0,.cells [.sl .kv true,.int .i64])],1,1,0,[],[]⟩,⟨0,[],[],[(0,.cells [.sl .kv true,.int .i64])],1,1,0,[],[]⟩))]
def swT(g:Nat):Option (Sig×Sig):=tbl swL g
def fnL:List Nat:=[8,9,12,13,16,18,21,24,25,26,29,30,31,32,33,34,35,36,37,39,41,45,46,47,48,52,53,54,55,56,57,58,59,68,71,72,73,74,75,76,77,80,81,82,86,87,88,89,90,91,92,93,94,95,96,105,106,107,108,109,110,111,112,114,115,116,117,123,125,129,130,131,132,133,134,135,136,137,138,139,140,149,150,152,153,154,155,156,158,159,160,161,162,168,176,177,178,179,180,181,182,183,184,185,186,187,188,189,190,191,192,198,200,201,202,203,204,205,206,211,212,213,214,215,216,217,218,219,220,221,222,223,224,225,227,228,229,230,231,232,233,238,239,240,241,251,252,253,254,255,256,257,258,259,260,261,262,263,264,265,266,267,268,272,277,278]
noncomputable def A66(g:Nat):Option Func:=match fnL.contains g with|true=>Tryz.prog.funcs.toList[g]?|false=>none
theorem Bts:(fnL.all λg=>match Tryz.prog.funcs.toList[g]? with
  |some fn => !(fn.name == "runtime.NumGoroutine")&&match fn.body with|some c=>Cq fn.ntmps c|none=>false
  |none=>true)=true:=by kernel_rfl
theorem Axs:Aju Tryz.prog A66:=by
 intro g fn h;unfold A66 at h;split at h
 ·rename_i hc;have h1:=Zg2.1 Bts g (by simpa using hc);rw[h] at h1;simp only[Zb1,Bool.not_eq_true'] at h1;refine⟨by simpa using h,h1.1,?_⟩;cases hb:fn.body with|none=>rw[hb] at h1;simp at h1|some c=>rw[hb] at h1;exact⟨c,rfl,h1.2⟩
 ·cases h
noncomputable def Aml(R:Type):Px R:=co (Aal ttL) glT A66 tbT tqT swT 3000 R
theorem Xj{cx:Cx}(e1:cx.P=Tryz.prog)(e2:cx.el=elT)(e3:cx.gl=glT):HX cx:=⟨e1,e2,e3,Apo Ab7,follows⟩
theorem Bma:(swL.all λq=>lnB q.2.1 q.2.2)=true:=by kernel_rfl
theorem A5q(R:Type)(cx:Cx)(e1:cx.P=Tryz.prog)(e2:cx.el=elT)(e3:cx.gl=glT):Lv2 cx (Aml R) :=Axd follows (Apo Ab7) Axs (λR cx e1 e2 e3 g f h=>Bgp (Xj e1 e2 e3) g f (Dc h)) (λR cx e1 e2 e3 g f h=>Bjs (Xj e1 e2 e3) g f (Dc h)) (λg q h=>Zg2.1 Bma (g,q) (Dc h)) 3000 R cx e1 e2 e3
theorem Bwm{f:FuncId}{fn:Func}{c:Code}{sr:List Sg}{r:HV sr}(hf:Tryz.prog.funcs[f]? = some fn)(hb:fn.body=some c)(hname:(fn.name == "runtime.NumGoroutine")=false)(hc:(Cq fn.ntmps c)=true)(hr:Zj (Aml (HV sr)) fn [] sr () some=some r):FO f [] sr (λ_=>some r):=by refine Ae1 hf hb hname follows (px:=Aml (HV sr)) (by rw[hc];simp[Be,C8]) (λcx e1 e2 e3 _ =>?_) (λ_=>hr);have h:=(A5q (HV sr) cx e1 e2 e3).to1;exact⟨h.1,h.2.1,h.2.2.1,λb _=>h.2.2.2 b⟩
end Go.Proofs.YtcoaaebppfbbnaaGreatDoor
