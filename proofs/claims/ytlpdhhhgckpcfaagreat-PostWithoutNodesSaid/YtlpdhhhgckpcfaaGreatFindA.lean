
/- akw from node to node (package xS): path.root, path.visit. xS.Find: the machine that finds a node. The reader of a node (package node): validate. The steps of the reader of a node. The reader's step; r8 awake. A step of xS.Find. xS.Find: Step and Node. -/
import Derived.Test.YtlpdhhhgckpcfaaGreatGrA
import Derived.Test.YtlpdhhhgckpcfaaGreatKeys
import Derived.Test.YtlpdhhhgckpcfaaGreatPageA
namespace Go.Proofs.YtlpdhhhgckpcfaaGreat
set_option maxHeartbeats 16000000
open Go.RowKit
set_option maxRecDepth 100000
def bB (nx:Value)(d:aR)(id:Int)(pg:Pg)(va tv:Value)(rest:List Value):List Value:=
 nx :: .bool true :: .int .i64 d.th :: .int .i64 d.sn :: .int .i64 d.no :: .int .i64 d.ch :: .int .i64 d.re :: .int .i64 d.fa :: .int .u64 d.cl :: .int .u64 id :: .int .i64 pg.az::va :: .string pg.hi :: .bool pg.la :: .int .u64 pg.ri::tv::rest
structure j6 where
 b2:Nat
 b3:Nat
 b5:Nat
 bt:Nat
 bp:Nat
 br:Nat
def Jk (B:j6):FV:=aA B.b2 B.b3 B.b5
def Jl (B:j6):Value:= .func (.func 166) #[] #[(.pointer (some ⟨B.bt,0,none⟩)),(.pointer (some ⟨B.bp,0,none⟩))]
def Ln (b:Nat)(B:j6)(d:aR)(id:Int)(va:Value)(s:mN):List aB:=
 [bD B.b2 B.b3 B.b5 (.iface 213 (.pointer (some ⟨B.br,0,none⟩))) (Jl B),blk B.bt (.cells #[(.pointer (some ⟨B.br,0,none⟩))] 213),blk B.bp (.cells #[(.pointer (some ⟨b,2,none⟩))] 194),Dy B.br d id va s,bq va s.pg]
theorem St.aaK {K:aK}{w:World}{a b c d e f:aB}{F:List aB}(h:St K w (a::b::c::d::e::f::F)):St K w (a::b::F):=
 h.sub ((((((List.Sublist.refl F).cons f).cons e).cons d).cons c).cons_cons b |>.cons_cons a)
section
variable {K:aK}{w:World}{F:List aB}{b bm bc:Nat}{nx va tv:Value}{d:aR}{id0 id:Int}{pg:Pg}{rest:List Value}{T:TypeId}{L:List aP}{acc:Nat}
theorem Ae (hid:1<=id)(hs:St K w (blk b (.cells (bB nx d id0 pg va tv rest).toArray T)::F)) :
  Calls Tryz.prog 139 #[(.pointer (some ⟨b,2,none⟩)),.int .u64 id] w fun e w' => ∃ B:j6,e=.returned (aX (some (Jk B)))/\St K w' (blk b (.cells (bB nx d id pg va tv rest).toArray T)::(Ln b B d id (.slice none 0 0) pq++F)):=by
 have h0:id≠0:=by omega
 have hs:=(hs.made (.cells #[(.pointer (some ⟨b,2,none⟩))] 194)).b1;have k:=hs.k0;have kf:=hs.f0;have hb:=hs.n0;have k1:=hs.k1;unfold bB at k;have hs:=hs.aI 9 (.int .u64 id);have hs:St K _ (blk b (.cells (bB nx d id pg va tv rest).toArray T)::_):=hs;go_enter Tryz.func139,Tryz.ntmps139
 go_wp2_with fail
 refine(Fe (d:=d) (id:=id) hs).mono ?_
 clear hs k k1 kf;rintro e w1 ⟨br,rfl,hs⟩;have hs:=hs.made (.cells #[(.pointer (some ⟨br,0,none⟩))] 213);have k1:=hs.k0;go_wp2_with fail
 refine(fF hs).mono ?_
 clear hs k1;rintro e w2 ⟨b2,b3,b5,rfl,hs⟩;simp only[aA,aX];go_wp2
 go_ret;exact⟨⟨b2,b3,b5,w1.heap.size,w.heap.size,br⟩,rfl,hs.re [4,0,1,5,2,3] rfl⟩
def jq (b:Nat):FV:=⟨104, #[(.pointer (some ⟨b,2,none⟩))], #[]⟩
theorem wM (hs:St K w F) :
  Calls Tryz.prog 139 #[(.pointer (some ⟨b,2,none⟩)),.int .u64 0] w fun e w' => e=.returned (aX (some (jq b)))/\St K w' F:=by
 have hs:=hs.pass (.cells #[(.pointer (some ⟨b,2,none⟩))] 194);go_enter Tryz.func139,Tryz.ntmps139
 go_wp2
 go_ret;exact⟨rfl,hs⟩
theorem We (ha:acc<=1000000000000)(hL:bI L)(hs:St K w (blk b (.cells (bB nx d id0 pg va tv rest).toArray T)::aJ bm bc L acc::F)) :
  Calls Tryz.prog 104 #[(.pointer (some ⟨b,2,none⟩)),(.pointer (some ⟨bm,0,none⟩))] w fun e w' => ((ah L 0).n=0/\e=.returned (aX (some (jq b)))/\St K w' (blk b (.cells (bB nx d id0 pg va tv rest).toArray T)::aJ bm bc L (acc+1)::F)) \/
   (1<=(ah L 0).n/\∃ B:j6,e=.returned (aX (some (Jk B)))/\St K w' (blk b (.cells (bB nx d (ah L 0).n pg va tv rest).toArray T)::(Ln b B d (ah L 0).n (.slice none 0 0) pq++aJ bm bc L (acc+1)::F))):=by
 have hc:=hL 0;obtain⟨c,hce⟩:∃ c,c=ah L 0:=⟨_,rfl⟩;rw[← hce]at hc ⊢;have Hce:=aqo hce.symm;have k:=hs.k0;unfold bB at k;have Qr:=aqo (fun w=>pN d w)
 clear hce;go_enter Tryz.func104,Tryz.ntmps104
 go_wp2_with fail
 refine(bE hs (Qr.out _)).mono ?_
 clear k;rintro e w1 ⟨rfl,hs⟩;have q:=jd (i:=0) hs.b1 ha;rw[Hce.out]at q;have Q:=aqo q;clear q;go_wp2_with fail
 refine(Q.out).mono ?_
 clear hs Q;rintro e w2 ⟨rfl,hs⟩;obtain⟨h0,_⟩:=hc;rcases(show c.n=0\/1<=c.n by omega)with h1|h1
 ·go_wp2_with fail
  refine(wM (b:=b) hs.b1).mono ?_
  rintro e w3 ⟨rfl,hs⟩;simp only[jq,aX];go_wp2
  go_ret;exact .inl ⟨by first|exact h1|rfl,rfl,hs⟩
 ·go_wp2_with fail
  refine(Ae (id:=c.n) h1 hs.b1).mono ?_
  rintro e w3 ⟨B,rfl,hs⟩;simp only[Jk,aA,aX];go_wp2
  go_ret;exact .inr ⟨h1,B,rfl,hs⟩
theorem Fm {B:j6}{pz:Value}{s:mN}{ft:Nat}{tx ty:Array Value}{R:Option FV->World->Prop}(hf:Enters ft)(h6:s.pc=6)(hn:s.pg.sl.length<=1000000)
  (hs:St K w (blk b (.cells (bB nx d id pg va (.func (.func ft) tx ty) rest).toArray T)::(Ln b B d id pz s++F)))
  (hturn:∀ (w1:World) (kW:Value),St K w1 (blk b (.cells (bB nx d id s.pg kW (.func (.func ft) tx ty) rest).toArray T)::bq kW s.pg::F)->Calls Tryz.prog ft (tx++ty) w1 fun e w2=>∃ o,e=.returned (aX o)/\R o w2) :
  Calls Tryz.prog 166 #[(.pointer (some ⟨B.bt,0,none⟩)),(.pointer (some ⟨B.bp,0,none⟩))] w fun e w' => ∃ o,e=.returned (aX o)/\R o w' := by
 have hf' : ∀ (args:Array Value) (w:World),(callFunc ft args).run Tryz.prog w=.ok (.enter ft args) w:=hf;have HT:=aqo hturn;obtain⟨b2,b3,b5,bt,bp,br⟩:=B;have hs:St K w (blk b (.cells (bB nx d id pg va (.func (.func ft) tx ty) rest).toArray T)::bD b2 b3 b5 _ _::blk bt (.cells #[(.pointer (some ⟨br,0,none⟩))] 213)::blk bp (.cells #[(.pointer (some ⟨b,2,none⟩))] 194)::Dy br d id pz s::bq pz s.pg::F):=hs;have hs:=hs.bV;have Hs:=aqo hs;clear hturn hs;go_enter Tryz.func166,Tryz.ntmps166
 go_upto_region 1 with(fail)
 refine fZ [false,false,true,false,false,true] 2 5
  (fun W=>St K W (blk b (.cells (bB nx d id pg va (.func (.func ft) tx ty) rest).toArray T)::blk bt (.cells #[(.pointer (some ⟨br,0,none⟩))] 213)::blk bp (.cells #[(.pointer (some ⟨b,2,none⟩))] 194)::Dy br d id pz s::bq pz s.pg::F))
  (fun v W=>∃ (a1:Option Addr) (c1:Nat),v=.agg #[.int .i64 (s.pg).az,(.slice a1 s.pg.sl.length c1),.string (s.pg).hi,.bool (s.pg).la,.int .u64 (s.pg).ri]/\St K W (bq (.slice a1 s.pg.sl.length c1) s.pg::blk b (.cells (bB nx d id pg va (.func (.func ft) tx ty) rest).toArray T)::blk bt (.cells #[(.pointer (some ⟨br,0,none⟩))] 213)::blk bp (.cells #[(.pointer (some ⟨b,2,none⟩))] 194)::Dy br d id pz s::bq pz s.pg::F))
  (fun v u W=>∃ (a1:Option Addr) (c1:Nat),u=undef/\v=.agg #[.int .i64 (s.pg).az,(.slice a1 s.pg.sl.length c1),.string (s.pg).hi,.bool (s.pg).la,.int .u64 (s.pg).ri]/\St K W (bq (.slice a1 s.pg.sl.length c1) s.pg::blk b (.cells (bB nx d id s.pg (.slice a1 s.pg.sl.length c1) (.func (.func ft) tx ty) rest).toArray T)::blk bt (.cells #[(.pointer (some ⟨br,0,none⟩))] 213)::blk bp (.cells #[(.pointer (some ⟨b,2,none⟩))] 194)::Dy br d id pz s::bq pz s.pg::F))
  (fun W=>∃ cs,St K W (blk bt (.cells #[(.pointer (some ⟨br,0,none⟩))] 213)::blk bp (.cells #[(.pointer (some ⟨b,2,none⟩))] 194)::cs)) ?aS (by decide) (by kernel_rfl) ?hB ?H ?iA Hs.out ?hI ?hR ?Ff ?vv ?hQ
 case hB=>as_aux_lemma=>kernel_rfl
 case H=>
  rintro W2 ⟨cs,hs⟩;have k1:=hs.k0;have k2:=hs.k1;clear hs;simp only[bK];repeat (go_big_quiet_step (fail))
  refine wpQuiet_nil ?_
  rfl
 case iA=>rfl
 case hI=>exact⟨fun W h=>⟨_,h.tail⟩,fun v W ⟨_,_,_,h⟩=>⟨_,h.tail.tail⟩,fun v u W ⟨_,_,_,_,h⟩=>⟨_,h.tail.tail⟩⟩
 case hR=>exact⟨fun W W' h hb=>h.same hb,fun v W W' ⟨a,c,e,h⟩ hb=>⟨a,c,e,h.same hb⟩,fun v u W W' ⟨a,c,e,e2,h⟩ hb=>⟨a,c,e,e2,h.same hb⟩⟩
 case Ff=>
  intro qN o ho ρ W2 hs hk af aC;obtain rfl:=aqu ho;subst aC;have Hk:=aqo hk;clear hk;go_wp2_with fail
  refine(Lj h6 hn hs.b3.b4.u1).mono ?_
  rintro e w1 ⟨kW,rfl,hs⟩;obtain⟨a1,c1,rfl,_,_⟩:=(show St K w1 (ak kW 69 2 s.pg.sl.length (aD s.pg.sl)::_)from hs).aF
  go_wp2
  exact⟨rfl,_,rfl,Hk.out _ _ ⟨a1,c1,rfl,hs.re [0,3,4,5,1,2] rfl⟩⟩
 case vv=>
  rintro qN o ho ρ v W2 ⟨a1,c1,rfl,hs⟩ hk af aC;obtain rfl:=aqu ho;have Hk:=aqo hk;clear hk;simp only[aL,List.getElem?_cons_succ,List.getElem?_cons_zero,Option.bind_some,Act.put,List.setIfInBounds_toArray,List.set_cons_zero,List.set_cons_succ]at aC;subst aC;have hs:=hs.b1;have k:=hs.k0;have kf:=hs.f0;have hs:=((((hs.aI 10 (.int .i64 s.pg.az)).aI 11 (.slice a1 s.pg.sl.length c1)).aI 12 (.string s.pg.hi)).aI 13 (.bool s.pg.la)).aI 14 (.int .u64 s.pg.ri);unfold bB at k;go_wp2
  exact⟨rfl,undef,rfl,Hk.out _ _ ⟨a1,c1,rfl,rfl,hs.b1⟩⟩
 case hQ=>
  rintro v u W2 ⟨a1,c1,rfl,rfl,hs⟩;simp only[aL,List.getElem?_cons_succ,List.getElem?_cons_zero,Option.bind_some,Act.put,List.setIfInBounds_toArray,List.set_cons_zero,List.set_cons_succ];have k1:=hs.b3.k0;have kb:=hs.b1.k0;unfold bB at kb;go_wp2_with fail
  refine(HT.out _ _ (hs.re [1,0,2,3,4,5] rfl).aaK).mono ?_
  rintro e w3 ⟨o,rfl,h⟩;cases o with
  | none=>
   simp only[aX];go_wp2
   go_ret;exact⟨none,rfl,h⟩
  | some s=>
   simp only[aX];go_wp2
   go_ret;exact⟨some s,rfl,h⟩
end
structure pZ where
 pc:Nat
 id:Int
 pg:Pg
 rd:mN
def iF (s:pZ)(id:Int):pZ:=if id=0 then⟨0,s.id,s.pg,pq⟩else⟨1,id,s.pg,pq⟩
def kX (key:ByteArray)(l:List Sl):Int:=match jQ l ((je l key:Int)-1)with
 | some s=>s.r
 | none=>0
def jr (key:ByteArray)(level:Int)(id:Int)(pg:Pg):pZ:=
 if pg.az<level then⟨2,0,Fb,pq⟩
 else if pg.la || cE key pg.hi then
  if pg.az=level then⟨2,id,pg,pq⟩else iF ⟨0,id,pg,pq⟩ (kX key pg.sl)
 else iF ⟨0,id,pg,pq⟩ pg.ri
def bX (d:aR)(L:List aP)(key:ByteArray)(level:Int)(s:pZ):pZ:=
 match s.pc with
 | 0=>iF s (ah L 0).n
 | 1=>if (rdStep d s.id L s.rd).pc=6 then jr key level s.id (rdStep d s.id L s.rd).pg else⟨1,s.id,s.pg,rdStep d s.id L s.rd⟩
 | _=>s
def fd0:pZ:=⟨0,0,Fb,pq⟩
def kY (b:Nat)(B:j6):Nat->Option FV
 | 0=>some (jq b)
 | 1=>some (Jk B)
 | _=>none
def sQ (b:Nat)(nx:Value)(B:j6)(va pz:Value)(d:aR)(key:ByteArray)(level:Int)(s:pZ):List aB:=
 blk b (.cells (bB nx d s.id s.pg va (.func (.func 103) #[(.pointer (some ⟨b,0,none⟩))] #[]) [.string key,.int .i64 level]).toArray 163)::bq va s.pg::(if s.pc=1 then Ln b B d s.id pz s.rd else [])
section
variable {K:aK}{w:World}{F:List aB}{b bm bc:Nat}{nx va:Value}{d:aR}{id:Int}{pg:Pg}{L:List aP}{acc:Nat}{key:ByteArray}{level:Int}
theorem Fo (hs:St K w F):Calls Tryz.prog 47 #[.agg #[.int .i64 d.th,.int .i64 d.sn,.int .i64 d.no,.int .i64 d.ch,.int .i64 d.re,.int .i64 d.fa,.int .u64 d.cl],.string key,.int .i64 level] w fun e w' => ∃ b,e=.returned (.pointer (some ⟨b,0,none⟩))/\∀ B,St K w' (sQ b (aX (some (jq b))) B (.slice none 0 0) (.slice none 0 0) d key level fd0++F):=by
 have hs:=hs.pass (.cells #[.int .i64 d.th,.int .i64 d.sn,.int .i64 d.no,.int .i64 d.ch,.int .i64 d.re,.int .i64 d.fa,.int .u64 d.cl] 29);have hs:=hs.made (.cells #[.nilFunc,.bool false,.int .i64 d.th,.int .i64 d.sn,.int .i64 d.no,.int .i64 d.ch,.int .i64 d.re,.int .i64 d.fa,.int .u64 d.cl,.int .u64 0,.int .i64 0,.slice none 0 0,.string ⟨#[]⟩,.bool false,.int .u64 0,(.func (.func 103) #[(.pointer (some ⟨(w.heap.size+1),0,none⟩))] #[]),.string key,.int .i64 level] 163);rw[World.size_alloc]at hs;go_enter Tryz.func47,Tryz.ntmps47
 go_wp2_with fail
 refine(bE hs (fk _ _ _ _)).mono ?_
 clear hs;rintro e w2 ⟨rfl,hs⟩;have k:=hs.k0;have kf:=hs.f0;have hs:=(hs.aI 0 (aX (some (jq (w.heap.size+1))))).aI 1 (.bool true);simp only[List.set_cons_zero,List.set_cons_succ]at hs;go_wp2
 go_ret;exact⟨_,rfl,fun B=>(hs.cD (T:=69) (size:=2)).b1⟩
theorem rE {id':Int}{C:aB}(hid:0<=id')(hs:St K w (blk b (.cells (bB nx d id pg va (.func (.func 103) #[(.pointer (some ⟨b,0,none⟩))] #[]) [.string key,.int .i64 level]).toArray 163)::C::bq va pg::F)) :
  Calls Tryz.prog 139 #[(.pointer (some ⟨b,2,none⟩)),.int .u64 id'] w fun e w' => ∃ o,e=.returned (aX o)/\∃ B:j6,o=kY b B (iF ⟨0,id,pg,pq⟩ id').pc/\St K w' (C::(sQ b nx B va (.slice none 0 0) d key level (iF ⟨0,id,pg,pq⟩ id')++F)):=by
 by_cases h:id'=0
 ·subst h
  refine(wM (b:=b) hs).mono ?_
  rintro e w3 ⟨rfl,hs⟩;exact⟨_,rfl,⟨0,0,0,0,0,0⟩,rfl,hs.b1⟩
 ·have e1:iF ⟨0,id,pg,pq⟩ id'=⟨1,id',pg,pq⟩:=by unfold iF;rw[if_neg h]
  rw[e1];refine(Ae (id:=id') (by omega) hs).mono ?_
  rintro e w3 ⟨B,rfl,hs⟩;exact⟨_,rfl,B,rfl,hs.re [6,0,7,1,2,3,4,5] rfl⟩
def FtP (K:aK)(b:Nat)(nx:Value)(d:aR)(key:ByteArray)(level:Int)(F:List aB)(s:pZ)(o:Option FV)(w':World):Prop:=
 ∃ (B:j6) (eX:Value),o=kY b B s.pc/\St K w' (sQ b nx B eX (.slice none 0 0) d key level s++F)
theorem Rc (mq:0<=pg.ri)(uZ:∀ s,s∈pg.sl->0<=s.r)(hn:pg.sl.length<=1000000)(dF:level<pg.az->kV pg.sl)
  (hs:St K w (blk b (.cells (bB nx d id pg va (.func (.func 103) #[(.pointer (some ⟨b,0,none⟩))] #[]) [.string key,.int .i64 level]).toArray 163)::bq va pg::F)) :
  Calls Tryz.prog 103 #[(.pointer (some ⟨b,0,none⟩))] w fun e w' => ∃ o,e=.returned (aX o)/\FtP K b nx d key level F (jr key level id pg) o w' := by
 obtain⟨a,c,rfl,_,_⟩:=(show St K w (ak va 69 2 pg.sl.length (aD pg.sl)::_)from hs.b1).aF
 have k:=hs.k0;unfold bB at k;have hs:=hs.made (.cells #[.int .i64 (pg).az,(.slice a pg.sl.length c),.string (pg).hi,.bool (pg).la,.int .u64 (pg).ri] 43);obtain⟨s',dZ⟩:∃ s',Hid (s'=jr key level id pg):=⟨_,aqo rfl⟩;rw[← dZ.out];have Qw:=aqo (fun w=>tQ key ⟨#[]⟩ pg.hi pg.la w)
 rw[jK,Bool.not_false,Bool.true_and]at Qw;go_enter Tryz.func103,Tryz.ntmps103
 go_upto_region 2 with(fail)
 clear k;have kw:=hs.k0;have k:=hs.k1;unfold bB at k;refine bH (by kernel_rfl) (by kernel_rfl) ?_
 repeat (go_big_quiet_step (fail))
 refine wpQuiet_nil ?_
 intro w2 hb2;have hs:=hs.same hb2;clear kw k hb2;by_cases hlt:pg.az<level
 ·have k:=hs.k1
  unfold bB at k;have kf:=hs.f1;rw[jr,if_pos hlt]at dZ;have hs:=((((((hs.tail.aI 9 (.int .u64 0)).aI 10 (.int .i64 0)).aI 11 (.slice none 0 0)).aI 12 (.string ⟨#[]⟩)).aI 13 (.bool false)).aI 14 (.int .u64 0));go_wp2
  go_ret;exact⟨none,rfl,by rw[dZ.out];exact⟨⟨0,0,0,0,0,0⟩,.slice none 0 0,rfl,((hs.bV.cD (T:=69) (size:=2)).b1:St K _ (blk b (.cells (bB nx d 0 Fb (.slice none 0 0) (.func (.func 103) #[(.pointer (some ⟨b,0,none⟩))] #[]) [.string key,.int .i64 level]).toArray 163)::bq (.slice none 0 0) Fb::F))⟩⟩
 rw[jr,if_neg hlt]at dZ;have kw:=hs.k0;have k:=hs.k1;unfold bB at k;have Hlt:=aqo hlt;go_upto_region 5 with(fail)
 refine bH (by kernel_rfl) (by kernel_rfl) ?_
 repeat (go_big_quiet_step ((go_at_call 138;exact aW ((Qw.out _).mono (by rintro e w' ⟨rfl,rfl⟩;exact⟨rfl,Below.refl _ _⟩)))))
 refine wpQuiet_nil ?_
 intro w3 hb3;have hs:=hs.same hb3;clear kw k hb3 Qw hlt;rw[← Bool.not_or];cases hin:(pg.la || cE key pg.hi)with
 | false=>
  simp only[Bool.not_false];rw[hin]at dZ;simp only[Bool.false_eq_true,if_false]at dZ;have kw:=hs.k0;go_upto_region 6 with(fail)
  clear kw;have Hs:=aqo hs;clear hs;refine fZ [false,false,false,false,false,true,true] 5 6
   (fun W=>St K W (blk w.heap.size (.cells #[.int .i64 (pg).az,(.slice a pg.sl.length c),.string (pg).hi,.bool (pg).la,.int .u64 (pg).ri] 43)::blk b (.cells (bB nx d id pg (.slice a pg.sl.length c) (.func (.func 103) #[(.pointer (some ⟨b,0,none⟩))] #[]) [.string key,.int .i64 level]).toArray 163)::bq (.slice a pg.sl.length c) pg::F))
   (fun v W=>∃ o,v=aX o/\∃ B:j6,o=kY b B (iF ⟨0,id,pg,pq⟩ pg.ri).pc/\St K W (blk w.heap.size (.cells #[.int .i64 (pg).az,(.slice a pg.sl.length c),.string (pg).hi,.bool (pg).la,.int .u64 (pg).ri] 43)::(sQ b nx B (.slice a pg.sl.length c) (.slice none 0 0) d key level (iF ⟨0,id,pg,pq⟩ pg.ri)++F)))
   (fun v u W=>u=v/\∃ o,v=aX o/\∃ B:j6,o=kY b B (iF ⟨0,id,pg,pq⟩ pg.ri).pc/\St K W (blk w.heap.size (.cells #[.int .i64 (pg).az,(.slice a pg.sl.length c),.string (pg).hi,.bool (pg).la,.int .u64 (pg).ri] 43)::(sQ b nx B (.slice a pg.sl.length c) (.slice none 0 0) d key level (iF ⟨0,id,pg,pq⟩ pg.ri)++F)))
   (fun W=>∃ cs,St K W (blk w.heap.size (.cells #[.int .i64 (pg).az,(.slice a pg.sl.length c),.string (pg).hi,.bool (pg).la,.int .u64 (pg).ri] 43)::cs)) ?aS1 (by decide) (by kernel_rfl) ?hB1 ?H1 ?ahe Hs.out ?hI1 ?hR1 ?ahf ?ahg ?hQ1
  case hB1=>as_aux_lemma=>kernel_rfl
  case H1=>
   rintro W2 ⟨cs,hs⟩;have k1:=hs.k0;clear hs;simp only[bK];repeat (go_big_quiet_step (fail))
   refine wpQuiet_nil ?_
   rfl
  case ahe=>rfl
  case hI1=>exact⟨fun W h=>⟨_,h⟩,fun v W ⟨_,_,_,_,h⟩=>⟨_,h⟩,fun v u W ⟨_,_,_,_,_,h⟩=>⟨_,h⟩⟩
  case hR1=>exact⟨fun W W' h hb=>h.same hb,fun v W W' ⟨o,e,B,e2,h⟩ hb=>⟨o,e,B,e2,h.same hb⟩,fun v u W W' ⟨e0,o,e,B,e2,h⟩ hb=>⟨e0,o,e,B,e2,h.same hb⟩⟩
  case ahf=>
   intro qN o ho ρ W2 hs hk af aC;obtain rfl:=aqu ho;subst aC;have Hk:=aqo hk;clear hk;go_wp2_with fail
   refine(rE (id' := pg.ri) (by exact mq) hs.b1).mono ?_
   rintro e w3 ⟨o,rfl,B,ho,hs⟩;cases o with
   | none=>
    simp only[aX];go_wp2
    exact⟨rfl,_,rfl,Hk.out _ _ ⟨none,rfl,B,ho,hs⟩⟩
   | some f=>
    simp only[aX];go_wp2
    exact⟨rfl,_,rfl,Hk.out _ _ ⟨some f,rfl,B,ho,hs⟩⟩
  case ahg=>
   rintro qN o ho ρ v W2 ⟨ov,rfl,B,Re,hs⟩ hk af aC;obtain rfl:=aqu ho;have Hk:=aqo hk;clear hk;simp only[aL,List.getElem?_cons_succ,List.getElem?_cons_zero,Option.bind_some,Act.put,List.setIfInBounds_toArray,List.set_cons_zero,List.set_cons_succ]at aC;subst aC;have Rf:=aqo Re;clear Re;cases ov with
   | none=>
    simp only[aX];go_wp2
    exact⟨rfl,_,rfl,Hk.out _ _ ⟨rfl,none,rfl,B,Rf.out,hs⟩⟩
   | some f=>
    simp only[aX];go_wp2
    exact⟨rfl,_,rfl,Hk.out _ _ ⟨rfl,some f,rfl,B,Rf.out,hs⟩⟩
  case hQ1=>
   rintro v u W2 ⟨rfl,ov,rfl,B,Re,hs⟩;simp only[aL,List.getElem?_cons_succ,List.getElem?_cons_zero,Option.bind_some,Act.put,List.setIfInBounds_toArray,List.set_cons_zero,List.set_cons_succ];have Rf:=aqo Re;clear Re;cases ov with
   | none=>
    simp only[aX];go_wp2
    go_ret;exact⟨none,rfl,by rw[dZ.out];exact⟨B,_,Rf.out,hs.tail⟩⟩
   | some f=>
    simp only[aX];go_wp2
    go_ret;exact⟨some f,rfl,by rw[dZ.out];exact⟨B,_,Rf.out,hs.tail⟩⟩
 | true=>
  simp only[Bool.not_true];rw[hin]at dZ;simp only[if_true]at dZ;have kw:=hs.k0;have k:=hs.k1;unfold bB at k;go_upto_region 7 with(fail)
  refine bH (by kernel_rfl) (by kernel_rfl) ?_
  repeat (go_big_quiet_step (fail))
  refine wpQuiet_nil ?_
  intro w4 hb4;have hs:=hs.same hb4;clear kw k hb4;by_cases hlv:pg.az=level
  ·rw[if_pos hlv]at dZ
   go_wp2
   go_ret;exact⟨none,rfl,by rw[dZ.out];exact⟨⟨0,0,0,0,0,0⟩,.slice a pg.sl.length c,rfl,hs.tail⟩⟩
  rw[if_neg hlv]at dZ;rw[show(pg.az == level)=false by simp[hlv]]
  have fj:=(show St K w4 (ak (.slice a pg.sl.length c) 69 2 pg.sl.length (aD pg.sl)::_)from hs.b2).cN (by omega)
  have Qc:=aqo (fun W (hb:Below w4.heap.size w4 W)=>Lm (cap:=c) (key:=key) W (fj.same hb) (dF (by have:=Hlt.out;omega)))
  obtain⟨sv,hsv,Wh⟩:∃ sv:Sl,tS (jQ pg.sl ((je pg.sl key:Int)-1))=.agg #[.string sv.k,.int .u64 sv.r]/\kX key pg.sl=sv.r:=by
   unfold kX;cases jQ pg.sl ((je pg.sl key:Int)-1)with
   | none=>exact⟨⟨⟨#[]⟩,0⟩,rfl,rfl⟩
   | some s=>exact⟨s,rfl,rfl⟩
  have ahh:0<=sv.r:=by
   rw[← Wh];unfold kX jQ;split
   ·rename_i s hx
    split at hx
    ·cases hx
    ·exact uZ s (aqs hx)
   ·omega
  rw[hsv]at Qc;generalize (jQ pg.sl ((je pg.sl key:Int)-1)).isSome=bo at Qc;rw[Wh]at dZ;have Hlv:=aqo hlv;clear hsv Wh fj;clear hlv;go_upto_region 9 with(fail)
  have Hs:=aqo hs;clear hs;refine fZ [false,false,false,false,false,false,false,false,false,true,true,false] 9 10
   (fun W=>St K W (blk w.heap.size (.cells #[.int .i64 (pg).az,(.slice a pg.sl.length c),.string (pg).hi,.bool (pg).la,.int .u64 (pg).ri] 43)::blk b (.cells (bB nx d id pg (.slice a pg.sl.length c) (.func (.func 103) #[(.pointer (some ⟨b,0,none⟩))] #[]) [.string key,.int .i64 level]).toArray 163)::bq (.slice a pg.sl.length c) pg::F)/\Below w4.heap.size w4 W)
   (fun v W=>∃ bn:Nat,v=(.pointer (some ⟨bn,0,none⟩))/\St K W (blk bn (.cells #[.string ⟨#[]⟩,.int .u64 0] 69)::blk w.heap.size (.cells #[.int .i64 (pg).az,(.slice a pg.sl.length c),.string (pg).hi,.bool (pg).la,.int .u64 (pg).ri] 43)::blk b (.cells (bB nx d id pg (.slice a pg.sl.length c) (.func (.func 103) #[(.pointer (some ⟨b,0,none⟩))] #[]) [.string key,.int .i64 level]).toArray 163)::bq (.slice a pg.sl.length c) pg::F)/\w4.heap.size<=bn/\Below w4.heap.size w4 W)
   (fun v u W=>u=undef/\∃ bn:Nat,v=(.pointer (some ⟨bn,0,none⟩))/\St K W (blk bn (.cells #[.string sv.k,.int .u64 sv.r] 69)::blk w.heap.size (.cells #[.int .i64 (pg).az,(.slice a pg.sl.length c),.string (pg).hi,.bool (pg).la,.int .u64 (pg).ri] 43)::blk b (.cells (bB nx d id pg (.slice a pg.sl.length c) (.func (.func 103) #[(.pointer (some ⟨b,0,none⟩))] #[]) [.string key,.int .i64 level]).toArray 163)::bq (.slice a pg.sl.length c) pg::F)/\w4.heap.size<=bn/\Below w4.heap.size w4 W)
   (fun W=>∃ cs,St K W (blk w.heap.size (.cells #[.int .i64 (pg).az,(.slice a pg.sl.length c),.string (pg).hi,.bool (pg).la,.int .u64 (pg).ri] 43)::blk b (.cells (bB nx d id pg (.slice a pg.sl.length c) (.func (.func 103) #[(.pointer (some ⟨b,0,none⟩))] #[]) [.string key,.int .i64 level]).toArray 163)::cs)/\Below w4.heap.size w4 W) ?aS3 (by decide) (by kernel_rfl) ?hB3 ?H3 ?ahi ⟨Hs.out,Below.refl _ _⟩ ?hI3 ?hR3 ?ahj ?ahk ?hQ3
  case hB3=>as_aux_lemma=>kernel_rfl
  case H3=>
   rintro W2 ⟨cs,hs,hb⟩;have k1:=hs.k0;have k2:=hs.k1;unfold bB at k2;have Qy:=aqo (fun wz (hy:∃ x:Ext,wz=over W2 x)=>Qc.out wz (hb.trans ((Pure.below hy).mono hb.size)))
   clear hs hb;simp only[bK];repeat (go_big_quiet_step ((go_at_call 140;exact aW (Qy.out _ ⟨_,rfl⟩))))
   refine wpQuiet_nil ?_
   rfl
  case ahi=>rfl
  case hI3=>exact⟨fun W h=>⟨_,h⟩,fun v W ⟨_,_,h,_,hb⟩=>⟨_,h.tail,hb⟩,fun v u W ⟨_,_,_,h,_,hb⟩=>⟨_,h.tail,hb⟩⟩
  case hR3=>exact⟨fun W W' ⟨h,hb0⟩ hb=>⟨h.same hb,hb0.trans (hb.mono hb0.size)⟩,fun v W W' ⟨bn,e,h,Wi,hb0⟩ hb=>⟨bn,e,h.same hb,Wi,hb0.trans (hb.mono hb0.size)⟩,fun v u W W' ⟨e0,bn,e,h,Wi,hb0⟩ hb=>⟨e0,bn,e,h.same hb,Wi,hb0.trans (hb.mono hb0.size)⟩⟩
  case ahj=>
   rintro qN o ho ρ W2 ⟨hs,hb⟩ hk af aC;obtain rfl:=aqu ho;subst aC;have Hk:=aqo hk;clear hk;have hs:=hs.made (.cells #[.string ⟨#[]⟩,.int .u64 0] 69);go_wp2
   exact⟨rfl,_,rfl,Hk.out _ _ ⟨_,rfl,hs,hb.size,hb.alloc hb.size _⟩⟩
  case ahk=>
   rintro qN o ho ρ v W2 ⟨bn,rfl,hs,Wi,hb⟩ hk af aC;obtain rfl:=aqu ho;have Hk:=aqo hk;clear hk;simp only[aL,List.getElem?_cons_succ,List.getElem?_cons_zero,Option.bind_some,Act.put,List.setIfInBounds_toArray,List.set_cons_zero,List.set_cons_succ]at aC;subst aC;have k0:=hs.k0;have f0:=hs.f0;have hs2:=(hs.aI 0 (.string sv.k)).aI 1 (.int .u64 sv.r);simp only[List.set_cons_zero,List.set_cons_succ]at hs2;have hb2:Below w4.heap.size w4 ((W2.setCell ⟨bn,0,none⟩ (.string sv.k)).setCell ⟨bn,1,none⟩ (.int .u64 sv.r)):=(hb.setCell Wi _).setCell Wi _;have Hb2:=aqo hb2;clear hb hb2;go_wp2
   exact⟨rfl,undef,rfl,Hk.out _ _ ⟨rfl,bn,rfl,hs2,Wi,Hb2.out⟩⟩
  case hQ3=>
   rintro v u W2 ⟨rfl,bn,rfl,hs,Wi,hb⟩;simp only[aL,List.getElem?_cons_succ,List.getElem?_cons_zero,Option.bind_some,Act.put,List.setIfInBounds_toArray,List.set_cons_zero,List.set_cons_succ];clear hb Wi;have kw:=hs.k0;go_upto_region 10 with(fail)
   clear kw;have Dz:=aqo hs;clear hs;refine fZ [false,false,false,false,false,true,true] 5 6
    (fun W=>St K W (blk bn (.cells #[.string sv.k,.int .u64 sv.r] 69)::blk b (.cells (bB nx d id pg (.slice a pg.sl.length c) (.func (.func 103) #[(.pointer (some ⟨b,0,none⟩))] #[]) [.string key,.int .i64 level]).toArray 163)::bq (.slice a pg.sl.length c) pg::F))
    (fun v W=>∃ o,v=aX o/\∃ B:j6,o=kY b B (iF ⟨0,id,pg,pq⟩ sv.r).pc/\St K W (blk bn (.cells #[.string sv.k,.int .u64 sv.r] 69)::(sQ b nx B (.slice a pg.sl.length c) (.slice none 0 0) d key level (iF ⟨0,id,pg,pq⟩ sv.r)++F)))
    (fun v u W=>u=v/\∃ o,v=aX o/\∃ B:j6,o=kY b B (iF ⟨0,id,pg,pq⟩ sv.r).pc/\St K W (blk bn (.cells #[.string sv.k,.int .u64 sv.r] 69)::(sQ b nx B (.slice a pg.sl.length c) (.slice none 0 0) d key level (iF ⟨0,id,pg,pq⟩ sv.r)++F)))
    (fun W=>∃ cs,St K W (blk bn (.cells #[.string sv.k,.int .u64 sv.r] 69)::cs)) ?aS4 (by decide) (by kernel_rfl) ?hB4 ?H4 ?ahl Dz.out.bV ?hI4 ?hR4 ?ahm ?ahn ?hQ4
   case hB4=>as_aux_lemma=>kernel_rfl
   case H4=>
    rintro W2 ⟨cs,hs⟩;have k1:=hs.k0;clear hs;simp only[bK];repeat (go_big_quiet_step (fail))
    refine wpQuiet_nil ?_
    rfl
   case ahl=>rfl
   case hI4=>exact⟨fun W h=>⟨_,h⟩,fun v W ⟨_,_,_,_,h⟩=>⟨_,h⟩,fun v u W ⟨_,_,_,_,_,h⟩=>⟨_,h⟩⟩
   case hR4=>exact⟨fun W W' h hb=>h.same hb,fun v W W' ⟨o,e,B,e2,h⟩ hb=>⟨o,e,B,e2,h.same hb⟩,fun v u W W' ⟨e0,o,e,B,e2,h⟩ hb=>⟨e0,o,e,B,e2,h.same hb⟩⟩
   case ahm=>
    intro qN o ho ρ W2 hs hk af aC;obtain rfl:=aqu ho;subst aC;have Hk:=aqo hk;clear hk;go_wp2_with fail
    refine(rE (id' := sv.r) (by exact ahh) hs.b1).mono ?_
    rintro e w3 ⟨o,rfl,B,ho,hs⟩;cases o with
    | none=>
     simp only[aX];go_wp2
     exact⟨rfl,_,rfl,Hk.out _ _ ⟨none,rfl,B,ho,hs⟩⟩
    | some f=>
     simp only[aX];go_wp2
     exact⟨rfl,_,rfl,Hk.out _ _ ⟨some f,rfl,B,ho,hs⟩⟩
   case ahn=>
    rintro qN o ho ρ v W2 ⟨ov,rfl,B,Re,hs⟩ hk af aC;obtain rfl:=aqu ho;have Hk:=aqo hk;clear hk;simp only[aL,List.getElem?_cons_succ,List.getElem?_cons_zero,Option.bind_some,Act.put,List.setIfInBounds_toArray,List.set_cons_zero,List.set_cons_succ]at aC;subst aC;have Rf:=aqo Re;clear Re;cases ov with
    | none=>
     simp only[aX];go_wp2
     exact⟨rfl,_,rfl,Hk.out _ _ ⟨rfl,none,rfl,B,Rf.out,hs⟩⟩
    | some f=>
     simp only[aX];go_wp2
     exact⟨rfl,_,rfl,Hk.out _ _ ⟨rfl,some f,rfl,B,Rf.out,hs⟩⟩
   case hQ4=>
    rintro v u W2 ⟨rfl,ov,rfl,B,Re,hs⟩;simp only[aL,List.getElem?_cons_succ,List.getElem?_cons_zero,Option.bind_some,Act.put,List.setIfInBounds_toArray,List.set_cons_zero,List.set_cons_succ];have Rf:=aqo Re;clear Re;cases ov with
    | none=>
     simp only[aX];go_wp2
     go_ret;exact⟨none,rfl,by rw[dZ.out];exact⟨B,_,Rf.out,hs.tail⟩⟩
    | some f=>
     simp only[aX];go_wp2
     go_ret;exact⟨some f,rfl,by rw[dZ.out];exact⟨B,_,Rf.out,hs.tail⟩⟩
end
section
variable {K:aK}{w:World}{F:List aB}{b bm bc:Nat}{L:List aP}{acc:Nat}{nx va:Value}{d:aR}{id:Int}{pg:Pg}{left:Nat}{th:Option FV}{word:Int}
theorem Af {tv:Value}(hd:d.Ok)(hid:0<=id/\id<18446744073709551616)(ha:acc<=1000000000000)(hL:0<=(ah L (d.node id 0)).n/\(ah L (d.node id 0)).n<18446744073709551616)(hw:0<=word/\word<18446744073709551616)
  (hs:St K w (blk b (.cells (aU nx d id pg va left tv word).toArray 222)::aJ bm bc L acc::F)) :
  Calls Tryz.prog 191 #[.pointer (some ⟨b,0,none⟩),.pointer (some ⟨bm,0,none⟩)] w fun e w' =>
   e=.returned (aX (cond (aH word == aH (ah L (d.node id 0)).n) none (Ey b))) /\
   St K w' (blk b (.cells (aU nx d id pg va left tv word).toArray 222)::aJ bm bc L (acc+1)::F):=by
 obtain⟨c,hc⟩:∃ c,c=ah L (d.node id 0):=⟨_,rfl⟩;have q0:=fun(w:World) (F:List aB) (hs:St K w (aJ bm bc L acc::F))=>jd (i:=d.node id 0) hs ha
 rw[← hc]at q0 hL ⊢;have Q0:=aqo q0;have qs:=fun w=>Eo word hw.1 hw.2 c.n hL.1 hL.2 w
 obtain⟨o,ho⟩:∃ o,o=(aH word == aH c.n):=⟨_,rfl⟩;rw[← ho]at qs ⊢;have Qs:=aqo qs;have Ql:=aqo (fun w=>iq d hd id hid.1 hid.2 w)
 have k:=hs.k0;unfold aU at k;clear q0 hc qs ho;go_enter Tryz.func191,Tryz.ntmps191
 go_upto_region 1 with(fail)
 go_cut [24] (fun v wx=>v=.bool (!o)/\St K wx (blk b (.cells (aU nx d id pg va left tv word).toArray 222)::aJ bm bc L (acc+1)::F))
 case first=>
  as_aux_lemma=>
  clear hL hw hd hid ha k;refine vp 16 (.agg #[.int .u64 c.n,.string c.k,.int .u64 c.m]) (fun W=>St K W (blk b (.cells (aU nx d id pg va left tv word).toArray 222)::aJ bm bc L (acc+1)::F)) ?_ (by kernel_rfl) rfl (by as_aux_lemma=>kernel_rfl) ?_ ?_ ?_ ?_
  case refine_2=>
   intro W hW;have k:∀ j,W.cell? ⟨b,j,none⟩=(aU nx d id pg va left tv word).toArray[j]? := by
    rcases hW with hW|hW
    ·exact(hs.same hW).k0
    ·exact hW.k0
   unfold aU at k;clear hW;simp only[fR];repeat (go_big_quiet_step (first|(go_at_call 69;exact aW (Ql.out _))|(go_at_call 193;exact dJ (Qs.out _))))
   refine wpQuiet_nil ?_
   rfl
  case refine_3=>exact fun W W' h hb=>h.same hb
  case refine_4=>
   intro W hb;exact⟨141, #[.pointer (some ⟨bm,0,none⟩),.int .i64 (d.node id 0)],by kernel_rfl,(Q0.out _ _ (hs.same hb).b1).mono fun e w2 ⟨he,h⟩=>⟨he,h.b1⟩⟩
  case refine_5=>
   intro W hs;go_wp2
   go_meet;exact⟨rfl,hs⟩
 case rest=>
  clear hs k;obtain⟨rfl,hs⟩:=hcut;cases o with
  | true=>
   go_wp2
   go_ret;exact⟨rfl,hs⟩
  | false=>
   go_wp2
   go_ret;exact⟨rfl,hs⟩
end
section
variable {K:aK}{w:World}{F:List aB}{b bm bc:Nat}{L:List aP}{acc:Nat}{va:Value}{d:aR}{id:Int}{s:mN}
def Jm (p acc:Nat):Nat:=if 6<=p then acc else acc+1
theorem iw {s':mN}{f:FV}{acc':Nat}(hf:Enters f.f)(Ag:r7 b s.pc=some f)(hc:w.cell? ⟨b,0,none⟩=some (aX (r7 b s.pc)))
  (hcall:Calls Tryz.prog f.f (f.x ++ #[.pointer (some ⟨bm,0,none⟩)]++f.y) w fun e w1=>∃ eX,e=.returned (aX (r7 b s'.pc))/\St K w1 (blk b (.cells (aU (aX (r7 b s.pc)) d id s'.pg eX s'.left (aX (Fc b s'.t)) s'.word).toArray 222)::bq eX s'.pg::aJ bm bc L acc' :: F)) :
  Calls Tryz.prog 77 #[.pointer (some ⟨b,0,none⟩),.pointer (some ⟨bm,0,none⟩)] w fun e w' => ∃ eX,e=.returned (.bool (decide (6<=s'.pc)))/\St K w' (Dy b d id eX s' :: bq eX s'.pg::aJ bm bc L acc' :: F):=by
 rw[Ag]at hc;rw[← Lh (b:=b)];exact lR (f:=f) (o:=r7 b s'.pc) (tl:=fun eX=>(aU (aX (r7 b s.pc)) d id s'.pg eX s'.left (aX (Fc b s'.t)) s'.word).tail) (F' := fun eX=>bq eX s'.pg::aJ bm bc L acc' :: F) hf hc hcall
theorem Rg (hd:d.Ok)(hid:0<=id/\id<18446744073709551616)(hL:bI L)(ha:acc<=1000000000000)(hok:s.Ok d)(hs:St K w (Dy b d id va s::bq va s.pg::aJ bm bc L acc::F)) :
  Calls Tryz.prog 77 #[.pointer (some ⟨b,0,none⟩),.pointer (some ⟨bm,0,none⟩)] w fun e w' => ∃ eX,e=.returned (.bool (decide (6<=(rdStep d id L s).pc)))/\St K w' (Dy b d id eX (rdStep d id L s)::bq eX (rdStep d id L s).pg::aJ bm bc L (Jm s.pc acc)::F):=by
 obtain⟨pc,pg,left,word,t⟩:=s;have h1:=hok.pc;have h2:=hok.word;have h3:=hok.len;have h4:=hok.th;have h5:=hok.left;simp only at h1 h2 h3 h4 h5;have hs':St K w (blk b (.cells (aU (aX (r7 b pc)) d id pg va left (aX (Fc b t)) word).toArray 222)::aJ bm bc L acc::bq va pg::F):=hs.b2.b1;have k0:w.cell? ⟨b,0,none⟩=some (aX (r7 b pc)):=hs'.k0 0;have sP:=hd.mV;rcases(show pc=0\/pc=1\/pc=2\/pc=3\/pc=4\/pc=5\/pc=6 by omega)with rfl|rfl|rfl|rfl|rfl|rfl|rfl
 ·have q:=Wd hd hid ha (hL (d.node id 0)) hs'
  cases hch:bY (ah L (d.node id 0)).n with
  | true=>
   rw[hch]at q;have e:rdStep d id L ⟨0,pg,left,word,t⟩=⟨0,pg,left,(ah L (d.node id 0)).n,t⟩:=by simp only[rdStep];rw[if_pos hch]
   rw[e];exact iw (s:=⟨0,pg,left,word,t⟩) (s' := ⟨0,pg,left,(ah L (d.node id 0)).n,t⟩) rA rfl k0 (q.mono fun e w1 ⟨he,h⟩=>⟨va,he,h.b2.b1⟩)
  | false=>
   rw[hch]at q;have e:rdStep d id L ⟨0,pg,left,word,t⟩=⟨1,pg,left,(ah L (d.node id 0)).n,true⟩:=by simp only[rdStep];rw[if_neg (by simp[hch])]
   rw[e];exact iw (s:=⟨0,pg,left,word,t⟩) (s' := ⟨1,pg,left,(ah L (d.node id 0)).n,true⟩) rA rfl k0 (q.mono fun e w1 ⟨he,h⟩=>⟨va,he,h.b2.b1⟩)
 ·have q:=Jf (th:=Fc b t) hd hid ha (hL (d.node id 1)) hs'
  exact iw (s:=⟨1,pg,left,word,t⟩) (s' := ⟨2,⟨wrap64 (ah L (d.node id 1)).m,[],⟨#[]⟩,false,0⟩,leftOf d (ah L (d.node id 1)),word,t⟩) rB rfl k0 (q.mono fun e w1 ⟨he,h⟩=>⟨.slice none 0 0,he,h.b2.tail.cD.b1⟩)
 ·have q:=Jg (th:=Fc b t) hd hid ha hs'
  exact iw (s:=⟨2,pg,left,word,t⟩) (s' := ⟨3,pg.high (ah L (d.node id 2)),left,word,t⟩) rC rfl k0 (q.mono fun e w1 ⟨he,h⟩=>⟨va,he,h.b2.b1⟩)
 ·obtain rfl:t=true:=by simpa using h4
  have q:=zW (th:=tO b) hd hid ha hs';rw[Ji]at q;exact iw (s:=⟨3,pg,left,word,true⟩) (s' := ⟨if left=0 then 5 else 4,pg.right (ah L (d.node id 3)),left,word,true⟩) pX rfl k0 (q.mono fun e w1 ⟨he,h⟩=>⟨va,he,h.b2.b1⟩)
 ·obtain rfl:t=true:=by simpa using h4
  have h3':(pg.sl.length:Int)+left<=d.fa:=by simpa using h3
  have q:=Jh (pg:=pg) (th:=tO b) hd hid ha (by omega) ⟨h5 rfl,by omega⟩ hs
  rw[Ji]at q;exact iw (s:=⟨4,pg,left,word,true⟩) (s' := ⟨if left-1=0 then 5 else 4,pg.push (ah L (d.slot id pg.sl.length)),left-1,word,true⟩) rD rfl k0 (q.mono fun e w1 ⟨eX,he,h⟩=>⟨eX,he,h⟩)
 ·have q:=Af hd hid ha (hL (d.node id 0)) h2 hs'
  cases hsm:(aH word == aH (ah L (d.node id 0)).n)with
  | true=>
   rw[hsm]at q;have e:rdStep d id L ⟨5,pg,left,word,t⟩=⟨6,pg,left,word,t⟩:=by simp only[rdStep];rw[if_pos hsm]
   rw[e];exact iw (s:=⟨5,pg,left,word,t⟩) (s' := ⟨6,pg,left,word,t⟩) mo rfl k0 (q.mono fun e w1 ⟨he,h⟩=>⟨va,he,h.b2.b1⟩)
  | false=>
   rw[hsm]at q;have e:rdStep d id L ⟨5,pg,left,word,t⟩=⟨0,pg,left,word,t⟩:=by simp only[rdStep];rw[if_neg (by simp[hsm])]
   rw[e];exact iw (s:=⟨5,pg,left,word,t⟩) (s' := ⟨0,pg,left,word,t⟩) mo rfl k0 (q.mono fun e w1 ⟨he,h⟩=>⟨va,he,h.b2.b1⟩)
 ·exact(m6 hs k0).mono fun e w1 ⟨he,h⟩=>⟨va,he,h⟩
end
theorem Ai (w:World)(az ri:Int)(a:Option Addr)(n c:Nat)(hi:ByteArray)(la:Bool):(Instr.field 43 (.agg #[.int .i64 az,.slice a n c,.string hi,.bool la,.int .u64 ri]) 1).run Tryz.prog w=.ok (.slice a n c) w:=rfl
theorem Aj (w:World)(az ri:Int)(a:Option Addr)(n c:Nat)(hi:ByteArray)(la:Bool):(Instr.field 43 (.agg #[.int .i64 az,.slice a n c,.string hi,.bool la,.int .u64 ri]) 3).run Tryz.prog w=.ok (.bool la) w:=rfl
theorem Ak (w:World)(az ri:Int)(a:Option Addr)(n c:Nat)(hi:ByteArray)(la:Bool):(Instr.field 43 (.agg #[.int .i64 az,.slice a n c,.string hi,.bool la,.int .u64 ri]) 4).run Tryz.prog w=.ok (.int .u64 ri) w:=rfl
attribute [go_sem] Ai Aj Ak
section
variable {K:aK}{w:World}{F:List aB}{b bm bc:Nat}{L:List aP}{acc:Nat}{va:Value}{d:aR}{id:Int}{s:mN}
theorem Lp (hd:d.Ok)(hid:0<=id/\id<18446744073709551616)(hL:bI L)(ha:acc<=1000000000000)(hok:s.Ok d)(hs:St K w (Dy b d id va s::bq va s.pg::aJ bm bc L acc::F)) :
  Calls Tryz.prog 215 #[.pointer (some ⟨b,0,none⟩),.pointer (some ⟨bm,0,none⟩)] w fun e w' => ∃ eX,e=.returned (.bool (decide (6<=(rdStep d id L s).pc)))/\St K w' (Dy b d id eX (rdStep d id L s)::bq eX (rdStep d id L s).pg::aJ bm bc L (Jm s.pc acc)::F):=by
 have Q:=aqo (Rg hd hid hL ha hok hs);clear hs;go_enter Tryz.func215,Tryz.ntmps215
 go_wp2_with fail
 refine(Q.out).mono ?_
 rintro e w1 ⟨eX,rfl,hs⟩;go_wp2
 go_ret;exact⟨eX,rfl,hs⟩
end
section
variable {K:aK}{w:World}{cs:List aB}
end
theorem gZ {K:aK}{w:World}{α:Type}{b m:Nat}{f:FV}{o:α->Option FV}{nx:Value}{tl:α->List Value}{T:TypeId}{F' : α->List aB}(hf:Enters f.f)(hc:w.cell? ⟨b,0,none⟩=some (aX (some f)))
  (hcall:Calls Tryz.prog f.f (f.x ++ #[(.pointer (some ⟨m,0,none⟩))]++f.y) w fun e w1=>∃ x,e=.returned (aX (o x))/\St K w1 (blk b (.cells (nx::tl x).toArray T)::F' x)) :
  Calls Tryz.prog 77 #[(.pointer (some ⟨b,0,none⟩)),(.pointer (some ⟨m,0,none⟩))] w fun e w' => ∃ x,e=.returned (.bool (o x).isNone)/\St K w' (blk b (.cells (aX (o x)::tl x).toArray T)::F' x):=by
 refine(oJ (R:=fun l=>∃ x,l=⟨o x,K,nx,tl x,T,F' x⟩) w b m f hf hc (hcall.mono fun e w1 ⟨x,he,hs⟩=>⟨⟨o x,K,nx,tl x,T,F' x⟩,he,⟨x,rfl⟩,hs⟩)).mono ?_
 rintro e w' ⟨l,he,⟨x,rfl⟩,hs⟩;exact⟨x,he,hs⟩
structure pZ.Ok (d:aR)(s:pZ):Prop where
 pc:s.pc<=2
 rd:s.pc=1->1<=s.id/\s.id<18446744073709551616/\s.rd.Ok d/\s.rd.pc<=5
structure tV (level:Int)(pg:Pg):Prop where
 ri:0<=pg.ri
 rf:∀ s,s∈pg.sl->0<=s.r
 j7:level<pg.az->kV pg.sl
def Al (p acc:Nat):Nat:=if p=2 then acc else acc+1
theorem Fp:Enters 104:=fun _ _=>by kernel_rfl
theorem Fq:Enters 103:=fun _ _=>by kernel_rfl
theorem r9:Enters 166:=fun _ _=>by kernel_rfl
theorem tW:Enters 215:=fun _ _=>by kernel_rfl
section
variable {K:aK}{w:World}{F:List aB}{b bm bc:Nat}{va pz:Value}{d:aR}{L:List aP}{acc:Nat}{key:ByteArray}{level:Int}{s:pZ}{B:j6}
def FdP (K:aK)(b bm bc:Nat)(d:aR)(L:List aP)(acc:Nat)(key:ByteArray)(level:Int)(F:List aB)(s:pZ)(e:Ending)(w':World):Prop:=
 ∃ (x:j6 × Value × Value),e=.returned (.bool (kY b x.1 s.pc).isNone)/\St K w' (sQ b (aX (kY b x.1 s.pc)) x.1 x.2.1 x.2.2 d key level s++aJ bm bc L acc::F)
def adv (b:Nat)(va:Value)(d:aR)(key:ByteArray)(level:Int)(s:pZ):List Value:=(bB (.nilFunc) d s.id s.pg va (.func (.func 103) #[(.pointer (some ⟨b,0,none⟩))] #[]) [.string key,.int .i64 level]).tail
theorem Fs (hd:d.Ok)(hL:bI L)(ha:acc<=1000000000000)(hok:s.Ok d)(mO:s.pc=1->(rdStep d s.id L s.rd).pc=6->tV level (rdStep d s.id L s.rd).pg)
  (hs:St K w (sQ b (aX (kY b B s.pc)) B va pz d key level s++aJ bm bc L acc::F)) :
  Calls Tryz.prog 77 #[(.pointer (some ⟨b,0,none⟩)),(.pointer (some ⟨bm,0,none⟩))] w fun e w' => FdP K b bm bc d L (Al s.pc acc) key level F (bX d L key level s) e w' := by
 obtain⟨pc,id,pg,rd⟩:=s;have hc:w.cell? ⟨b,0,none⟩=some (aX (kY b B pc)):=by
  have hs':St K w (blk b (.cells (bB (aX (kY b B pc)) d id pg va (.func (.func 103) #[(.pointer (some ⟨b,0,none⟩))] #[]) [.string key,.int .i64 level]).toArray 163)::_):=hs;exact hs'.k0 0
 match pc,hok,mO,hs,hc with
 | 0,hok,mO,hs,hc=>
  have hs:St K w (blk b (.cells (bB (aX (some (jq b))) d id pg va (.func (.func 103) #[(.pointer (some ⟨b,0,none⟩))] #[]) [.string key,.int .i64 level]).toArray 163)::bq va pg::aJ bm bc L acc::F):=hs;refine(gZ (K:=K) (α:=j6 × Value × Value) (f:=jq b) (o:=fun x=>kY b x.1 (bX d L key level ⟨0,id,pg,rd⟩).pc) (nx:=aX (some (jq b)))
   (tl:=fun x=>adv b x.2.1 d key level (bX d L key level ⟨0,id,pg,rd⟩))
   (F' := fun x=>(sQ b .nilFunc x.1 x.2.1 x.2.2 d key level (bX d L key level ⟨0,id,pg,rd⟩)).tail++aJ bm bc L (acc+1)::F) (T:=163) Fp hc ?_).mono (fun e w' h=>h)
  show Calls Tryz.prog 104 #[(.pointer (some ⟨b,2,none⟩)),(.pointer (some ⟨bm,0,none⟩))] w _
  refine(We ha hL (hs.re [0,2,1] rfl)).mono ?_
  rintro e w1 (⟨h0,rfl,hs⟩|⟨h1,B',rfl,hs⟩)
  ·have e1:bX d L key level ⟨0,id,pg,rd⟩=⟨0,id,pg,pq⟩:=by
    show iF _ (ah L 0).n=_
    unfold iF;rw[if_pos h0]
   rw[e1];exact⟨(B,va,pz),rfl,hs.re [0,2,1] rfl⟩
  ·have e1:bX d L key level ⟨0,id,pg,rd⟩=⟨1,(ah L 0).n,pg,pq⟩:=by
    show iF _ (ah L 0).n=_
    unfold iF;rw[if_neg (by omega)]
   rw[e1];exact⟨(B',va,.slice none 0 0),rfl,hs.re [0,7,1,2,3,4,5,6] rfl⟩
 | 1,hok,mO,hs,hc=>
  obtain⟨b2,b3,b5,bt,bp,br⟩:=B;have hs:St K w (blk b (.cells (bB (aX (some (aA b2 b3 b5))) d id pg va (.func (.func 103) #[(.pointer (some ⟨b,0,none⟩))] #[]) [.string key,.int .i64 level]).toArray 163)::bq va pg::bD b2 b3 b5 (.iface 213 (.pointer (some ⟨br,0,none⟩))) (Jl ⟨b2,b3,b5,bt,bp,br⟩)::blk bt (.cells #[(.pointer (some ⟨br,0,none⟩))] 213)::blk bp (.cells #[(.pointer (some ⟨b,2,none⟩))] 194)::Dy br d id pz rd::bq pz rd.pg::aJ bm bc L acc::F):=hs;obtain⟨js,oN,hrd,h5⟩:=hok.rd rfl;simp only at js oN hrd h5;have hst:=wF hd (id:=id) hL hrd;refine(gZ (K:=K) (α:=j6 × Value × Value) (f:=aA b2 b3 b5) (o:=fun x=>kY b x.1 (bX d L key level ⟨1,id,pg,rd⟩).pc) (nx:=aX (some (aA b2 b3 b5)))
   (tl:=fun x=>adv b x.2.1 d key level (bX d L key level ⟨1,id,pg,rd⟩))
   (F' := fun x=>(sQ b .nilFunc x.1 x.2.1 x.2.2 d key level (bX d L key level ⟨1,id,pg,rd⟩)).tail++aJ bm bc L (acc+1)::F) (T:=163) jP hc ?_).mono (fun e w' h=>h)
  show Calls Tryz.prog 115 #[(.pointer (some ⟨bm,0,none⟩)),(.pointer (some ⟨b2,0,none⟩)),(.pointer (some ⟨b3,0,none⟩)),(.pointer (some ⟨b5,0,none⟩))] w _
  have hrs:=Lp hd ⟨by omega,oN⟩ hL ha hrd (hs.re [5,6,7,0,1,2,3,4] rfl)
  rw[show Jm rd.pc acc=acc+1 by unfold Jm;rw[if_neg (by omega)]]at hrs
  refine(jh (P0:=fun w' => (rdStep d id L rd).pc≠6/\∃ eX,St K w' (blk b (.cells (bB (aX (some (aA b2 b3 b5))) d id pg va (.func (.func 103) #[(.pointer (some ⟨b,0,none⟩))] #[]) [.string key,.int .i64 level]).toArray 163)::bq va pg::Ln b ⟨b2,b3,b5,bt,bp,br⟩ d id eX (rdStep d id L rd)++aJ bm bc L (acc+1)::F))
   (P1:=fun o w' => (rdStep d id L rd).pc=6/\FtP K b (aX (some (aA b2 b3 b5))) d key level (aJ bm bc L (acc+1)::F) (jr key level id (rdStep d id L rd).pg) o w')
   (hs.re [2,0,1,3,4,5,6,7] rfl) (fun n w=>zZ n _ w) tW r9 (hrs.mono ?_)).mono ?_
  ·rintro e w1 ⟨eX,rfl,hs⟩
   refine⟨⟨K,_,hs.re [5,0,1,2,3,4,6,7] rfl⟩,?_⟩;by_cases h6:(rdStep d id L rd).pc=6
   ·refine .inr ⟨by rw[decide_eq_true (by omega)],?_⟩
    have hg:=mO rfl h6;simp only at hg;have hlen:(rdStep d id L rd).pg.sl.length<=1000000:=by
     have:=hd.mV;rcases hst.len with h|h <;> omega
    have hsx:St K w1 (blk b (.cells (bB (aX (some (aA b2 b3 b5))) d id pg va (.func (.func 103) #[(.pointer (some ⟨b,0,none⟩))] #[]) [.string key,.int .i64 level]).toArray 163)::(Ln b ⟨b2,b3,b5,bt,bp,br⟩ d id eX (rdStep d id L rd)++aJ bm bc L (acc+1)::F)):=(hs.re [4,3,5,6,7,0,1,2] rfl).tail;refine(Fm (R:=FtP K b (aX (some (aA b2 b3 b5))) d key level (aJ bm bc L (acc+1)::F) (jr key level id (rdStep d id L rd).pg)) Fq h6 hlen hsx ?_).mono (fun e w2 ⟨o,he,h⟩=>⟨o,he,h6,h⟩)
    ·intro w2 kW hs2
     exact Rc hg.ri hg.rf hlen hg.j7 hs2
   ·refine .inl ⟨by rw[decide_eq_false (by have:=hst.pc;omega)],h6,eX,hs.re [3,4,5,6,7,0,1,2] rfl⟩
  ·rintro e w1 ⟨o,rfl,⟨rfl,h6,eX,hs⟩|⟨h6,h⟩⟩
   ·have e1:bX d L key level ⟨1,id,pg,rd⟩=⟨1,id,pg,rdStep d id L rd⟩:=by
     show(if _ then _ else _)=_
     rw[if_neg h6]
    rw[e1];exact⟨(⟨b2,b3,b5,bt,bp,br⟩,va,eX),rfl,hs⟩
   ·have e1:bX d L key level ⟨1,id,pg,rd⟩=jr key level id (rdStep d id L rd).pg:=by
     show(if _ then _ else _)=_
     rw[if_pos h6]
    rw[e1];obtain⟨B',eX,rfl,hs⟩:=h;exact⟨(B',eX,.slice none 0 0),rfl,hs⟩
 | n+2,hok,mO,hs,hc=>
  obtain rfl:n=0:=by have h:=hok.pc;simp only at h;omega
  refine(m6 hs hc).mono ?_
  rintro e w' ⟨rfl,hs⟩;exact⟨(B,va,pz),rfl,hs⟩
end
section
variable {K:aK}{w:World}{F:List aB}{b bm bc:Nat}{va pz:Value}{d:aR}{L:List aP}{acc:Nat}{key:ByteArray}{level:Int}{s:pZ}{B:j6}
theorem Lr {b:Nat}{B:j6}{p:Nat}:(kY b B p).isNone=decide (2<=p):=by
 match p with
 | 0=>rfl
 | 1=>rfl
 | n+2=>simp[kY]
theorem Am (hd:d.Ok)(hL:bI L)(ha:acc<=1000000000000)(hok:s.Ok d)(mO:s.pc=1->(rdStep d s.id L s.rd).pc=6->tV level (rdStep d s.id L s.rd).pg)
  (hs:St K w (sQ b (aX (kY b B s.pc)) B va pz d key level s++aJ bm bc L acc::F)) :
  Calls Tryz.prog 49 #[(.pointer (some ⟨b,0,none⟩)),(.pointer (some ⟨bm,0,none⟩))] w fun e w' => e=.returned (.bool (decide (2<=(bX d L key level s).pc))) /\
   ∃ (x:j6 × Value × Value),St K w' (sQ b (aX (kY b x.1 (bX d L key level s).pc)) x.1 x.2.1 x.2.2 d key level (bX d L key level s)++aJ bm bc L (Al s.pc acc)::F):=by
 have q:=Fs hd hL ha hok mO hs;have Q:=aqo q;generalize bX d L key level s=s' at *;generalize Al s.pc acc=acc' at *;clear q hs mO;go_enter Tryz.func49,Tryz.ntmps49
 go_wp2_with fail
 refine(Q.out).mono ?_
 rintro e w1 ⟨x,rfl,hs⟩;rw[Lr];have Hs:=aqo hs;clear hs;go_wp2
 go_ret;exact⟨rfl,x,Hs.out⟩
theorem Fu (tmps:Array Value)(w:World)(b:Nat)(v0 v1 v2 v3 v4 u:Value)(hq:tmps[2]?=some u)(hp:tmps[3]?=some (.pointer (some ⟨b,0,none⟩)))(hk:∀ k,w.cell? ⟨b,k,none⟩=(#[v0,v1,v2,v3,v4]:Array Value)[k]?) :
  (results Tryz.f50 tmps).run Tryz.prog w=.ok (.tuple #[u,.agg #[v0,v1,v2,v3,v4]]) w:=by
 simp[results,Tryz.results50,go_sem,hp,hq,hk]
theorem Ao (h2:s.pc=2)(hn:s.pg.sl.length<=1000000)(hs:St K w (sQ b .nilFunc B va pz d key level s++F)) :
  Calls Tryz.prog 50 #[(.pointer (some ⟨b,0,none⟩))] w fun e w' => ∃ eX,e=.returned (.tuple #[.int .u64 s.id,.agg #[.int .i64 (s.pg).az,eX,.string (s.pg).hi,.bool (s.pg).la,.int .u64 (s.pg).ri]])/\St K w' (bq eX s.pg::(sQ b .nilFunc B va pz d key level s++F)):=by
 obtain⟨pc,id,pg,rd⟩:=s;simp only at h2 hn;subst h2;have hs:St K w (blk b (.cells (bB .nilFunc d id pg va (.func (.func 103) #[(.pointer (some ⟨b,0,none⟩))] #[]) [.string key,.int .i64 level]).toArray 163)::bq va pg::F):=hs;obtain⟨a,cap,rfl,_,_⟩:=(show St K w (ak va 69 2 pg.sl.length (aD pg.sl)::_)from hs.b1).aF
 have fj:=(show St K w (ak (.slice a pg.sl.length cap) 69 2 pg.sl.length (aD pg.sl)::_)from hs.b1).cN (by omega)
 have Hl:=aqo (show(aD pg.sl).length=pg.sl.length*2 by rw[fE])
 have H0:Hid (a=none->pg.sl.length=0):=aqo (fun e=>by subst e;rw[fj.no];rfl)
 have H1:=aqo (kU pg.sl);obtain⟨iv,cZ,dc,dg,dh⟩:=info_parts gR;have lC:=aqo cZ;have lD:=aqo dc;have lF:=aqo dg;have lG:=aqo dh;clear cZ dc dg dh;have hs1:=hs.made (.cells #[.int .i64 0,.slice none 0 0,.string ⟨#[]⟩,.bool false,.int .u64 0] 43);have Qd:=aqo (fY (w.alloc (.cells #[.int .i64 0,.slice none 0 0,.string ⟨#[]⟩,.bool false,.int .u64 0] 43)) b (hs1.k1 0) (hs1.k1 1));have k:=hs1.k1;unfold bB at k;have Hs1:=aqo hs1;clear hs hs1 fj;go_enter Tryz.func50,Tryz.ntmps50
 go_wp2_with fail
 refine(Qd.out).mono ?_
 rintro e w1 ⟨rfl,rfl⟩;go_upto_region 4 with(fail)
 clear k;have hs:=Hs1.out.made (.cells #[.int .i64 (pg).az,(.slice a pg.sl.length cap),.string (pg).hi,.bool (pg).la,.int .u64 (pg).ri] 43);rw[World.size_alloc]at hs;have fj:=(show St K _ (ak (.slice a pg.sl.length cap) 69 2 pg.sl.length (aD pg.sl)::_)from hs.b3).cN (by omega)
 have Hn:=aqo fj.news;obtain⟨sl,tX⟩:∃ sl,sl=aD pg.sl:=⟨_,rfl⟩;rw[← tX]at Hl H1 Hn;have Rh:=aqo tX;have kp:=hs.k0;have Hs:=aqo (hs.cD (T:=69) (size:=2));clear hs fj tX;go_wp2_with (at_builtin;refine cF _ _ 41 69 _ 0 pg.sl.length cap 2 24 [] sl (.agg #[.string ⟨#[]⟩,.int .u64 0]) iv a Hs.out rfl rfl Tryz.underlying41 lC.out lD.out lF.out lG.out rfl (by decide) rfl rfl Hl.out H0.out Hn.out H1.out (by omega) (by decide) ?_)
 intro v' w' hs;obtain⟨ao,oK,hv,_,_⟩:=hs.aF;subst hv;have hs:=hs.b1;have kb:=hs.k0;have fb:=hs.f0;have hs:=(hs.aI 1 (.slice ao pg.sl.length oK));simp only[List.set_cons_zero,List.set_cons_succ]at hs;clear Hs Hl H0 H1 Hn;go_upto_region 5 with(fail)
 clear kb fb kp;have kb:=hs.k0;have k:=hs.b3.k0;unfold bB at k;refine bO 7 (by kernel_rfl) (by as_aux_lemma=>kernel_rfl) ?_
 simp only[List.take_succ_cons,List.take_zero,List.drop_succ_cons,List.drop_zero];repeat (go_big_quiet_step (fail))
 refine wpQuiet_nil ?_
 intro w3 hb3;have hs:=(hs.same hb3).b2;clear kb k hb3;have kb:=hs.k0;have fb:=hs.f0;have hs:=((((hs.aI 0 (.int .i64 pg.az)).aI 1 (.slice ao pg.sl.length oK)).aI 2 (.string pg.hi)).aI 3 (.bool pg.la)).aI 4 (.int .u64 pg.ri);simp only[List.set_cons_zero,List.set_cons_succ]at hs;go_wp2
 refine bodyPost_ret (Fu _ _ w.heap.size _ _ _ _ _ _ rfl rfl hs.k0) rfl ?_
 rw[Rh.out]at hs;exact⟨_,rfl,(hs.re [2,0,1,3,4] rfl).bV.bV⟩
end
end Go.Proofs.YtlpdhhhgckpcfaaGreat
