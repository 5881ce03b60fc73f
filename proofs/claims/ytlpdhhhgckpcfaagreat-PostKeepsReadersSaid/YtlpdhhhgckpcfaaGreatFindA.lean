/- alW from node to node (package yC):. -/
import Derived.Test.YtlpdhhhgckpcfaaGreatNodeB
namespace Go.Proofs.YtlpdhhhgckpcfaaGreat
set_option linter.unusedSimpArgs false
set_option linter.unusedVariables false
open Go.RowKit
set_option maxHeartbeats 16000000
set_option maxRecDepth 100000
section
def bE (nx:Value)(d:aU)(id:Int)(pg:Pg)(va tv:Value)(rest:List Value):List Value:=
 nx :: .bool true :: .int .i64 d.th :: .int .i64 d.sn :: .int .i64 d.no :: .int .i64 d.ch :: .int .i64 d.re :: .int .i64 d.fa :: .int .u64 d.cl :: .int .u64 id :: .int .i64 pg.aA::va :: .string pg.hi :: .bool pg.la :: .int .u64 pg.ri::tv::rest
structure jO where
 b2:Nat
 b3:Nat
 b5:Nat
 bt:Nat
 bp:Nat
 br:Nat
def Kr (B:jO):FV:=aB B.b2 B.b3 B.b5
def Ks (B:jO):Value:= .func (.func 166) #[] #[(.pointer (some ⟨B.bt,0,none⟩)),(.pointer (some ⟨B.bp,0,none⟩))]
def Mv (b:Nat)(B:jO)(d:aU)(id:Int)(va:Value)(s:lM):List aC:=
 [bI B.b2 B.b3 B.b5 (.iface 213 (.pointer (some ⟨B.br,0,none⟩))) (Ks B),blk B.bt (.cells #[(.pointer (some ⟨B.br,0,none⟩))] 213),blk B.bp (.cells #[(.pointer (some ⟨b,2,none⟩))] 194),Fi B.br d id va s,bz va s.pg]
theorem St.abM {K:aM}{w:World}{a b c d e f:aC}{F:List aC}(h:St K w (a::b::c::d::e::f::F)):St K w (a::b::F):=
 h.sub ((((((List.Sublist.refl F).cons f).cons e).cons d).cons c).cons_cons b |>.cons_cons a)
section
variable {K:aM}{w:World}{F:List aC}{b bm bc:Nat}{nx va tv:Value}{d:aU}{id0 id:Int}{pg:Pg}{rest:List Value}{T:TypeId}{L:List aQ}{acc:Nat}
theorem Bt (hid:1<=id)(a:St K w (blk b (.cells (bE nx d id0 pg va tv rest).toArray T)::F)) :
  Calls Tryz.prog 139 #[(.pointer (some ⟨b,2,none⟩)),.int .u64 id] w fun e w' => ∃B:jO,e=.returned (aY (some (Kr B)))/\St K w' (blk b (.cells (bE nx d id pg va tv rest).toArray T)::(Mv b B d id (.slice none 0 0) qo++F)):=by
 have h0:id≠0:=by omega
 have a:=(a.made (.cells #[(.pointer (some ⟨b,2,none⟩))] 194)).b1;have k:=a.k0;have c:=a.f0;have h:=a.n0;have k1:=a.k1;unfold bE at k;have a:=a.aK 9 (.int .u64 id);have a:St K _ (blk b (.cells (bE nx d id pg va tv rest).toArray T)::_):=a;go_enter Tryz.func139,Tryz.ntmps139
 go_wp2_with fail
 refine(Gl (d:=d) (id:=id) a).mono ?_
 clear a k k1 c;rintro e f ⟨br,rfl,a⟩;have a:=a.made (.cells #[(.pointer (some ⟨br,0,none⟩))] 213);have k1:=a.k0;go_wp2_with fail
 refine(fY a).mono ?_
 clear a k1;rintro e l ⟨b2,b3,b5,rfl,a⟩;simp only[aB,aY];go_wp2
 go_ret;exact⟨⟨b2,b3,b5,f.heap.size,w.heap.size,br⟩,rfl,a.re [4,0,1,5,2,3] rfl⟩
def jh (b:Nat):FV:=⟨104, #[(.pointer (some ⟨b,2,none⟩))], #[]⟩
theorem xy (a:St K w F) :
  Calls Tryz.prog 139 #[(.pointer (some ⟨b,2,none⟩)),.int .u64 0] w fun e w' => e=.returned (aY (some (jh b)))/\St K w' F:=by
 have a:=a.pass (.cells #[(.pointer (some ⟨b,2,none⟩))] 194);go_enter Tryz.func139,Tryz.ntmps139
 go_wp2
 go_ret;exact⟨rfl,a⟩
theorem Yu (l:acc<=1000000000000)(m:bL L)(a:St K w (blk b (.cells (bE nx d id0 pg va tv rest).toArray T)::aL bm bc L acc::F)) :
  Calls Tryz.prog 104 #[(.pointer (some ⟨b,2,none⟩)),(.pointer (some ⟨bm,0,none⟩))] w fun e w' => ((ah L 0).n=0/\e=.returned (aY (some (jh b)))/\St K w' (blk b (.cells (bE nx d id0 pg va tv rest).toArray T)::aL bm bc L (acc+1)::F)) \/
   (1<=(ah L 0).n/\∃B:jO,e=.returned (aY (some (Kr B)))/\St K w' (blk b (.cells (bE nx d (ah L 0).n pg va tv rest).toArray T)::(Mv b B d (ah L 0).n (.slice none 0 0) qo++aL bm bc L (acc+1)::F))):=by
 have hc:=m 0;obtain⟨c,f⟩:∃c,c=ah L 0:=⟨_,rfl⟩;rw[←f]at hc ⊢;have h:=ass f.symm;have k:=a.k0;unfold bE at k;have o:=ass (fun w=>pZ d w)
 clear f;go_enter Tryz.func104,Tryz.ntmps104
 go_wp2_with fail
 refine(bJ a (o.out _)).mono ?_
 clear k;rintro e r ⟨rfl,a⟩;have q:=jo (i:=0) a.b1 l;rw[h.out]at q;have Q:=ass q;clear q;go_wp2_with fail
 refine(Q.out).mono ?_
 clear a Q;rintro e t ⟨rfl,a⟩;obtain⟨h0,_⟩:=hc;rcases(show c.n=0\/1<=c.n by omega)with h1|h1
 ·go_wp2_with fail
  refine(xy (b:=b) a.b1).mono ?_
  rintro e p ⟨rfl,a⟩;simp only[jh,aY];go_wp2
  go_ret;exact .inl ⟨by first|exact h1|rfl,rfl,a⟩
 ·go_wp2_with fail
  refine(Bt (id:=c.n) h1 a.b1).mono ?_
  rintro e p ⟨B,rfl,a⟩;simp only[Kr,aB,aY];go_wp2
  go_ret;exact .inr ⟨h1,B,rfl,a⟩
theorem Gv {B:jO}{oF:Value}{s:lM}{p:Nat}{tx ty:Array Value}{R:Option FV->World->Prop}(I:Enters p)(J:s.pc=6)(M:s.pg.sl.length<=1000000)
  (f:St K w (blk b (.cells (bE nx d id pg va (.func (.func p) tx ty) rest).toArray T)::(Mv b B d id oF s++F)))
  (n:∀(r:World) (t:Value),St K r (blk b (.cells (bE nx d id s.pg t (.func (.func p) tx ty) rest).toArray T)::bz t s.pg::F)->Calls Tryz.prog p (tx++ty) r fun e N=>∃o,e=.returned (aY o)/\R o N) :
  Calls Tryz.prog 166 #[(.pointer (some ⟨B.bt,0,none⟩)),(.pointer (some ⟨B.bp,0,none⟩))] w fun e w' => ∃o,e=.returned (aY o)/\R o w' := by
 have O : ∀(args:Array Value) (w:World),(callFunc p args).run Tryz.prog w=.ok (.enter p args) w:=I;have P:=ass n;obtain⟨b2,b3,b5,bt,bp,br⟩:=B;have f:St K w (blk b (.cells (bE nx d id pg va (.func (.func p) tx ty) rest).toArray T)::bI b2 b3 b5 _ _::blk bt (.cells #[(.pointer (some ⟨br,0,none⟩))] 213)::blk bp (.cells #[(.pointer (some ⟨b,2,none⟩))] 194)::Fi br d id oF s::bz oF s.pg::F):=f;have f:=f.b9;have Q:=ass f;clear n f;go_enter Tryz.func166,Tryz.ntmps166
 go_upto_region 1 with(fail)
 refine gH [false,false,true,false,false,true] 2 5
  (fun W=>St K W (blk b (.cells (bE nx d id pg va (.func (.func p) tx ty) rest).toArray T)::blk bt (.cells #[(.pointer (some ⟨br,0,none⟩))] 213)::blk bp (.cells #[(.pointer (some ⟨b,2,none⟩))] 194)::Fi br d id oF s::bz oF s.pg::F))
  (fun v W=>∃(l:Option Addr) (m:Nat),v=.agg #[.int .i64 (s.pg).aA,(.slice l s.pg.sl.length m),.string (s.pg).hi,.bool (s.pg).la,.int .u64 (s.pg).ri]/\St K W (bz (.slice l s.pg.sl.length m) s.pg::blk b (.cells (bE nx d id pg va (.func (.func p) tx ty) rest).toArray T)::blk bt (.cells #[(.pointer (some ⟨br,0,none⟩))] 213)::blk bp (.cells #[(.pointer (some ⟨b,2,none⟩))] 194)::Fi br d id oF s::bz oF s.pg::F))
  (fun v u W=>∃(l:Option Addr) (m:Nat),u=undef/\v=.agg #[.int .i64 (s.pg).aA,(.slice l s.pg.sl.length m),.string (s.pg).hi,.bool (s.pg).la,.int .u64 (s.pg).ri]/\St K W (bz (.slice l s.pg.sl.length m) s.pg::blk b (.cells (bE nx d id s.pg (.slice l s.pg.sl.length m) (.func (.func p) tx ty) rest).toArray T)::blk bt (.cells #[(.pointer (some ⟨br,0,none⟩))] 213)::blk bp (.cells #[(.pointer (some ⟨b,2,none⟩))] 194)::Fi br d id oF s::bz oF s.pg::F))
  (fun W=>∃cs,St K W (blk bt (.cells #[(.pointer (some ⟨br,0,none⟩))] 213)::blk bp (.cells #[(.pointer (some ⟨b,2,none⟩))] 194)::cs)) ?aS (by decide) (by kernel_rfl) ?hB ?H ?ja Q.out ?hI ?hR ?Gm ?vV ?hQ
 case hB=>as_aux_lemma=>kernel_rfl
 case H=>
  rintro A ⟨cs,f⟩;have k1:=f.k0;have k2:=f.k1;clear f;simp only[cG];repeat (go_big_quiet_step (fail))
  refine wpQuiet_nil ?_
  rfl
 case ja=>rfl
 case hI=>exact⟨fun W h=>⟨_,h.tail⟩,fun v W ⟨_,_,_,h⟩=>⟨_,h.tail.tail⟩,fun v u W ⟨_,_,_,_,h⟩=>⟨_,h.tail.tail⟩⟩
 case hR=>exact⟨fun W G h q=>h.same q,fun v W G ⟨a,c,e,h⟩ q=>⟨a,c,e,h.same q⟩,fun v u W G ⟨a,c,e,e2,h⟩ q=>⟨a,c,e,e2,h.same q⟩⟩
 case Gm=>
  intro S o D ρ A f hk af y;obtain rfl:=asy D;subst y;have E:=ass hk;clear hk;go_wp2_with fail
  refine(Ms J M f.b3.b4.u1).mono ?_
  rintro e r ⟨t,rfl,f⟩;obtain⟨l,m,rfl,_,_⟩:=(show St K r (az t 69 2 s.pg.sl.length (aF s.pg.sl)::_)from f).aJ
  go_wp2
  exact⟨rfl,_,rfl,E.out _ _ ⟨l,m,rfl,f.re [0,3,4,5,1,2] rfl⟩⟩
 case vV=>
  rintro S o D ρ v A ⟨l,m,rfl,f⟩ hk af y;obtain rfl:=asy D;have E:=ass hk;clear hk;simp only[aP,List.getElem?_cons_succ,List.getElem?_cons_zero,Option.bind_some,Act.put,List.setIfInBounds_toArray,List.set_cons_zero,List.set_cons_succ]at y;subst y;have f:=f.b1;have k:=f.k0;have V:=f.f0;have f:=((((f.aK 10 (.int .i64 s.pg.aA)).aK 11 (.slice l s.pg.sl.length m)).aK 12 (.string s.pg.hi)).aK 13 (.bool s.pg.la)).aK 14 (.int .u64 s.pg.ri);unfold bE at k;go_wp2
  exact⟨rfl,undef,rfl,E.out _ _ ⟨l,m,rfl,rfl,f.b1⟩⟩
 case hQ=>
  rintro v u A ⟨l,m,rfl,rfl,f⟩;simp only[aP,List.getElem?_cons_succ,List.getElem?_cons_zero,Option.bind_some,Act.put,List.setIfInBounds_toArray,List.set_cons_zero,List.set_cons_succ];have k1:=f.b3.k0;have U:=f.b1.k0;unfold bE at U;go_wp2_with fail
  refine(P.out _ _ (f.re [1,0,2,3,4,5] rfl).abM).mono ?_
  rintro e X ⟨o,rfl,h⟩;cases o with
  | none=>
   simp only[aY];go_wp2
   go_ret;exact⟨none,rfl,h⟩
  | some s=>
   simp only[aY];go_wp2
   go_ret;exact⟨some s,rfl,h⟩
end
structure pR where
 pc:Nat
 id:Int
 pg:Pg
 rd:lM
def iO (s:pR)(id:Int):pR:=if id=0 then⟨0,s.id,s.pg,qo⟩else⟨1,id,s.pg,qo⟩
def lq (key:ByteArray)(l:List Sl):Int:=match j5 l ((iN l key:Int)-1)with
 | some s=>s.r
 | none=>0
def jB (key:ByteArray)(level:Int)(id:Int)(pg:Pg):pR:=
 if pg.aA<level then⟨2,0,Ko,qo⟩
 else if pg.la || cA key pg.hi then
  if pg.aA=level then⟨2,id,pg,qo⟩else iO ⟨0,id,pg,qo⟩ (lq key pg.sl)
 else iO ⟨0,id,pg,qo⟩ pg.ri
def bY (d:aU)(L:List aQ)(key:ByteArray)(level:Int)(s:pR):pR:=
 match s.pc with
 | 0=>iO s (ah L 0).n
 | 1=>if (rdStep d s.id L s.rd).pc=6 then jB key level s.id (rdStep d s.id L s.rd).pg else⟨1,s.id,s.pg,rdStep d s.id L s.rd⟩
 | _=>s
def Yv:pR:=⟨0,0,Ko,qo⟩
def kL (b:Nat)(B:jO):Nat->Option FV
 | 0=>some (jh b)
 | 1=>some (Kr B)
 | _=>none
def ru (b:Nat)(nx:Value)(B:jO)(va oF:Value)(d:aU)(key:ByteArray)(level:Int)(s:pR):List aC:=
 blk b (.cells (bE nx d s.id s.pg va (.func (.func 103) #[(.pointer (some ⟨b,0,none⟩))] #[]) [.string key,.int .i64 level]).toArray 163)::bz va s.pg::(if s.pc=1 then Mv b B d s.id oF s.rd else [])
section
variable {K:aM}{w:World}{F:List aC}{b bm bc:Nat}{nx va:Value}{d:aU}{id:Int}{pg:Pg}{L:List aQ}{acc:Nat}{key:ByteArray}{level:Int}
theorem pd (a:St K w F):Calls Tryz.prog 47 #[.agg #[.int .i64 d.th,.int .i64 d.sn,.int .i64 d.no,.int .i64 d.ch,.int .i64 d.re,.int .i64 d.fa,.int .u64 d.cl],.string key,.int .i64 level] w fun e w' => ∃b,e=.returned (.pointer (some ⟨b,0,none⟩))/\∀B,St K w' (ru b (aY (some (jh b))) B (.slice none 0 0) (.slice none 0 0) d key level Yv++F):=by
 have a:=a.pass (.cells #[.int .i64 d.th,.int .i64 d.sn,.int .i64 d.no,.int .i64 d.ch,.int .i64 d.re,.int .i64 d.fa,.int .u64 d.cl] 29);have a:=a.made (.cells #[.nilFunc,.bool false,.int .i64 d.th,.int .i64 d.sn,.int .i64 d.no,.int .i64 d.ch,.int .i64 d.re,.int .i64 d.fa,.int .u64 d.cl,.int .u64 0,.int .i64 0,.slice none 0 0,.string ⟨#[]⟩,.bool false,.int .u64 0,(.func (.func 103) #[(.pointer (some ⟨(w.heap.size+1),0,none⟩))] #[]),.string key,.int .i64 level] 163);rw[World.size_alloc]at a;go_enter Tryz.func47,Tryz.ntmps47
 go_wp2_with fail
 refine(bJ a (fJ _ _ _ _)).mono ?_
 clear a;rintro e c ⟨rfl,a⟩;have k:=a.k0;have f:=a.f0;have a:=(a.aK 0 (aY (some (jh (w.heap.size+1))))).aK 1 (.bool true);simp only[List.set_cons_zero,List.set_cons_succ]at a;go_wp2
 go_ret;exact⟨_,rfl,fun B=>(a.cJ (T:=69) (size:=2)).b1⟩
theorem rZ {id':Int}{C:aC}(hid:0<=id')(a:St K w (blk b (.cells (bE nx d id pg va (.func (.func 103) #[(.pointer (some ⟨b,0,none⟩))] #[]) [.string key,.int .i64 level]).toArray 163)::C::bz va pg::F)) :
  Calls Tryz.prog 139 #[(.pointer (some ⟨b,2,none⟩)),.int .u64 id'] w fun e w' => ∃o,e=.returned (aY o)/\∃B:jO,o=kL b B (iO ⟨0,id,pg,qo⟩ id').pc/\St K w' (C::(ru b nx B va (.slice none 0 0) d key level (iO ⟨0,id,pg,qo⟩ id')++F)):=by
 by_cases h:id'=0
 ·subst h
  refine(xy (b:=b) a).mono ?_
  rintro e c ⟨rfl,a⟩;exact⟨_,rfl,⟨0,0,0,0,0,0⟩,rfl,a.b1⟩
 ·have e1:iO ⟨0,id,pg,qo⟩ id'=⟨1,id',pg,qo⟩:=by unfold iO;rw[if_neg h]
  rw[e1];refine(Bt (id:=id') (by omega) a).mono ?_
  rintro e c ⟨B,rfl,a⟩;exact⟨_,rfl,B,rfl,a.re [6,0,7,1,2,3,4,5] rfl⟩
def FtP (K:aM)(b:Nat)(nx:Value)(d:aU)(key:ByteArray)(level:Int)(F:List aC)(s:pR)(o:Option FV)(w':World):Prop:=
 ∃(B:jO) (fA:Value),o=kL b B s.pc/\St K w' (ru b nx B fA (.slice none 0 0) d key level s++F)
theorem Tj (l7:0<=pg.ri)(vP:∀s,s∈pg.sl->0<=s.r)(hn:pg.sl.length<=1000000)(dL:level<pg.aA->kY pg.sl)
  (l:St K w (blk b (.cells (bE nx d id pg va (.func (.func 103) #[(.pointer (some ⟨b,0,none⟩))] #[]) [.string key,.int .i64 level]).toArray 163)::bz va pg::F)) :
  Calls Tryz.prog 103 #[(.pointer (some ⟨b,0,none⟩))] w fun e w' => ∃o,e=.returned (aY o)/\FtP K b nx d key level F (jB key level id pg) o w' := by
 obtain⟨a,c,rfl,_,_⟩:=(show St K w (az va 69 2 pg.sl.length (aF pg.sl)::_)from l.b1).aJ
 have k:=l.k0;unfold bE at k;have l:=l.made (.cells #[.int .i64 (pg).aA,(.slice a pg.sl.length c),.string (pg).hi,.bool (pg).la,.int .u64 (pg).ri] 43);obtain⟨s',t⟩:∃s',Hid (s'=jB key level id pg):=⟨_,ass rfl⟩;rw[←t.out];have Z:=ass (fun w=>ur key ⟨#[]⟩ pg.hi pg.la w)
 rw[jX,Bool.not_false,Bool.true_and]at Z;go_enter Tryz.func103,Tryz.ntmps103
 go_upto_region 2 with(fail)
 clear k;have kw:=l.k0;have k:=l.k1;unfold bE at k;refine bK (by kernel_rfl) (by kernel_rfl) ?_
 repeat (go_big_quiet_step (fail))
 refine wpQuiet_nil ?_
 intro w2 G;have l:=l.same G;clear kw k G;by_cases M:pg.aA<level
 ·have k:=l.k1
  unfold bE at k;have kf:=l.f1;rw[jB,if_pos M]at t;have l:=((((((l.tail.aK 9 (.int .u64 0)).aK 10 (.int .i64 0)).aK 11 (.slice none 0 0)).aK 12 (.string ⟨#[]⟩)).aK 13 (.bool false)).aK 14 (.int .u64 0));go_wp2
  go_ret;exact⟨none,rfl,by rw[t.out];exact⟨⟨0,0,0,0,0,0⟩,.slice none 0 0,rfl,((l.b9.cJ (T:=69) (size:=2)).b1:St K _ (blk b (.cells (bE nx d 0 Ko (.slice none 0 0) (.func (.func 103) #[(.pointer (some ⟨b,0,none⟩))] #[]) [.string key,.int .i64 level]).toArray 163)::bz (.slice none 0 0) Ko::F))⟩⟩
 rw[jB,if_neg M]at t;have kw:=l.k0;have k:=l.k1;unfold bE at k;have Hlt:=ass M;go_upto_region 5 with(fail)
 refine bK (by kernel_rfl) (by kernel_rfl) ?_
 repeat (go_big_quiet_step ((go_at_call 138;exact aZ ((Z.out _).mono (by rintro e w' ⟨rfl,rfl⟩;exact⟨rfl,Below.refl _ _⟩)))))
 refine wpQuiet_nil ?_
 intro w3 Q;have l:=l.same Q;clear kw k Q Z M;rw[←Bool.not_or];cases S:(pg.la || cA key pg.hi)with
 | false=>
  simp only[Bool.not_false];rw[S]at t;simp only[Bool.false_eq_true,if_false]at t;have kw:=l.k0;go_upto_region 6 with(fail)
  clear kw;have Hs:=ass l;clear l;refine gH [false,false,false,false,false,true,true] 5 6
   (fun W=>St K W (blk w.heap.size (.cells #[.int .i64 (pg).aA,(.slice a pg.sl.length c),.string (pg).hi,.bool (pg).la,.int .u64 (pg).ri] 43)::blk b (.cells (bE nx d id pg (.slice a pg.sl.length c) (.func (.func 103) #[(.pointer (some ⟨b,0,none⟩))] #[]) [.string key,.int .i64 level]).toArray 163)::bz (.slice a pg.sl.length c) pg::F))
   (fun v W=>∃o,v=aY o/\∃B:jO,o=kL b B (iO ⟨0,id,pg,qo⟩ pg.ri).pc/\St K W (blk w.heap.size (.cells #[.int .i64 (pg).aA,(.slice a pg.sl.length c),.string (pg).hi,.bool (pg).la,.int .u64 (pg).ri] 43)::(ru b nx B (.slice a pg.sl.length c) (.slice none 0 0) d key level (iO ⟨0,id,pg,qo⟩ pg.ri)++F)))
   (fun v u W=>u=v/\∃o,v=aY o/\∃B:jO,o=kL b B (iO ⟨0,id,pg,qo⟩ pg.ri).pc/\St K W (blk w.heap.size (.cells #[.int .i64 (pg).aA,(.slice a pg.sl.length c),.string (pg).hi,.bool (pg).la,.int .u64 (pg).ri] 43)::(ru b nx B (.slice a pg.sl.length c) (.slice none 0 0) d key level (iO ⟨0,id,pg,qo⟩ pg.ri)++F)))
   (fun W=>∃cs,St K W (blk w.heap.size (.cells #[.int .i64 (pg).aA,(.slice a pg.sl.length c),.string (pg).hi,.bool (pg).la,.int .u64 (pg).ri] 43)::cs)) ?aS1 (by decide) (by kernel_rfl) ?hB1 ?H1 ?ah4 Hs.out ?hI1 ?hR1 ?ah5 ?ah6 ?hQ1
  case hB1=>as_aux_lemma=>kernel_rfl
  case H1=>
   rintro E ⟨cs,l⟩;have k1:=l.k0;clear l;simp only[cG];repeat (go_big_quiet_step (fail))
   refine wpQuiet_nil ?_
   rfl
  case ah4=>rfl
  case hI1=>exact⟨fun W h=>⟨_,h⟩,fun v W ⟨_,_,_,_,h⟩=>⟨_,h⟩,fun v u W ⟨_,_,_,_,_,h⟩=>⟨_,h⟩⟩
  case hR1=>exact⟨fun W O h m=>h.same m,fun v W O ⟨o,e,B,e2,h⟩ m=>⟨o,e,B,e2,h.same m⟩,fun v u W O ⟨U,o,e,B,e2,h⟩ m=>⟨U,o,e,B,e2,h.same m⟩⟩
  case ah5=>
   intro V o p ρ E l hk af D;obtain rfl:=asy p;subst D;have y:=ass hk;clear hk;go_wp2_with fail
   refine(rZ (id' := pg.ri) (by exact l7) l.b1).mono ?_
   rintro e w3 ⟨o,rfl,B,p,l⟩;cases o with
   | none=>
    simp only[aY];go_wp2
    exact⟨rfl,_,rfl,y.out _ _ ⟨none,rfl,B,p,l⟩⟩
   | some f=>
    simp only[aY];go_wp2
    exact⟨rfl,_,rfl,y.out _ _ ⟨some f,rfl,B,p,l⟩⟩
  case ah6=>
   rintro V o p ρ v E ⟨P,rfl,B,H,l⟩ hk af D;obtain rfl:=asy p;have y:=ass hk;clear hk;simp only[aP,List.getElem?_cons_succ,List.getElem?_cons_zero,Option.bind_some,Act.put,List.setIfInBounds_toArray,List.set_cons_zero,List.set_cons_succ]at D;subst D;have I:=ass H;clear H;cases P with
   | none=>
    simp only[aY];go_wp2
    exact⟨rfl,_,rfl,y.out _ _ ⟨rfl,none,rfl,B,I.out,l⟩⟩
   | some f=>
    simp only[aY];go_wp2
    exact⟨rfl,_,rfl,y.out _ _ ⟨rfl,some f,rfl,B,I.out,l⟩⟩
  case hQ1=>
   rintro v u E ⟨rfl,P,rfl,B,H,l⟩;simp only[aP,List.getElem?_cons_succ,List.getElem?_cons_zero,Option.bind_some,Act.put,List.setIfInBounds_toArray,List.set_cons_zero,List.set_cons_succ];have I:=ass H;clear H;cases P with
   | none=>
    simp only[aY];go_wp2
    go_ret;exact⟨none,rfl,by rw[t.out];exact⟨B,_,I.out,l.tail⟩⟩
   | some f=>
    simp only[aY];go_wp2
    go_ret;exact⟨some f,rfl,by rw[t.out];exact⟨B,_,I.out,l.tail⟩⟩
 | true=>
  simp only[Bool.not_true];rw[S]at t;simp only[if_true]at t;have kw:=l.k0;have k:=l.k1;unfold bE at k;go_upto_region 7 with(fail)
  refine bK (by kernel_rfl) (by kernel_rfl) ?_
  repeat (go_big_quiet_step (fail))
  refine wpQuiet_nil ?_
  intro A X;have l:=l.same X;clear kw k X;by_cases J:pg.aA=level
  ·rw[if_pos J]at t
   go_wp2
   go_ret;exact⟨none,rfl,by rw[t.out];exact⟨⟨0,0,0,0,0,0⟩,.slice a pg.sl.length c,rfl,l.tail⟩⟩
  rw[if_neg J]at t;rw[show(pg.aA == level)=false by simp[J]]
  have fB:=(show St K A (az (.slice a pg.sl.length c) 69 2 pg.sl.length (aF pg.sl)::_)from l.b2).cM (by omega)
  have Qc:=ass (fun W (m:Below A.heap.size A W)=>Mu (cap:=c) (key:=key) W (fB.same m) (dL (by have:=Hlt.out;omega)))
  obtain⟨n,Mw,Tn⟩:∃n:Sl,uu (j5 pg.sl ((iN pg.sl key:Int)-1))=.agg #[.string n.k,.int .u64 n.r]/\lq key pg.sl=n.r:=by
   unfold lq;cases j5 pg.sl ((iN pg.sl key:Int)-1)with
   | none=>exact⟨⟨⟨#[]⟩,0⟩,rfl,rfl⟩
   | some s=>exact⟨s,rfl,rfl⟩
  have ah7:0<=n.r:=by
   rw[←Tn];unfold lq j5;split
   ·rename_i s hx
    split at hx
    ·cases hx
    ·exact vP s (asw hx)
   ·omega
  rw[Mw]at Qc;generalize (j5 pg.sl ((iN pg.sl key:Int)-1)).isSome=bo at Qc;rw[Tn]at t;have Hlv:=ass J;clear Mw Tn fB;clear J;go_upto_region 9 with(fail)
  have Hs:=ass l;clear l;refine gH [false,false,false,false,false,false,false,false,false,true,true,false] 9 10
   (fun W=>St K W (blk w.heap.size (.cells #[.int .i64 (pg).aA,(.slice a pg.sl.length c),.string (pg).hi,.bool (pg).la,.int .u64 (pg).ri] 43)::blk b (.cells (bE nx d id pg (.slice a pg.sl.length c) (.func (.func 103) #[(.pointer (some ⟨b,0,none⟩))] #[]) [.string key,.int .i64 level]).toArray 163)::bz (.slice a pg.sl.length c) pg::F)/\Below A.heap.size A W)
   (fun v W=>∃bn:Nat,v=(.pointer (some ⟨bn,0,none⟩))/\St K W (blk bn (.cells #[.string ⟨#[]⟩,.int .u64 0] 69)::blk w.heap.size (.cells #[.int .i64 (pg).aA,(.slice a pg.sl.length c),.string (pg).hi,.bool (pg).la,.int .u64 (pg).ri] 43)::blk b (.cells (bE nx d id pg (.slice a pg.sl.length c) (.func (.func 103) #[(.pointer (some ⟨b,0,none⟩))] #[]) [.string key,.int .i64 level]).toArray 163)::bz (.slice a pg.sl.length c) pg::F)/\A.heap.size<=bn/\Below A.heap.size A W)
   (fun v u W=>u=undef/\∃bn:Nat,v=(.pointer (some ⟨bn,0,none⟩))/\St K W (blk bn (.cells #[.string n.k,.int .u64 n.r] 69)::blk w.heap.size (.cells #[.int .i64 (pg).aA,(.slice a pg.sl.length c),.string (pg).hi,.bool (pg).la,.int .u64 (pg).ri] 43)::blk b (.cells (bE nx d id pg (.slice a pg.sl.length c) (.func (.func 103) #[(.pointer (some ⟨b,0,none⟩))] #[]) [.string key,.int .i64 level]).toArray 163)::bz (.slice a pg.sl.length c) pg::F)/\A.heap.size<=bn/\Below A.heap.size A W)
   (fun W=>∃cs,St K W (blk w.heap.size (.cells #[.int .i64 (pg).aA,(.slice a pg.sl.length c),.string (pg).hi,.bool (pg).la,.int .u64 (pg).ri] 43)::blk b (.cells (bE nx d id pg (.slice a pg.sl.length c) (.func (.func 103) #[(.pointer (some ⟨b,0,none⟩))] #[]) [.string key,.int .i64 level]).toArray 163)::cs)/\Below A.heap.size A W) ?aS3 (by decide) (by kernel_rfl) ?hB3 ?H3 ?ah8 ⟨Hs.out,Below.refl _ _⟩ ?hI3 ?hR3 ?ah9 ?aia ?hQ3
  case hB3=>as_aux_lemma=>kernel_rfl
  case H3=>
   rintro E ⟨cs,l,m⟩;have k1:=l.k0;have k2:=l.k1;unfold bE at k2;have Qy:=ass (fun wz (hy:∃x:Ext,wz=over E x)=>Qc.out wz (m.trans ((Pure.below hy).mono m.size)))
   clear l m;simp only[cG];repeat (go_big_quiet_step ((go_at_call 140;exact aZ (Qy.out _ ⟨_,rfl⟩))))
   refine wpQuiet_nil ?_
   rfl
  case ah8=>rfl
  case hI3=>exact⟨fun W h=>⟨_,h⟩,fun v W ⟨_,_,h,_,m⟩=>⟨_,h.tail,m⟩,fun v u W ⟨_,_,_,h,_,m⟩=>⟨_,h.tail,m⟩⟩
  case hR3=>exact⟨fun W O ⟨h,q⟩ m=>⟨h.same m,q.trans (m.mono q.size)⟩,fun v W O ⟨bn,e,h,N,q⟩ m=>⟨bn,e,h.same m,N,q.trans (m.mono q.size)⟩,fun v u W O ⟨U,bn,e,h,N,q⟩ m=>⟨U,bn,e,h.same m,N,q.trans (m.mono q.size)⟩⟩
  case ah9=>
   rintro V o p ρ E ⟨l,m⟩ hk af D;obtain rfl:=asy p;subst D;have y:=ass hk;clear hk;have l:=l.made (.cells #[.string ⟨#[]⟩,.int .u64 0] 69);go_wp2
   exact⟨rfl,_,rfl,y.out _ _ ⟨_,rfl,l,m.size,m.alloc m.size _⟩⟩
  case aia=>
   rintro V o p ρ v E ⟨bn,rfl,l,N,m⟩ hk af D;obtain rfl:=asy p;have y:=ass hk;clear hk;simp only[aP,List.getElem?_cons_succ,List.getElem?_cons_zero,Option.bind_some,Act.put,List.setIfInBounds_toArray,List.set_cons_zero,List.set_cons_succ]at D;subst D;have k0:=l.k0;have f0:=l.f0;have Y:=(l.aK 0 (.string n.k)).aK 1 (.int .u64 n.r);simp only[List.set_cons_zero,List.set_cons_succ]at Y;have G:Below A.heap.size A ((E.setCell ⟨bn,0,none⟩ (.string n.k)).setCell ⟨bn,1,none⟩ (.int .u64 n.r)):=(m.setCell N _).setCell N _;have Hb2:=ass G;clear m G;go_wp2
   exact⟨rfl,undef,rfl,y.out _ _ ⟨rfl,bn,rfl,Y,N,Hb2.out⟩⟩
  case hQ3=>
   rintro v u E ⟨rfl,bn,rfl,l,N,m⟩;simp only[aP,List.getElem?_cons_succ,List.getElem?_cons_zero,Option.bind_some,Act.put,List.setIfInBounds_toArray,List.set_cons_zero,List.set_cons_succ];clear m N;have kw:=l.k0;go_upto_region 10 with(fail)
   clear kw;have Fj:=ass l;clear l;refine gH [false,false,false,false,false,true,true] 5 6
    (fun W=>St K W (blk bn (.cells #[.string n.k,.int .u64 n.r] 69)::blk b (.cells (bE nx d id pg (.slice a pg.sl.length c) (.func (.func 103) #[(.pointer (some ⟨b,0,none⟩))] #[]) [.string key,.int .i64 level]).toArray 163)::bz (.slice a pg.sl.length c) pg::F))
    (fun v W=>∃o,v=aY o/\∃B:jO,o=kL b B (iO ⟨0,id,pg,qo⟩ n.r).pc/\St K W (blk bn (.cells #[.string n.k,.int .u64 n.r] 69)::(ru b nx B (.slice a pg.sl.length c) (.slice none 0 0) d key level (iO ⟨0,id,pg,qo⟩ n.r)++F)))
    (fun v u W=>u=v/\∃o,v=aY o/\∃B:jO,o=kL b B (iO ⟨0,id,pg,qo⟩ n.r).pc/\St K W (blk bn (.cells #[.string n.k,.int .u64 n.r] 69)::(ru b nx B (.slice a pg.sl.length c) (.slice none 0 0) d key level (iO ⟨0,id,pg,qo⟩ n.r)++F)))
    (fun W=>∃cs,St K W (blk bn (.cells #[.string n.k,.int .u64 n.r] 69)::cs)) ?aS4 (by decide) (by kernel_rfl) ?hB4 ?H4 ?aib Fj.out.b9 ?hI4 ?hR4 ?aic ?aid ?hQ4
   case hB4=>as_aux_lemma=>kernel_rfl
   case H4=>
    rintro E ⟨cs,l⟩;have k1:=l.k0;clear l;simp only[cG];repeat (go_big_quiet_step (fail))
    refine wpQuiet_nil ?_
    rfl
   case aib=>rfl
   case hI4=>exact⟨fun W h=>⟨_,h⟩,fun v W ⟨_,_,_,_,h⟩=>⟨_,h⟩,fun v u W ⟨_,_,_,_,_,h⟩=>⟨_,h⟩⟩
   case hR4=>exact⟨fun W O h m=>h.same m,fun v W O ⟨o,e,B,e2,h⟩ m=>⟨o,e,B,e2,h.same m⟩,fun v u W O ⟨U,o,e,B,e2,h⟩ m=>⟨U,o,e,B,e2,h.same m⟩⟩
   case aic=>
    intro V o p ρ E l hk af D;obtain rfl:=asy p;subst D;have y:=ass hk;clear hk;go_wp2_with fail
    refine(rZ (id' := n.r) (by exact ah7) l.b1).mono ?_
    rintro e w3 ⟨o,rfl,B,p,l⟩;cases o with
    | none=>
     simp only[aY];go_wp2
     exact⟨rfl,_,rfl,y.out _ _ ⟨none,rfl,B,p,l⟩⟩
    | some f=>
     simp only[aY];go_wp2
     exact⟨rfl,_,rfl,y.out _ _ ⟨some f,rfl,B,p,l⟩⟩
   case aid=>
    rintro V o p ρ v E ⟨P,rfl,B,H,l⟩ hk af D;obtain rfl:=asy p;have y:=ass hk;clear hk;simp only[aP,List.getElem?_cons_succ,List.getElem?_cons_zero,Option.bind_some,Act.put,List.setIfInBounds_toArray,List.set_cons_zero,List.set_cons_succ]at D;subst D;have I:=ass H;clear H;cases P with
    | none=>
     simp only[aY];go_wp2
     exact⟨rfl,_,rfl,y.out _ _ ⟨rfl,none,rfl,B,I.out,l⟩⟩
    | some f=>
     simp only[aY];go_wp2
     exact⟨rfl,_,rfl,y.out _ _ ⟨rfl,some f,rfl,B,I.out,l⟩⟩
   case hQ4=>
    rintro v u E ⟨rfl,P,rfl,B,H,l⟩;simp only[aP,List.getElem?_cons_succ,List.getElem?_cons_zero,Option.bind_some,Act.put,List.setIfInBounds_toArray,List.set_cons_zero,List.set_cons_succ];have I:=ass H;clear H;cases P with
    | none=>
     simp only[aY];go_wp2
     go_ret;exact⟨none,rfl,by rw[t.out];exact⟨B,_,I.out,l.tail⟩⟩
    | some f=>
     simp only[aY];go_wp2
     go_ret;exact⟨some f,rfl,by rw[t.out];exact⟨B,_,I.out,l.tail⟩⟩
end
section
variable {K:aM}{w:World}{F:List aC}{b bm bc:Nat}{L:List aQ}{acc:Nat}{nx va:Value}{d:aU}{id:Int}{pg:Pg}{left:Nat}{th:Option FV}{word:Int}
theorem Bu {tv:Value}(E:d.Ok)(hid:0<=id/\id<18446744073709551616)(G:acc<=1000000000000)(p:0<=(ah L (d.node id 0)).n/\(ah L (d.node id 0)).n<18446744073709551616)(hw:0<=word/\word<18446744073709551616)
  (a:St K w (blk b (.cells (aW nx d id pg va left tv word).toArray 222)::aL bm bc L acc::F)) :
  Calls Tryz.prog 191 #[.pointer (some ⟨b,0,none⟩),.pointer (some ⟨bm,0,none⟩)] w fun e w' =>
   e=.returned (aY (cond (aH word == aH (ah L (d.node id 0)).n) none (Gg b))) /\
   St K w' (blk b (.cells (aW nx d id pg va left tv word).toArray 222)::aL bm bc L (acc+1)::F):=by
 obtain⟨c,hc⟩:∃c,c=ah L (d.node id 0):=⟨_,rfl⟩;have t:=fun(w:World) (F:List aC) (a:St K w (aL bm bc L acc::F))=>jo (i:=d.node id 0) a G
 rw[←hc]at t p ⊢;have Q:=ass t;have y:=fun w=>Gc word hw.1 hw.2 c.n p.1 p.2 w
 obtain⟨o,q⟩:∃o,o=(aH word == aH c.n):=⟨_,rfl⟩;rw[←q]at y ⊢;have I:=ass y;have J:=ass (fun w=>iG d E id hid.1 hid.2 w)
 have k:=a.k0;unfold aW at k;clear t hc y q;go_enter Tryz.func191,Tryz.ntmps191
 go_upto_region 1 with(fail)
 go_cut [24] (fun v S=>v=.bool (!o)/\St K S (blk b (.cells (aW nx d id pg va left tv word).toArray 222)::aL bm bc L (acc+1)::F))
 case first=>
  as_aux_lemma=>
  clear p hw E hid G;have A:=ass a;clear a k;refine cX (List.replicate 16 false++[true]) (fun _=>some (.agg #[.int .u64 c.n,.string c.k,.int .u64 c.m])) [16] (fun _=>[])
   (fun ρ W=>if (ρ 16).isSome then St K W (blk b (.cells (aW nx d id pg va left tv word).toArray 222)::aL bm bc L (acc+1)::F)else St K W (blk b (.cells (aW nx d id pg va left tv word).toArray 222)::aL bm bc L acc::F))
   (fun W=>∃m,St K W (blk b (.cells (aW nx d id pg va left tv word).toArray 222)::aL bm bc L m::F)) ?aS (by kernel_rfl) ?hB ?H ?ja ?h0 ?hI ?hR ?hE ?hQ
  case hB=>as_aux_lemma=>kernel_rfl
  case H=>
   rintro W ⟨m,M⟩;have k:=M.k0;unfold aW at k;clear M;simp only[cF,Option.getD_some,List.replicate,List.cons_append,List.nil_append];repeat (go_big_quiet_step (first|(go_at_call 69;exact aZ (J.out _))|(go_at_call 193;exact ew (I.out _))))
   refine wpQuiet_nil ?_
   rfl
  case ja=>rfl
  case h0=>exact A.out
  case hI=>
   intro ρ W h;cases h1:(ρ 16).isSome <;> rw[h1]at h
   ·exact⟨_,h⟩
   ·exact⟨_,h⟩
  case hR=>
   intro ρ W X h N;cases h1:(ρ 16).isSome <;> rw[h1]at h
   ·exact St.same h N
   ·exact St.same h N
  case hE=>
   refine⟨fun o q ρ W h _ O _ af r=>?_,trivial⟩
   obtain rfl:=asy q;have a:St K W (blk b (.cells (aW nx d id pg va left tv word).toArray 222)::aL bm bc L acc::F):=by simpa[O] using h
   replace r:af=aj _ ρ [] _:=r;simp only[aj]at r;subst r;have P:=ass (Q.out _ _ a.b1);clear h a O I J;go_wp2_with fail
   refine(P.out).mono ?_
   rintro e U ⟨rfl,l⟩;have V:Hid (St K U (blk b (.cells (aW nx d id pg va left tv word).toArray 222)::aL bm bc L (acc+1)::F)):=ass l.b1;clear l P;go_wp2
   exact⟨rfl,_,rfl,fun u hu=>asy hu,V.out⟩
  case hQ=>
   intro ρ W h f;obtain⟨v,D⟩:=asv.1 (f 16 (by simp))
   have a:St K W (blk b (.cells (aW nx d id pg va left tv word).toArray 222)::aL bm bc L (acc+1)::F):=by simpa[D] using h
   simp only[aj,D,Option.getD_some,aP,Act.put,asz];clear h f D;go_wp2
   go_meet;exact⟨rfl,a⟩
 case rest=>
  clear a k;obtain⟨rfl,a⟩:=hcut;cases o with
  | true=>
   go_wp2
   go_ret;exact⟨rfl,a⟩
  | false=>
   go_wp2
   go_ret;exact⟨rfl,a⟩
end
section
variable {K:aM}{w:World}{F:List aC}{b bm bc:Nat}{L:List aQ}{acc:Nat}{va:Value}{d:aU}{id:Int}{s:lM}
def Kt (p acc:Nat):Nat:=if 6<=p then acc else acc+1
theorem iI {s':lM}{f:FV}{acc':Nat}(h:Enters f.f)(l:sU b s.pc=some f)(hc:w.cell? ⟨b,0,none⟩=some (aY (sU b s.pc)))
  (c:Calls Tryz.prog f.f (f.x ++ #[.pointer (some ⟨bm,0,none⟩)]++f.y) w fun e m=>∃a,e=.returned (aY (sU b s'.pc))/\St K m (blk b (.cells (aW (aY (sU b s.pc)) d id s'.pg a s'.left (aY (Gk b s'.t)) s'.word).toArray 222)::bz a s'.pg::aL bm bc L acc' :: F)) :
  Calls Tryz.prog 77 #[.pointer (some ⟨b,0,none⟩),.pointer (some ⟨bm,0,none⟩)] w fun e w' => ∃a,e=.returned (.bool (decide (6<=s'.pc)))/\St K w' (Fi b d id a s' :: bz a s'.pg::aL bm bc L acc' :: F):=by
 rw[l]at hc;rw[←Mq (b:=b)];exact l4 (f:=f) (o:=sU b s'.pc) (tl:=fun a=>(aW (aY (sU b s.pc)) d id s'.pg a s'.left (aY (Gk b s'.t)) s'.word).tail) (F' := fun a=>bz a s'.pg::aL bm bc L acc' :: F) h hc c
theorem Tp (o:d.Ok)(hid:0<=id/\id<18446744073709551616)(y:bL L)(p:acc<=1000000000000)(hok:s.Ok d)(A:St K w (Fi b d id va s::bz va s.pg::aL bm bc L acc::F)) :
  Calls Tryz.prog 77 #[.pointer (some ⟨b,0,none⟩),.pointer (some ⟨bm,0,none⟩)] w fun e w' => ∃r,e=.returned (.bool (decide (6<=(rdStep d id L s).pc)))/\St K w' (Fi b d id r (rdStep d id L s)::bz r (rdStep d id L s).pg::aL bm bc L (Kt s.pc acc)::F):=by
 obtain⟨pc,pg,left,word,t⟩:=s;have h1:=hok.pc;have E:=hok.word;have G:=hok.len;have D:=hok.th;have H:=hok.left;simp only at h1 E G D H;have a:St K w (blk b (.cells (aW (aY (sU b pc)) d id pg va left (aY (Gk b t)) word).toArray 222)::aL bm bc L acc::bz va pg::F):=A.b2.b1;have k0:w.cell? ⟨b,0,none⟩=some (aY (sU b pc)):=a.k0 0;have J:=o.m7;rcases(show pc=0\/pc=1\/pc=2\/pc=3\/pc=4\/pc=5\/pc=6 by omega)with rfl|rfl|rfl|rfl|rfl|rfl|rfl
 ·have q:=Yt o hid p (y (d.node id 0)) a
  cases c:cg (ah L (d.node id 0)).n with
  | true=>
   rw[c]at q;have e:rdStep d id L ⟨0,pg,left,word,t⟩=⟨0,pg,left,(ah L (d.node id 0)).n,t⟩:=by simp only[rdStep];rw[if_pos c]
   rw[e];exact iI (s:=⟨0,pg,left,word,t⟩) (s' := ⟨0,pg,left,(ah L (d.node id 0)).n,t⟩) rV rfl k0 (q.mono fun e l ⟨he,h⟩=>⟨va,he,h.b2.b1⟩)
  | false=>
   rw[c]at q;have e:rdStep d id L ⟨0,pg,left,word,t⟩=⟨1,pg,left,(ah L (d.node id 0)).n,true⟩:=by simp only[rdStep];rw[if_neg (by simp[c])]
   rw[e];exact iI (s:=⟨0,pg,left,word,t⟩) (s' := ⟨1,pg,left,(ah L (d.node id 0)).n,true⟩) rV rfl k0 (q.mono fun e l ⟨he,h⟩=>⟨va,he,h.b2.b1⟩)
 ·have q:=Kl (th:=Gk b t) o hid p (y (d.node id 1)) a
  exact iI (s:=⟨1,pg,left,word,t⟩) (s' := ⟨2,⟨wrap64 (ah L (d.node id 1)).m,[],⟨#[]⟩,false,0⟩,leftOf d (ah L (d.node id 1)),word,t⟩) rW rfl k0 (q.mono fun e l ⟨he,h⟩=>⟨.slice none 0 0,he,h.b2.tail.cJ.b1⟩)
 ·have q:=Km (th:=Gk b t) o hid p a
  exact iI (s:=⟨2,pg,left,word,t⟩) (s' := ⟨3,pg.high (ah L (d.node id 2)),left,word,t⟩) rX rfl k0 (q.mono fun e l ⟨he,h⟩=>⟨va,he,h.b2.b1⟩)
 ·obtain rfl:t=true:=by simpa using D
  have q:=Bg (th:=um b) o hid p a;rw[Kp]at q;exact iI (s:=⟨3,pg,left,word,true⟩) (s' := ⟨if left=0 then 5 else 4,pg.right (ah L (d.node id 3)),left,word,true⟩) qq rfl k0 (q.mono fun e l ⟨he,h⟩=>⟨va,he,h.b2.b1⟩)
 ·obtain rfl:t=true:=by simpa using D
  have I:(pg.sl.length:Int)+left<=d.fa:=by simpa using G
  have q:=Kn (pg:=pg) (th:=um b) o hid p (by omega) ⟨H rfl,by omega⟩ A
  rw[Kp]at q;exact iI (s:=⟨4,pg,left,word,true⟩) (s' := ⟨if left-1=0 then 5 else 4,pg.push (ah L (d.slot id pg.sl.length)),left-1,word,true⟩) rY rfl k0 (q.mono fun e l ⟨r,he,h⟩=>⟨r,he,h⟩)
 ·have q:=Bu o hid p (y (d.node id 0)) E a
  cases f:(aH word == aH (ah L (d.node id 0)).n)with
  | true=>
   rw[f]at q;have e:rdStep d id L ⟨5,pg,left,word,t⟩=⟨6,pg,left,word,t⟩:=by simp only[rdStep];rw[if_pos f]
   rw[e];exact iI (s:=⟨5,pg,left,word,t⟩) (s' := ⟨6,pg,left,word,t⟩) mH rfl k0 (q.mono fun e l ⟨he,h⟩=>⟨va,he,h.b2.b1⟩)
  | false=>
   rw[f]at q;have e:rdStep d id L ⟨5,pg,left,word,t⟩=⟨0,pg,left,word,t⟩:=by simp only[rdStep];rw[if_neg (by simp[f])]
   rw[e];exact iI (s:=⟨5,pg,left,word,t⟩) (s' := ⟨0,pg,left,word,t⟩) mH rfl k0 (q.mono fun e l ⟨he,h⟩=>⟨va,he,h.b2.b1⟩)
 ·exact(nh A k0).mono fun e l ⟨he,h⟩=>⟨va,he,h⟩
end
theorem Bv (w:World)(aA ri:Int)(a:Option Addr)(n c:Nat)(hi:ByteArray)(la:Bool):(Instr.field 43 (.agg #[.int .i64 aA,.slice a n c,.string hi,.bool la,.int .u64 ri]) 1).run Tryz.prog w=.ok (.slice a n c) w:=rfl
theorem Bx (w:World)(aA ri:Int)(a:Option Addr)(n c:Nat)(hi:ByteArray)(la:Bool):(Instr.field 43 (.agg #[.int .i64 aA,.slice a n c,.string hi,.bool la,.int .u64 ri]) 3).run Tryz.prog w=.ok (.bool la) w:=rfl
theorem Bz (w:World)(aA ri:Int)(a:Option Addr)(n c:Nat)(hi:ByteArray)(la:Bool):(Instr.field 43 (.agg #[.int .i64 aA,.slice a n c,.string hi,.bool la,.int .u64 ri]) 4).run Tryz.prog w=.ok (.int .u64 ri) w:=rfl
attribute [go_sem] Bv Bx Bz
section
variable {K:aM}{w:World}{F:List aC}{b bm bc:Nat}{L:List aQ}{acc:Nat}{va:Value}{d:aU}{id:Int}{s:lM}
theorem Mx (f:d.Ok)(hid:0<=id/\id<18446744073709551616)(h:bL L)(l:acc<=1000000000000)(hok:s.Ok d)(a:St K w (Fi b d id va s::bz va s.pg::aL bm bc L acc::F)) :
  Calls Tryz.prog 215 #[.pointer (some ⟨b,0,none⟩),.pointer (some ⟨bm,0,none⟩)] w fun e w' => ∃c,e=.returned (.bool (decide (6<=(rdStep d id L s).pc)))/\St K w' (Fi b d id c (rdStep d id L s)::bz c (rdStep d id L s).pg::aL bm bc L (Kt s.pc acc)::F):=by
 have Q:=ass (Tp f hid h l hok a);clear a;go_enter Tryz.func215,Tryz.ntmps215
 go_wp2_with fail
 refine(Q.out).mono ?_
 rintro e m ⟨c,rfl,a⟩;go_wp2
 go_ret;exact⟨c,rfl,a⟩
end
section
variable {K:aM}{w:World}{cs:List aC}
end
theorem iC {K:aM}{w:World}{α:Type}{b m:Nat}{f:FV}{o:α->Option FV}{nx:Value}{tl:α->List Value}{T:TypeId}{F' : α->List aC}(n:Enters f.f)(hc:w.cell? ⟨b,0,none⟩=some (aY (some f)))
  (a:Calls Tryz.prog f.f (f.x ++ #[(.pointer (some ⟨m,0,none⟩))]++f.y) w fun e h=>∃x,e=.returned (aY (o x))/\St K h (blk b (.cells (nx::tl x).toArray T)::F' x)) :
  Calls Tryz.prog 77 #[(.pointer (some ⟨b,0,none⟩)),(.pointer (some ⟨m,0,none⟩))] w fun e w' => ∃x,e=.returned (.bool (o x).isNone)/\St K w' (blk b (.cells (aY (o x)::tl x).toArray T)::F' x):=by
 refine(oY (R:=fun l=>∃x,l=⟨o x,K,nx,tl x,T,F' x⟩) w b m f n hc (a.mono fun e h ⟨x,he,c⟩=>⟨⟨o x,K,nx,tl x,T,F' x⟩,he,⟨x,rfl⟩,c⟩)).mono ?_
 rintro e w' ⟨l,he,⟨x,rfl⟩,c⟩;exact⟨x,he,c⟩
structure pR.Ok (d:aU)(s:pR):Prop where
 pc:s.pc<=2
 rd:s.pc=1->1<=s.id/\s.id<18446744073709551616/\s.rd.Ok d/\s.rd.pc<=5
structure uy (level:Int)(pg:Pg):Prop where
 ri:0<=pg.ri
 rf:∀s,s∈pg.sl->0<=s.r
 jP:level<pg.aA->kY pg.sl
def uz (p acc:Nat):Nat:=if p=2 then acc else acc+1
theorem Gw:Enters 104:=fun _ _=>by kernel_rfl
theorem Gx:Enters 103:=fun _ _=>by kernel_rfl
theorem sW:Enters 166:=fun _ _=>by kernel_rfl
theorem uA:Enters 215:=fun _ _=>by kernel_rfl
section
variable {K:aM}{w:World}{F:List aC}{b bm bc:Nat}{va oF:Value}{d:aU}{L:List aQ}{acc:Nat}{key:ByteArray}{level:Int}{s:pR}{B:jO}
def FdP (K:aM)(b bm bc:Nat)(d:aU)(L:List aQ)(acc:Nat)(key:ByteArray)(level:Int)(F:List aC)(s:pR)(e:Ending)(w':World):Prop:=
 ∃(x:jO × Value × Value),e=.returned (.bool (kL b x.1 s.pc).isNone)/\St K w' (ru b (aY (kL b x.1 s.pc)) x.1 x.2.1 x.2.2 d key level s++aL bm bc L acc::F)
def aey (b:Nat)(va:Value)(d:aU)(key:ByteArray)(level:Int)(s:pR):List Value:=(bE (.nilFunc) d s.id s.pg va (.func (.func 103) #[(.pointer (some ⟨b,0,none⟩))] #[]) [.string key,.int .i64 level]).tail
theorem Gy (y:d.Ok)(A:bL L)(J:acc<=1000000000000)(hok:s.Ok d)(p:s.pc=1->(rdStep d s.id L s.rd).pc=6->uy level (rdStep d s.id L s.rd).pg)
  (a:St K w (ru b (aY (kL b B s.pc)) B va oF d key level s++aL bm bc L acc::F)) :
  Calls Tryz.prog 77 #[(.pointer (some ⟨b,0,none⟩)),(.pointer (some ⟨bm,0,none⟩))] w fun e w' => FdP K b bm bc d L (uz s.pc acc) key level F (bY d L key level s) e w' := by
 obtain⟨pc,id,pg,rd⟩:=s;have hc:w.cell? ⟨b,0,none⟩=some (aY (kL b B pc)):=by
  have D:St K w (blk b (.cells (bE (aY (kL b B pc)) d id pg va (.func (.func 103) #[(.pointer (some ⟨b,0,none⟩))] #[]) [.string key,.int .i64 level]).toArray 163)::_):=a;exact D.k0 0
 match pc,hok,p,a,hc with
 | 0,hok,p,a,hc=>
  have a:St K w (blk b (.cells (bE (aY (some (jh b))) d id pg va (.func (.func 103) #[(.pointer (some ⟨b,0,none⟩))] #[]) [.string key,.int .i64 level]).toArray 163)::bz va pg::aL bm bc L acc::F):=a;refine(iC (K:=K) (α:=jO × Value × Value) (f:=jh b) (o:=fun x=>kL b x.1 (bY d L key level ⟨0,id,pg,rd⟩).pc) (nx:=aY (some (jh b)))
   (tl:=fun x=>aey b x.2.1 d key level (bY d L key level ⟨0,id,pg,rd⟩))
   (F' := fun x=>(ru b .nilFunc x.1 x.2.1 x.2.2 d key level (bY d L key level ⟨0,id,pg,rd⟩)).tail++aL bm bc L (acc+1)::F) (T:=163) Gw hc ?_).mono (fun e w' h=>h)
  show Calls Tryz.prog 104 #[(.pointer (some ⟨b,2,none⟩)),(.pointer (some ⟨bm,0,none⟩))] w _
  refine(Yu J A (a.re [0,2,1] rfl)).mono ?_
  rintro e E (⟨h0,rfl,a⟩|⟨h1,G,rfl,a⟩)
  ·have e1:bY d L key level ⟨0,id,pg,rd⟩=⟨0,id,pg,qo⟩:=by
    show iO _ (ah L 0).n=_
    unfold iO;rw[if_pos h0]
   rw[e1];exact⟨(B,va,oF),rfl,a.re [0,2,1] rfl⟩
  ·have e1:bY d L key level ⟨0,id,pg,rd⟩=⟨1,(ah L 0).n,pg,qo⟩:=by
    show iO _ (ah L 0).n=_
    unfold iO;rw[if_neg (by omega)]
   rw[e1];exact⟨(G,va,.slice none 0 0),rfl,a.re [0,7,1,2,3,4,5,6] rfl⟩
 | 1,hok,p,a,hc=>
  obtain⟨b2,b3,b5,bt,bp,br⟩:=B;have a:St K w (blk b (.cells (bE (aY (some (aB b2 b3 b5))) d id pg va (.func (.func 103) #[(.pointer (some ⟨b,0,none⟩))] #[]) [.string key,.int .i64 level]).toArray 163)::bz va pg::bI b2 b3 b5 (.iface 213 (.pointer (some ⟨br,0,none⟩))) (Ks ⟨b2,b3,b5,bt,bp,br⟩)::blk bt (.cells #[(.pointer (some ⟨br,0,none⟩))] 213)::blk bp (.cells #[(.pointer (some ⟨b,2,none⟩))] 194)::Fi br d id oF rd::bz oF rd.pg::aL bm bc L acc::F):=a;obtain⟨N,M,m,O⟩:=hok.rd rfl;simp only at N M m O;have q:=xo y (id:=id) A m;refine(iC (K:=K) (α:=jO × Value × Value) (f:=aB b2 b3 b5) (o:=fun x=>kL b x.1 (bY d L key level ⟨1,id,pg,rd⟩).pc) (nx:=aY (some (aB b2 b3 b5)))
   (tl:=fun x=>aey b x.2.1 d key level (bY d L key level ⟨1,id,pg,rd⟩))
   (F' := fun x=>(ru b .nilFunc x.1 x.2.1 x.2.2 d key level (bY d L key level ⟨1,id,pg,rd⟩)).tail++aL bm bc L (acc+1)::F) (T:=163) j4 hc ?_).mono (fun e w' h=>h)
  show Calls Tryz.prog 115 #[(.pointer (some ⟨bm,0,none⟩)),(.pointer (some ⟨b2,0,none⟩)),(.pointer (some ⟨b3,0,none⟩)),(.pointer (some ⟨b5,0,none⟩))] w _
  have r:=Mx y ⟨by omega,M⟩ A J m (a.re [5,6,7,0,1,2,3,4] rfl)
  rw[show Kt rd.pc acc=acc+1 by unfold Kt;rw[if_neg (by omega)]]at r
  refine(jt (P0:=fun w' => (rdStep d id L rd).pc≠6/\∃c,St K w' (blk b (.cells (bE (aY (some (aB b2 b3 b5))) d id pg va (.func (.func 103) #[(.pointer (some ⟨b,0,none⟩))] #[]) [.string key,.int .i64 level]).toArray 163)::bz va pg::Mv b ⟨b2,b3,b5,bt,bp,br⟩ d id c (rdStep d id L rd)++aL bm bc L (acc+1)::F))
   (P1:=fun o w' => (rdStep d id L rd).pc=6/\FtP K b (aY (some (aB b2 b3 b5))) d key level (aL bm bc L (acc+1)::F) (jB key level id (rdStep d id L rd).pg) o w')
   (a.re [2,0,1,3,4,5,6,7] rfl) (fun n w=>Bj n _ w) uA sW (r.mono ?_)).mono ?_
  ·rintro e E ⟨c,rfl,a⟩
   refine⟨⟨K,_,a.re [5,0,1,2,3,4,6,7] rfl⟩,?_⟩;by_cases l:(rdStep d id L rd).pc=6
   ·refine .inr ⟨by rw[decide_eq_true (by omega)],?_⟩
    have t:=p rfl l;simp only at t;have hlen:(rdStep d id L rd).pg.sl.length<=1000000:=by
     have:=y.m7;rcases q.len with h|h <;> omega
    have H:St K E (blk b (.cells (bE (aY (some (aB b2 b3 b5))) d id pg va (.func (.func 103) #[(.pointer (some ⟨b,0,none⟩))] #[]) [.string key,.int .i64 level]).toArray 163)::(Mv b ⟨b2,b3,b5,bt,bp,br⟩ d id c (rdStep d id L rd)++aL bm bc L (acc+1)::F)):=(a.re [4,3,5,6,7,0,1,2] rfl).tail;refine(Gv (R:=FtP K b (aY (some (aB b2 b3 b5))) d key level (aL bm bc L (acc+1)::F) (jB key level id (rdStep d id L rd).pg)) Gx l hlen H ?_).mono (fun e P ⟨o,he,h⟩=>⟨o,he,l,h⟩)
    ·intro P Q I
     exact Tj t.ri t.rf hlen t.jP I
   ·refine .inl ⟨by rw[decide_eq_false (by have:=q.pc;omega)],l,c,a.re [3,4,5,6,7,0,1,2] rfl⟩
  ·rintro e E ⟨o,rfl,⟨rfl,l,c,a⟩|⟨l,h⟩⟩
   ·have e1:bY d L key level ⟨1,id,pg,rd⟩=⟨1,id,pg,rdStep d id L rd⟩:=by
     show(if _ then _ else _)=_
     rw[if_neg l]
    rw[e1];exact⟨(⟨b2,b3,b5,bt,bp,br⟩,va,c),rfl,a⟩
   ·have e1:bY d L key level ⟨1,id,pg,rd⟩=jB key level id (rdStep d id L rd).pg:=by
     show(if _ then _ else _)=_
     rw[if_pos l]
    rw[e1];obtain⟨G,c,rfl,a⟩:=h;exact⟨(G,c,.slice none 0 0),rfl,a⟩
 | n+2,hok,p,a,hc=>
  obtain rfl:n=0:=by have h:=hok.pc;simp only at h;omega
  refine(nh a hc).mono ?_
  rintro e w' ⟨rfl,a⟩;exact⟨(B,va,oF),rfl,a⟩
end
section
variable {K:aM}{w:World}{F:List aC}{b bm bc:Nat}{va oF:Value}{d:aU}{L:List aQ}{acc:Nat}{key:ByteArray}{level:Int}{s:pR}{B:jO}
theorem My {b:Nat}{B:jO}{p:Nat}:(kL b B p).isNone=decide (2<=p):=by
 match p with
 | 0=>rfl
 | 1=>rfl
 | n+2=>simp[kL]
theorem r8 (f:d.Ok)(h:bL L)(l:acc<=1000000000000)(hok:s.Ok d)(c:s.pc=1->(rdStep d s.id L s.rd).pc=6->uy level (rdStep d s.id L s.rd).pg)
  (a:St K w (ru b (aY (kL b B s.pc)) B va oF d key level s++aL bm bc L acc::F)) :
  Calls Tryz.prog 49 #[(.pointer (some ⟨b,0,none⟩)),(.pointer (some ⟨bm,0,none⟩))] w fun e w' => e=.returned (.bool (decide (2<=(bY d L key level s).pc))) /\
   ∃(x:jO × Value × Value),St K w' (ru b (aY (kL b x.1 (bY d L key level s).pc)) x.1 x.2.1 x.2.2 d key level (bY d L key level s)++aL bm bc L (uz s.pc acc)::F):=by
 have q:=Gy f h l hok c a;have Q:=ass q;generalize bY d L key level s=s' at *;generalize uz s.pc acc=acc' at *;clear q a c;go_enter Tryz.func49,Tryz.ntmps49
 go_wp2_with fail
 refine(Q.out).mono ?_
 rintro e n ⟨x,rfl,a⟩;rw[My];have m:=ass a;clear a;go_wp2
 go_ret;exact⟨rfl,x,m.out⟩
theorem Gz (tmps:Array Value)(w:World)(b:Nat)(v0 v1 v2 v3 v4 u:Value)(a:tmps[2]?=some u)(hp:tmps[3]?=some (.pointer (some ⟨b,0,none⟩)))(hk:∀k,w.cell? ⟨b,k,none⟩=(#[v0,v1,v2,v3,v4]:Array Value)[k]?) :
  (results Tryz.f50 tmps).run Tryz.prog w=.ok (.tuple #[u,.agg #[v0,v1,v2,v3,v4]]) w:=by
 simp[results,Tryz.results50,go_sem,hp,a,hk]
theorem r9 (r:s.pc=2)(M:s.pg.sl.length<=1000000)(c:St K w (ru b .nilFunc B va oF d key level s++F)) :
  Calls Tryz.prog 50 #[(.pointer (some ⟨b,0,none⟩))] w fun e w' => ∃t,e=.returned (.tuple #[.int .u64 s.id,.agg #[.int .i64 (s.pg).aA,t,.string (s.pg).hi,.bool (s.pg).la,.int .u64 (s.pg).ri]])/\St K w' (bz t s.pg::(ru b .nilFunc B va oF d key level s++F)):=by
 obtain⟨pc,id,pg,rd⟩:=s;simp only at r M;subst r;have c:St K w (blk b (.cells (bE .nilFunc d id pg va (.func (.func 103) #[(.pointer (some ⟨b,0,none⟩))] #[]) [.string key,.int .i64 level]).toArray 163)::bz va pg::F):=c;obtain⟨a,cap,rfl,_,_⟩:=(show St K w (az va 69 2 pg.sl.length (aF pg.sl)::_)from c.b1).aJ
 have h:=(show St K w (az (.slice a pg.sl.length cap) 69 2 pg.sl.length (aF pg.sl)::_)from c.b1).cM (by omega)
 have n:=ass (show(aF pg.sl).length=pg.sl.length*2 by rw[fX])
 have y:Hid (a=none->pg.sl.length=0):=ass (fun e=>by subst e;rw[h.no];rfl)
 have H1:=ass (lh pg.sl);obtain⟨N,A,D,E,G⟩:=info_parts ic;have O:=ass A;have P:=ass D;have Q:=ass E;have S:=ass G;clear A D E G;have f:=c.made (.cells #[.int .i64 0,.slice none 0 0,.string ⟨#[]⟩,.bool false,.int .u64 0] 43);have U:=ass (gG (w.alloc (.cells #[.int .i64 0,.slice none 0 0,.string ⟨#[]⟩,.bool false,.int .u64 0] 43)) b (f.k1 0) (f.k1 1));have k:=f.k1;unfold bE at k;have o:=ass f;clear c f h;go_enter Tryz.func50,Tryz.ntmps50
 go_wp2_with fail
 refine(U.out).mono ?_
 rintro e Z ⟨rfl,rfl⟩;go_upto_region 4 with(fail)
 clear k;have c:=o.out.made (.cells #[.int .i64 (pg).aA,(.slice a pg.sl.length cap),.string (pg).hi,.bool (pg).la,.int .u64 (pg).ri] 43);rw[World.size_alloc]at c;have h:=(show St K _ (az (.slice a pg.sl.length cap) 69 2 pg.sl.length (aF pg.sl)::_)from c.b3).cM (by omega)
 have p:=ass h.news;obtain⟨sl,q⟩:∃sl,sl=aF pg.sl:=⟨_,rfl⟩;rw[←q]at n H1 p;have V:=ass q;have X:=c.k0;have H:=ass (c.cJ (T:=69) (size:=2));clear c h q;go_wp2_with (at_builtin;refine cK _ _ 41 69 _ 0 pg.sl.length cap 2 24 [] sl (.agg #[.string ⟨#[]⟩,.int .u64 0]) N a H.out rfl rfl Tryz.underlying41 O.out P.out Q.out S.out rfl (by decide) rfl rfl n.out y.out p.out H1.out (by omega) (by decide) ?_)
 intro v' w' c;obtain⟨I,J,Y,_,_⟩:=c.aJ;subst Y;have c:=c.b1;have m:=c.k0;have fb:=c.f0;have c:=(c.aK 1 (.slice I pg.sl.length J));simp only[List.set_cons_zero,List.set_cons_succ]at c;clear H n y H1 p;go_upto_region 5 with(fail)
 clear m fb X;have m:=c.k0;have k:=c.b3.k0;unfold bE at k;refine bN 7 (by kernel_rfl) (by as_aux_lemma=>kernel_rfl) ?_
 simp only[List.take_succ_cons,List.take_zero,List.drop_succ_cons,List.drop_zero];repeat (go_big_quiet_step (fail))
 refine wpQuiet_nil ?_
 intro w3 l;have c:=(c.same l).b2;clear m k l;have m:=c.k0;have fb:=c.f0;have c:=((((c.aK 0 (.int .i64 pg.aA)).aK 1 (.slice I pg.sl.length J)).aK 2 (.string pg.hi)).aK 3 (.bool pg.la)).aK 4 (.int .u64 pg.ri);simp only[List.set_cons_zero,List.set_cons_succ]at c;go_wp2
 refine bodyPost_ret (Gz _ _ w.heap.size _ _ _ _ _ _ rfl rfl c.k0) rfl ?_
 rw[V.out]at c;exact⟨_,rfl,(c.re [2,0,1,3,4] rfl).b9.b9⟩
end
end
section
structure oG where
 pc:Nat
 word:Int
def nA (b:Nat):Nat->Option FV
 | 0=>some ⟨152, #[(.pointer (some ⟨b,0,none⟩))], #[]⟩
 | 1=>some ⟨180, #[(.pointer (some ⟨b,0,none⟩))], #[]⟩
 | _=>none
def gD (b:Nat)(i:Int)(s:oG):aC:=blk b (.cells [(aY (nA b s.pc)),.bool true,.int .i64 i,.int .u64 s.word].toArray 199)
def bP (i:Int)(L:List aQ)(s:oG):oG × List aQ:=
 match s.pc with
 | 0=>(if (ah L i).n%2=1 then⟨0,s.word⟩else⟨1,aT (ah L i).n⟩,L)
 | 1=>if bU L i (aH s.word)then(⟨2,s.word⟩,aR L i ⟨s.word,⟨#[]⟩,0⟩)else(⟨0,s.word⟩,L)
 | _=>(s,L)
def mL:oG:=⟨0,0⟩
theorem Hh {b p:Nat}:(nA b p).isNone=decide (2<=p):=by
 match p with
 | 0=>rfl
 | 1=>rfl
 | n+2=>simp[nA]
theorem Mz {x:Int}(h:0<=x/\x<18446744073709551616):0<=aT x/\aT x<18446744073709551616:=by
 unfold aT;split <;> omega
section
variable (x:Int)(h0:0<=x)(h1:x<18446744073709551616)
include h0 h1
theorem Na:(bits .and .u64 x 1 != 0)=decide (x%2=1):=by
 obtain⟨a,rfl⟩:=Int.eq_ofNat_of_zero_le h0;have:=(bits_nat .u64 64 (by decide) (fun n a b=>by rw[IntKind.wrap_u64];omega) a 1 (by omega) (by decide)).1
 rw[show((1:Nat):Int)=1 by rfl]at this
 rw[this,Nat.and_one_is_mod];by_cases h:a%2=1
 ·rw[h,decide_eq_true (by omega)];rfl
 ·rw[show a%2=0 by omega,decide_eq_false (by omega)];rfl
theorem yD (w:World):Calls Tryz.prog 43 #[.int .u64 x] w fun e w' => e=.returned (.bool (decide (x%2=1)))/\w=w' := by
 have e:=Na x h0 h1;go_enter Tryz.func43,Tryz.ntmps43
 go_wp2
 go_ret;exact⟨rfl,rfl⟩
end
theorem Ca:Enters 152:=fun _ _=>rfl
theorem Cb:Enters 180:=fun _ _=>rfl
section
variable {K:aM}{w:World}{F:List aC}{b bm bc:Nat}{i:Int}{L:List aQ}{acc:Nat}{s:oG}{nx:Value}
theorem oO (a:St K w F):Calls Tryz.prog 116 #[.int .i64 i] w fun e w' => ∃b,e=.returned (.pointer (some ⟨b,0,none⟩))/\St K w' (gD b i mL::F):=by
 have a:=a.made (.cells [.nilFunc,.bool false,.int .i64 i,.int .u64 0].toArray 199);obtain⟨b,c⟩:∃b,b=w.heap.size:=⟨_,rfl⟩;rw[←c]at a;go_enter Tryz.func116,Tryz.ntmps116
 go_wp2_with fail
 refine(bJ a (fJ _ _ _ _)).mono ?_
 clear a;rintro e f ⟨rfl,a⟩;rw[←c];clear c;have k:=a.k0;have h:=a.f0;have a:=(a.aK 0 (.func (.func 152) #[(.pointer (some ⟨b,0,none⟩))] #[])).aK 1 (.bool true);simp only[List.set_cons_zero,List.set_cons_succ]at a;go_wp2
 go_ret;exact⟨b,rfl,a⟩
theorem Ia (D:bL L)(E:acc<=1000000000000)(a:St K w (blk b (.cells [nx,.bool true,.int .i64 i,.int .u64 s.word].toArray 199)::aL bm bc L acc::F)) :
  Calls Tryz.prog 152 #[(.pointer (some ⟨b,0,none⟩)),(.pointer (some ⟨bm,0,none⟩))] w fun e w' => e=.returned (aY (nA b (if (ah L i).n%2=1 then 0 else 1)))/\St K w' (blk b (.cells [nx,.bool true,.int .i64 i,.int .u64 (if (ah L i).n%2=1 then s.word else aT (ah L i).n)].toArray 199)::aL bm bc L (acc+1)::F):=by
 have k:=a.k0;have l:0<=(ah L i).n/\(ah L i).n<18446744073709551616:=D i;have q:=jo (i:=i) a.b1 E;generalize ah L i=c at *;obtain⟨n,key,m⟩:=c;simp only at l ⊢;obtain⟨p,hp⟩:∃p,p=if n%2=1 then 0 else 1:=⟨_,rfl⟩
 obtain⟨wd,f⟩:∃wd,wd=if n%2=1 then s.word else aT n:=⟨_,rfl⟩
 rw[←hp,←f];have r:=ass hp;have o:=ass f;clear hp f;have t:=ass q;have y:=ass (fun w=>yD n l.1 l.2 w)
 have A:=ass (fun w=>ua n l.1 l.2 w)
 clear q a l;go_enter Tryz.func152,Tryz.ntmps152
 go_wp2_with fail
 refine(t.out).mono ?_
 clear t k;rintro e G ⟨rfl,a⟩;go_wp2_with fail
 refine(y.out _).mono ?_
 clear y;rintro e H ⟨rfl,rfl⟩;rcases(by omega:n%2=0\/n%2=1)with h|h
 ·have e1:p=1:=by rw[r.out,if_neg (by omega)]
  have e2:wd=aT n:=by rw[o.out,if_neg (by omega)]
  subst e1 e2;rw[decide_eq_false (by omega)]
  clear h;go_wp2_with fail
  refine(A.out _).mono ?_
  clear A;rintro e I ⟨rfl,rfl⟩;have a:=a.b1;have k:=a.k0;have J:=a.f0;have a:=a.aK 3 (.int .u64 (aT n));simp only[List.set_cons_zero,List.set_cons_succ]at a;go_wp2
  go_ret;exact⟨rfl,a⟩
 ·have e1:p=0:=by rw[r.out,if_pos h]
  have e2:wd=s.word:=by rw[o.out,if_pos h]
  subst e1 e2;rw[decide_eq_true h];clear h;go_wp2
  go_ret;exact⟨rfl,a.b1⟩
theorem Ib (hw:0<=s.word/\s.word<18446744073709551616)(o:acc<=1000000000000)(a:St K w (blk b (.cells [nx,.bool true,.int .i64 i,.int .u64 s.word].toArray 199)::aL bm bc L acc::F)) :
  Calls Tryz.prog 180 #[(.pointer (some ⟨b,0,none⟩)),(.pointer (some ⟨bm,0,none⟩))] w fun e w' => e=.returned (aY (nA b (if bU L i (aH s.word)then 2 else 0)))/\St K w' (blk b (.cells [nx,.bool true,.int .i64 i,.int .u64 s.word].toArray 199)::aL bm bc (if bU L i (aH s.word)then aR L i ⟨s.word,⟨#[]⟩,0⟩else L) (acc+1)::F):=by
 obtain⟨pc,wd⟩:=s;simp only at hw a ⊢;have m:=ass (fun w=>jK wd hw.1 hw.2 w)
 have n:=ass (fun W (h:St K W (blk b (.cells [nx,.bool true,.int .i64 i,.int .u64 wd].toArray 199)::aL bm bc L acc::F))=>Yl (i:=i) (old:=aH wd) (c:=⟨wd,⟨#[]⟩,0⟩) h.b1 o)
 clear hw;generalize bU L i (aH wd)=ok at *;have k:=a.k0;have f:=ass a;go_enter Tryz.func180,Tryz.ntmps180
 go_upto_region 1 with(fail)
 go_cut [21]from 999 to 0 (fun v21 p=>v21=.bool (!ok)/\St K p (blk b (.cells [nx,.bool true,.int .i64 i,.int .u64 wd].toArray 199)::aL bm bc (if ok then aR L i ⟨wd,⟨#[]⟩,0⟩else L) (acc+1)::F))
 case first=>
  clear a;refine bN 15 (by kernel_rfl) (by as_aux_lemma=>kernel_rfl) ?_
  simp only[List.take_succ_cons,List.take_zero,List.drop_succ_cons,List.drop_zero];repeat (go_big_quiet_step ((go_at_call 80;exact ew (m.out _))))
  refine wpQuiet_nil ?_
  intro q l;have a:=f.out.same l;clear k l f;go_wp2_with fail
  refine(n.out _ a).mono ?_
  clear a;rintro e r ⟨rfl,a⟩;have f:=ass a.b1;clear a;go_wp2
  go_meet;exact⟨rfl,f.out⟩
 case rest=>
 clear a f k m n;obtain⟨rfl,a⟩:=hcut;apply_assumption
 cases ok with
 | true=>
  go_wp2
  go_ret;exact⟨rfl,a⟩
 | false=>
  go_wp2
  go_ret;exact⟨rfl,a⟩
end
section
variable {K:aM}{w:World}{F:List aC}{b bm bc:Nat}{i:Int}{L:List aQ}{acc:Nat}{s:oG}
structure oG.Ok (s:oG):Prop where
 pc:s.pc<=2
 word:0<=s.word/\s.word<18446744073709551616
theorem uC (c:bL L)(h:s.Ok):(bP i L s).1.Ok:=by
 obtain⟨pc,wd⟩:=s;obtain⟨h1,a⟩:=h;unfold bP;match pc with
 | 0=>
  simp only;split
  ·exact⟨Nat.zero_le _,a⟩
  ·exact⟨by show 1<=2;decide,Mz (c i)⟩
 | 1=>
  simp only;split
  ·exact⟨Nat.le_refl _,a⟩
  ·exact⟨Nat.zero_le _,a⟩
 | n+2=>exact⟨h1,a⟩
theorem Nb (m:bL L)(l:acc<=1000000000000)(hok:s.Ok)(c:s.pc≠2)(a:St K w (gD b i s::aL bm bc L acc::F)) :
  Calls Tryz.prog 77 #[(.pointer (some ⟨b,0,none⟩)),(.pointer (some ⟨bm,0,none⟩))] w fun e w' => e=.returned (.bool (decide (2<=(bP i L s).1.pc)))/\St K w' (gD b i (bP i L s).1::aL bm bc (bP i L s).2 (acc+1)::F):=by
 obtain⟨pc,wd⟩:=s;have hc:w.cell? ⟨b,0,none⟩=some (aY (nA b pc)):=(show St K w (blk b (.cells [(aY (nA b pc)),.bool true,.int .i64 i,.int .u64 wd].toArray 199)::_)from a).k0 0
 rw[←Hh (b:=b)];match pc,hok,c,a,hc with
 | 0,hok,c,a,hc=>
  refine(iC (K:=K) (α:=Unit) (f:=⟨152, #[(.pointer (some ⟨b,0,none⟩))], #[]⟩) (o:=fun _=>nA b (bP i L ⟨0,wd⟩).1.pc) (nx:=aY (nA b 0))
   (tl:=fun _=>[.bool true,.int .i64 i,.int .u64 (bP i L ⟨0,wd⟩).1.word]) (F' := fun _=>aL bm bc (bP i L ⟨0,wd⟩).2 (acc+1)::F) (T:=199) Ca hc ?_).mono (fun e w' ⟨_,he,h⟩=>⟨he,h⟩)
  refine(Ia m l a).mono ?_
  rintro e p ⟨rfl,a⟩;refine⟨(),?_,?_⟩
  ·unfold bP
   simp only;split <;> rfl
  ·unfold bP
   simp only;split <;> rename_i h
   ·rw[if_pos h]at a;exact a
   ·rw[if_neg h]at a;exact a
 | 1,hok,c,a,hc=>
  refine(iC (K:=K) (α:=Unit) (f:=⟨180, #[(.pointer (some ⟨b,0,none⟩))], #[]⟩) (o:=fun _=>nA b (bP i L ⟨1,wd⟩).1.pc) (nx:=aY (nA b 1))
   (tl:=fun _=>[.bool true,.int .i64 i,.int .u64 (bP i L ⟨1,wd⟩).1.word]) (F' := fun _=>aL bm bc (bP i L ⟨1,wd⟩).2 (acc+1)::F) (T:=199) Cb hc ?_).mono (fun e w' ⟨_,he,h⟩=>⟨he,h⟩)
  refine(Ib hok.word l a).mono ?_
  rintro e p ⟨rfl,a⟩;refine⟨(),?_,?_⟩
  ·unfold bP
   simp only;split <;> rfl
  ·unfold bP
   simp only at a ⊢;split <;> rename_i h
   ·rw[if_pos h]at a;exact a
   ·rw[if_neg h]at a;exact a
 | n+2,hok,c,a,hc=>
  have:=hok.pc;simp only at this c;omega
theorem uD (c:bL L)(f:acc<=1000000000000)(hok:s.Ok)(h:s.pc≠2)(a:St K w (gD b i s::aL bm bc L acc::F)) :
  Calls Tryz.prog 213 #[(.pointer (some ⟨b,0,none⟩)),(.pointer (some ⟨bm,0,none⟩))] w fun e w' => e=.returned (.bool (decide (2<=(bP i L s).1.pc)))/\St K w' (gD b i (bP i L s).1::aL bm bc (bP i L s).2 (acc+1)::F):=by
 have Q:=ass (Nb c f hok h a);clear a;go_enter Tryz.func213,Tryz.ntmps213
 go_wp2_with fail
 refine(Q.out).mono ?_
 clear Q;rintro e l ⟨rfl,a⟩;go_wp2
 go_ret;exact⟨rfl,a⟩
theorem pz (c:s.pc=2)(a:St K w (gD b i s::F)):Calls Tryz.prog 119 #[(.pointer (some ⟨b,0,none⟩))] w fun e w' => e=.returned (.int .u64 s.word)/\w=w' := by
 obtain⟨pc,wd⟩:=s;simp only at c;subst c;have a:St K w (blk b (.cells [.nilFunc,.bool true,.int .i64 i,.int .u64 wd].toArray 199)::F):=a;have k:=a.k0;have Q:=ass (gG w b (k 0) (k 1));clear a;go_enter Tryz.func119,Tryz.ntmps119
 go_wp2_with fail
 refine(Q.out).mono ?_
 clear Q;rintro e f ⟨rfl,rfl⟩;go_wp2
 go_ret;exact⟨rfl,rfl⟩
end
def Cc (bi bw:Nat):Nat->Option FV
 | 0=>some ⟨78, #[], #[(.pointer (some ⟨bi,0,none⟩)),(.pointer (some ⟨bw,0,none⟩))]⟩
 | _=>none
def fF (b bi bw:Nat)(i word:Int)(pc:Nat):List aC:=[blk b (.cells [aY (Cc bi bw pc),.bool true].toArray 131),blk bi (.cells #[.int .i64 i] 3),blk bw (.cells #[.int .u64 word] 23)]
section
variable {K:aM}{w:World}{F:List aC}{b bi bw bm bc:Nat}{i word:Int}{L:List aQ}{acc:Nat}
theorem kM (a:St K w F):Calls Tryz.prog 20 #[.int .i64 i,.int .u64 word] w fun e w' => ∃b bi bw,e=.returned (.pointer (some ⟨b,0,none⟩))/\St K w' (fF b bi bw i word 0++F):=by
 have a:=(a.made (.cells #[.int .i64 i] 3)).made (.cells #[.int .u64 word] 23);rw[World.size_alloc]at a;go_enter Tryz.func20,Tryz.ntmps20
 go_wp2_with fail
 refine(bJ a (fJ _ _ _ _)).mono ?_
 clear a;rintro e c ⟨rfl,a⟩;have a:=a.made (.cells [aY (Cc w.heap.size (w.heap.size+1) 0),.bool true].toArray 131);simp only[Cc,aY]at a;go_wp2
 go_ret;exact⟨_,_,_,rfl,a.re [0,2,1] rfl⟩
theorem Nc (hw:0<=word/\word<18446744073709551616)(n:acc<=1000000000000)(a:St K w (fF b bi bw i word 0++aL bm bc L acc::F)) :
  Calls Tryz.prog 77 #[(.pointer (some ⟨b,0,none⟩)),(.pointer (some ⟨bm,0,none⟩))] w fun e w' => e=.returned (.bool true)/\St K w' (fF b bi bw i word 1++aL bm bc (aR L i ⟨aH word,⟨#[]⟩,0⟩) (acc+1)::F):=by
 have a:St K w (blk b (.cells [aY (Cc bi bw 0),.bool true].toArray 131)::blk bi (.cells #[.int .i64 i] 3)::blk bw (.cells #[.int .u64 word] 23)::aL bm bc L acc::F):=a;have hc:=a.k0 0;refine(iC (K:=K) (α:=Unit) (f:=⟨78, #[], #[(.pointer (some ⟨bi,0,none⟩)),(.pointer (some ⟨bw,0,none⟩))]⟩) (o:=fun _=>none) (nx:=aY (Cc bi bw 0))
  (tl:=fun _=>[.bool true]) (F' := fun _=>blk bi (.cells #[.int .i64 i] 3)::blk bw (.cells #[.int .u64 word] 23)::aL bm bc (aR L i ⟨aH word,⟨#[]⟩,0⟩) (acc+1)::F) (T:=131) (fun _ _=>by kernel_rfl) hc ?_).mono (fun e w' ⟨_,he,h⟩=>⟨he,h⟩)
 show Calls Tryz.prog 78 #[(.pointer (some ⟨bm,0,none⟩)),(.pointer (some ⟨bi,0,none⟩)),(.pointer (some ⟨bw,0,none⟩))] w _
 have k1:=a.k1;have k2:=a.k2;have p:=ass (fun w=>jK word hw.1 hw.2 w)
 have m:=ass a;clear a;go_enter Tryz.func78,Tryz.ntmps78
 go_upto_region 1 with(fail)
 refine bN 5 (by kernel_rfl) (by as_aux_lemma=>kernel_rfl) ?_
 simp only[List.take_succ_cons,List.take_zero,List.drop_succ_cons,List.drop_zero];repeat (go_big_quiet_step ((go_at_call 80;exact ew (p.out _))))
 refine wpQuiet_nil ?_
 intro q l;have a:=m.out.same l;clear k1 k2 l m;go_wp2_with fail
 refine(ng (c:=⟨aH word,⟨#[]⟩,0⟩) a.b3 n).mono ?_
 clear a;rintro e r ⟨rfl,a⟩;go_wp2
 go_ret;exact⟨(),rfl,a.u3⟩
theorem iD (hw:0<=word/\word<18446744073709551616)(c:acc<=1000000000000)(a:St K w (fF b bi bw i word 0++aL bm bc L acc::F)) :
  Calls Tryz.prog 22 #[(.pointer (some ⟨b,0,none⟩)),(.pointer (some ⟨bm,0,none⟩))] w fun e w' => e=.returned (.bool true)/\St K w' (fF b bi bw i word 1++aL bm bc (aR L i ⟨aH word,⟨#[]⟩,0⟩) (acc+1)::F):=by
 have Q:=ass (Nc hw c a);clear a;go_enter Tryz.func22,Tryz.ntmps22
 go_wp2_with fail
 refine(Q.out).mono ?_
 clear Q;rintro e f ⟨rfl,a⟩;go_wp2
 go_ret;exact⟨rfl,a⟩
end
end
section
def bV (d:aU)(id:Int)(L:List aQ)(s:lM):lM:=
 match s.pc with
 | 1=>⟨2,⟨wrap64 (ah L (d.node id 1)).m,[],⟨#[]⟩,false,0⟩,leftOf d (ah L (d.node id 1)),s.word,false⟩
 | 2=>⟨3,s.pg.high (ah L (d.node id 2)),s.left,s.word,false⟩
 | 3=>⟨if s.left=0 then 6 else 4,s.pg.right (ah L (d.node id 3)),s.left,s.word,false⟩
 | 4=>⟨if s.left-1=0 then 6 else 4,s.pg.push (ah L (d.slot id s.pg.sl.length)),s.left-1,s.word,false⟩
 | _=>s
def nB (b:Nat):Nat->Option FV
 | 1=>Gh b
 | 2=>some ⟨189, #[.pointer (some ⟨b,2,none⟩)], #[]⟩
 | 3=>some ⟨192, #[.pointer (some ⟨b,2,none⟩)], #[]⟩
 | 4=>some ⟨195, #[.pointer (some ⟨b,2,none⟩)], #[]⟩
 | _=>none
def Ce (word:Int):lM:=⟨1,Ko,0,word,false⟩
def lr (b:Nat)(d:aU)(id:Int)(va:Value)(s:lM):aC:=blk b (.cells (aW (aY (nB b s.pc)) d id s.pg va s.left .nilFunc s.word).toArray 203)
theorem uE {b left:Nat}:lg b left none=nB b (if left=0 then 6 else 4):=by
 unfold lg;split <;> rfl
structure lM.OkO (d:aU)(s:lM):Prop where
 pc:s.pc=1\/s.pc=2\/s.pc=3\/s.pc=4\/s.pc=6
 len:s.pc=1\/(s.pg.sl.length+s.left:Int)<=d.fa
 left:s.pc=4->0<s.left
theorem Yz (d:aU)(word:Int):(Ce word).OkO d:=⟨.inl rfl,.inl rfl,by intro h;cases h⟩
theorem uF {d:aU}(f:d.Ok){id:Int}{L:List aQ}(l:bL L){s:lM}(h:s.OkO d):(bV d id L s).OkO d:=by
 obtain⟨pc,pg,left,word,t⟩:=s;have h1:=h.pc;have c:=h.len;have e:=h.left;simp only at h1 c e;rcases h1 with rfl|rfl|rfl|rfl|rfl
 ·exact⟨.inr (.inl rfl),.inr (by simpa[bV] using oh f (l _)),by intro h;cases h⟩
 ·exact⟨.inr (.inr (.inl rfl)),.inr (by simpa[bV,Pg.high] using c),by intro h;cases h⟩
 ·have a:(pg.sl.length:Int)+left<=d.fa:=by simpa using c
  simp only[bV];refine⟨?_,.inr (by simpa[Pg.right] using a),?_⟩
  ·simp only;split <;> simp
  ·simp only;split <;> omega
 ·have a:(pg.sl.length:Int)+left<=d.fa:=by simpa using c
  have hl:0<left:=e rfl;simp only[bV];refine⟨?_,.inr ?_,?_⟩
  ·simp only;split <;> simp
  ·simp only[Pg.push,List.length_append,List.length_singleton];omega
  ·simp only;split <;> omega
 ·exact h
section
variable {d:aU}{id:Int}{L:List aQ}{pg:Pg}
end
section
variable {K:aM}{w:World}{F:List aC}{b bm bc:Nat}{L:List aQ}{acc:Nat}{va:Value}{d:aU}{id:Int}{s:lM}
theorem l9 {s':lM}{f:FV}{acc':Nat}(h:Enters f.f)(l:nB b s.pc=some f)(hc:w.cell? ⟨b,0,none⟩=some (aY (nB b s.pc)))
  (c:Calls Tryz.prog f.f (f.x ++ #[.pointer (some ⟨bm,0,none⟩)]++f.y) w fun e m=>∃a,e=.returned (aY (nB b s'.pc))/\St K m (blk b (.cells (aW (aY (nB b s.pc)) d id s'.pg a s'.left .nilFunc s'.word).toArray 203)::bz a s'.pg::aL bm bc L acc' :: F)) :
  Calls Tryz.prog 77 #[.pointer (some ⟨b,0,none⟩),.pointer (some ⟨bm,0,none⟩)] w fun e w' => ∃a,e=.returned (.bool (nB b s'.pc).isNone)/\St K w' (lr b d id a s' :: bz a s'.pg::aL bm bc L acc' :: F):=by
 rw[l]at hc;exact l4 (f:=f) (o:=nB b s'.pc) (tl:=fun a=>(aW (aY (nB b s.pc)) d id s'.pg a s'.left .nilFunc s'.word).tail) (F' := fun a=>bz a s'.pg::aL bm bc L acc' :: F) h hc c
theorem Nf (f:d.Ok)(hid:0<=id/\id<18446744073709551616)(A:bL L)(l:acc<=1000000000000)(hok:s.OkO d)(o:s.pc≠6)(p:St K w (lr b d id va s::bz va s.pg::aL bm bc L acc::F)) :
  Calls Tryz.prog 77 #[.pointer (some ⟨b,0,none⟩),.pointer (some ⟨bm,0,none⟩)] w fun e w' => ∃c,e=.returned (.bool (decide ((bV d id L s).pc=6)))/\St K w' (lr b d id c (bV d id L s)::bz c (bV d id L s).pg::aL bm bc L (acc+1)::F):=by
 obtain⟨pc,pg,left,word,t⟩:=s;have h1:=hok.pc;have r:=hok.len;have y:=hok.left;simp only at h1 r y o;have a:St K w (blk b (.cells (aW (aY (nB b pc)) d id pg va left (aY none) word).toArray 203)::aL bm bc L acc::bz va pg::F):=p.b2.b1;have k0:w.cell? ⟨b,0,none⟩=some (aY (nB b pc)):=a.k0 0;have E:=f.m7;rcases h1 with rfl|rfl|rfl|rfl|rfl
 ·have q:=Kl (th:=none) f hid l (A (d.node id 1)) a
  exact l9 (s:=⟨1,pg,left,word,t⟩) (s' := ⟨2,⟨wrap64 (ah L (d.node id 1)).m,[],⟨#[]⟩,false,0⟩,leftOf d (ah L (d.node id 1)),word,false⟩) rW rfl k0 (q.mono fun e n ⟨he,h⟩=>⟨.slice none 0 0,he,h.b2.tail.cJ.b1⟩)
 ·have q:=Km (th:=none) f hid l a
  exact l9 (s:=⟨2,pg,left,word,t⟩) (s' := ⟨3,pg.high (ah L (d.node id 2)),left,word,false⟩) rX rfl k0 (q.mono fun e n ⟨he,h⟩=>⟨va,he,h.b2.b1⟩)
 ·have q:=Bg (th:=none) f hid l a
  rw[uE]at q;refine(l9 (s:=⟨3,pg,left,word,t⟩) (s' := ⟨if left=0 then 6 else 4,pg.right (ah L (d.node id 3)),left,word,false⟩) qq rfl k0 (q.mono fun e n ⟨he,h⟩=>⟨va,he,h.b2.b1⟩)).mono ?_
  rintro e w' ⟨c,rfl,h⟩;refine⟨c,?_,h⟩;simp only[bV];split <;> rfl
 ·have D:(pg.sl.length:Int)+left<=d.fa:=by simpa using r
  have q:=Kn (pg:=pg) (th:=none) f hid l (by omega) ⟨y rfl,by omega⟩ p
  rw[uE]at q;refine(l9 (s:=⟨4,pg,left,word,t⟩) (s' := ⟨if left-1=0 then 6 else 4,pg.push (ah L (d.slot id pg.sl.length)),left-1,word,false⟩) rY rfl k0 (q.mono fun e n ⟨c,he,h⟩=>⟨c,he,h⟩)).mono ?_
  rintro e w' ⟨c,rfl,h⟩;refine⟨c,?_,h⟩;simp only[bV];split <;> rfl
 ·exact absurd rfl o
theorem Ic (f:d.Ok)(hid:0<=id/\id<18446744073709551616)(h:bL L)(l:acc<=1000000000000)(hok:s.OkO d)(m:s.pc≠6)(a:St K w (lr b d id va s::bz va s.pg::aL bm bc L acc::F)) :
  Calls Tryz.prog 214 #[.pointer (some ⟨b,0,none⟩),.pointer (some ⟨bm,0,none⟩)] w fun e w' => ∃c,e=.returned (.bool (decide ((bV d id L s).pc=6)))/\St K w' (lr b d id c (bV d id L s)::bz c (bV d id L s).pg::aL bm bc L (acc+1)::F):=by
 have Q:=ass (Nf f hid h l hok m a);clear a;go_enter Tryz.func214,Tryz.ntmps214
 go_wp2_with fail
 refine(Q.out).mono ?_
 rintro e n ⟨c,rfl,a⟩;go_wp2
 go_ret;exact⟨c,rfl,a⟩
theorem Ng {p q r t y A D c7 E G c f h l m n o:Value}{T:TypeId}(a:St K w (blk b (.cells #[p,q,r,t,y,A,D,c7,E,G,c,f,h,l,m,n,.nilFunc,o] T)::F)) :
  Calls Tryz.prog 153 #[.pointer (some ⟨b,2,none⟩),.nilFunc] w fun e w' => e=.returned (.func (.func 181) #[.pointer (some ⟨b,2,none⟩)] #[])/\St K w' (blk b (.cells #[p,q,r,t,y,A,D,c7,E,G,c,f,h,l,m,n,.nilFunc,o] T)::F):=by
 have k:=a.k0;have H:=a.f0;have a:=a.aK 16 .nilFunc;simp only[List.set_cons_zero,List.set_cons_succ]at a;go_enter Tryz.func153,Tryz.ntmps153
 go_wp2
 go_ret;exact⟨rfl,a⟩
theorem Nh {word:Int}(a:St K w F) :
  Calls Tryz.prog 118 #[.agg #[.int .i64 d.th,.int .i64 d.sn,.int .i64 d.no,.int .i64 d.ch,.int .i64 d.re,.int .i64 d.fa,.int .u64 d.cl],.int .u64 id,.int .u64 word] w fun e w' => ∃b,e=.returned (.pointer (some ⟨b,0,none⟩))/\St K w' (lr b d id (.slice none 0 0) (Ce word)::bz (.slice none 0 0) Ko::F):=by
 have a:=a.pass (.cells #[.int .i64 d.th,.int .i64 d.sn,.int .i64 d.no,.int .i64 d.ch,.int .i64 d.re,.int .i64 d.fa,.int .u64 d.cl] 29);have a:=a.made (.cells #[.nilFunc,.bool false,.int .i64 d.th,.int .i64 d.sn,.int .i64 d.no,.int .i64 d.ch,.int .i64 d.re,.int .i64 d.fa,.int .u64 d.cl,.int .u64 id,.int .i64 0,.slice none 0 0,.string ⟨#[]⟩,.bool false,.int .u64 0,.int .i64 0,.nilFunc,.int .u64 word] 203);rw[World.size_alloc]at a;go_enter Tryz.func118,Tryz.ntmps118
 go_wp2_with fail
 refine(Ng a).mono ?_
 clear a;rintro e c ⟨rfl,a⟩;go_wp2_with fail
 refine(bJ a (fJ _ _ _ _)).mono ?_
 clear a;rintro e f ⟨rfl,a⟩;have k:=a.k0;have h:=a.f0;have a:=(a.aK 0 (.func (.func 181) #[.pointer (some ⟨(w.heap.size+1),2,none⟩)] #[])).aK 1 (.bool true);simp only[List.set_cons_zero,List.set_cons_succ]at a;go_wp2
 go_ret;exact⟨_,rfl,a.cJ.b1⟩
theorem Ni (tmps:Array Value)(w:World)(b:Nat)(v0 v1 v2 v3 v4 v5 v6:Value)(hp:tmps[2]?=some (.pointer (some ⟨b,0,none⟩)))(hk:∀k,w.cell? ⟨b,k,none⟩=(#[v0,v1,v2,v3,v4,v5,v6]:Array Value)[k]?) :
  (results Tryz.f122 tmps).run Tryz.prog w=.ok (.agg #[v0,v1,v2,v3,v4,v5,v6]) w:=by
 simp[results,Tryz.results122,go_sem,hp,hk]
def OhR (K:aM)(REST:List aC)(b0:Nat)(id word:Int)(pg:Pg)(ρ:Nat->Option Value)(W:World):Prop:=
 ∃(a:Option Addr) (c:Nat),(∀v,ρ 14=some v->v=.agg #[.int .i64 (pg).aA,(.slice a pg.sl.length c),.string (pg).hi,.bool (pg).la,.int .u64 (pg).ri])/\(∀v,ρ 15=some v->v=.agg #[.int .u64 id,.int .u64 word,.int .i64 (pg).aA,(.slice a pg.sl.length c),.string (pg).hi,.bool (pg).la,.int .u64 (pg).ri]) /\
  St K W (dO (ρ 14) (az (.slice a pg.sl.length c) 69 2 pg.sl.length (aF pg.sl))::blk b0 (.cells (match ρ 16 with|some _=> #[.int .u64 id,.int .u64 word,.int .i64 (pg).aA,(.slice a pg.sl.length c),.string (pg).hi,.bool (pg).la,.int .u64 (pg).ri] | none=> #[.int .u64 0,.int .u64 0,.int .i64 0,.slice none 0 0,.string ⟨#[]⟩,.bool false,.int .u64 0]) 45)::REST)
theorem Ie {pg:Pg}{word:Int}{left:Nat}{r:Option Addr}{n:Nat}(U:pg.sl.length<=1000000)(f:St K w (lr b d id (.slice r pg.sl.length n) ⟨6,pg,left,word,false⟩::bz (.slice r pg.sl.length n) pg::F)) :
  Calls Tryz.prog 122 #[.pointer (some ⟨b,0,none⟩)] w fun e w' => ∃va,e=.returned (.agg #[.int .u64 id,.int .u64 word,.int .i64 (pg).aA,va,.string (pg).hi,.bool (pg).la,.int .u64 (pg).ri]) /\
   St K w' (az va 69 2 pg.sl.length (aF pg.sl)::lr b d id (.slice r pg.sl.length n) ⟨6,pg,left,word,false⟩::bz (.slice r pg.sl.length n) pg::F):=by
 have f:St K w (blk b (.cells (aW .nilFunc d id pg (.slice r pg.sl.length n) left .nilFunc word).toArray 203)::az (.slice r pg.sl.length n) 69 2 pg.sl.length (aF pg.sl)::F):=f;have f:=f.made (.cells #[.int .u64 0,.int .u64 0,.int .i64 0,.slice none 0 0,.string ⟨#[]⟩,.bool false,.int .u64 0] 45);have M:=ass (gG (w.alloc (.cells #[.int .u64 0,.int .u64 0,.int .i64 0,.slice none 0 0,.string ⟨#[]⟩,.bool false,.int .u64 0] 45)) b (f.k1 0) (f.k1 1));go_enter Tryz.func122,Tryz.ntmps122
 go_wp2_with fail
 refine(M.out).mono ?_
 clear M;rintro e V ⟨rfl,rfl⟩;go_upto_region 3 with(fail)
 refine dc f ?_
 clear f;generalize w.heap.size=J;intro W f;have O:=ass f;clear f;refine aX [false,false,false,false,false,false,false,false,false,false,false,false,false,false,true,true,true] [14,15,16] (fun|15=>[14] | 16=>[15] | _=>[])
  (OhR K (blk b (.cells (aW .nilFunc d id pg (.slice r pg.sl.length n) left .nilFunc word).toArray 203)::az (.slice r pg.sl.length n) 69 2 pg.sl.length (aF pg.sl)::F) J id word pg)
  (fun W=>∀j,W.cell? ⟨b,j,none⟩=(aW .nilFunc d id pg (.slice r pg.sl.length n) left .nilFunc word).toArray[j]?) ?aS (by kernel_rfl) ?hB ?H ?ja ?h0 ?hI ?hR ?hE ?hQ
 case hB=>as_aux_lemma=>kernel_rfl
 case H=>
  intro D k;unfold aW at k;simp only[cG];repeat (go_big_quiet_step (fail))
  refine wpQuiet_nil ?_
  rfl
 case ja=>rfl
 case h0=>exact⟨none,0,fun v h=>(by cases h),fun v h=>(by cases h),O.out.empty⟩
 case hI=>
  rintro ρ D ⟨a,c,e1,e2,f⟩;exact f.tail.k1
 case hR=>
  rintro ρ D N ⟨a,c,e1,e2,f⟩ P;exact⟨a,c,e1,e2,f.same P⟩
 case hE=>
  refine⟨?Tr,?Nj,?e16,trivial⟩;case Tr=>
   intro o E ρ D h t p y af l;obtain rfl:=asy E;replace l:af=aj _ ρ [] _:=l;have q:ρ 15=none:=t.none (by simp) (show 14∈[14]by simp) p
   have A:ρ 16=none:=t.none (by simp) (show 15∈[15]by simp) q
   obtain⟨a,c,e1,e2,f⟩:=h;rw[p,A]at f;simp only[aj]at l;subst l;go_wp2_with fail
   refine(nr (cap:=n) f.tail (f.tail.b2.cM (by omega))).mono ?_
   rintro e N ⟨va,rfl,G⟩;obtain⟨Q,S,rfl,_,_⟩:=G.aJ;go_wp2
   refine⟨rfl,_,rfl,Q,S,fun v I=>(asy I).symm,fun v I=>?_,?_⟩
   ·have:ρ 15=some v:=I
    rw[q]at this;cases this
   ·show St K N (az _ _ _ _ _::blk J (.cells (match ρ 16 with|some _=>_|none=>_) _)::_)
    rw[A];exact G
  case Nj=>
   intro o E ρ D h t q y af l;obtain rfl:=asy E;replace l:af=aj _ ρ [14] _:=l;obtain⟨v14,p⟩:=asv.1 (y 14 (by show _∈[14];simp))
   obtain⟨a,c,e1,e2,f⟩:=h;obtain rfl:=e1 v14 p;simp only[aj,p,Option.getD_some,aP,Act.put,asz]at l;subst l;go_wp2
   exact⟨rfl,_,rfl,a,c,e1,fun v I=>(asy I).symm,f⟩
  case e16=>
   intro o E ρ D h t A y af l;obtain rfl:=asy E;replace l:af=aj _ ρ [15] _:=l;obtain⟨v15,q⟩:=asv.1 (y 15 (by show _∈[15];simp))
   obtain⟨a,c,e1,e2,f⟩:=h;obtain rfl:=e2 v15 q;rw[A]at f;simp only[aj,q,Option.getD_some,aP,Act.put,asz]at l;subst l;have f:=f.b1;have k0:=f.k0;have f0:=f.f0;have f:=((((((f.aK 0 (.int .u64 id)).aK 1 (.int .u64 word)).aK 2 (.int .i64 pg.aA)).aK 3 (.slice a pg.sl.length c)).aK 4 (.string pg.hi)).aK 5 (.bool pg.la)).aK 6 (.int .u64 pg.ri);simp only[List.set_cons_zero,List.set_cons_succ]at f;go_wp2
   exact⟨rfl,undef,rfl,a,c,e1,e2,f.b1⟩
 case hQ=>
  intro ρ D h m;obtain⟨v14,p⟩:=asv.1 (m 14 (by simp))
  obtain⟨v15,q⟩:=asv.1 (m 15 (by simp))
  obtain⟨v16,A⟩:=asv.1 (m 16 (by simp))
  obtain⟨a,c,e1,e2,f⟩:=h;obtain rfl:=e1 v14 p;obtain rfl:=e2 v15 q;rw[p,A]at f;have f:=f.b1;simp only[aj,p,q,A,Option.getD_some,aP,Act.put,asz];clear p q A e1 e2 m;go_wp2
  refine bodyPost_ret (Ni _ _ J _ _ _ _ _ _ _ rfl f.k0) rfl ⟨_,rfl,f.tail⟩
end
end
section
def oP (K:aM)(REST:List aC)(T:TypeId)(z:Value)(i j k:Nat)(Φ:Value->List aC->Prop)(ρ:Nat->Option Value)(W:World):Prop:=
 ∃(b:Nat) (C:List aC),(∀v,ρ i=some v->Φ v C)/\(∀v,ρ j=some v->v=(.pointer (some ⟨b,0,none⟩))) /\
  St K W ((if (ρ i).isSome then C else [])++(dO (ρ j) (blk b (.cells #[if (ρ k).isSome then(ρ i).getD z else z] T))::REST))
section
variable {K:aM}{REST:List aC}{T:TypeId}{z:Value}{i j k:Nat}{Φ:Value->List aC->Prop}{ρ:Nat->Option Value}{W:World}{v u:Value}
theorem oP.start (a:St K W REST):oP K REST T z i j k Φ (fun _=>none) W:=
 ⟨0,[],fun v h=>(by cases h),fun v h=>(by cases h),a.empty⟩
theorem oP.same {a:World}(h:oP K REST T z i j k Φ ρ W)(c:Below W.heap.size W a):oP K REST T z i j k Φ ρ a := by
 obtain⟨b,C,e1,e2,e⟩:=h;exact⟨b,C,e1,e2,e.same c⟩
theorem oP.rest (h:oP K REST T z i j k Φ ρ W):St K W REST:=by
 obtain⟨b,C,e1,e2,a⟩:=h;exact(a.right).tail
theorem upd_ne {ρ:Nat->Option Value}{a b:Nat}{v:Value}(h:b≠a):upd ρ a v b=ρ b:=by simp[upd,h]
theorem cE {ρ:Nat->Option Value}{a:Nat}{v:Value}:upd ρ a v a=some v:=by simp[upd]
theorem St.abP {x:aC}{xs:List aC}(h:St K W (x::xs)):St K W (xs++[x]):=
 h.perm (by simpa using (List.perm_append_comm (l₁:=[x]) (l₂:=xs)))
theorem oP.call (h:oP K REST T z i j k Φ ρ W)(c:i≠j)(f:i≠k)(hi:ρ i=none)(hk:ρ k=none):∃X:List aC,St K W (REST++X)/\∀v C l,Φ v C->St K l (C++(REST++X))->oP K REST T z i j k Φ (upd ρ i v) l := by
 obtain⟨b,p,e1,e2,e⟩:=h;rw[hi,hk]at e;have e:St K W (dO (ρ j) (blk b (.cells #[z] T))::REST):=e;refine⟨[dO (ρ j) (blk b (.cells #[z] T))],e.abP,fun v C l m n => ⟨b,C,fun o a =>?_,fun o a => e2 o (by rwa [upd_ne (Ne.symm c)]at a),?_⟩⟩
 ·rw[cE]at a
  rw[←asy a];exact m
 ·rw[cE,upd_ne (Ne.symm c),upd_ne (Ne.symm f),hk]
  exact n.perm (List.Perm.append_left C (by simp))
theorem oP.var (h:oP K REST T z i j k Φ ρ W)(a:i≠j)(e:j≠k)(m:ρ j=none)(hk:ρ k=none):oP K REST T z i j k Φ (upd ρ j (.pointer (some ⟨W.heap.size,0,none⟩))) (W.alloc (.cells #[z] T)):=by
 obtain⟨b,f,e1,e2,l⟩:=h;rw[m,hk]at l;refine⟨W.heap.size,f,fun v c=>e1 v (by rwa [upd_ne a]at c),fun v c=>by rw[cE]at c;exact(asy c).symm,?_⟩
 rw[upd_ne a,cE,upd_ne (Ne.symm e),hk];have h1:St K W ((if (ρ i).isSome then f else [])++(gW::REST)):=l
 have n:St K W (gW::((if (ρ i).isSome then f else [])++REST)):=h1.perm List.perm_middle
 have o:=n.tail.made (.cells #[z] T);exact o.perm (List.perm_middle.symm)
theorem oP.store (h:oP K REST T z i j k Φ ρ W)(a:i≠k)(c:j≠k)(hi:ρ i=some v)(f:ρ j=some u)(hk:ρ k=none):∃(b:Nat)(p:List aC),u=(.pointer (some ⟨b,0,none⟩))/\(∃C,Φ v C)/\St K W (blk b (.cells #[z] T)::p) /\
  ∀l,St K l (blk b (.cells #[v] T)::p)->oP K REST T z i j k Φ (upd ρ k undef) l := by
 obtain⟨b,e,e1,e2,q⟩:=h;rw[hi,f,hk]at q;have h1:St K W (e++(blk b (.cells #[z] T)::REST)):=q;refine⟨b,e++REST,e2 u f,⟨e,e1 v hi⟩,h1.perm List.perm_middle,fun l m => ⟨b,e,fun n o=>e1 n (by rwa [upd_ne a]at o),fun n o=>e2 n (by rwa [upd_ne c]at o),?_⟩⟩
 rw[upd_ne a,upd_ne c,cE,hi,f];exact m.perm (List.perm_middle.symm)
theorem oP.last (h:oP K REST T z i j k Φ ρ W)(a:∀e,e∈[i,j,k]->(ρ e).isSome=true):∃(b:Nat)(v:Value)(C:List aC),ρ i=some v/\ρ j=some (.pointer (some ⟨b,0,none⟩))/\(∃x,ρ k=some x)/\Φ v C/\St K W (blk b (.cells #[v] T)::(C++REST)):=by
 obtain⟨v,hi⟩:=asv.1 (a i (by simp))
 obtain⟨u,c⟩:=asv.1 (a j (by simp))
 obtain⟨x,hk⟩:=asv.1 (a k (by simp))
 obtain⟨b,f,e1,e2,l⟩:=h;rw[hi,c,hk]at l;have h1:St K W (f++(blk b (.cells #[v] T)::REST)):=l;exact⟨b,v,f,hi,by rw[c,e2 u c],⟨x,hk⟩,e1 v hi,h1.perm List.perm_middle⟩
end
end
section
def kG (K:aM)(bm bc:Nat)(g:Nat)(xv:Value)(L:List aQ)(acc:Nat)(C:List aC)(L':List aQ)(acc':Nat)(R:Bool->List aC->Prop):Prop:=
 ∀(w:World) (F:List aC),St K w (C++aL bm bc L acc::F)->Calls Tryz.prog g #[xv,(.pointer (some ⟨bm,0,none⟩))] w fun e w' => ∃fin C',e=.returned (.bool fin)/\R fin C' /\ St K w' (C' ++ aL bm bc L' acc' :: F)
section
variable {K:aM}{bm bc:Nat}{g:Nat}{xv:Value}{L L':List aQ}{acc acc':Nat}{C:List aC}{R:Bool->List aC->Prop}
theorem St.front {w:World}{A B F:List aC}(h:St K w (A++(B++F))):St K w (B++(A++F)):=by
 rw[←List.append_assoc]at h ⊢;exact h.perm (List.Perm.append_right F List.perm_append_comm)
theorem St.Cf {w:World}:∀ {A B:List aC},St K w (A++B)->St K w B
 | [],_,h=>h
 | _::_,_,h=>St.Cf h.tail
theorem kG.nC {b b2 b3 b5:Nat}{T T2:TypeId}{f:Nat}{tx ty:Array Value}{tl:List Value}{V:List aC}{R2:Option FV->List Value->List aC->Prop}
  (t:kG K bm bc g xv L acc C L' acc' R)
  (hm : ∀ (n : Nat) (w : World), (method (n + 1) T2 xv "Step").run Tryz.prog w = .ok (g, xv) w) (H : Enters g) (I : Enters f)
  (m:∀(a:List aC) (w:World) (F:List aC),R true a -> St K w (blk b (.cells (aY (some (aB b2 b3 b5))::tl).toArray T)::(V++(a ++ aL bm bc L' acc' :: F))) ->
   Calls Tryz.prog f (tx++ty) w fun e G=>∃o c l,e=.returned (aY o)/\R2 o c l/\St K G (blk b (.cells (aY (some (aB b2 b3 b5))::c).toArray T)::(l++aL bm bc L' acc' :: F)))
  (w:World) (F:List aC)
  (q:St K w (blk b (.cells (aY (some (aB b2 b3 b5))::tl).toArray T)::bI b2 b3 b5 (.iface T2 xv) (.func (.func f) tx ty)::(V++(C++aL bm bc L acc::F)))) :
  Calls Tryz.prog 77 #[(.pointer (some ⟨b,0,none⟩)),(.pointer (some ⟨bm,0,none⟩))] w fun e w' => ∃o c l,e=.returned (.bool o.isNone)/\St K w' (blk b (.cells (aY o::c).toArray T)::(l++aL bm bc L' acc' :: F)) /\
   ((o=some (aB b2 b3 b5)/\c=tl/\∃a,R false a /\ l=bI b2 b3 b5 (.iface T2 xv) (.func (.func f) tx ty)::(V++a))\/R2 o c l):=by
 have hc:=q.k0 0;refine(iC (K:=K) (α:={ x:Option FV × List Value × List aC // (x.1=some (aB b2 b3 b5)/\x.2.1=tl/\∃a,R false a /\ x.2.2=bI b2 b3 b5 (.iface T2 xv) (.func (.func f) tx ty)::(V++a))\/R2 x.1 x.2.1 x.2.2 })
  (f:=aB b2 b3 b5) (o:=fun x=>x.1.1) (nx:=aY (some (aB b2 b3 b5))) (tl:=fun x=>x.1.2.1) (F' := fun x=>x.1.2.2++aL bm bc L' acc' :: F) (T:=T) j4 hc ?_).mono
  (fun e w' ⟨⟨⟨o,c,l⟩,h⟩,he,q⟩=>⟨o,c,l,he,q,h⟩)
 show Calls Tryz.prog 115 #[(.pointer (some ⟨bm,0,none⟩)),(.pointer (some ⟨b2,0,none⟩)),(.pointer (some ⟨b3,0,none⟩)),(.pointer (some ⟨b5,0,none⟩))] w _
 have J:St K w (C++aL bm bc L acc::((blk b (.cells (aY (some (aB b2 b3 b5))::tl).toArray T)::bI b2 b3 b5 (.iface T2 xv) (.func (.func f) tx ty)::V)++F)):=by
  have h1:St K w ((blk b (.cells (aY (some (aB b2 b3 b5))::tl).toArray T)::bI b2 b3 b5 (.iface T2 xv) (.func (.func f) tx ty)::V)++((C++[aL bm bc L acc])++F)):=by simpa using q
  have y:=h1.front;simpa using y
 have A:=t w _ J;refine(jt (P0:=fun w' => ∃a,R false a /\ St K w' (blk b (.cells (aY (some (aB b2 b3 b5))::tl).toArray T)::((bI b2 b3 b5 (.iface T2 xv) (.func (.func f) tx ty)::(V++a))++aL bm bc L' acc' :: F)))
  (P1:=fun o w' => ∃c l,R2 o c l/\St K w' (blk b (.cells (aY (some (aB b2 b3 b5))::c).toArray T)::(l++aL bm bc L' acc' :: F)))
  (F:=blk b (.cells (aY (some (aB b2 b3 b5))::tl).toArray T)::(V++(C++aL bm bc L acc::F))) (K:=K) q.b1 hm H I (A.mono ?_)).mono ?_
 ·rintro e r ⟨fin,a,rfl,hR,h⟩
  have y:St K r ((blk b (.cells (aY (some (aB b2 b3 b5))::tl).toArray T)::bI b2 b3 b5 (.iface T2 xv) (.func (.func f) tx ty)::V)++((a ++ [aL bm bc L' acc'])++F)):=by
   have h1:St K r ((a ++ [aL bm bc L' acc'])++((blk b (.cells (aY (some (aB b2 b3 b5))::tl).toArray T)::bI b2 b3 b5 (.iface T2 xv) (.func (.func f) tx ty)::V)++F)):=by simpa using h
   exact h1.front
  have D:St K r (blk b (.cells (aY (some (aB b2 b3 b5))::tl).toArray T)::bI b2 b3 b5 (.iface T2 xv) (.func (.func f) tx ty)::(V++(a ++ aL bm bc L' acc' :: F))):=by simpa using y
  refine⟨⟨K,_,D.b1⟩,?_⟩;cases fin with
  | false=>exact .inl ⟨rfl,a,hR,by simpa using D⟩
  | true=>
   refine .inr ⟨rfl,?_⟩;refine(m a r F hR D.b1.tail).mono ?_
   rintro e G ⟨o,c,l,rfl,p,E⟩;exact⟨o,rfl,c,l,p,E⟩
 ·rintro e r ⟨o,rfl,⟨rfl,a,hR,h⟩|⟨c,l,p,h⟩⟩
  ·exact⟨⟨(_,tl,_),.inl ⟨rfl,rfl,a,hR,rfl⟩⟩,rfl,h⟩
  ·exact⟨⟨(o,c,l),.inr p⟩,rfl,h⟩
end
def xz (K:aM)(REST:List aC)(b:Nat)(T:TypeId)(tl:List Value)(e1 e2 e3:Nat)(Φ:FV->List aC->Prop)(ρ:Nat->Option Value)(W:World):Prop:=
 ∃(fv:FV) (C:List aC),(∀v,ρ e1=some v->v=aY (some fv)/\Φ fv C)/\(∀v,ρ e2=some v->v=.agg #[aY (some fv),.bool true]) /\
  St K W ((if (ρ e1).isSome then C else [])++(blk b (.cells ((if (ρ e3).isSome then aY (some fv)else .nilFunc) :: .bool (ρ e3).isSome::tl).toArray T)::REST))
section
variable {K:aM}{REST:List aC}{b:Nat}{T:TypeId}{tl:List Value}{e1 e2 e3:Nat}{Φ:FV->List aC->Prop}{ρ:Nat->Option Value}{W:World}{v1 v2:Value}
theorem xz.start (a:St K W (blk b (.cells (.nilFunc :: .bool false::tl).toArray T)::REST)):xz K REST b T tl e1 e2 e3 Φ (fun _=>none) W:=
 ⟨⟨0, #[], #[]⟩,[],fun v h=>(by cases h),fun v h=>(by cases h),a⟩
theorem xz.same {a:World}(h:xz K REST b T tl e1 e2 e3 Φ ρ W)(c:Below W.heap.size W a):xz K REST b T tl e1 e2 e3 Φ ρ a := by
 obtain⟨fv,C,e,f,l⟩:=h;exact⟨fv,C,e,f,l.same c⟩
theorem xz.rest (h:xz K REST b T tl e1 e2 e3 Φ ρ W):St K W REST:=by
 obtain⟨fv,C,c,e,a⟩:=h;exact(a.right).tail
theorem xz.call (h:xz K REST b T tl e1 e2 e3 Φ ρ W)(n:e1≠e3)(o:e1≠e2)(h1:ρ e1=none)(p:ρ e2=none)(l:ρ e3=none):St K W (blk b (.cells (.nilFunc :: .bool false::tl).toArray T)::REST) /\
  ∀fv C c,Φ fv C->St K c (C++(blk b (.cells (.nilFunc :: .bool false::tl).toArray T)::REST))->xz K REST b T tl e1 e2 e3 Φ (upd ρ e1 (aY (some fv))) c := by
 obtain⟨q,r,t,y,m⟩:=h;rw[h1,l]at m;refine⟨m,fun fv C c e f => ⟨fv,C,fun v a=>?_,fun v a=>?_,?_⟩⟩
 ·rw[cE]at a
  exact⟨(asy a).symm,e⟩
 ·rw[upd_ne (Ne.symm o),p]at a;cases a
 ·rw[cE,upd_ne (Ne.symm n),l];exact f
theorem xz.begin (h:xz K REST b T tl e1 e2 e3 Φ ρ W)(f:e1≠e2)(c:e2≠e3)(h1:ρ e1=some v1):∃fv,v1=aY (some fv)/\∀e,Below W.heap.size W e -> xz K REST b T tl e1 e2 e3 Φ (upd ρ e2 (.agg #[aY (some fv),.bool true])) e := by
 obtain⟨fv,C,l,o,m⟩:=h;refine⟨fv,(l v1 h1).1,fun e n=>⟨fv,C,fun v a=>l v (by rwa [upd_ne f]at a),fun v a=>by rw[cE]at a;exact(asy a).symm,?_⟩⟩
 rw[upd_ne f,upd_ne (Ne.symm c)];exact m.same n
theorem xz.store (h:xz K REST b T tl e1 e2 e3 Φ ρ W)(l:e1≠e3)(a:e2≠e3)(p:ρ e2=some v2)(q:ρ e3=none):∃(fv:FV)(m:List aC),v2=.agg #[aY (some fv),.bool true]/\St K W (blk b (.cells (.nilFunc :: .bool false::tl).toArray T)::m) /\
  ∀c,St K c (blk b (.cells (aY (some fv) :: .bool true::tl).toArray T)::m)->xz K REST b T tl e1 e2 e3 Φ (upd ρ e3 undef) c := by
 obtain⟨fv,C,r,n,o⟩:=h;rw[q]at o;refine⟨fv,(if (ρ e1).isSome then C else [])++REST,n v2 p,o.perm List.perm_middle,fun c e => ⟨fv,C,fun v f=>r v (by rwa [upd_ne l]at f),fun v f=>n v (by rwa [upd_ne a]at f),?_⟩⟩
 rw[upd_ne l,cE];exact e.perm (List.perm_middle.symm)
theorem xz.last (h:xz K REST b T tl e1 e2 e3 Φ ρ W)(a:∀e,e∈[e1,e2,e3]->(ρ e).isSome=true):∃(fv:FV)(C:List aC),ρ e1=some (aY (some fv))/\ρ e2=some (.agg #[aY (some fv),.bool true])/\(∃v,ρ e3=some v)/\Φ fv C/\St K W (C++(blk b (.cells (aY (some fv) :: .bool true::tl).toArray T)::REST)):=by
 obtain⟨v1,h1⟩:=asv.1 (a e1 (by simp))
 obtain⟨v2,c⟩:=asv.1 (a e2 (by simp))
 obtain⟨v3,f⟩:=asv.1 (a e3 (by simp))
 obtain⟨fv,C,l,n,m⟩:=h;rw[h1,f]at m;exact⟨fv,C,by rw[h1,(l v1 h1).1],by rw[c,n v2 c],⟨v3,f⟩,(l v1 h1).2,m⟩
end
def aie (T2:TypeId)(xv t:Value)(fv:FV)(C:List aC):Prop:=∃b2 b3 b5,fv=aB b2 b3 b5/\C=[bI b2 b3 b5 (.iface T2 xv) t]
def R3 (i j k:Nat)(Pre:World->Prop)(M1:Value->World->Prop)(M2:Value->Value->World->Prop)(Post:Value->Value->Value->World->Prop)(ρ:Nat->Option Value)(W:World):Prop:=
 match ρ i,ρ j,ρ k with
 | none,_,_=>ρ j=none/\ρ k=none/\Pre W
 | some v,none,_=>ρ k=none/\M1 v W
 | some v,some u,none=>M2 v u W
 | some v,some u,some x=>Post v u x W
theorem jQ {P:Program}{id:Nat}{Q:Exit->Act->World->Prop}{a:Act}{w:World}{l:List Oper}(m:List Bool)(i j k:Nat)(q:World->Prop)(E:Value->World->Prop)(M2:Value->Value->World->Prop)(f:Value->Value->Value->World->Prop)(Inv:World->Prop)(aS:Act)
  (N:i≠j/\i≠k/\j≠k) (hm:P.follows .mixedOrders=true) (hB:Ss l m [i,j,k] (fun e=>if e=j then [i]else if e=k then [j]else []) a.tmps.size=true)
  (H:∀W,Inv W->wpQuiet P (cG m l).toArray (fun w' => ∃x:Ext,w'=over W x) (fun S => S=aS) (cG m l) a)
  (ja:aS.tmps.size=a.tmps.size) (h0:q w)
  (hI:(∀W,q W->Inv W)/\(∀v W,E v W->Inv W)/\(∀v u W,M2 v u W->Inv W)/\(∀v u x W,f v u x W->Inv W))
  (hR:(∀W c,q W->Below W.heap.size W c -> q c)/\(∀v W c,E v W->Below W.heap.size W c -> E v c)/\(∀v u W c,M2 v u W->Below W.heap.size W c -> M2 v u c)/\(∀v u x W c,f v u x W->Below W.heap.size W c -> f v u x c))
  (Gm:∀(R:(Nat->Option Value)->World->Prop) o,l[i]?=some o->∀ ρ W,q W->(∀v c,E v c -> R (upd ρ i v) c)->∀af,af=aS->wpList P l.toArray (Bc ρ af R i o) [o] af W)
  (vV:∀(R:(Nat->Option Value)->World->Prop) o,l[j]?=some o->∀ ρ v W,E v W->(∀u c,M2 v u c -> R (upd ρ j u) c)->∀af,af=aS.put (aP l i) v->wpList P l.toArray (Bc ρ af R j o) [o] af W)
  (hE3:∀(R:(Nat->Option Value)->World->Prop) o,l[k]?=some o->∀ ρ v u W,M2 v u W->(∀x c,f v u x c -> R (upd ρ k x) c)->∀af,af=aS.put (aP l j) u->wpList P l.toArray (Bc ρ af R k o) [o] af W)
  (hQ:∀v u x W,f v u x W->Q .normal (((aS.put (aP l i) v).put (aP l j) u).put (aP l k) x) W):(Code.region id l.toArray true).wp P Q a w:=by
 obtain⟨y,A,t⟩:=N;refine aX m [i,j,k] (fun e=>if e=j then [i]else if e=k then [j]else []) (R3 i j k q E M2 f) Inv aS hm hB H ja ⟨rfl,rfl,h0⟩ ?_ ?_ ⟨?_,?_,?_,trivial⟩ ?_
 ·intro ρ W h
  unfold R3 at h;cases hi:ρ i with
  | none=>rw[hi]at h;exact hI.1 W h.2.2
  | some v=>
   cases p:ρ j with
   | none=>rw[hi,p]at h;exact hI.2.1 v W h.2
   | some u=>
    cases hk:ρ k with
    | none=>rw[hi,p,hk]at h;exact hI.2.2.1 v u W h
    | some x=>rw[hi,p,hk]at h;exact hI.2.2.2 v u x W h
 ·intro ρ W c h J
  unfold R3 at h ⊢;cases hi:ρ i with
  | none=>rw[hi]at h;exact⟨h.1,h.2.1,hR.1 W c h.2.2 J⟩
  | some v=>
   cases p:ρ j with
   | none=>rw[hi,p]at h;exact⟨h.1,hR.2.1 v W c h.2 J⟩
   | some u=>
    cases hk:ρ k with
    | none=>rw[hi,p,hk]at h;exact hR.2.2.1 v u W c h J
    | some x=>rw[hi,p,hk]at h;exact hR.2.2.2 v u x W c h J
 ·intro o G ρ W h D hi M af n
  have n:af=aj l ρ (if i=j then [i]else if i=k then [j]else []) aS:=n
  rw[if_neg y,if_neg A]at n;obtain rfl:af=aS:=n;unfold R3 at h;rw[hi]at h;refine Gm _ o G ρ W h.2.2 (fun v c I=>?_) _ rfl
  unfold R3;have e1:upd ρ i v i=some v:=by simp[upd]
  have e2:upd ρ i v j=none:=by simp[upd,Ne.symm y,h.1]
  have e3:upd ρ i v k=none:=by simp[upd,Ne.symm A,h.2.1]
  rw[e1,e2,e3];exact⟨rfl,I⟩
 ·intro o G ρ W h D p M af n
  have n:af=aj l ρ (if j=j then [i]else if j=k then [j]else []) aS:=n
  rw[if_pos rfl]at n;obtain⟨v,hi⟩:=asv.1 (M i (by show i∈(if j=j then [i]else if j=k then [j]else []);simp))
  have n:af=aS.put (aP l i) v:=by rw[n];simp[aj,hi]
  unfold R3 at h;rw[hi,p]at h;refine vV _ o G ρ v W h.2 (fun u c I=>?_) _ n
  unfold R3;have e1:upd ρ j u i=some v:=by simp[upd,y,hi]
  have e2:upd ρ j u j=some u:=by simp[upd]
  have e3:upd ρ j u k=none:=by simp[upd,Ne.symm t,h.1]
  rw[e1,e2,e3];exact I
 ·intro o G ρ W h D hk M af n
  have n:af=aj l ρ (if k=j then [i]else if k=k then [j]else []) aS:=n
  rw[if_neg (Ne.symm t),if_pos rfl]at n;obtain⟨u,p⟩:=asv.1 (M j (by show j∈(if k=j then [i]else if k=k then [j]else []);simp[Ne.symm t]))
  have n:af=aS.put (aP l j) u:=by rw[n];simp[aj,p]
  have O:(ρ i).isSome=true:=D j (by simp) (by rw[p];rfl) i (by show i∈(if j=j then [i]else if j=k then [j]else []);simp)
  obtain⟨v,hi⟩:=asv.1 O;unfold R3 at h;rw[hi,p,hk]at h;refine hE3 _ o G ρ v u W h (fun x c I=>?_) _ n
  unfold R3;have e1:upd ρ k x i=some v:=by simp[upd,A,hi]
  have e2:upd ρ k x j=some u:=by simp[upd,t,p]
  have e3:upd ρ k x k=some x:=by simp[upd]
  rw[e1,e2,e3];exact I
 ·intro ρ W h r
  obtain⟨v,hi⟩:=asv.1 (r i (by simp))
  obtain⟨u,p⟩:=asv.1 (r j (by simp))
  obtain⟨x,hk⟩:=asv.1 (r k (by simp))
  unfold R3 at h;rw[hi,p,hk]at h;have:=hQ v u x W h;simpa[aj,hi,p,hk] using this
def mM (T2:TypeId)(thn:Value)(Φ1:Value->List aC->Prop)(e1 e2 e3 e4:Nat)(e:Nat)(ρ:Nat->Option Value)(v:Value)(cs:List aC):Prop:=
 if e=e1 then Φ1 v cs
 else if e=e2 then(∃u,ρ e1=some u/\v=.iface T2 u)/\cs=[]
 else if e=e3 then ∃u b2 b3 b5,ρ e1=some u/\v=aY (some (aB b2 b3 b5))/\cs=[bI b2 b3 b5 (.iface T2 u) thn]
 else if e=e4 then(∃b2 b3 b5,v=aY (some (aB b2 b3 b5))/\ρ e3=some v)/\cs=[]
 else False
section
variable {T2:TypeId}{thn:Value}{Φ1:Value->List aC->Prop}{e1 e2 e3 e4:Nat}
theorem iP {ρ:Nat->Option Value}{k j:Nat}{u v:Value}(hk:ρ k=none)(a:ρ j=some v):upd ρ k u j=some v:=by
 unfold upd;rw[if_neg (fun e=>by rw[e,hk]at a;cases a)]
 exact a
theorem mM.mono {es:List Nat}:Sy es (mM T2 thn Φ1 e1 e2 e3 e4):=by
 intro e ρ v cs k u he hk h;unfold mM at h ⊢;by_cases f:e=e1
 ·rw[if_pos f]at h ⊢;exact h
 rw[if_neg f]at h ⊢;by_cases l:e=e2
 ·rw[if_pos l]at h ⊢
  obtain⟨⟨u1,h1,a⟩,c⟩:=h;exact⟨⟨u1,iP hk h1,a⟩,c⟩
 rw[if_neg l]at h ⊢;by_cases m:e=e3
 ·rw[if_pos m]at h ⊢
  obtain⟨u1,b2,b3,b5,h1,a⟩:=h;exact⟨u1,b2,b3,b5,iP hk h1,a⟩
 rw[if_neg m]at h ⊢;by_cases n:e=e4
 ·rw[if_pos n]at h ⊢
  obtain⟨⟨b2,b3,b5,h1,a⟩,c⟩:=h;exact⟨⟨b2,b3,b5,h1,iP hk a⟩,c⟩
 rw[if_neg n]at h ⊢;exact h
theorem mM.last {K:aM}{REST:List aC}{ρ:Nat->Option Value}{W:World}(a:[e1,e2,e3,e4].Nodup)(h:GR K REST [e1,e2,e3,e4] (mM T2 thn Φ1 e1 e2 e3 e4) ρ W)(c:∀e,e∈[e1,e2,e3,e4]->(ρ e).isSome=true) :
  ∃u b2 b3 b5 C,Φ1 u C/\ρ e1=some u/\ρ e2=some (.iface T2 u)/\ρ e3=some (aY (some (aB b2 b3 b5)))/\ρ e4=some (aY (some (aB b2 b3 b5)))/\St K W (bI b2 b3 b5 (.iface T2 u) thn::(C++REST)):=by
 obtain⟨C,hC,D⟩:=h.last c;simp only[List.nodup_cons,List.mem_cons,List.not_mem_nil,or_false,not_or,List.nodup_nil,and_true]at a;obtain⟨⟨f,l,m⟩,⟨n,o⟩,p,_⟩:=a;obtain⟨v1,h1,q⟩:=hC e1 (by simp)
 obtain⟨v2,J,r⟩:=hC e2 (by simp)
 obtain⟨v3,E,t⟩:=hC e3 (by simp)
 obtain⟨v4,M,y⟩:=hC e4 (by simp)
 unfold mM at q r t y;rw[if_pos rfl]at q;rw[if_neg (Ne.symm f),if_pos rfl]at r;rw[if_neg (Ne.symm l),if_neg (Ne.symm n),if_pos rfl]at t;rw[if_neg (Ne.symm m),if_neg (Ne.symm o),if_neg (Ne.symm p),if_pos rfl]at y;obtain⟨⟨u2,G,rfl⟩,N⟩:=r;obtain⟨u3,b2,b3,b5,H,rfl,O⟩:=t;obtain⟨⟨S,U,V,rfl,I⟩,P⟩:=y;rw[h1]at G H;obtain rfl:=asy G;obtain rfl:=asy H;rw[E]at I;have Q:=asy I;refine⟨_,b2,b3,b5,C e1,q,h1,J,E,by rw[M,Q],?_⟩
 simp only[List.flatMap_cons,List.flatMap_nil,List.append_nil,N,O,P,List.nil_append]at D;have A:St K W (C e1++([bI b2 b3 b5 (.iface T2 v1) thn]++REST)):=by simpa using D
 simpa using A.front
end
end
end Go.Proofs.YtlpdhhhgckpcfaaGreat
