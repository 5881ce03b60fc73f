/- What the row's step of every law of. -/
import Derived.ProofKit
import Derived.Lib.SmallJoins
import Derived.Deep.Slices
import Derived.Test.YtlpdhhhgckpcfaaGreatNodeB
namespace Go.Proofs.YtlpdhhhgckpcfaaGreat
set_option linter.unusedSimpArgs false
set_option linter.unusedVariables false
open Go.RowKit
set_option maxHeartbeats 16000000
set_option maxRecDepth 100000
section
open Go.Joins Go.ChangeShapes Go.WideShapes Go.ChangeAt Go.RowKit Go.Deep
theorem own:ownKnob Tryz.prog.godebug=none:=by kernel_rfl
theorem laidOut:laidOutB Tryz.prog=true:=by kernel_rfl
section
variable {H:Type}{enc:TypeId × Value->H}{P:Program}{W W':World}
theorem vL (hl:laidOutB P=true)(hb:Below W.heap.size W W'):∀ {ts:List TypeId}{vs:List Value}{ds:List (DataW H)}{ps:List MemPlace},
  (∀t,t∈ts->P.readableRec t=true/\t<P.types.size)->DataW.TrodAll enc P W 0 (fun _=>true) true ts vs ds ps->DataW.TrodAll enc P W' 0 (fun b=>decide (b<W.heap.size)) true ts vs ds ps:=by
 intro ts;induction ts with
 | nil=>
  intro vs ds ps _ h;obtain⟨rfl,rfl,rfl⟩:=trodAll_nil h;exact trodAll_mk0
 | cons t ts ih=>
  intro vs ds ps hts h;obtain⟨v,vs',d,ds',p,q,rfl,rfl,rfl,h0,r0⟩:=trodAll_cons h;have lt0:∀x,x∈p->x.block<W.heap.size:=by obtain⟨m,hm⟩:=h0;exact DataW.trod_lt m _ _ _ hm
  exact trodAll_cons_mk (Below.trod hl (hts t (by simp)).1 (hts t (by simp)).2 h0 hb lt0) (ih (fun t' ht' => hts t' (by simp[ht'])) r0)
end
section
variable {H:Type}{enc:TypeId × Value->H}{P:Program}{w:World}{base:Nat}{spare:Nat->Bool}{held:Bool}
end
theorem wf_u64 {n:Int}(h:(Lit.int .u64 n).wf=true):0<=n/\n<18446744073709551616:=by have:=bounds_u64 h;omega
open Go.ChangeShapes Go.WideShapes Go.ChangeAt Go.RowKit
open Go.Joins Go.ChangeShapes Go.WideShapes Go.ChangeAt Go.RowKit Go.Deep
instance:Inhabited Sl:=⟨⟨⟨#[]⟩,0⟩⟩
section
variable {H:Type}{enc:TypeId × Value->H}{w:World}{base:Nat}{spare:Nat->Bool}{held:Bool}
end
section
variable {K:aL}{w:World}{F:List aC}{d:aR}{ak level ri:Int}{a:Option Addr}{len cap:Nat}{hi:ByteArray}{la:Bool}{f:Nat->Sl}
end
theorem Ke (fa:Int):(m6 1 (4+fa%3) 1000).Ok:=by
 have h0:0<=fa%3:=by omega
 have h1:fa%3<=2:=by omega
 constructor <;> simp only[m6] <;> omega
structure oW (d:aR)(pg:Pg):Prop where
 le:(pg.sl.length:Int)<=d.fa
 ri:0<=pg.ri/\pg.ri<18446744073709551616
 r:∀s,s∈pg.sl->0<=s.r/\s.r<18446744073709551616
 k:∀s,s∈pg.sl->s.k.size<=maxLen
 hi:pg.hi.size<=maxLen
 la:pg.la=true->pg.hi=⟨#[]⟩
def dH (o:Option Value)(c:aC):aC:=match o with
 | some _=>c
 | none=>gN
theorem nh.none {ρ:Nat->Option Value}{all:List Nat}{deps:Nat->List Nat}{j d:Nat}(h:nh all deps ρ)(hj:j∈all)(hd:d∈deps j)(hn:ρ d=none):ρ j=none:=by
 cases hx:ρ j with
 | none=>rfl
 | some v=>
  have:=h j hj (by rw[hx];rfl) d hd
  rw[hn]at this;cases this
theorem xc {w:World}{b:Nat}{xs:List Value}(h:∀k,w.cell? ⟨b,k,none⟩=xs.toArray[k]?):∀(j:Nat)(u:Value),xs[j]?=some u->∃g off,(some ⟨b,0,none⟩:Option Addr)=some ⟨g,off,none⟩/\w.cell? ⟨g,off+j,none⟩=some u:=
 fun j u hu=>⟨b,0,rfl,by rw[Nat.zero_add,h j];simpa using hu⟩
end
section
def bC (nx:Value)(d:aR)(id:Int)(pg:Pg)(va tv:Value)(rest:List Value):List Value:=
 nx :: .bool true :: .int .i64 d.th :: .int .i64 d.sn :: .int .i64 d.no :: .int .i64 d.ch :: .int .i64 d.re :: .int .i64 d.fa :: .int .u64 d.cl :: .int .u64 id :: .int .i64 pg.ak::va :: .string pg.hi :: .bool pg.la :: .int .u64 pg.ri::tv::rest
structure kB where
 b2:Nat
 b3:Nat
 b5:Nat
 bt:Nat
 bp:Nat
 br:Nat
def Kf (B:kB):FV:=aA B.b2 B.b3 B.b5
def Kg (B:kB):Value:= .func (.func 166) #[] #[(.pointer (some ⟨B.bt,0,none⟩)),(.pointer (some ⟨B.bp,0,none⟩))]
def Mk (b:Nat)(B:kB)(d:aR)(id:Int)(va:Value)(s:jX):List aC:=
 [bG B.b2 B.b3 B.b5 (.iface 213 (.pointer (some ⟨B.br,0,none⟩))) (Kg B),blk B.bt (.cells #[(.pointer (some ⟨B.br,0,none⟩))] 213),blk B.bp (.cells #[(.pointer (some ⟨b,2,none⟩))] 194),En B.br d id va s,bu va s.pg]
theorem St.abd {K:aL}{w:World}{a b c d e f:aC}{F:List aC}(h:St K w (a::b::c::d::e::f::F)):St K w (a::b::F):=
 h.sub ((((((List.Sublist.refl F).cons f).cons e).cons d).cons c).cons_cons b |>.cons_cons a)
section
variable {K:aL}{w:World}{F:List aC}{b bm bc:Nat}{nx va tv:Value}{d:aR}{id0 id:Int}{pg:Pg}{rest:List Value}{T:TypeId}{L:List aO}{acc:Nat}
theorem Ba (hid:1<=id)(hs:St K w (blk b (.cells (bC nx d id0 pg va tv rest).toArray T)::F)) :
  Calls Tryz.prog 139 #[(.pointer (some ⟨b,2,none⟩)),.int .u64 id] w fun e w' => ∃B:kB,e=.returned (aW (some (Kf B)))/\St K w' (blk b (.cells (bC nx d id pg va tv rest).toArray T)::(Mk b B d id (.slice none 0 0) oI++F)):=by
 have h0:id≠0:=by omega
 have hs:=(hs.made (.cells #[(.pointer (some ⟨b,2,none⟩))] 194)).b1;have k:=hs.k0;have kf:=hs.f0;have hb:=hs.n0;have k1:=hs.k1;unfold bC at k;have hs:=hs.aI 9 (.int .u64 id);have hs:St K _ (blk b (.cells (bC nx d id pg va tv rest).toArray T)::_):=hs;go_enter Tryz.func139,Tryz.ntmps139
 go_wp2_with fail
 refine(Fw (d:=d) (id:=id) hs).mono ?_
 clear hs k k1 kf;rintro e w1 ⟨br,rfl,hs⟩;have hs:=hs.made (.cells #[(.pointer (some ⟨br,0,none⟩))] 213);have k1:=hs.k0;go_wp2_with fail
 refine(fG hs).mono ?_
 clear hs k1;rintro e w2 ⟨b2,b3,b5,rfl,hs⟩;simp only[aA,aW];go_wp2
 go_ret;exact⟨⟨b2,b3,b5,w1.heap.size,w.heap.size,br⟩,rfl,hs.re [4,0,1,5,2,3] rfl⟩
def jz (b:Nat):FV:=⟨104, #[(.pointer (some ⟨b,2,none⟩))], #[]⟩
theorem xd (hs:St K w F) :
  Calls Tryz.prog 139 #[(.pointer (some ⟨b,2,none⟩)),.int .u64 0] w fun e w' => e=.returned (aW (some (jz b)))/\St K w' F:=by
 have hs:=hs.pass (.cells #[(.pointer (some ⟨b,2,none⟩))] 194);go_enter Tryz.func139,Tryz.ntmps139
 go_wp2
 go_ret;exact⟨rfl,hs⟩
theorem Xj (ha:acc<=1000000000000)(hL:bD L)(hs:St K w (blk b (.cells (bC nx d id0 pg va tv rest).toArray T)::aJ bm bc L acc::F)) :
  Calls Tryz.prog 104 #[(.pointer (some ⟨b,2,none⟩)),(.pointer (some ⟨bm,0,none⟩))] w fun e w' => ((ah L 0).n=0/\e=.returned (aW (some (jz b)))/\St K w' (blk b (.cells (bC nx d id0 pg va tv rest).toArray T)::aJ bm bc L (acc+1)::F)) \/
   (1<=(ah L 0).n/\∃B:kB,e=.returned (aW (some (Kf B)))/\St K w' (blk b (.cells (bC nx d (ah L 0).n pg va tv rest).toArray T)::(Mk b B d (ah L 0).n (.slice none 0 0) oI++aJ bm bc L (acc+1)::F))):=by
 have hc:=hL 0;obtain⟨c,hce⟩:∃c,c=ah L 0:=⟨_,rfl⟩;rw[←hce]at hc ⊢;have Hce:=aq3 hce.symm;have k:=hs.k0;unfold bC at k;have Qr:=aq3 (fun w=>pY d w)
 clear hce;go_enter Tryz.func104,Tryz.ntmps104
 go_wp2_with fail
 refine(bH hs (Qr.out _)).mono ?_
 clear k;rintro e w1 ⟨rfl,hs⟩;have q:=jl (i:=0) hs.b1 ha;rw[Hce.out]at q;have Q:=aq3 q;clear q;go_wp2_with fail
 refine(Q.out).mono ?_
 clear hs Q;rintro e w2 ⟨rfl,hs⟩;obtain⟨h0,_⟩:=hc;rcases(show c.n=0\/1<=c.n by omega)with h1|h1
 ·go_wp2_with fail
  refine(xd (b:=b) hs.b1).mono ?_
  rintro e w3 ⟨rfl,hs⟩;simp only[jz,aW];go_wp2
  go_ret;exact .inl ⟨by first|exact h1|rfl,rfl,hs⟩
 ·go_wp2_with fail
  refine(Ba (id:=c.n) h1 hs.b1).mono ?_
  rintro e w3 ⟨B,rfl,hs⟩;simp only[Kf,aA,aW];go_wp2
  go_ret;exact .inr ⟨h1,B,rfl,hs⟩
theorem Gg {B:kB}{pN:Value}{s:jX}{ft:Nat}{tx ty:Array Value}{R:Option FV->World->Prop}(hf:Enters ft)(h6:s.pc=6)(hn:s.pg.sl.length<=1000000)
  (hs:St K w (blk b (.cells (bC nx d id pg va (.func (.func ft) tx ty) rest).toArray T)::(Mk b B d id pN s++F)))
  (hturn:∀(w1:World) (lj:Value),St K w1 (blk b (.cells (bC nx d id s.pg lj (.func (.func ft) tx ty) rest).toArray T)::bu lj s.pg::F)->Calls Tryz.prog ft (tx++ty) w1 fun e w2=>∃o,e=.returned (aW o)/\R o w2) :
  Calls Tryz.prog 166 #[(.pointer (some ⟨B.bt,0,none⟩)),(.pointer (some ⟨B.bp,0,none⟩))] w fun e w' => ∃o,e=.returned (aW o)/\R o w' := by
 have hf' : ∀(args:Array Value) (w:World),(callFunc ft args).run Tryz.prog w=.ok (.enter ft args) w:=hf;have HT:=aq3 hturn;obtain⟨b2,b3,b5,bt,bp,br⟩:=B;have hs:St K w (blk b (.cells (bC nx d id pg va (.func (.func ft) tx ty) rest).toArray T)::bG b2 b3 b5 _ _::blk bt (.cells #[(.pointer (some ⟨br,0,none⟩))] 213)::blk bp (.cells #[(.pointer (some ⟨b,2,none⟩))] 194)::En br d id pN s::bu pN s.pg::F):=hs;have hs:=hs.bY;have Hs:=aq3 hs;clear hturn hs;go_enter Tryz.func166,Tryz.ntmps166
 go_upto_region 1 with(fail)
 refine fY [false,false,true,false,false,true] 2 5
  (fun W=>St K W (blk b (.cells (bC nx d id pg va (.func (.func ft) tx ty) rest).toArray T)::blk bt (.cells #[(.pointer (some ⟨br,0,none⟩))] 213)::blk bp (.cells #[(.pointer (some ⟨b,2,none⟩))] 194)::En br d id pN s::bu pN s.pg::F))
  (fun v W=>∃(a1:Option Addr) (c1:Nat),v=.agg #[.int .i64 (s.pg).ak,(.slice a1 s.pg.sl.length c1),.string (s.pg).hi,.bool (s.pg).la,.int .u64 (s.pg).ri]/\St K W (bu (.slice a1 s.pg.sl.length c1) s.pg::blk b (.cells (bC nx d id pg va (.func (.func ft) tx ty) rest).toArray T)::blk bt (.cells #[(.pointer (some ⟨br,0,none⟩))] 213)::blk bp (.cells #[(.pointer (some ⟨b,2,none⟩))] 194)::En br d id pN s::bu pN s.pg::F))
  (fun v u W=>∃(a1:Option Addr) (c1:Nat),u=undef/\v=.agg #[.int .i64 (s.pg).ak,(.slice a1 s.pg.sl.length c1),.string (s.pg).hi,.bool (s.pg).la,.int .u64 (s.pg).ri]/\St K W (bu (.slice a1 s.pg.sl.length c1) s.pg::blk b (.cells (bC nx d id s.pg (.slice a1 s.pg.sl.length c1) (.func (.func ft) tx ty) rest).toArray T)::blk bt (.cells #[(.pointer (some ⟨br,0,none⟩))] 213)::blk bp (.cells #[(.pointer (some ⟨b,2,none⟩))] 194)::En br d id pN s::bu pN s.pg::F))
  (fun W=>∃cs,St K W (blk bt (.cells #[(.pointer (some ⟨br,0,none⟩))] 213)::blk bp (.cells #[(.pointer (some ⟨b,2,none⟩))] 194)::cs)) ?aS (by decide) (by kernel_rfl) ?hB ?H ?iD Hs.out ?hI ?hR ?Fx ?vK ?hQ
 case hB=>as_aux_lemma=>kernel_rfl
 case H=>
  rintro W2 ⟨cs,hs⟩;have k1:=hs.k0;have k2:=hs.k1;clear hs;simp only[bL];repeat (go_big_quiet_step (fail))
  refine wpQuiet_nil ?_
  rfl
 case iD=>rfl
 case hI=>exact⟨fun W h=>⟨_,h.tail⟩,fun v W ⟨_,_,_,h⟩=>⟨_,h.tail.tail⟩,fun v u W ⟨_,_,_,_,h⟩=>⟨_,h.tail.tail⟩⟩
 case hR=>exact⟨fun W W' h hb=>h.same hb,fun v W W' ⟨a,c,e,h⟩ hb=>⟨a,c,e,h.same hb⟩,fun v u W W' ⟨a,c,e,e2,h⟩ hb=>⟨a,c,e,e2,h.same hb⟩⟩
 case Fx=>
  intro rj o ho ρ W2 hs hk af aB;obtain rfl:=aq9 ho;subst aB;have Hk:=aq3 hk;clear hk;go_wp2_with fail
  refine(Mg h6 hn hs.b3.b4.u1).mono ?_
  rintro e w1 ⟨lj,rfl,hs⟩;obtain⟨a1,c1,rfl,_,_⟩:=(show St K w1 (az lj 69 2 s.pg.sl.length (aD s.pg.sl)::_)from hs).aH
  go_wp2
  exact⟨rfl,_,rfl,Hk.out _ _ ⟨a1,c1,rfl,hs.re [0,3,4,5,1,2] rfl⟩⟩
 case vK=>
  rintro rj o ho ρ v W2 ⟨a1,c1,rfl,hs⟩ hk af aB;obtain rfl:=aq9 ho;have Hk:=aq3 hk;clear hk;simp only[aM,List.getElem?_cons_succ,List.getElem?_cons_zero,Option.bind_some,Act.put,List.setIfInBounds_toArray,List.set_cons_zero,List.set_cons_succ]at aB;subst aB;have hs:=hs.b1;have k:=hs.k0;have kf:=hs.f0;have hs:=((((hs.aI 10 (.int .i64 s.pg.ak)).aI 11 (.slice a1 s.pg.sl.length c1)).aI 12 (.string s.pg.hi)).aI 13 (.bool s.pg.la)).aI 14 (.int .u64 s.pg.ri);unfold bC at k;go_wp2
  exact⟨rfl,undef,rfl,Hk.out _ _ ⟨a1,c1,rfl,rfl,hs.b1⟩⟩
 case hQ=>
  rintro v u W2 ⟨a1,c1,rfl,rfl,hs⟩;simp only[aM,List.getElem?_cons_succ,List.getElem?_cons_zero,Option.bind_some,Act.put,List.setIfInBounds_toArray,List.set_cons_zero,List.set_cons_succ];have k1:=hs.b3.k0;have kb:=hs.b1.k0;unfold bC at kb;go_wp2_with fail
  refine(HT.out _ _ (hs.re [1,0,2,3,4,5] rfl).abd).mono ?_
  rintro e w3 ⟨o,rfl,h⟩;cases o with
  | none=>
   simp only[aW];go_wp2
   go_ret;exact⟨none,rfl,h⟩
  | some s=>
   simp only[aW];go_wp2
   go_ret;exact⟨some s,rfl,h⟩
end
structure pO where
 pc:Nat
 id:Int
 pg:Pg
 rd:jX
def gP (s:pO)(id:Int):pO:=if id=0 then⟨0,s.id,s.pg,oI⟩else⟨1,id,s.pg,oI⟩
def js (key:ByteArray)(l:List Sl):Int:=match jG l ((iE l key:Int)-1)with
 | some s=>s.r
 | none=>0
def iK (key:ByteArray)(level:Int)(id:Int)(pg:Pg):pO:=
 if pg.ak<level then⟨2,0,Fu,oI⟩
 else if pg.la || cA key pg.hi then
  if pg.ak=level then⟨2,id,pg,oI⟩else gP ⟨0,id,pg,oI⟩ (js key pg.sl)
 else gP ⟨0,id,pg,oI⟩ pg.ri
def bS (d:aR)(L:List aO)(key:ByteArray)(level:Int)(s:pO):pO:=
 match s.pc with
 | 0=>gP s (ah L 0).n
 | 1=>if (rdStep d s.id L s.rd).pc=6 then iK key level s.id (rdStep d s.id L s.rd).pg else⟨1,s.id,s.pg,rdStep d s.id L s.rd⟩
 | _=>s
def fd0:pO:=⟨0,0,Fu,oI⟩
def lp (b:Nat)(B:kB):Nat->Option FV
 | 0=>some (jz b)
 | 1=>some (Kf B)
 | _=>none
def s7 (b:Nat)(nx:Value)(B:kB)(va pN:Value)(d:aR)(key:ByteArray)(level:Int)(s:pO):List aC:=
 blk b (.cells (bC nx d s.id s.pg va (.func (.func 103) #[(.pointer (some ⟨b,0,none⟩))] #[]) [.string key,.int .i64 level]).toArray 163)::bu va s.pg::(if s.pc=1 then Mk b B d s.id pN s.rd else [])
section
variable {K:aL}{w:World}{F:List aC}{b bm bc:Nat}{nx va:Value}{d:aR}{id:Int}{pg:Pg}{L:List aO}{acc:Nat}{key:ByteArray}{level:Int}
theorem Gh (hs:St K w F):Calls Tryz.prog 47 #[.agg #[.int .i64 d.th,.int .i64 d.sn,.int .i64 d.no,.int .i64 d.ch,.int .i64 d.re,.int .i64 d.fa,.int .u64 d.cl],.string key,.int .i64 level] w fun e w' => ∃b,e=.returned (.pointer (some ⟨b,0,none⟩))/\∀B,St K w' (s7 b (aW (some (jz b))) B (.slice none 0 0) (.slice none 0 0) d key level fd0++F):=by
 have hs:=hs.pass (.cells #[.int .i64 d.th,.int .i64 d.sn,.int .i64 d.no,.int .i64 d.ch,.int .i64 d.re,.int .i64 d.fa,.int .u64 d.cl] 29);have hs:=hs.made (.cells #[.nilFunc,.bool false,.int .i64 d.th,.int .i64 d.sn,.int .i64 d.no,.int .i64 d.ch,.int .i64 d.re,.int .i64 d.fa,.int .u64 d.cl,.int .u64 0,.int .i64 0,.slice none 0 0,.string ⟨#[]⟩,.bool false,.int .u64 0,(.func (.func 103) #[(.pointer (some ⟨(w.heap.size+1),0,none⟩))] #[]),.string key,.int .i64 level] 163);rw[World.size_alloc]at hs;go_enter Tryz.func47,Tryz.ntmps47
 go_wp2_with fail
 refine(bH hs (fq _ _ _ _)).mono ?_
 clear hs;rintro e w2 ⟨rfl,hs⟩;have k:=hs.k0;have kf:=hs.f0;have hs:=(hs.aI 0 (aW (some (jz (w.heap.size+1))))).aI 1 (.bool true);simp only[List.set_cons_zero,List.set_cons_succ]at hs;go_wp2
 go_ret;exact⟨_,rfl,fun B=>(hs.cF (T:=69) (size:=2)).b1⟩
theorem rP {id':Int}{C:aC}(hid:0<=id')(hs:St K w (blk b (.cells (bC nx d id pg va (.func (.func 103) #[(.pointer (some ⟨b,0,none⟩))] #[]) [.string key,.int .i64 level]).toArray 163)::C::bu va pg::F)) :
  Calls Tryz.prog 139 #[(.pointer (some ⟨b,2,none⟩)),.int .u64 id'] w fun e w' => ∃o,e=.returned (aW o)/\∃B:kB,o=lp b B (gP ⟨0,id,pg,oI⟩ id').pc/\St K w' (C::(s7 b nx B va (.slice none 0 0) d key level (gP ⟨0,id,pg,oI⟩ id')++F)):=by
 by_cases h:id'=0
 ·subst h
  refine(xd (b:=b) hs).mono ?_
  rintro e w3 ⟨rfl,hs⟩;exact⟨_,rfl,⟨0,0,0,0,0,0⟩,rfl,hs.b1⟩
 ·have e1:gP ⟨0,id,pg,oI⟩ id'=⟨1,id',pg,oI⟩:=by unfold gP;rw[if_neg h]
  rw[e1];refine(Ba (id:=id') (by omega) hs).mono ?_
  rintro e w3 ⟨B,rfl,hs⟩;exact⟨_,rfl,B,rfl,hs.re [6,0,7,1,2,3,4,5] rfl⟩
def FtP (K:aL)(b:Nat)(nx:Value)(d:aR)(key:ByteArray)(level:Int)(F:List aC)(s:pO)(o:Option FV)(w':World):Prop:=
 ∃(B:kB) (eX:Value),o=lp b B s.pc/\St K w' (s7 b nx B eX (.slice none 0 0) d key level s++F)
theorem Sg (mF:0<=pg.ri)(vA:∀s,s∈pg.sl->0<=s.r)(hn:pg.sl.length<=1000000)(dJ:level<pg.ak->kV pg.sl)
  (hs:St K w (blk b (.cells (bC nx d id pg va (.func (.func 103) #[(.pointer (some ⟨b,0,none⟩))] #[]) [.string key,.int .i64 level]).toArray 163)::bu va pg::F)) :
  Calls Tryz.prog 103 #[(.pointer (some ⟨b,0,none⟩))] w fun e w' => ∃o,e=.returned (aW o)/\FtP K b nx d key level F (iK key level id pg) o w' := by
 obtain⟨a,c,rfl,_,_⟩:=(show St K w (az va 69 2 pg.sl.length (aD pg.sl)::_)from hs.b1).aH
 have k:=hs.k0;unfold bC at k;have hs:=hs.made (.cells #[.int .i64 (pg).ak,(.slice a pg.sl.length c),.string (pg).hi,.bool (pg).la,.int .u64 (pg).ri] 43);obtain⟨s',eG⟩:∃s',Hid (s'=iK key level id pg):=⟨_,aq3 rfl⟩;rw[←eG.out];have Qw:=aq3 (fun w=>ud key ⟨#[]⟩ pg.hi pg.la w)
 rw[jd,Bool.not_false,Bool.true_and]at Qw;go_enter Tryz.func103,Tryz.ntmps103
 go_upto_region 2 with(fail)
 clear k;have kw:=hs.k0;have k:=hs.k1;unfold bC at k;refine bI (by kernel_rfl) (by kernel_rfl) ?_
 repeat (go_big_quiet_step (fail))
 refine wpQuiet_nil ?_
 intro w2 hb2;have hs:=hs.same hb2;clear kw k hb2;by_cases hlt:pg.ak<level
 ·have k:=hs.k1
  unfold bC at k;have kf:=hs.f1;rw[iK,if_pos hlt]at eG;have hs:=((((((hs.tail.aI 9 (.int .u64 0)).aI 10 (.int .i64 0)).aI 11 (.slice none 0 0)).aI 12 (.string ⟨#[]⟩)).aI 13 (.bool false)).aI 14 (.int .u64 0));go_wp2
  go_ret;exact⟨none,rfl,by rw[eG.out];exact⟨⟨0,0,0,0,0,0⟩,.slice none 0 0,rfl,((hs.bY.cF (T:=69) (size:=2)).b1:St K _ (blk b (.cells (bC nx d 0 Fu (.slice none 0 0) (.func (.func 103) #[(.pointer (some ⟨b,0,none⟩))] #[]) [.string key,.int .i64 level]).toArray 163)::bu (.slice none 0 0) Fu::F))⟩⟩
 rw[iK,if_neg hlt]at eG;have kw:=hs.k0;have k:=hs.k1;unfold bC at k;have Hlt:=aq3 hlt;go_upto_region 5 with(fail)
 refine bI (by kernel_rfl) (by kernel_rfl) ?_
 repeat (go_big_quiet_step ((go_at_call 138;exact aX ((Qw.out _).mono (by rintro e w' ⟨rfl,rfl⟩;exact⟨rfl,Below.refl _ _⟩)))))
 refine wpQuiet_nil ?_
 intro w3 hb3;have hs:=hs.same hb3;clear kw k hb3 Qw hlt;rw[←Bool.not_or];cases hin:(pg.la || cA key pg.hi)with
 | false=>
  simp only[Bool.not_false];rw[hin]at eG;simp only[Bool.false_eq_true,if_false]at eG;have kw:=hs.k0;go_upto_region 6 with(fail)
  clear kw;have Hs:=aq3 hs;clear hs;refine fY [false,false,false,false,false,true,true] 5 6
   (fun W=>St K W (blk w.heap.size (.cells #[.int .i64 (pg).ak,(.slice a pg.sl.length c),.string (pg).hi,.bool (pg).la,.int .u64 (pg).ri] 43)::blk b (.cells (bC nx d id pg (.slice a pg.sl.length c) (.func (.func 103) #[(.pointer (some ⟨b,0,none⟩))] #[]) [.string key,.int .i64 level]).toArray 163)::bu (.slice a pg.sl.length c) pg::F))
   (fun v W=>∃o,v=aW o/\∃B:kB,o=lp b B (gP ⟨0,id,pg,oI⟩ pg.ri).pc/\St K W (blk w.heap.size (.cells #[.int .i64 (pg).ak,(.slice a pg.sl.length c),.string (pg).hi,.bool (pg).la,.int .u64 (pg).ri] 43)::(s7 b nx B (.slice a pg.sl.length c) (.slice none 0 0) d key level (gP ⟨0,id,pg,oI⟩ pg.ri)++F)))
   (fun v u W=>u=v/\∃o,v=aW o/\∃B:kB,o=lp b B (gP ⟨0,id,pg,oI⟩ pg.ri).pc/\St K W (blk w.heap.size (.cells #[.int .i64 (pg).ak,(.slice a pg.sl.length c),.string (pg).hi,.bool (pg).la,.int .u64 (pg).ri] 43)::(s7 b nx B (.slice a pg.sl.length c) (.slice none 0 0) d key level (gP ⟨0,id,pg,oI⟩ pg.ri)++F)))
   (fun W=>∃cs,St K W (blk w.heap.size (.cells #[.int .i64 (pg).ak,(.slice a pg.sl.length c),.string (pg).hi,.bool (pg).la,.int .u64 (pg).ri] 43)::cs)) ?aS1 (by decide) (by kernel_rfl) ?hB1 ?H1 ?ahv Hs.out ?hI1 ?hR1 ?ahw ?ahx ?hQ1
  case hB1=>as_aux_lemma=>kernel_rfl
  case H1=>
   rintro W2 ⟨cs,hs⟩;have k1:=hs.k0;clear hs;simp only[bL];repeat (go_big_quiet_step (fail))
   refine wpQuiet_nil ?_
   rfl
  case ahv=>rfl
  case hI1=>exact⟨fun W h=>⟨_,h⟩,fun v W ⟨_,_,_,_,h⟩=>⟨_,h⟩,fun v u W ⟨_,_,_,_,_,h⟩=>⟨_,h⟩⟩
  case hR1=>exact⟨fun W W' h hb=>h.same hb,fun v W W' ⟨o,e,B,e2,h⟩ hb=>⟨o,e,B,e2,h.same hb⟩,fun v u W W' ⟨e0,o,e,B,e2,h⟩ hb=>⟨e0,o,e,B,e2,h.same hb⟩⟩
  case ahw=>
   intro rj o ho ρ W2 hs hk af aB;obtain rfl:=aq9 ho;subst aB;have Hk:=aq3 hk;clear hk;go_wp2_with fail
   refine(rP (id' := pg.ri) (by exact mF) hs.b1).mono ?_
   rintro e w3 ⟨o,rfl,B,ho,hs⟩;cases o with
   | none=>
    simp only[aW];go_wp2
    exact⟨rfl,_,rfl,Hk.out _ _ ⟨none,rfl,B,ho,hs⟩⟩
   | some f=>
    simp only[aW];go_wp2
    exact⟨rfl,_,rfl,Hk.out _ _ ⟨some f,rfl,B,ho,hs⟩⟩
  case ahx=>
   rintro rj o ho ρ v W2 ⟨ov,rfl,B,Sh,hs⟩ hk af aB;obtain rfl:=aq9 ho;have Hk:=aq3 hk;clear hk;simp only[aM,List.getElem?_cons_succ,List.getElem?_cons_zero,Option.bind_some,Act.put,List.setIfInBounds_toArray,List.set_cons_zero,List.set_cons_succ]at aB;subst aB;have Si:=aq3 Sh;clear Sh;cases ov with
   | none=>
    simp only[aW];go_wp2
    exact⟨rfl,_,rfl,Hk.out _ _ ⟨rfl,none,rfl,B,Si.out,hs⟩⟩
   | some f=>
    simp only[aW];go_wp2
    exact⟨rfl,_,rfl,Hk.out _ _ ⟨rfl,some f,rfl,B,Si.out,hs⟩⟩
  case hQ1=>
   rintro v u W2 ⟨rfl,ov,rfl,B,Sh,hs⟩;simp only[aM,List.getElem?_cons_succ,List.getElem?_cons_zero,Option.bind_some,Act.put,List.setIfInBounds_toArray,List.set_cons_zero,List.set_cons_succ];have Si:=aq3 Sh;clear Sh;cases ov with
   | none=>
    simp only[aW];go_wp2
    go_ret;exact⟨none,rfl,by rw[eG.out];exact⟨B,_,Si.out,hs.tail⟩⟩
   | some f=>
    simp only[aW];go_wp2
    go_ret;exact⟨some f,rfl,by rw[eG.out];exact⟨B,_,Si.out,hs.tail⟩⟩
 | true=>
  simp only[Bool.not_true];rw[hin]at eG;simp only[if_true]at eG;have kw:=hs.k0;have k:=hs.k1;unfold bC at k;go_upto_region 7 with(fail)
  refine bI (by kernel_rfl) (by kernel_rfl) ?_
  repeat (go_big_quiet_step (fail))
  refine wpQuiet_nil ?_
  intro w4 hb4;have hs:=hs.same hb4;clear kw k hb4;by_cases hlv:pg.ak=level
  ·rw[if_pos hlv]at eG
   go_wp2
   go_ret;exact⟨none,rfl,by rw[eG.out];exact⟨⟨0,0,0,0,0,0⟩,.slice a pg.sl.length c,rfl,hs.tail⟩⟩
  rw[if_neg hlv]at eG;rw[show(pg.ak == level)=false by simp[hlv]]
  have eY:=(show St K w4 (az (.slice a pg.sl.length c) 69 2 pg.sl.length (aD pg.sl)::_)from hs.b2).cO (by omega)
  have Qc:=aq3 (fun W (hb:Below w4.heap.size w4 W)=>Mj (cap:=c) (key:=key) W (eY.same hb) (dJ (by have:=Hlt.out;omega)))
  obtain⟨sv,Wh,Xk⟩:∃sv:Sl,ug (jG pg.sl ((iE pg.sl key:Int)-1))=.agg #[.string sv.k,.int .u64 sv.r]/\js key pg.sl=sv.r:=by
   unfold js;cases jG pg.sl ((iE pg.sl key:Int)-1)with
   | none=>exact⟨⟨⟨#[]⟩,0⟩,rfl,rfl⟩
   | some s=>exact⟨s,rfl,rfl⟩
  have ahy:0<=sv.r:=by
   rw[←Xk];unfold js jG;split
   ·rename_i s hx
    split at hx
    ·cases hx
    ·exact vA s (aq7 hx)
   ·omega
  rw[Wh]at Qc;generalize (jG pg.sl ((iE pg.sl key:Int)-1)).isSome=bo at Qc;rw[Xk]at eG;have Hlv:=aq3 hlv;clear Wh Xk eY;clear hlv;go_upto_region 9 with(fail)
  have Hs:=aq3 hs;clear hs;refine fY [false,false,false,false,false,false,false,false,false,true,true,false] 9 10
   (fun W=>St K W (blk w.heap.size (.cells #[.int .i64 (pg).ak,(.slice a pg.sl.length c),.string (pg).hi,.bool (pg).la,.int .u64 (pg).ri] 43)::blk b (.cells (bC nx d id pg (.slice a pg.sl.length c) (.func (.func 103) #[(.pointer (some ⟨b,0,none⟩))] #[]) [.string key,.int .i64 level]).toArray 163)::bu (.slice a pg.sl.length c) pg::F)/\Below w4.heap.size w4 W)
   (fun v W=>∃bn:Nat,v=(.pointer (some ⟨bn,0,none⟩))/\St K W (blk bn (.cells #[.string ⟨#[]⟩,.int .u64 0] 69)::blk w.heap.size (.cells #[.int .i64 (pg).ak,(.slice a pg.sl.length c),.string (pg).hi,.bool (pg).la,.int .u64 (pg).ri] 43)::blk b (.cells (bC nx d id pg (.slice a pg.sl.length c) (.func (.func 103) #[(.pointer (some ⟨b,0,none⟩))] #[]) [.string key,.int .i64 level]).toArray 163)::bu (.slice a pg.sl.length c) pg::F)/\w4.heap.size<=bn/\Below w4.heap.size w4 W)
   (fun v u W=>u=undef/\∃bn:Nat,v=(.pointer (some ⟨bn,0,none⟩))/\St K W (blk bn (.cells #[.string sv.k,.int .u64 sv.r] 69)::blk w.heap.size (.cells #[.int .i64 (pg).ak,(.slice a pg.sl.length c),.string (pg).hi,.bool (pg).la,.int .u64 (pg).ri] 43)::blk b (.cells (bC nx d id pg (.slice a pg.sl.length c) (.func (.func 103) #[(.pointer (some ⟨b,0,none⟩))] #[]) [.string key,.int .i64 level]).toArray 163)::bu (.slice a pg.sl.length c) pg::F)/\w4.heap.size<=bn/\Below w4.heap.size w4 W)
   (fun W=>∃cs,St K W (blk w.heap.size (.cells #[.int .i64 (pg).ak,(.slice a pg.sl.length c),.string (pg).hi,.bool (pg).la,.int .u64 (pg).ri] 43)::blk b (.cells (bC nx d id pg (.slice a pg.sl.length c) (.func (.func 103) #[(.pointer (some ⟨b,0,none⟩))] #[]) [.string key,.int .i64 level]).toArray 163)::cs)/\Below w4.heap.size w4 W) ?aS3 (by decide) (by kernel_rfl) ?hB3 ?H3 ?ahz ⟨Hs.out,Below.refl _ _⟩ ?hI3 ?hR3 ?ahA ?ahB ?hQ3
  case hB3=>as_aux_lemma=>kernel_rfl
  case H3=>
   rintro W2 ⟨cs,hs,hb⟩;have k1:=hs.k0;have k2:=hs.k1;unfold bC at k2;have Qy:=aq3 (fun wz (hy:∃x:Ext,wz=over W2 x)=>Qc.out wz (hb.trans ((Pure.below hy).mono hb.size)))
   clear hs hb;simp only[bL];repeat (go_big_quiet_step ((go_at_call 140;exact aX (Qy.out _ ⟨_,rfl⟩))))
   refine wpQuiet_nil ?_
   rfl
  case ahz=>rfl
  case hI3=>exact⟨fun W h=>⟨_,h⟩,fun v W ⟨_,_,h,_,hb⟩=>⟨_,h.tail,hb⟩,fun v u W ⟨_,_,_,h,_,hb⟩=>⟨_,h.tail,hb⟩⟩
  case hR3=>exact⟨fun W W' ⟨h,hb0⟩ hb=>⟨h.same hb,hb0.trans (hb.mono hb0.size)⟩,fun v W W' ⟨bn,e,h,Xl,hb0⟩ hb=>⟨bn,e,h.same hb,Xl,hb0.trans (hb.mono hb0.size)⟩,fun v u W W' ⟨e0,bn,e,h,Xl,hb0⟩ hb=>⟨e0,bn,e,h.same hb,Xl,hb0.trans (hb.mono hb0.size)⟩⟩
  case ahA=>
   rintro rj o ho ρ W2 ⟨hs,hb⟩ hk af aB;obtain rfl:=aq9 ho;subst aB;have Hk:=aq3 hk;clear hk;have hs:=hs.made (.cells #[.string ⟨#[]⟩,.int .u64 0] 69);go_wp2
   exact⟨rfl,_,rfl,Hk.out _ _ ⟨_,rfl,hs,hb.size,hb.alloc hb.size _⟩⟩
  case ahB=>
   rintro rj o ho ρ v W2 ⟨bn,rfl,hs,Xl,hb⟩ hk af aB;obtain rfl:=aq9 ho;have Hk:=aq3 hk;clear hk;simp only[aM,List.getElem?_cons_succ,List.getElem?_cons_zero,Option.bind_some,Act.put,List.setIfInBounds_toArray,List.set_cons_zero,List.set_cons_succ]at aB;subst aB;have k0:=hs.k0;have f0:=hs.f0;have hs2:=(hs.aI 0 (.string sv.k)).aI 1 (.int .u64 sv.r);simp only[List.set_cons_zero,List.set_cons_succ]at hs2;have hb2:Below w4.heap.size w4 ((W2.setCell ⟨bn,0,none⟩ (.string sv.k)).setCell ⟨bn,1,none⟩ (.int .u64 sv.r)):=(hb.setCell Xl _).setCell Xl _;have Hb2:=aq3 hb2;clear hb hb2;go_wp2
   exact⟨rfl,undef,rfl,Hk.out _ _ ⟨rfl,bn,rfl,hs2,Xl,Hb2.out⟩⟩
  case hQ3=>
   rintro v u W2 ⟨rfl,bn,rfl,hs,Xl,hb⟩;simp only[aM,List.getElem?_cons_succ,List.getElem?_cons_zero,Option.bind_some,Act.put,List.setIfInBounds_toArray,List.set_cons_zero,List.set_cons_succ];clear hb Xl;have kw:=hs.k0;go_upto_region 10 with(fail)
   clear kw;have Eo:=aq3 hs;clear hs;refine fY [false,false,false,false,false,true,true] 5 6
    (fun W=>St K W (blk bn (.cells #[.string sv.k,.int .u64 sv.r] 69)::blk b (.cells (bC nx d id pg (.slice a pg.sl.length c) (.func (.func 103) #[(.pointer (some ⟨b,0,none⟩))] #[]) [.string key,.int .i64 level]).toArray 163)::bu (.slice a pg.sl.length c) pg::F))
    (fun v W=>∃o,v=aW o/\∃B:kB,o=lp b B (gP ⟨0,id,pg,oI⟩ sv.r).pc/\St K W (blk bn (.cells #[.string sv.k,.int .u64 sv.r] 69)::(s7 b nx B (.slice a pg.sl.length c) (.slice none 0 0) d key level (gP ⟨0,id,pg,oI⟩ sv.r)++F)))
    (fun v u W=>u=v/\∃o,v=aW o/\∃B:kB,o=lp b B (gP ⟨0,id,pg,oI⟩ sv.r).pc/\St K W (blk bn (.cells #[.string sv.k,.int .u64 sv.r] 69)::(s7 b nx B (.slice a pg.sl.length c) (.slice none 0 0) d key level (gP ⟨0,id,pg,oI⟩ sv.r)++F)))
    (fun W=>∃cs,St K W (blk bn (.cells #[.string sv.k,.int .u64 sv.r] 69)::cs)) ?aS4 (by decide) (by kernel_rfl) ?hB4 ?H4 ?ahC Eo.out.bY ?hI4 ?hR4 ?ahD ?ahE ?hQ4
   case hB4=>as_aux_lemma=>kernel_rfl
   case H4=>
    rintro W2 ⟨cs,hs⟩;have k1:=hs.k0;clear hs;simp only[bL];repeat (go_big_quiet_step (fail))
    refine wpQuiet_nil ?_
    rfl
   case ahC=>rfl
   case hI4=>exact⟨fun W h=>⟨_,h⟩,fun v W ⟨_,_,_,_,h⟩=>⟨_,h⟩,fun v u W ⟨_,_,_,_,_,h⟩=>⟨_,h⟩⟩
   case hR4=>exact⟨fun W W' h hb=>h.same hb,fun v W W' ⟨o,e,B,e2,h⟩ hb=>⟨o,e,B,e2,h.same hb⟩,fun v u W W' ⟨e0,o,e,B,e2,h⟩ hb=>⟨e0,o,e,B,e2,h.same hb⟩⟩
   case ahD=>
    intro rj o ho ρ W2 hs hk af aB;obtain rfl:=aq9 ho;subst aB;have Hk:=aq3 hk;clear hk;go_wp2_with fail
    refine(rP (id' := sv.r) (by exact ahy) hs.b1).mono ?_
    rintro e w3 ⟨o,rfl,B,ho,hs⟩;cases o with
    | none=>
     simp only[aW];go_wp2
     exact⟨rfl,_,rfl,Hk.out _ _ ⟨none,rfl,B,ho,hs⟩⟩
    | some f=>
     simp only[aW];go_wp2
     exact⟨rfl,_,rfl,Hk.out _ _ ⟨some f,rfl,B,ho,hs⟩⟩
   case ahE=>
    rintro rj o ho ρ v W2 ⟨ov,rfl,B,Sh,hs⟩ hk af aB;obtain rfl:=aq9 ho;have Hk:=aq3 hk;clear hk;simp only[aM,List.getElem?_cons_succ,List.getElem?_cons_zero,Option.bind_some,Act.put,List.setIfInBounds_toArray,List.set_cons_zero,List.set_cons_succ]at aB;subst aB;have Si:=aq3 Sh;clear Sh;cases ov with
    | none=>
     simp only[aW];go_wp2
     exact⟨rfl,_,rfl,Hk.out _ _ ⟨rfl,none,rfl,B,Si.out,hs⟩⟩
    | some f=>
     simp only[aW];go_wp2
     exact⟨rfl,_,rfl,Hk.out _ _ ⟨rfl,some f,rfl,B,Si.out,hs⟩⟩
   case hQ4=>
    rintro v u W2 ⟨rfl,ov,rfl,B,Sh,hs⟩;simp only[aM,List.getElem?_cons_succ,List.getElem?_cons_zero,Option.bind_some,Act.put,List.setIfInBounds_toArray,List.set_cons_zero,List.set_cons_succ];have Si:=aq3 Sh;clear Sh;cases ov with
    | none=>
     simp only[aW];go_wp2
     go_ret;exact⟨none,rfl,by rw[eG.out];exact⟨B,_,Si.out,hs.tail⟩⟩
    | some f=>
     simp only[aW];go_wp2
     go_ret;exact⟨some f,rfl,by rw[eG.out];exact⟨B,_,Si.out,hs.tail⟩⟩
end
section
variable {K:aL}{w:World}{F:List aC}{b bm bc:Nat}{L:List aO}{acc:Nat}{nx va:Value}{d:aR}{id:Int}{pg:Pg}{left:Nat}{th:Option FV}{word:Int}
theorem Bb {tv:Value}(hd:d.Ok)(hid:0<=id/\id<18446744073709551616)(ha:acc<=1000000000000)(hL:0<=(ah L (d.node id 0)).n/\(ah L (d.node id 0)).n<18446744073709551616)(hw:0<=word/\word<18446744073709551616)
  (hs:St K w (blk b (.cells (aU nx d id pg va left tv word).toArray 222)::aJ bm bc L acc::F)) :
  Calls Tryz.prog 191 #[.pointer (some ⟨b,0,none⟩),.pointer (some ⟨bm,0,none⟩)] w fun e w' =>
   e=.returned (aW (cond (aG word == aG (ah L (d.node id 0)).n) none (Fm b))) /\
   St K w' (blk b (.cells (aU nx d id pg va left tv word).toArray 222)::aJ bm bc L (acc+1)::F):=by
 obtain⟨c,hc⟩:∃c,c=ah L (d.node id 0):=⟨_,rfl⟩;have q0:=fun(w:World) (F:List aC) (hs:St K w (aJ bm bc L acc::F))=>jl (i:=d.node id 0) hs ha
 rw[←hc]at q0 hL ⊢;have Q0:=aq3 q0;have qs:=fun w=>Fe word hw.1 hw.2 c.n hL.1 hL.2 w
 obtain⟨o,ho⟩:∃o,o=(aG word == aG c.n):=⟨_,rfl⟩;rw[←ho]at qs ⊢;have Qs:=aq3 qs;have Ql:=aq3 (fun w=>iw d hd id hid.1 hid.2 w)
 have k:=hs.k0;unfold aU at k;clear q0 hc qs ho;go_enter Tryz.func191,Tryz.ntmps191
 go_upto_region 1 with(fail)
 go_cut [24] (fun v wx=>v=.bool (!o)/\St K wx (blk b (.cells (aU nx d id pg va left tv word).toArray 222)::aJ bm bc L (acc+1)::F))
 case first=>
  as_aux_lemma=>
  clear hL hw hd hid ha k;refine vI 16 (.agg #[.int .u64 c.n,.string c.k,.int .u64 c.m]) (fun W=>St K W (blk b (.cells (aU nx d id pg va left tv word).toArray 222)::aJ bm bc L (acc+1)::F)) ?_ (by kernel_rfl) rfl (by as_aux_lemma=>kernel_rfl) ?_ ?_ ?_ ?_
  case refine_2=>
   intro W hW;have k:∀j,W.cell? ⟨b,j,none⟩=(aU nx d id pg va left tv word).toArray[j]? := by
    rcases hW with hW|hW
    ·exact(hs.same hW).k0
    ·exact hW.k0
   unfold aU at k;clear hW;simp only[fQ];repeat (go_big_quiet_step (first|(go_at_call 69;exact aX (Ql.out _))|(go_at_call 193;exact dz (Qs.out _))))
   refine wpQuiet_nil ?_
   rfl
  case refine_3=>exact fun W W' h hb=>h.same hb
  case refine_4=>
   intro W hb;exact⟨141, #[.pointer (some ⟨bm,0,none⟩),.int .i64 (d.node id 0)],by kernel_rfl,(Q0.out _ _ (hs.same hb).b1).mono fun e w2 ⟨he,h⟩=>⟨he,h.b1⟩⟩
  case refine_5=>
   intro W hs;go_wp2
   go_meet;exact⟨rfl,hs⟩
 case rest=>
  clear hs k;obtain⟨rfl,hs⟩:=hcut;cases o with
  | true=>
   go_wp2
   go_ret;exact⟨rfl,hs⟩
  | false=>
   go_wp2
   go_ret;exact⟨rfl,hs⟩
end
section
variable {K:aL}{w:World}{F:List aC}{b bm bc:Nat}{L:List aO}{acc:Nat}{va:Value}{d:aR}{id:Int}{s:jX}
def Kh (p acc:Nat):Nat:=if 6<=p then acc else acc+1
theorem iA {s':jX}{f:FV}{acc':Nat}(hf:Enters f.f)(pM:sx b s.pc=some f)(hc:w.cell? ⟨b,0,none⟩=some (aW (sx b s.pc)))
  (hcall:Calls Tryz.prog f.f (f.x ++ #[.pointer (some ⟨bm,0,none⟩)]++f.y) w fun e w1=>∃eX,e=.returned (aW (sx b s'.pc))/\St K w1 (blk b (.cells (aU (aW (sx b s.pc)) d id s'.pg eX s'.left (aW (Fv b s'.t)) s'.word).toArray 222)::bu eX s'.pg::aJ bm bc L acc' :: F)) :
  Calls Tryz.prog 77 #[.pointer (some ⟨b,0,none⟩),.pointer (some ⟨bm,0,none⟩)] w fun e w' => ∃eX,e=.returned (.bool (decide (6<=s'.pc)))/\St K w' (En b d id eX s' :: bu eX s'.pg::aJ bm bc L acc' :: F):=by
 rw[pM]at hc;rw[←Me (b:=b)];exact lW (f:=f) (o:=sx b s'.pc) (tl:=fun eX=>(aU (aW (sx b s.pc)) d id s'.pg eX s'.left (aW (Fv b s'.t)) s'.word).tail) (F' := fun eX=>bu eX s'.pg::aJ bm bc L acc' :: F) hf hc hcall
theorem Sj (hd:d.Ok)(hid:0<=id/\id<18446744073709551616)(hL:bD L)(ha:acc<=1000000000000)(hok:s.Ok d)(hs:St K w (En b d id va s::bu va s.pg::aJ bm bc L acc::F)) :
  Calls Tryz.prog 77 #[.pointer (some ⟨b,0,none⟩),.pointer (some ⟨bm,0,none⟩)] w fun e w' => ∃eX,e=.returned (.bool (decide (6<=(rdStep d id L s).pc)))/\St K w' (En b d id eX (rdStep d id L s)::bu eX (rdStep d id L s).pg::aJ bm bc L (Kh s.pc acc)::F):=by
 obtain⟨pc,pg,left,word,t⟩:=s;have h1:=hok.pc;have h2:=hok.word;have h3:=hok.len;have h4:=hok.th;have h5:=hok.left;simp only at h1 h2 h3 h4 h5;have hs':St K w (blk b (.cells (aU (aW (sx b pc)) d id pg va left (aW (Fv b t)) word).toArray 222)::aJ bm bc L acc::bu va pg::F):=hs.b2.b1;have k0:w.cell? ⟨b,0,none⟩=some (aW (sx b pc)):=hs'.k0 0;have rO:=hd.mK;rcases(show pc=0\/pc=1\/pc=2\/pc=3\/pc=4\/pc=5\/pc=6 by omega)with rfl|rfl|rfl|rfl|rfl|rfl|rfl
 ·have q:=Xg hd hid ha (hL (d.node id 0)) hs'
  cases hch:bW (ah L (d.node id 0)).n with
  | true=>
   rw[hch]at q;have e:rdStep d id L ⟨0,pg,left,word,t⟩=⟨0,pg,left,(ah L (d.node id 0)).n,t⟩:=by simp only[rdStep];rw[if_pos hch]
   rw[e];exact iA (s:=⟨0,pg,left,word,t⟩) (s' := ⟨0,pg,left,(ah L (d.node id 0)).n,t⟩) rK rfl k0 (q.mono fun e w1 ⟨he,h⟩=>⟨va,he,h.b2.b1⟩)
  | false=>
   rw[hch]at q;have e:rdStep d id L ⟨0,pg,left,word,t⟩=⟨1,pg,left,(ah L (d.node id 0)).n,true⟩:=by simp only[rdStep];rw[if_neg (by simp[hch])]
   rw[e];exact iA (s:=⟨0,pg,left,word,t⟩) (s' := ⟨1,pg,left,(ah L (d.node id 0)).n,true⟩) rK rfl k0 (q.mono fun e w1 ⟨he,h⟩=>⟨va,he,h.b2.b1⟩)
 ·have q:=Jz (th:=Fv b t) hd hid ha (hL (d.node id 1)) hs'
  exact iA (s:=⟨1,pg,left,word,t⟩) (s' := ⟨2,⟨wrap64 (ah L (d.node id 1)).m,[],⟨#[]⟩,false,0⟩,leftOf d (ah L (d.node id 1)),word,t⟩) rL rfl k0 (q.mono fun e w1 ⟨he,h⟩=>⟨.slice none 0 0,he,h.b2.tail.cF.b1⟩)
 ·have q:=Ka (th:=Fv b t) hd hid ha hs'
  exact iA (s:=⟨2,pg,left,word,t⟩) (s' := ⟨3,pg.high (ah L (d.node id 2)),left,word,t⟩) rM rfl k0 (q.mono fun e w1 ⟨he,h⟩=>⟨va,he,h.b2.b1⟩)
 ·obtain rfl:t=true:=by simpa using h4
  have q:=Ap (th:=tY b) hd hid ha hs';rw[Kc]at q;exact iA (s:=⟨3,pg,left,word,true⟩) (s' := ⟨if left=0 then 5 else 4,pg.right (ah L (d.node id 3)),left,word,true⟩) qj rfl k0 (q.mono fun e w1 ⟨he,h⟩=>⟨va,he,h.b2.b1⟩)
 ·obtain rfl:t=true:=by simpa using h4
  have h3':(pg.sl.length:Int)+left<=d.fa:=by simpa using h3
  have q:=Kb (pg:=pg) (th:=tY b) hd hid ha (by omega) ⟨h5 rfl,by omega⟩ hs
  rw[Kc]at q;exact iA (s:=⟨4,pg,left,word,true⟩) (s' := ⟨if left-1=0 then 5 else 4,pg.push (ah L (d.slot id pg.sl.length)),left-1,word,true⟩) rN rfl k0 (q.mono fun e w1 ⟨eX,he,h⟩=>⟨eX,he,h⟩)
 ·have q:=Bb hd hid ha (hL (d.node id 0)) h2 hs'
  cases hsm:(aG word == aG (ah L (d.node id 0)).n)with
  | true=>
   rw[hsm]at q;have e:rdStep d id L ⟨5,pg,left,word,t⟩=⟨6,pg,left,word,t⟩:=by simp only[rdStep];rw[if_pos hsm]
   rw[e];exact iA (s:=⟨5,pg,left,word,t⟩) (s' := ⟨6,pg,left,word,t⟩) mE rfl k0 (q.mono fun e w1 ⟨he,h⟩=>⟨va,he,h.b2.b1⟩)
  | false=>
   rw[hsm]at q;have e:rdStep d id L ⟨5,pg,left,word,t⟩=⟨0,pg,left,word,t⟩:=by simp only[rdStep];rw[if_neg (by simp[hsm])]
   rw[e];exact iA (s:=⟨5,pg,left,word,t⟩) (s' := ⟨0,pg,left,word,t⟩) mE rfl k0 (q.mono fun e w1 ⟨he,h⟩=>⟨va,he,h.b2.b1⟩)
 ·exact(m8 hs k0).mono fun e w1 ⟨he,h⟩=>⟨va,he,h⟩
end
theorem Bc (w:World)(ak ri:Int)(a:Option Addr)(n c:Nat)(hi:ByteArray)(la:Bool):(Instr.field 43 (.agg #[.int .i64 ak,.slice a n c,.string hi,.bool la,.int .u64 ri]) 1).run Tryz.prog w=.ok (.slice a n c) w:=rfl
theorem Bd (w:World)(ak ri:Int)(a:Option Addr)(n c:Nat)(hi:ByteArray)(la:Bool):(Instr.field 43 (.agg #[.int .i64 ak,.slice a n c,.string hi,.bool la,.int .u64 ri]) 3).run Tryz.prog w=.ok (.bool la) w:=rfl
theorem Be (w:World)(ak ri:Int)(a:Option Addr)(n c:Nat)(hi:ByteArray)(la:Bool):(Instr.field 43 (.agg #[.int .i64 ak,.slice a n c,.string hi,.bool la,.int .u64 ri]) 4).run Tryz.prog w=.ok (.int .u64 ri) w:=rfl
attribute [go_sem] Bc Bd Be
section
variable {K:aL}{w:World}{F:List aC}{b bm bc:Nat}{L:List aO}{acc:Nat}{va:Value}{d:aR}{id:Int}{s:jX}
theorem Ml (hd:d.Ok)(hid:0<=id/\id<18446744073709551616)(hL:bD L)(ha:acc<=1000000000000)(hok:s.Ok d)(hs:St K w (En b d id va s::bu va s.pg::aJ bm bc L acc::F)) :
  Calls Tryz.prog 215 #[.pointer (some ⟨b,0,none⟩),.pointer (some ⟨bm,0,none⟩)] w fun e w' => ∃eX,e=.returned (.bool (decide (6<=(rdStep d id L s).pc)))/\St K w' (En b d id eX (rdStep d id L s)::bu eX (rdStep d id L s).pg::aJ bm bc L (Kh s.pc acc)::F):=by
 have Q:=aq3 (Sj hd hid hL ha hok hs);clear hs;go_enter Tryz.func215,Tryz.ntmps215
 go_wp2_with fail
 refine(Q.out).mono ?_
 rintro e w1 ⟨eX,rfl,hs⟩;go_wp2
 go_ret;exact⟨eX,rfl,hs⟩
end
section
variable {K:aL}{w:World}{cs:List aC}
end
theorem ic {K:aL}{w:World}{α:Type}{b m:Nat}{f:FV}{o:α->Option FV}{nx:Value}{tl:α->List Value}{T:TypeId}{F' : α->List aC}(hf:Enters f.f)(hc:w.cell? ⟨b,0,none⟩=some (aW (some f)))
  (hcall:Calls Tryz.prog f.f (f.x ++ #[(.pointer (some ⟨m,0,none⟩))]++f.y) w fun e w1=>∃x,e=.returned (aW (o x))/\St K w1 (blk b (.cells (nx::tl x).toArray T)::F' x)) :
  Calls Tryz.prog 77 #[(.pointer (some ⟨b,0,none⟩)),(.pointer (some ⟨m,0,none⟩))] w fun e w' => ∃x,e=.returned (.bool (o x).isNone)/\St K w' (blk b (.cells (aW (o x)::tl x).toArray T)::F' x):=by
 refine(oT (R:=fun l=>∃x,l=⟨o x,K,nx,tl x,T,F' x⟩) w b m f hf hc (hcall.mono fun e w1 ⟨x,he,hs⟩=>⟨⟨o x,K,nx,tl x,T,F' x⟩,he,⟨x,rfl⟩,hs⟩)).mono ?_
 rintro e w' ⟨l,he,⟨x,rfl⟩,hs⟩;exact⟨x,he,hs⟩
structure pO.Ok (d:aR)(s:pO):Prop where
 pc:s.pc<=2
 rd:s.pc=1->1<=s.id/\s.id<18446744073709551616/\s.rd.Ok d/\s.rd.pc<=5
structure oX (level:Int)(pg:Pg):Prop where
 ri:0<=pg.ri
 rf:∀s,s∈pg.sl->0<=s.r
 jA:level<pg.ak->kV pg.sl
def Bf (p acc:Nat):Nat:=if p=2 then acc else acc+1
theorem Gi:Enters 104:=fun _ _=>by kernel_rfl
theorem Gj:Enters 103:=fun _ _=>by kernel_rfl
theorem sF:Enters 166:=fun _ _=>by kernel_rfl
theorem uj:Enters 215:=fun _ _=>by kernel_rfl
section
variable {K:aL}{w:World}{F:List aC}{b bm bc:Nat}{va pN:Value}{d:aR}{L:List aO}{acc:Nat}{key:ByteArray}{level:Int}{s:pO}{B:kB}
def FdP (K:aL)(b bm bc:Nat)(d:aR)(L:List aO)(acc:Nat)(key:ByteArray)(level:Int)(F:List aC)(s:pO)(e:Ending)(w':World):Prop:=
 ∃(x:kB × Value × Value),e=.returned (.bool (lp b x.1 s.pc).isNone)/\St K w' (s7 b (aW (lp b x.1 s.pc)) x.1 x.2.1 x.2.2 d key level s++aJ bm bc L acc::F)
def adW (b:Nat)(va:Value)(d:aR)(key:ByteArray)(level:Int)(s:pO):List Value:=(bC (.nilFunc) d s.id s.pg va (.func (.func 103) #[(.pointer (some ⟨b,0,none⟩))] #[]) [.string key,.int .i64 level]).tail
theorem Gk (hd:d.Ok)(hL:bD L)(ha:acc<=1000000000000)(hok:s.Ok d)(kW:s.pc=1->(rdStep d s.id L s.rd).pc=6->oX level (rdStep d s.id L s.rd).pg)
  (hs:St K w (s7 b (aW (lp b B s.pc)) B va pN d key level s++aJ bm bc L acc::F)) :
  Calls Tryz.prog 77 #[(.pointer (some ⟨b,0,none⟩)),(.pointer (some ⟨bm,0,none⟩))] w fun e w' => FdP K b bm bc d L (Bf s.pc acc) key level F (bS d L key level s) e w' := by
 obtain⟨pc,id,pg,rd⟩:=s;have hc:w.cell? ⟨b,0,none⟩=some (aW (lp b B pc)):=by
  have hs':St K w (blk b (.cells (bC (aW (lp b B pc)) d id pg va (.func (.func 103) #[(.pointer (some ⟨b,0,none⟩))] #[]) [.string key,.int .i64 level]).toArray 163)::_):=hs;exact hs'.k0 0
 match pc,hok,kW,hs,hc with
 | 0,hok,kW,hs,hc=>
  have hs:St K w (blk b (.cells (bC (aW (some (jz b))) d id pg va (.func (.func 103) #[(.pointer (some ⟨b,0,none⟩))] #[]) [.string key,.int .i64 level]).toArray 163)::bu va pg::aJ bm bc L acc::F):=hs;refine(ic (K:=K) (α:=kB × Value × Value) (f:=jz b) (o:=fun x=>lp b x.1 (bS d L key level ⟨0,id,pg,rd⟩).pc) (nx:=aW (some (jz b)))
   (tl:=fun x=>adW b x.2.1 d key level (bS d L key level ⟨0,id,pg,rd⟩))
   (F' := fun x=>(s7 b .nilFunc x.1 x.2.1 x.2.2 d key level (bS d L key level ⟨0,id,pg,rd⟩)).tail++aJ bm bc L (acc+1)::F) (T:=163) Gi hc ?_).mono (fun e w' h=>h)
  show Calls Tryz.prog 104 #[(.pointer (some ⟨b,2,none⟩)),(.pointer (some ⟨bm,0,none⟩))] w _
  refine(Xj ha hL (hs.re [0,2,1] rfl)).mono ?_
  rintro e w1 (⟨h0,rfl,hs⟩|⟨h1,B',rfl,hs⟩)
  ·have e1:bS d L key level ⟨0,id,pg,rd⟩=⟨0,id,pg,oI⟩:=by
    show gP _ (ah L 0).n=_
    unfold gP;rw[if_pos h0]
   rw[e1];exact⟨(B,va,pN),rfl,hs.re [0,2,1] rfl⟩
  ·have e1:bS d L key level ⟨0,id,pg,rd⟩=⟨1,(ah L 0).n,pg,oI⟩:=by
    show gP _ (ah L 0).n=_
    unfold gP;rw[if_neg (by omega)]
   rw[e1];exact⟨(B',va,.slice none 0 0),rfl,hs.re [0,7,1,2,3,4,5,6] rfl⟩
 | 1,hok,kW,hs,hc=>
  obtain⟨b2,b3,b5,bt,bp,br⟩:=B;have hs:St K w (blk b (.cells (bC (aW (some (aA b2 b3 b5))) d id pg va (.func (.func 103) #[(.pointer (some ⟨b,0,none⟩))] #[]) [.string key,.int .i64 level]).toArray 163)::bu va pg::bG b2 b3 b5 (.iface 213 (.pointer (some ⟨br,0,none⟩))) (Kg ⟨b2,b3,b5,bt,bp,br⟩)::blk bt (.cells #[(.pointer (some ⟨br,0,none⟩))] 213)::blk bp (.cells #[(.pointer (some ⟨b,2,none⟩))] 194)::En br d id pN rd::bu pN rd.pg::aJ bm bc L acc::F):=hs;obtain⟨jB,oY,hrd,h5⟩:=hok.rd rfl;simp only at jB oY hrd h5;have hst:=oh hd (id:=id) hL hrd;refine(ic (K:=K) (α:=kB × Value × Value) (f:=aA b2 b3 b5) (o:=fun x=>lp b x.1 (bS d L key level ⟨1,id,pg,rd⟩).pc) (nx:=aW (some (aA b2 b3 b5)))
   (tl:=fun x=>adW b x.2.1 d key level (bS d L key level ⟨1,id,pg,rd⟩))
   (F' := fun x=>(s7 b .nilFunc x.1 x.2.1 x.2.2 d key level (bS d L key level ⟨1,id,pg,rd⟩)).tail++aJ bm bc L (acc+1)::F) (T:=163) jY hc ?_).mono (fun e w' h=>h)
  show Calls Tryz.prog 115 #[(.pointer (some ⟨bm,0,none⟩)),(.pointer (some ⟨b2,0,none⟩)),(.pointer (some ⟨b3,0,none⟩)),(.pointer (some ⟨b5,0,none⟩))] w _
  have hrs:=Ml hd ⟨by omega,oY⟩ hL ha hrd (hs.re [5,6,7,0,1,2,3,4] rfl)
  rw[show Kh rd.pc acc=acc+1 by unfold Kh;rw[if_neg (by omega)]]at hrs
  refine(jr (P0:=fun w' => (rdStep d id L rd).pc≠6/\∃eX,St K w' (blk b (.cells (bC (aW (some (aA b2 b3 b5))) d id pg va (.func (.func 103) #[(.pointer (some ⟨b,0,none⟩))] #[]) [.string key,.int .i64 level]).toArray 163)::bu va pg::Mk b ⟨b2,b3,b5,bt,bp,br⟩ d id eX (rdStep d id L rd)++aJ bm bc L (acc+1)::F))
   (P1:=fun o w' => (rdStep d id L rd).pc=6/\FtP K b (aW (some (aA b2 b3 b5))) d key level (aJ bm bc L (acc+1)::F) (iK key level id (rdStep d id L rd).pg) o w')
   (hs.re [2,0,1,3,4,5,6,7] rfl) (fun n w=>Ar n _ w) uj sF (hrs.mono ?_)).mono ?_
  ·rintro e w1 ⟨eX,rfl,hs⟩
   refine⟨⟨K,_,hs.re [5,0,1,2,3,4,6,7] rfl⟩,?_⟩;by_cases h6:(rdStep d id L rd).pc=6
   ·refine .inr ⟨by rw[decide_eq_true (by omega)],?_⟩
    have hg:=kW rfl h6;simp only at hg;have hlen:(rdStep d id L rd).pg.sl.length<=1000000:=by
     have:=hd.mK;rcases hst.len with h|h <;> omega
    have hsx:St K w1 (blk b (.cells (bC (aW (some (aA b2 b3 b5))) d id pg va (.func (.func 103) #[(.pointer (some ⟨b,0,none⟩))] #[]) [.string key,.int .i64 level]).toArray 163)::(Mk b ⟨b2,b3,b5,bt,bp,br⟩ d id eX (rdStep d id L rd)++aJ bm bc L (acc+1)::F)):=(hs.re [4,3,5,6,7,0,1,2] rfl).tail;refine(Gg (R:=FtP K b (aW (some (aA b2 b3 b5))) d key level (aJ bm bc L (acc+1)::F) (iK key level id (rdStep d id L rd).pg)) Gj h6 hlen hsx ?_).mono (fun e w2 ⟨o,he,h⟩=>⟨o,he,h6,h⟩)
    ·intro w2 lj hs2
     exact Sg hg.ri hg.rf hlen hg.jA hs2
   ·refine .inl ⟨by rw[decide_eq_false (by have:=hst.pc;omega)],h6,eX,hs.re [3,4,5,6,7,0,1,2] rfl⟩
  ·rintro e w1 ⟨o,rfl,⟨rfl,h6,eX,hs⟩|⟨h6,h⟩⟩
   ·have e1:bS d L key level ⟨1,id,pg,rd⟩=⟨1,id,pg,rdStep d id L rd⟩:=by
     show(if _ then _ else _)=_
     rw[if_neg h6]
    rw[e1];exact⟨(⟨b2,b3,b5,bt,bp,br⟩,va,eX),rfl,hs⟩
   ·have e1:bS d L key level ⟨1,id,pg,rd⟩=iK key level id (rdStep d id L rd).pg:=by
     show(if _ then _ else _)=_
     rw[if_pos h6]
    rw[e1];obtain⟨B',eX,rfl,hs⟩:=h;exact⟨(B',eX,.slice none 0 0),rfl,hs⟩
 | n+2,hok,kW,hs,hc=>
  obtain rfl:n=0:=by have h:=hok.pc;simp only at h;omega
  refine(m8 hs hc).mono ?_
  rintro e w' ⟨rfl,hs⟩;exact⟨(B,va,pN),rfl,hs⟩
end
section
variable {K:aL}{w:World}{F:List aC}{b bm bc:Nat}{va pN:Value}{d:aR}{L:List aO}{acc:Nat}{key:ByteArray}{level:Int}{s:pO}{B:kB}
theorem Mm {b:Nat}{B:kB}{p:Nat}:(lp b B p).isNone=decide (2<=p):=by
 match p with
 | 0=>rfl
 | 1=>rfl
 | n+2=>simp[lp]
theorem Bg (hd:d.Ok)(hL:bD L)(ha:acc<=1000000000000)(hok:s.Ok d)(kW:s.pc=1->(rdStep d s.id L s.rd).pc=6->oX level (rdStep d s.id L s.rd).pg)
  (hs:St K w (s7 b (aW (lp b B s.pc)) B va pN d key level s++aJ bm bc L acc::F)) :
  Calls Tryz.prog 49 #[(.pointer (some ⟨b,0,none⟩)),(.pointer (some ⟨bm,0,none⟩))] w fun e w' => e=.returned (.bool (decide (2<=(bS d L key level s).pc))) /\
   ∃(x:kB × Value × Value),St K w' (s7 b (aW (lp b x.1 (bS d L key level s).pc)) x.1 x.2.1 x.2.2 d key level (bS d L key level s)++aJ bm bc L (Bf s.pc acc)::F):=by
 have q:=Gk hd hL ha hok kW hs;have Q:=aq3 q;generalize bS d L key level s=s' at *;generalize Bf s.pc acc=acc' at *;clear q hs kW;go_enter Tryz.func49,Tryz.ntmps49
 go_wp2_with fail
 refine(Q.out).mono ?_
 rintro e w1 ⟨x,rfl,hs⟩;rw[Mm];have Hs:=aq3 hs;clear hs;go_wp2
 go_ret;exact⟨rfl,x,Hs.out⟩
theorem Gl (tmps:Array Value)(w:World)(b:Nat)(v0 v1 v2 v3 v4 u:Value)(hq:tmps[2]?=some u)(hp:tmps[3]?=some (.pointer (some ⟨b,0,none⟩)))(hk:∀k,w.cell? ⟨b,k,none⟩=(#[v0,v1,v2,v3,v4]:Array Value)[k]?) :
  (results Tryz.f50 tmps).run Tryz.prog w=.ok (.tuple #[u,.agg #[v0,v1,v2,v3,v4]]) w:=by
 simp[results,Tryz.results50,go_sem,hp,hq,hk]
theorem Bi (h2:s.pc=2)(hn:s.pg.sl.length<=1000000)(hs:St K w (s7 b .nilFunc B va pN d key level s++F)) :
  Calls Tryz.prog 50 #[(.pointer (some ⟨b,0,none⟩))] w fun e w' => ∃eX,e=.returned (.tuple #[.int .u64 s.id,.agg #[.int .i64 (s.pg).ak,eX,.string (s.pg).hi,.bool (s.pg).la,.int .u64 (s.pg).ri]])/\St K w' (bu eX s.pg::(s7 b .nilFunc B va pN d key level s++F)):=by
 obtain⟨pc,id,pg,rd⟩:=s;simp only at h2 hn;subst h2;have hs:St K w (blk b (.cells (bC .nilFunc d id pg va (.func (.func 103) #[(.pointer (some ⟨b,0,none⟩))] #[]) [.string key,.int .i64 level]).toArray 163)::bu va pg::F):=hs;obtain⟨a,cap,rfl,_,_⟩:=(show St K w (az va 69 2 pg.sl.length (aD pg.sl)::_)from hs.b1).aH
 have eY:=(show St K w (az (.slice a pg.sl.length cap) 69 2 pg.sl.length (aD pg.sl)::_)from hs.b1).cO (by omega)
 have Hl:=aq3 (show(aD pg.sl).length=pg.sl.length*2 by rw[fF])
 have H0:Hid (a=none->pg.sl.length=0):=aq3 (fun e=>by subst e;rw[eY.no];rfl)
 have H1:=aq3 (lh pg.sl);obtain⟨iv,cZ,dc,dg,dh⟩:=info_parts gU;have lI:=aq3 cZ;have lJ:=aq3 dc;have lK:=aq3 dg;have lM:=aq3 dh;clear cZ dc dg dh;have hs1:=hs.made (.cells #[.int .i64 0,.slice none 0 0,.string ⟨#[]⟩,.bool false,.int .u64 0] 43);have Qd:=aq3 (fX (w.alloc (.cells #[.int .i64 0,.slice none 0 0,.string ⟨#[]⟩,.bool false,.int .u64 0] 43)) b (hs1.k1 0) (hs1.k1 1));have k:=hs1.k1;unfold bC at k;have Hs1:=aq3 hs1;clear hs hs1 eY;go_enter Tryz.func50,Tryz.ntmps50
 go_wp2_with fail
 refine(Qd.out).mono ?_
 rintro e w1 ⟨rfl,rfl⟩;go_upto_region 4 with(fail)
 clear k;have hs:=Hs1.out.made (.cells #[.int .i64 (pg).ak,(.slice a pg.sl.length cap),.string (pg).hi,.bool (pg).la,.int .u64 (pg).ri] 43);rw[World.size_alloc]at hs;have eY:=(show St K _ (az (.slice a pg.sl.length cap) 69 2 pg.sl.length (aD pg.sl)::_)from hs.b3).cO (by omega)
 have Hn:=aq3 eY.news;obtain⟨sl,uk⟩:∃sl,sl=aD pg.sl:=⟨_,rfl⟩;rw[←uk]at Hl H1 Hn;have Sk:=aq3 uk;have kp:=hs.k0;have Hs:=aq3 (hs.cF (T:=69) (size:=2));clear hs eY uk;go_wp2_with (at_builtin;refine cG _ _ 41 69 _ 0 pg.sl.length cap 2 24 [] sl (.agg #[.string ⟨#[]⟩,.int .u64 0]) iv a Hs.out rfl rfl Tryz.underlying41 lI.out lJ.out lK.out lM.out rfl (by decide) rfl rfl Hl.out H0.out Hn.out H1.out (by omega) (by decide) ?_)
 intro v' w' hs;obtain⟨ao,oU,hv,_,_⟩:=hs.aH;subst hv;have hs:=hs.b1;have kb:=hs.k0;have fb:=hs.f0;have hs:=(hs.aI 1 (.slice ao pg.sl.length oU));simp only[List.set_cons_zero,List.set_cons_succ]at hs;clear Hs Hl H0 H1 Hn;go_upto_region 5 with(fail)
 clear kb fb kp;have kb:=hs.k0;have k:=hs.b3.k0;unfold bC at k;refine bQ 7 (by kernel_rfl) (by as_aux_lemma=>kernel_rfl) ?_
 simp only[List.take_succ_cons,List.take_zero,List.drop_succ_cons,List.drop_zero];repeat (go_big_quiet_step (fail))
 refine wpQuiet_nil ?_
 intro w3 hb3;have hs:=(hs.same hb3).b2;clear kb k hb3;have kb:=hs.k0;have fb:=hs.f0;have hs:=((((hs.aI 0 (.int .i64 pg.ak)).aI 1 (.slice ao pg.sl.length oU)).aI 2 (.string pg.hi)).aI 3 (.bool pg.la)).aI 4 (.int .u64 pg.ri);simp only[List.set_cons_zero,List.set_cons_succ]at hs;go_wp2
 refine bodyPost_ret (Gl _ _ w.heap.size _ _ _ _ _ _ rfl rfl hs.k0) rfl ?_
 rw[Sk.out]at hs;exact⟨_,rfl,(hs.re [2,0,1,3,4] rfl).bY.bY⟩
end
end
section
structure oZ where
 pc:Nat
 word:Int
def nA (b:Nat):Nat->Option FV
 | 0=>some ⟨152, #[(.pointer (some ⟨b,0,none⟩))], #[]⟩
 | 1=>some ⟨180, #[(.pointer (some ⟨b,0,none⟩))], #[]⟩
 | _=>none
def fS (b:Nat)(i:Int)(s:oZ):aC:=blk b (.cells [(aW (nA b s.pc)),.bool true,.int .i64 i,.int .u64 s.word].toArray 199)
def bM (i:Int)(L:List aO)(s:oZ):oZ × List aO:=
 match s.pc with
 | 0=>(if (ah L i).n%2=1 then⟨0,s.word⟩else⟨1,aN (ah L i).n⟩,L)
 | 1=>if bX L i (aG s.word)then(⟨2,s.word⟩,aP L i ⟨s.word,⟨#[]⟩,0⟩)else(⟨0,s.word⟩,L)
 | _=>(s,L)
def mL:oZ:=⟨0,0⟩
theorem Gm {b p:Nat}:(nA b p).isNone=decide (2<=p):=by
 match p with
 | 0=>rfl
 | 1=>rfl
 | n+2=>simp[nA]
theorem Mn {x:Int}(h:0<=x/\x<18446744073709551616):0<=aN x/\aN x<18446744073709551616:=by
 unfold aN;split <;> omega
section
variable (x:Int)(h0:0<=x)(h1:x<18446744073709551616)
include h0 h1
theorem Mo:(bits .and .u64 x 1 != 0)=decide (x%2=1):=by
 obtain⟨a,rfl⟩:=Int.eq_ofNat_of_zero_le h0;have:=(bits_nat .u64 64 (by decide) (fun n a b=>by rw[IntKind.wrap_u64];omega) a 1 (by omega) (by decide)).1
 rw[show((1:Nat):Int)=1 by rfl]at this
 rw[this,Nat.and_one_is_mod];by_cases h:a%2=1
 ·rw[h,decide_eq_true (by omega)];rfl
 ·rw[show a%2=0 by omega,decide_eq_false (by omega)];rfl
theorem yj (w:World):Calls Tryz.prog 43 #[.int .u64 x] w fun e w' => e=.returned (.bool (decide (x%2=1)))/\w=w' := by
 have e:=Mo x h0 h1;go_enter Tryz.func43,Tryz.ntmps43
 go_wp2
 go_ret;exact⟨rfl,rfl⟩
end
theorem Bj:Enters 152:=fun _ _=>rfl
theorem Bk:Enters 180:=fun _ _=>rfl
section
variable {K:aL}{w:World}{F:List aC}{b bm bc:Nat}{i:Int}{L:List aO}{acc:Nat}{s:oZ}{nx:Value}
theorem oJ (hs:St K w F):Calls Tryz.prog 116 #[.int .i64 i] w fun e w' => ∃b,e=.returned (.pointer (some ⟨b,0,none⟩))/\St K w' (fS b i mL::F):=by
 have hs:=hs.made (.cells [.nilFunc,.bool false,.int .i64 i,.int .u64 0].toArray 199);obtain⟨b,hb⟩:∃b,b=w.heap.size:=⟨_,rfl⟩;rw[←hb]at hs;go_enter Tryz.func116,Tryz.ntmps116
 go_wp2_with fail
 refine(bH hs (fq _ _ _ _)).mono ?_
 clear hs;rintro e w1 ⟨rfl,hs⟩;rw[←hb];clear hb;have k:=hs.k0;have kf:=hs.f0;have hs:=(hs.aI 0 (.func (.func 152) #[(.pointer (some ⟨b,0,none⟩))] #[])).aI 1 (.bool true);simp only[List.set_cons_zero,List.set_cons_succ]at hs;go_wp2
 go_ret;exact⟨b,rfl,hs⟩
theorem Gn (hL:bD L)(ha:acc<=1000000000000)(hs:St K w (blk b (.cells [nx,.bool true,.int .i64 i,.int .u64 s.word].toArray 199)::aJ bm bc L acc::F)) :
  Calls Tryz.prog 152 #[(.pointer (some ⟨b,0,none⟩)),(.pointer (some ⟨bm,0,none⟩))] w fun e w' => e=.returned (aW (nA b (if (ah L i).n%2=1 then 0 else 1)))/\St K w' (blk b (.cells [nx,.bool true,.int .i64 i,.int .u64 (if (ah L i).n%2=1 then s.word else aN (ah L i).n)].toArray 199)::aJ bm bc L (acc+1)::F):=by
 have k:=hs.k0;have hx:0<=(ah L i).n/\(ah L i).n<18446744073709551616:=hL i;have q1:=jl (i:=i) hs.b1 ha;generalize ah L i=c at *;obtain⟨n,key,m⟩:=c;simp only at hx ⊢;obtain⟨p,hp⟩:∃p,p=if n%2=1 then 0 else 1:=⟨_,rfl⟩
 obtain⟨wd,hwd⟩:∃wd,wd=if n%2=1 then s.word else aN n:=⟨_,rfl⟩
 rw[←hp,←hwd];have Hp:=aq3 hp;have Hwd:=aq3 hwd;clear hp hwd;have Q1:=aq3 q1;have Q2:=aq3 (fun w=>yj n hx.1 hx.2 w)
 have Q3:=aq3 (fun w=>tP n hx.1 hx.2 w)
 clear q1 hs hx;go_enter Tryz.func152,Tryz.ntmps152
 go_wp2_with fail
 refine(Q1.out).mono ?_
 clear Q1 k;rintro e w1 ⟨rfl,hs⟩;go_wp2_with fail
 refine(Q2.out _).mono ?_
 clear Q2;rintro e w2 ⟨rfl,rfl⟩;rcases(by omega:n%2=0\/n%2=1)with h|h
 ·have e1:p=1:=by rw[Hp.out,if_neg (by omega)]
  have e2:wd=aN n:=by rw[Hwd.out,if_neg (by omega)]
  subst e1 e2;rw[decide_eq_false (by omega)]
  clear h;go_wp2_with fail
  refine(Q3.out _).mono ?_
  clear Q3;rintro e w3 ⟨rfl,rfl⟩;have hs:=hs.b1;have k:=hs.k0;have kf:=hs.f0;have hs:=hs.aI 3 (.int .u64 (aN n));simp only[List.set_cons_zero,List.set_cons_succ]at hs;go_wp2
  go_ret;exact⟨rfl,hs⟩
 ·have e1:p=0:=by rw[Hp.out,if_pos h]
  have e2:wd=s.word:=by rw[Hwd.out,if_pos h]
  subst e1 e2;rw[decide_eq_true h];clear h;go_wp2
  go_ret;exact⟨rfl,hs.b1⟩
theorem Gp (hw:0<=s.word/\s.word<18446744073709551616)(ha:acc<=1000000000000)(hs:St K w (blk b (.cells [nx,.bool true,.int .i64 i,.int .u64 s.word].toArray 199)::aJ bm bc L acc::F)) :
  Calls Tryz.prog 180 #[(.pointer (some ⟨b,0,none⟩)),(.pointer (some ⟨bm,0,none⟩))] w fun e w' => e=.returned (aW (nA b (if bX L i (aG s.word)then 2 else 0)))/\St K w' (blk b (.cells [nx,.bool true,.int .i64 i,.int .u64 s.word].toArray 199)::aJ bm bc (if bX L i (aG s.word)then aP L i ⟨s.word,⟨#[]⟩,0⟩else L) (acc+1)::F):=by
 obtain⟨pc,wd⟩:=s;simp only at hw hs ⊢;have Q1:=aq3 (fun w=>jI wd hw.1 hw.2 w)
 have Q2:=aq3 (fun W (h:St K W (blk b (.cells [nx,.bool true,.int .i64 i,.int .u64 wd].toArray 199)::aJ bm bc L acc::F))=>Xb (i:=i) (old:=aG wd) (c:=⟨wd,⟨#[]⟩,0⟩) h.b1 ha)
 clear hw;generalize bX L i (aG wd)=ok at *;have k:=hs.k0;have Hs:=aq3 hs;go_enter Tryz.func180,Tryz.ntmps180
 go_upto_region 1 with(fail)
 go_cut [21]from 999 to 0 (fun v21 wx=>v21=.bool (!ok)/\St K wx (blk b (.cells [nx,.bool true,.int .i64 i,.int .u64 wd].toArray 199)::aJ bm bc (if ok then aP L i ⟨wd,⟨#[]⟩,0⟩else L) (acc+1)::F))
 case first=>
  clear hs;refine bQ 15 (by kernel_rfl) (by as_aux_lemma=>kernel_rfl) ?_
  simp only[List.take_succ_cons,List.take_zero,List.drop_succ_cons,List.drop_zero];repeat (go_big_quiet_step ((go_at_call 80;exact dz (Q1.out _))))
  refine wpQuiet_nil ?_
  intro w5 hb5;have hs:=Hs.out.same hb5;clear k hb5 Hs;go_wp2_with fail
  refine(Q2.out _ hs).mono ?_
  clear hs;rintro e w6 ⟨rfl,hs⟩;have Hs:=aq3 hs.b1;clear hs;go_wp2
  go_meet;exact⟨rfl,Hs.out⟩
 case rest=>
 clear hs Hs k Q1 Q2;obtain⟨rfl,hs⟩:=hcut;apply_assumption
 cases ok with
 | true=>
  go_wp2
  go_ret;exact⟨rfl,hs⟩
 | false=>
  go_wp2
  go_ret;exact⟨rfl,hs⟩
end
section
variable {K:aL}{w:World}{F:List aC}{b bm bc:Nat}{i:Int}{L:List aO}{acc:Nat}{s:oZ}
structure oZ.Ok (s:oZ):Prop where
 pc:s.pc<=2
 word:0<=s.word/\s.word<18446744073709551616
theorem um (hL:bD L)(h:s.Ok):(bM i L s).1.Ok:=by
 obtain⟨pc,wd⟩:=s;obtain⟨h1,h2⟩:=h;unfold bM;match pc with
 | 0=>
  simp only;split
  ·exact⟨Nat.zero_le _,h2⟩
  ·exact⟨by show 1<=2;decide,Mn (hL i)⟩
 | 1=>
  simp only;split
  ·exact⟨Nat.le_refl _,h2⟩
  ·exact⟨Nat.zero_le _,h2⟩
 | n+2=>exact⟨h1,h2⟩
theorem Mp (hL:bD L)(ha:acc<=1000000000000)(hok:s.Ok)(h2:s.pc≠2)(hs:St K w (fS b i s::aJ bm bc L acc::F)) :
  Calls Tryz.prog 77 #[(.pointer (some ⟨b,0,none⟩)),(.pointer (some ⟨bm,0,none⟩))] w fun e w' => e=.returned (.bool (decide (2<=(bM i L s).1.pc)))/\St K w' (fS b i (bM i L s).1::aJ bm bc (bM i L s).2 (acc+1)::F):=by
 obtain⟨pc,wd⟩:=s;have hc:w.cell? ⟨b,0,none⟩=some (aW (nA b pc)):=(show St K w (blk b (.cells [(aW (nA b pc)),.bool true,.int .i64 i,.int .u64 wd].toArray 199)::_)from hs).k0 0
 rw[←Gm (b:=b)];match pc,hok,h2,hs,hc with
 | 0,hok,h2,hs,hc=>
  refine(ic (K:=K) (α:=Unit) (f:=⟨152, #[(.pointer (some ⟨b,0,none⟩))], #[]⟩) (o:=fun _=>nA b (bM i L ⟨0,wd⟩).1.pc) (nx:=aW (nA b 0))
   (tl:=fun _=>[.bool true,.int .i64 i,.int .u64 (bM i L ⟨0,wd⟩).1.word]) (F' := fun _=>aJ bm bc (bM i L ⟨0,wd⟩).2 (acc+1)::F) (T:=199) Bj hc ?_).mono (fun e w' ⟨_,he,h⟩=>⟨he,h⟩)
  refine(Gn hL ha hs).mono ?_
  rintro e w1 ⟨rfl,hs⟩;refine⟨(),?_,?_⟩
  ·unfold bM
   simp only;split <;> rfl
  ·unfold bM
   simp only;split <;> rename_i h
   ·rw[if_pos h]at hs;exact hs
   ·rw[if_neg h]at hs;exact hs
 | 1,hok,h2,hs,hc=>
  refine(ic (K:=K) (α:=Unit) (f:=⟨180, #[(.pointer (some ⟨b,0,none⟩))], #[]⟩) (o:=fun _=>nA b (bM i L ⟨1,wd⟩).1.pc) (nx:=aW (nA b 1))
   (tl:=fun _=>[.bool true,.int .i64 i,.int .u64 (bM i L ⟨1,wd⟩).1.word]) (F' := fun _=>aJ bm bc (bM i L ⟨1,wd⟩).2 (acc+1)::F) (T:=199) Bk hc ?_).mono (fun e w' ⟨_,he,h⟩=>⟨he,h⟩)
  refine(Gp hok.word ha hs).mono ?_
  rintro e w1 ⟨rfl,hs⟩;refine⟨(),?_,?_⟩
  ·unfold bM
   simp only;split <;> rfl
  ·unfold bM
   simp only at hs ⊢;split <;> rename_i h
   ·rw[if_pos h]at hs;exact hs
   ·rw[if_neg h]at hs;exact hs
 | n+2,hok,h2,hs,hc=>
  have:=hok.pc;simp only at this h2;omega
theorem uo (hL:bD L)(ha:acc<=1000000000000)(hok:s.Ok)(h2:s.pc≠2)(hs:St K w (fS b i s::aJ bm bc L acc::F)) :
  Calls Tryz.prog 213 #[(.pointer (some ⟨b,0,none⟩)),(.pointer (some ⟨bm,0,none⟩))] w fun e w' => e=.returned (.bool (decide (2<=(bM i L s).1.pc)))/\St K w' (fS b i (bM i L s).1::aJ bm bc (bM i L s).2 (acc+1)::F):=by
 have Q:=aq3 (Mp hL ha hok h2 hs);clear hs;go_enter Tryz.func213,Tryz.ntmps213
 go_wp2_with fail
 refine(Q.out).mono ?_
 clear Q;rintro e w1 ⟨rfl,hs⟩;go_wp2
 go_ret;exact⟨rfl,hs⟩
theorem o5 (h2:s.pc=2)(hs:St K w (fS b i s::F)):Calls Tryz.prog 119 #[(.pointer (some ⟨b,0,none⟩))] w fun e w' => e=.returned (.int .u64 s.word)/\w=w' := by
 obtain⟨pc,wd⟩:=s;simp only at h2;subst h2;have hs:St K w (blk b (.cells [.nilFunc,.bool true,.int .i64 i,.int .u64 wd].toArray 199)::F):=hs;have k:=hs.k0;have Q:=aq3 (fX w b (k 0) (k 1));clear hs;go_enter Tryz.func119,Tryz.ntmps119
 go_wp2_with fail
 refine(Q.out).mono ?_
 clear Q;rintro e w1 ⟨rfl,rfl⟩;go_wp2
 go_ret;exact⟨rfl,rfl⟩
end
def Bl (bi bw:Nat):Nat->Option FV
 | 0=>some ⟨78, #[], #[(.pointer (some ⟨bi,0,none⟩)),(.pointer (some ⟨bw,0,none⟩))]⟩
 | _=>none
def fe (b bi bw:Nat)(i word:Int)(pc:Nat):List aC:=[blk b (.cells [aW (Bl bi bw pc),.bool true].toArray 131),blk bi (.cells #[.int .i64 i] 3),blk bw (.cells #[.int .u64 word] 23)]
section
variable {K:aL}{w:World}{F:List aC}{b bi bw bm bc:Nat}{i word:Int}{L:List aO}{acc:Nat}
theorem kJ (hs:St K w F):Calls Tryz.prog 20 #[.int .i64 i,.int .u64 word] w fun e w' => ∃b bi bw,e=.returned (.pointer (some ⟨b,0,none⟩))/\St K w' (fe b bi bw i word 0++F):=by
 have hs:=(hs.made (.cells #[.int .i64 i] 3)).made (.cells #[.int .u64 word] 23);rw[World.size_alloc]at hs;go_enter Tryz.func20,Tryz.ntmps20
 go_wp2_with fail
 refine(bH hs (fq _ _ _ _)).mono ?_
 clear hs;rintro e w1 ⟨rfl,hs⟩;have hs:=hs.made (.cells [aW (Bl w.heap.size (w.heap.size+1) 0),.bool true].toArray 131);simp only[Bl,aW]at hs;go_wp2
 go_ret;exact⟨_,_,_,rfl,hs.re [0,2,1] rfl⟩
theorem Mq (hw:0<=word/\word<18446744073709551616)(ha:acc<=1000000000000)(hs:St K w (fe b bi bw i word 0++aJ bm bc L acc::F)) :
  Calls Tryz.prog 77 #[(.pointer (some ⟨b,0,none⟩)),(.pointer (some ⟨bm,0,none⟩))] w fun e w' => e=.returned (.bool true)/\St K w' (fe b bi bw i word 1++aJ bm bc (aP L i ⟨aG word,⟨#[]⟩,0⟩) (acc+1)::F):=by
 have hs:St K w (blk b (.cells [aW (Bl bi bw 0),.bool true].toArray 131)::blk bi (.cells #[.int .i64 i] 3)::blk bw (.cells #[.int .u64 word] 23)::aJ bm bc L acc::F):=hs;have hc:=hs.k0 0;refine(ic (K:=K) (α:=Unit) (f:=⟨78, #[], #[(.pointer (some ⟨bi,0,none⟩)),(.pointer (some ⟨bw,0,none⟩))]⟩) (o:=fun _=>none) (nx:=aW (Bl bi bw 0))
  (tl:=fun _=>[.bool true]) (F' := fun _=>blk bi (.cells #[.int .i64 i] 3)::blk bw (.cells #[.int .u64 word] 23)::aJ bm bc (aP L i ⟨aG word,⟨#[]⟩,0⟩) (acc+1)::F) (T:=131) (fun _ _=>by kernel_rfl) hc ?_).mono (fun e w' ⟨_,he,h⟩=>⟨he,h⟩)
 show Calls Tryz.prog 78 #[(.pointer (some ⟨bm,0,none⟩)),(.pointer (some ⟨bi,0,none⟩)),(.pointer (some ⟨bw,0,none⟩))] w _
 have k1:=hs.k1;have k2:=hs.k2;have Q1:=aq3 (fun w=>jI word hw.1 hw.2 w)
 have Hs:=aq3 hs;clear hs;go_enter Tryz.func78,Tryz.ntmps78
 go_upto_region 1 with(fail)
 refine bQ 5 (by kernel_rfl) (by as_aux_lemma=>kernel_rfl) ?_
 simp only[List.take_succ_cons,List.take_zero,List.drop_succ_cons,List.drop_zero];repeat (go_big_quiet_step ((go_at_call 80;exact dz (Q1.out _))))
 refine wpQuiet_nil ?_
 intro w5 hb5;have hs:=Hs.out.same hb5;clear k1 k2 hb5 Hs;go_wp2_with fail
 refine(m7 (c:=⟨aG word,⟨#[]⟩,0⟩) hs.b3 ha).mono ?_
 clear hs;rintro e w6 ⟨rfl,hs⟩;go_wp2
 go_ret;exact⟨(),rfl,hs.u3⟩
theorem ig (hw:0<=word/\word<18446744073709551616)(ha:acc<=1000000000000)(hs:St K w (fe b bi bw i word 0++aJ bm bc L acc::F)) :
  Calls Tryz.prog 22 #[(.pointer (some ⟨b,0,none⟩)),(.pointer (some ⟨bm,0,none⟩))] w fun e w' => e=.returned (.bool true)/\St K w' (fe b bi bw i word 1++aJ bm bc (aP L i ⟨aG word,⟨#[]⟩,0⟩) (acc+1)::F):=by
 have Q:=aq3 (Mq hw ha hs);clear hs;go_enter Tryz.func22,Tryz.ntmps22
 go_wp2_with fail
 refine(Q.out).mono ?_
 clear Q;rintro e w1 ⟨rfl,hs⟩;go_wp2
 go_ret;exact⟨rfl,hs⟩
end
end
section
def bA (d:aR)(id:Int)(L:List aO)(s:jX):jX:=
 match s.pc with
 | 1=>⟨2,⟨wrap64 (ah L (d.node id 1)).m,[],⟨#[]⟩,false,0⟩,leftOf d (ah L (d.node id 1)),s.word,false⟩
 | 2=>⟨3,s.pg.high (ah L (d.node id 2)),s.left,s.word,false⟩
 | 3=>⟨if s.left=0 then 6 else 4,s.pg.right (ah L (d.node id 3)),s.left,s.word,false⟩
 | 4=>⟨if s.left-1=0 then 6 else 4,s.pg.push (ah L (d.slot id s.pg.sl.length)),s.left-1,s.word,false⟩
 | _=>s
def nB (b:Nat):Nat->Option FV
 | 1=>Fo b
 | 2=>some ⟨189, #[.pointer (some ⟨b,2,none⟩)], #[]⟩
 | 3=>some ⟨192, #[.pointer (some ⟨b,2,none⟩)], #[]⟩
 | 4=>some ⟨195, #[.pointer (some ⟨b,2,none⟩)], #[]⟩
 | _=>none
def nC (word:Int):jX:=⟨1,Fu,0,word,false⟩
def lq (b:Nat)(d:aR)(id:Int)(va:Value)(s:jX):aC:=blk b (.cells (aU (aW (nB b s.pc)) d id s.pg va s.left .nilFunc s.word).toArray 203)
theorem uq {b left:Nat}:lg b left none=nB b (if left=0 then 6 else 4):=by
 unfold lg;split <;> rfl
structure jX.Wi (d:aR)(s:jX):Prop where
 pc:s.pc=1\/s.pc=2\/s.pc=3\/s.pc=4\/s.pc=6
 len:s.pc=1\/(s.pg.sl.length+s.left:Int)<=d.fa
 left:s.pc=4->0<s.left
theorem Ki (d:aR)(word:Int):(nC word).Wi d:=⟨.inl rfl,.inl rfl,by intro h;cases h⟩
theorem o7 {d:aR}(hd:d.Ok){id:Int}{L:List aO}(hL:bD L){s:jX}(h:s.Wi d):(bA d id L s).Wi d:=by
 obtain⟨pc,pg,left,word,t⟩:=s;have h1:=h.pc;have h2:=h.len;have h3:=h.left;simp only at h1 h2 h3;rcases h1 with rfl|rfl|rfl|rfl|rfl
 ·exact⟨.inr (.inl rfl),.inr (by simpa[bA] using og hd (hL _)),by intro h;cases h⟩
 ·exact⟨.inr (.inr (.inl rfl)),.inr (by simpa[bA,Pg.high] using h2),by intro h;cases h⟩
 ·have h2':(pg.sl.length:Int)+left<=d.fa:=by simpa using h2
  simp only[bA];refine⟨?_,.inr (by simpa[Pg.right] using h2'),?_⟩
  ·simp only;split <;> simp
  ·simp only;split <;> omega
 ·have h2':(pg.sl.length:Int)+left<=d.fa:=by simpa using h2
  have hl:0<left:=h3 rfl;simp only[bA];refine⟨?_,.inr ?_,?_⟩
  ·simp only;split <;> simp
  ·simp only[Pg.push,List.length_append,List.length_singleton];omega
  ·simp only;split <;> omega
 ·exact h
theorem yl {d:aR}{id:Int}{L:List aO}{s:jX}(h:s.pc=6):bA d id L s=s:=by
 obtain⟨pc,pg,left,word,t⟩:=s;simp only at h;subst h;rfl
section
variable {d:aR}{id:Int}{L:List aO}{pg:Pg}
theorem Mr (h:cT d id L pg):∀(m:Nat)(sl:List Sl)(s:jX),sl++pg.sl.drop sl.length=pg.sl->m=(pg.sl.drop sl.length).length->0<m->s.pc=4->s.left=m->s.pg=⟨pg.ak,sl,pg.hi,pg.la,pg.ri⟩ ->
  it (bA d id L) m s=⟨6,pg,0,s.word,false⟩:=by
 intro m;induction m with
 | zero=>intro sl s _ _ h0;omega
 | succ m ih=>
  intro sl s Gd hm _ pM jZ kW;obtain⟨pc,Ge,left,word,t⟩:=s;simp only at pM jZ kW;subst pM jZ kW;have hlt:sl.length<pg.sl.length:=by simp at hm;omega
  obtain⟨x,hx⟩:∃x,pg.sl[sl.length]?=some x:=⟨_,aq8 hlt⟩;obtain⟨hk,hr⟩:=h.sl _ _ hx;have hd:pg.sl.drop sl.length=x::pg.sl.drop (sl.length+1):=by
   rw[List.drop_eq_getElem_cons hlt];congr 1
   rw[aq8 hlt]at hx;exact aq9 hx
  have e:bA d id L ⟨4,⟨pg.ak,sl,pg.hi,pg.la,pg.ri⟩,m+1,word,t⟩=⟨if m=0 then 6 else 4,⟨pg.ak,sl++[x],pg.hi,pg.la,pg.ri⟩,m,word,false⟩:=by
   simp only[bA,Pg.push,hk,hr];rw[show m+1-1=m by omega]
  show it (bA d id L) m (bA d id L _)=_
  rw[e];have Rx:(sl++[x])++pg.sl.drop (sl++[x]).length=pg.sl:=by
   rw[List.length_append,List.length_singleton,List.append_assoc,List.singleton_append,←hd];exact Gd
  by_cases hm0:m=0
  ·subst hm0
   have hnil:pg.sl.drop (sl.length+1)=[]:=by
    rw[hd]at hm;simp only[List.length_cons]at hm;exact List.eq_nil_of_length_eq_zero (by omega)
   have:sl++[x]=pg.sl:=by
    rw[hd,hnil]at Gd;exact Gd
   rw[if_pos rfl,this];rfl
  ·rw[if_neg hm0]
   exact ih (sl++[x]) _ Rx (by rw[hd]at hm;simp only[List.length_cons]at hm;rw[List.length_append,List.length_singleton];omega) (by omega) rfl rfl rfl
theorem xe (h:cT d id L pg){word:Int}:it (bA d id L) (pg.sl.length+3) (nC word)=⟨6,pg,0,word,false⟩:=by
 have jZ:leftOf d (ah L (d.node id 1))=pg.sl.length:=by
  have:=h.le;unfold leftOf;rw[h.n,Int.min_eq_left this];omega
 have e3:it (bA d id L) 3 (nC word)=⟨if pg.sl.length=0 then 6 else 4,⟨pg.ak,[],pg.hi,pg.la,pg.ri⟩,pg.sl.length,word,false⟩:=by
  show bA d id L (bA d id L (bA d id L (nC word)))=_
  simp only[nC,bA,Pg.high,Pg.right,jZ,h.ak,h.hi,h.la,h.ri]
 rw[Nat.add_comm,tZ,e3];by_cases h0:pg.sl.length=0
 ·have hnil:pg.sl=[]:=List.eq_nil_of_length_eq_zero h0
  rw[if_pos h0,h0];show(⟨6,⟨pg.ak,[],pg.hi,pg.la,pg.ri⟩,0,word,false⟩:jX)=_
  obtain⟨ak,sl,hi,la,ri⟩:=pg;simp only at hnil;subst hnil;rfl
 ·rw[if_neg h0]
  exact Mr h _ [] _ (by simp) (by simp) (by omega) rfl rfl rfl
end
section
variable {K:aL}{w:World}{F:List aC}{b bm bc:Nat}{L:List aO}{acc:Nat}{va:Value}{d:aR}{id:Int}{s:jX}
theorem l4 {s':jX}{f:FV}{acc':Nat}(hf:Enters f.f)(pM:nB b s.pc=some f)(hc:w.cell? ⟨b,0,none⟩=some (aW (nB b s.pc)))
  (hcall:Calls Tryz.prog f.f (f.x ++ #[.pointer (some ⟨bm,0,none⟩)]++f.y) w fun e w1=>∃eX,e=.returned (aW (nB b s'.pc))/\St K w1 (blk b (.cells (aU (aW (nB b s.pc)) d id s'.pg eX s'.left .nilFunc s'.word).toArray 203)::bu eX s'.pg::aJ bm bc L acc' :: F)) :
  Calls Tryz.prog 77 #[.pointer (some ⟨b,0,none⟩),.pointer (some ⟨bm,0,none⟩)] w fun e w' => ∃eX,e=.returned (.bool (nB b s'.pc).isNone)/\St K w' (lq b d id eX s' :: bu eX s'.pg::aJ bm bc L acc' :: F):=by
 rw[pM]at hc;exact lW (f:=f) (o:=nB b s'.pc) (tl:=fun eX=>(aU (aW (nB b s.pc)) d id s'.pg eX s'.left .nilFunc s'.word).tail) (F' := fun eX=>bu eX s'.pg::aJ bm bc L acc' :: F) hf hc hcall
theorem Ms (hd:d.Ok)(hid:0<=id/\id<18446744073709551616)(hL:bD L)(ha:acc<=1000000000000)(hok:s.Wi d)(h6:s.pc≠6)(hs:St K w (lq b d id va s::bu va s.pg::aJ bm bc L acc::F)) :
  Calls Tryz.prog 77 #[.pointer (some ⟨b,0,none⟩),.pointer (some ⟨bm,0,none⟩)] w fun e w' => ∃eX,e=.returned (.bool (decide ((bA d id L s).pc=6)))/\St K w' (lq b d id eX (bA d id L s)::bu eX (bA d id L s).pg::aJ bm bc L (acc+1)::F):=by
 obtain⟨pc,pg,left,word,t⟩:=s;have h1:=hok.pc;have h2:=hok.len;have h3:=hok.left;simp only at h1 h2 h3 h6;have hs':St K w (blk b (.cells (aU (aW (nB b pc)) d id pg va left (aW none) word).toArray 203)::aJ bm bc L acc::bu va pg::F):=hs.b2.b1;have k0:w.cell? ⟨b,0,none⟩=some (aW (nB b pc)):=hs'.k0 0;have rO:=hd.mK;rcases h1 with rfl|rfl|rfl|rfl|rfl
 ·have q:=Jz (th:=none) hd hid ha (hL (d.node id 1)) hs'
  exact l4 (s:=⟨1,pg,left,word,t⟩) (s' := ⟨2,⟨wrap64 (ah L (d.node id 1)).m,[],⟨#[]⟩,false,0⟩,leftOf d (ah L (d.node id 1)),word,false⟩) rL rfl k0 (q.mono fun e w1 ⟨he,h⟩=>⟨.slice none 0 0,he,h.b2.tail.cF.b1⟩)
 ·have q:=Ka (th:=none) hd hid ha hs'
  exact l4 (s:=⟨2,pg,left,word,t⟩) (s' := ⟨3,pg.high (ah L (d.node id 2)),left,word,false⟩) rM rfl k0 (q.mono fun e w1 ⟨he,h⟩=>⟨va,he,h.b2.b1⟩)
 ·have q:=Ap (th:=none) hd hid ha hs'
  rw[uq]at q;refine(l4 (s:=⟨3,pg,left,word,t⟩) (s' := ⟨if left=0 then 6 else 4,pg.right (ah L (d.node id 3)),left,word,false⟩) qj rfl k0 (q.mono fun e w1 ⟨he,h⟩=>⟨va,he,h.b2.b1⟩)).mono ?_
  rintro e w' ⟨eX,rfl,h⟩;refine⟨eX,?_,h⟩;simp only[bA];split <;> rfl
 ·have h2':(pg.sl.length:Int)+left<=d.fa:=by simpa using h2
  have q:=Kb (pg:=pg) (th:=none) hd hid ha (by omega) ⟨h3 rfl,by omega⟩ hs
  rw[uq]at q;refine(l4 (s:=⟨4,pg,left,word,t⟩) (s' := ⟨if left-1=0 then 6 else 4,pg.push (ah L (d.slot id pg.sl.length)),left-1,word,false⟩) rN rfl k0 (q.mono fun e w1 ⟨eX,he,h⟩=>⟨eX,he,h⟩)).mono ?_
  rintro e w' ⟨eX,rfl,h⟩;refine⟨eX,?_,h⟩;simp only[bA];split <;> rfl
 ·exact absurd rfl h6
theorem Gq (hd:d.Ok)(hid:0<=id/\id<18446744073709551616)(hL:bD L)(ha:acc<=1000000000000)(hok:s.Wi d)(h6:s.pc≠6)(hs:St K w (lq b d id va s::bu va s.pg::aJ bm bc L acc::F)) :
  Calls Tryz.prog 214 #[.pointer (some ⟨b,0,none⟩),.pointer (some ⟨bm,0,none⟩)] w fun e w' => ∃eX,e=.returned (.bool (decide ((bA d id L s).pc=6)))/\St K w' (lq b d id eX (bA d id L s)::bu eX (bA d id L s).pg::aJ bm bc L (acc+1)::F):=by
 have Q:=aq3 (Ms hd hid hL ha hok h6 hs);clear hs;go_enter Tryz.func214,Tryz.ntmps214
 go_wp2_with fail
 refine(Q.out).mono ?_
 rintro e w1 ⟨eX,rfl,hs⟩;go_wp2
 go_ret;exact⟨eX,rfl,hs⟩
theorem Mt {c0 c1 c2 c3 c4 c5 c6 c7 c8 c9 c10 c11 c12 c13 c14 c15 c17:Value}{T:TypeId}(hs:St K w (blk b (.cells #[c0,c1,c2,c3,c4,c5,c6,c7,c8,c9,c10,c11,c12,c13,c14,c15,.nilFunc,c17] T)::F)) :
  Calls Tryz.prog 153 #[.pointer (some ⟨b,2,none⟩),.nilFunc] w fun e w' => e=.returned (.func (.func 181) #[.pointer (some ⟨b,2,none⟩)] #[])/\St K w' (blk b (.cells #[c0,c1,c2,c3,c4,c5,c6,c7,c8,c9,c10,c11,c12,c13,c14,c15,.nilFunc,c17] T)::F):=by
 have k:=hs.k0;have kf:=hs.f0;have hs:=hs.aI 16 .nilFunc;simp only[List.set_cons_zero,List.set_cons_succ]at hs;go_enter Tryz.func153,Tryz.ntmps153
 go_wp2
 go_ret;exact⟨rfl,hs⟩
theorem Mu {word:Int}(hs:St K w F) :
  Calls Tryz.prog 118 #[.agg #[.int .i64 d.th,.int .i64 d.sn,.int .i64 d.no,.int .i64 d.ch,.int .i64 d.re,.int .i64 d.fa,.int .u64 d.cl],.int .u64 id,.int .u64 word] w fun e w' => ∃b,e=.returned (.pointer (some ⟨b,0,none⟩))/\St K w' (lq b d id (.slice none 0 0) (nC word)::bu (.slice none 0 0) Fu::F):=by
 have hs:=hs.pass (.cells #[.int .i64 d.th,.int .i64 d.sn,.int .i64 d.no,.int .i64 d.ch,.int .i64 d.re,.int .i64 d.fa,.int .u64 d.cl] 29);have hs:=hs.made (.cells #[.nilFunc,.bool false,.int .i64 d.th,.int .i64 d.sn,.int .i64 d.no,.int .i64 d.ch,.int .i64 d.re,.int .i64 d.fa,.int .u64 d.cl,.int .u64 id,.int .i64 0,.slice none 0 0,.string ⟨#[]⟩,.bool false,.int .u64 0,.int .i64 0,.nilFunc,.int .u64 word] 203);rw[World.size_alloc]at hs;go_enter Tryz.func118,Tryz.ntmps118
 go_wp2_with fail
 refine(Mt hs).mono ?_
 clear hs;rintro e w2 ⟨rfl,hs⟩;go_wp2_with fail
 refine(bH hs (fq _ _ _ _)).mono ?_
 clear hs;rintro e w3 ⟨rfl,hs⟩;have k:=hs.k0;have kf:=hs.f0;have hs:=(hs.aI 0 (.func (.func 181) #[.pointer (some ⟨(w.heap.size+1),2,none⟩)] #[])).aI 1 (.bool true);simp only[List.set_cons_zero,List.set_cons_succ]at hs;go_wp2
 go_ret;exact⟨_,rfl,hs.cF.b1⟩
theorem Mv (tmps:Array Value)(w:World)(b:Nat)(v0 v1 v2 v3 v4 v5 v6:Value)(hp:tmps[2]?=some (.pointer (some ⟨b,0,none⟩)))(hk:∀k,w.cell? ⟨b,k,none⟩=(#[v0,v1,v2,v3,v4,v5,v6]:Array Value)[k]?) :
  (results Tryz.f122 tmps).run Tryz.prog w=.ok (.agg #[v0,v1,v2,v3,v4,v5,v6]) w:=by
 simp[results,Tryz.results122,go_sem,hp,hk]
def OhR (K:aL)(REST:List aC)(b0:Nat)(id word:Int)(pg:Pg)(ρ:Nat->Option Value)(W:World):Prop:=
 ∃(a:Option Addr) (c:Nat),(∀v,ρ 14=some v->v=.agg #[.int .i64 (pg).ak,(.slice a pg.sl.length c),.string (pg).hi,.bool (pg).la,.int .u64 (pg).ri])/\(∀v,ρ 15=some v->v=.agg #[.int .u64 id,.int .u64 word,.int .i64 (pg).ak,(.slice a pg.sl.length c),.string (pg).hi,.bool (pg).la,.int .u64 (pg).ri]) /\
  St K W (dH (ρ 14) (az (.slice a pg.sl.length c) 69 2 pg.sl.length (aD pg.sl))::blk b0 (.cells (match ρ 16 with|some _=> #[.int .u64 id,.int .u64 word,.int .i64 (pg).ak,(.slice a pg.sl.length c),.string (pg).hi,.bool (pg).la,.int .u64 (pg).ri] | none=> #[.int .u64 0,.int .u64 0,.int .i64 0,.slice none 0 0,.string ⟨#[]⟩,.bool false,.int .u64 0]) 45)::REST)
theorem Gr {pg:Pg}{word:Int}{left:Nat}{av:Option Addr}{cv:Nat}(hn:pg.sl.length<=1000000)(hs:St K w (lq b d id (.slice av pg.sl.length cv) ⟨6,pg,left,word,false⟩::bu (.slice av pg.sl.length cv) pg::F)) :
  Calls Tryz.prog 122 #[.pointer (some ⟨b,0,none⟩)] w fun e w' => ∃va,e=.returned (.agg #[.int .u64 id,.int .u64 word,.int .i64 (pg).ak,va,.string (pg).hi,.bool (pg).la,.int .u64 (pg).ri]) /\
   St K w' (az va 69 2 pg.sl.length (aD pg.sl)::lq b d id (.slice av pg.sl.length cv) ⟨6,pg,left,word,false⟩::bu (.slice av pg.sl.length cv) pg::F):=by
 have hs:St K w (blk b (.cells (aU .nilFunc d id pg (.slice av pg.sl.length cv) left .nilFunc word).toArray 203)::az (.slice av pg.sl.length cv) 69 2 pg.sl.length (aD pg.sl)::F):=hs;have hs:=hs.made (.cells #[.int .u64 0,.int .u64 0,.int .i64 0,.slice none 0 0,.string ⟨#[]⟩,.bool false,.int .u64 0] 45);have Qd:=aq3 (fX (w.alloc (.cells #[.int .u64 0,.int .u64 0,.int .i64 0,.slice none 0 0,.string ⟨#[]⟩,.bool false,.int .u64 0] 45)) b (hs.k1 0) (hs.k1 1));go_enter Tryz.func122,Tryz.ntmps122
 go_wp2_with fail
 refine(Qd.out).mono ?_
 clear Qd;rintro e w1 ⟨rfl,rfl⟩;go_upto_region 3 with(fail)
 refine cP hs ?_
 clear hs;generalize w.heap.size=b0;intro W hs;have Hs:=aq3 hs;clear hs;refine aT [false,false,false,false,false,false,false,false,false,false,false,false,false,false,true,true,true] [14,15,16] (fun|15=>[14] | 16=>[15] | _=>[])
  (OhR K (blk b (.cells (aU .nilFunc d id pg (.slice av pg.sl.length cv) left .nilFunc word).toArray 203)::az (.slice av pg.sl.length cv) 69 2 pg.sl.length (aD pg.sl)::F) b0 id word pg)
  (fun W=>∀j,W.cell? ⟨b,j,none⟩=(aU .nilFunc d id pg (.slice av pg.sl.length cv) left .nilFunc word).toArray[j]?) ?aS (by kernel_rfl) ?hB ?H ?iD ?h0 ?hI ?hR ?hE ?hQ
 case hB=>as_aux_lemma=>kernel_rfl
 case H=>
  intro W2 k;unfold aU at k;simp only[bL];repeat (go_big_quiet_step (fail))
  refine wpQuiet_nil ?_
  rfl
 case iD=>rfl
 case h0=>exact⟨none,0,fun v h=>(by cases h),fun v h=>(by cases h),Hs.out.empty⟩
 case hI=>
  rintro ρ W2 ⟨a,c,e1,e2,hs⟩;exact hs.tail.k1
 case hR=>
  rintro ρ W2 W3 ⟨a,c,e1,e2,hs⟩ hb;exact⟨a,c,e1,e2,hs.same hb⟩
 case hE=>
  refine⟨?Sn,?Mw,?e16,trivial⟩;case Sn=>
   intro o ho ρ W2 h hcl iH hd2 af aB;obtain rfl:=aq9 ho;replace aB:af=aj _ ρ [] _:=aB;have cY:ρ 15=none:=hcl.none (by simp) (show 14∈[14]by simp) iH
   have vH:ρ 16=none:=hcl.none (by simp) (show 15∈[15]by simp) cY
   obtain⟨a,c,e1,e2,hs⟩:=h;rw[iH,vH]at hs;simp only[aj]at aB;subst aB;go_wp2_with fail
   refine(nr (cap:=cv) hs.tail (hs.tail.b2.cO (by omega))).mono ?_
   rintro e W3 ⟨va,rfl,hs'⟩;obtain⟨a2,c2,rfl,_,_⟩:=hs'.aH;go_wp2
   refine⟨rfl,_,rfl,a2,c2,fun v hv=>(aq9 hv).symm,fun v hv=>?_,?_⟩
   ·have:ρ 15=some v:=hv
    rw[cY]at this;cases this
   ·show St K W3 (az _ _ _ _ _::blk b0 (.cells (match ρ 16 with|some _=>_|none=>_) _)::_)
    rw[vH];exact hs'
  case Mw=>
   intro o ho ρ W2 h hcl cY hd2 af aB;obtain rfl:=aq9 ho;replace aB:af=aj _ ρ [14] _:=aB;obtain⟨v14,iH⟩:=aq6.1 (hd2 14 (by show _∈[14];simp))
   obtain⟨a,c,e1,e2,hs⟩:=h;obtain rfl:=e1 v14 iH;simp only[aj,iH,Option.getD_some,aM,Act.put,ara]at aB;subst aB;go_wp2
   exact⟨rfl,_,rfl,a,c,e1,fun v hv=>(aq9 hv).symm,hs⟩
  case e16=>
   intro o ho ρ W2 h hcl vH hd2 af aB;obtain rfl:=aq9 ho;replace aB:af=aj _ ρ [15] _:=aB;obtain⟨v15,cY⟩:=aq6.1 (hd2 15 (by show _∈[15];simp))
   obtain⟨a,c,e1,e2,hs⟩:=h;obtain rfl:=e2 v15 cY;rw[vH]at hs;simp only[aj,cY,Option.getD_some,aM,Act.put,ara]at aB;subst aB;have hs:=hs.b1;have k0:=hs.k0;have f0:=hs.f0;have hs:=((((((hs.aI 0 (.int .u64 id)).aI 1 (.int .u64 word)).aI 2 (.int .i64 pg.ak)).aI 3 (.slice a pg.sl.length c)).aI 4 (.string pg.hi)).aI 5 (.bool pg.la)).aI 6 (.int .u64 pg.ri);simp only[List.set_cons_zero,List.set_cons_succ]at hs;go_wp2
   exact⟨rfl,undef,rfl,a,c,e1,e2,hs.b1⟩
 case hQ=>
  intro ρ W2 h hall;obtain⟨v14,iH⟩:=aq6.1 (hall 14 (by simp))
  obtain⟨v15,cY⟩:=aq6.1 (hall 15 (by simp))
  obtain⟨v16,vH⟩:=aq6.1 (hall 16 (by simp))
  obtain⟨a,c,e1,e2,hs⟩:=h;obtain rfl:=e1 v14 iH;obtain rfl:=e2 v15 cY;rw[iH,vH]at hs;have hs:=hs.b1;simp only[aj,iH,cY,vH,Option.getD_some,aM,Act.put,ara];clear iH cY vH e1 e2 hall;go_wp2
  refine bodyPost_ret (Mv _ _ b0 _ _ _ _ _ _ _ rfl hs.k0) rfl ⟨_,rfl,hs.tail⟩
end
end
section
def oK (K:aL)(REST:List aC)(T:TypeId)(z:Value)(i j k:Nat)(Φ:Value->List aC->Prop)(ρ:Nat->Option Value)(W:World):Prop:=
 ∃(b:Nat) (C:List aC),(∀v,ρ i=some v->Φ v C)/\(∀v,ρ j=some v->v=(.pointer (some ⟨b,0,none⟩))) /\
  St K W ((if (ρ i).isSome then C else [])++(dH (ρ j) (blk b (.cells #[if (ρ k).isSome then(ρ i).getD z else z] T))::REST))
section
variable {K:aL}{REST:List aC}{T:TypeId}{z:Value}{i j k:Nat}{Φ:Value->List aC->Prop}{ρ:Nat->Option Value}{W:World}{v u:Value}
theorem oK.start (hs:St K W REST):oK K REST T z i j k Φ (fun _=>none) W:=
 ⟨0,[],fun v h=>(by cases h),fun v h=>(by cases h),hs.empty⟩
theorem oK.same {W':World}(h:oK K REST T z i j k Φ ρ W)(hb:Below W.heap.size W W'):oK K REST T z i j k Φ ρ W' := by
 obtain⟨b,C,e1,e2,hs⟩:=h;exact⟨b,C,e1,e2,hs.same hb⟩
theorem oK.rest (h:oK K REST T z i j k Φ ρ W):St K W REST:=by
 obtain⟨b,C,e1,e2,hs⟩:=h;exact(hs.right).tail
theorem upd_ne {ρ:Nat->Option Value}{a b:Nat}{v:Value}(h:b≠a):upd ρ a v b=ρ b:=by simp[upd,h]
theorem cC {ρ:Nat->Option Value}{a:Nat}{v:Value}:upd ρ a v a=some v:=by simp[upd]
theorem St.abf {x:aC}{xs:List aC}(h:St K W (x::xs)):St K W (xs++[x]):=
 h.perm (by simpa using (List.perm_append_comm (l₁:=[x]) (l₂:=xs)))
theorem oK.call (h:oK K REST T z i j k Φ ρ W)(hij:i≠j)(hik:i≠k)(hi:ρ i=none)(hk:ρ k=none):∃X:List aC,St K W (REST++X)/\∀v C W',Φ v C->St K W' (C++(REST++X))->oK K REST T z i j k Φ (upd ρ i v) W' := by
 obtain⟨b,C0,e1,e2,hs⟩:=h;rw[hi,hk]at hs;have hs:St K W (dH (ρ j) (blk b (.cells #[z] T))::REST):=hs;refine⟨[dH (ρ j) (blk b (.cells #[z] T))],hs.abf,fun v C W' hΦ hs' => ⟨b,C,fun v' hv' =>?_,fun v' hv' => e2 v' (by rwa [upd_ne (Ne.symm hij)]at hv'),?_⟩⟩
 ·rw[cC]at hv'
  rw[←aq9 hv'];exact hΦ
 ·rw[cC,upd_ne (Ne.symm hij),upd_ne (Ne.symm hik),hk]
  exact hs'.perm (List.Perm.append_left C (by simp))
theorem oK.var (h:oK K REST T z i j k Φ ρ W)(hij:i≠j)(hjk:j≠k)(hj:ρ j=none)(hk:ρ k=none):oK K REST T z i j k Φ (upd ρ j (.pointer (some ⟨W.heap.size,0,none⟩))) (W.alloc (.cells #[z] T)):=by
 obtain⟨b,C0,e1,e2,hs⟩:=h;rw[hj,hk]at hs;refine⟨W.heap.size,C0,fun v hv=>e1 v (by rwa [upd_ne hij]at hv),fun v hv=>by rw[cC]at hv;exact(aq9 hv).symm,?_⟩
 rw[upd_ne hij,cC,upd_ne (Ne.symm hjk),hk];have h1:St K W ((if (ρ i).isSome then C0 else [])++(gN::REST)):=hs
 have h2:St K W (gN::((if (ρ i).isSome then C0 else [])++REST)):=h1.perm List.perm_middle
 have h3:=h2.tail.made (.cells #[z] T);exact h3.perm (List.perm_middle.symm)
theorem oK.store (h:oK K REST T z i j k Φ ρ W)(hik:i≠k)(hjk:j≠k)(hi:ρ i=some v)(hj:ρ j=some u)(hk:ρ k=none):∃(b:Nat)(R':List aC),u=(.pointer (some ⟨b,0,none⟩))/\(∃C,Φ v C)/\St K W (blk b (.cells #[z] T)::R') /\
  ∀W',St K W' (blk b (.cells #[v] T)::R')->oK K REST T z i j k Φ (upd ρ k undef) W' := by
 obtain⟨b,C0,e1,e2,hs⟩:=h;rw[hi,hj,hk]at hs;have h1:St K W (C0++(blk b (.cells #[z] T)::REST)):=hs;refine⟨b,C0++REST,e2 u hj,⟨C0,e1 v hi⟩,h1.perm List.perm_middle,fun W' hs' => ⟨b,C0,fun v' hv=>e1 v' (by rwa [upd_ne hik]at hv),fun v' hv=>e2 v' (by rwa [upd_ne hjk]at hv),?_⟩⟩
 rw[upd_ne hik,upd_ne hjk,cC,hi,hj];exact hs'.perm (List.perm_middle.symm)
theorem oK.last (h:oK K REST T z i j k Φ ρ W)(hall:∀e,e∈[i,j,k]->(ρ e).isSome=true):∃(b:Nat)(v:Value)(C:List aC),ρ i=some v/\ρ j=some (.pointer (some ⟨b,0,none⟩))/\(∃x,ρ k=some x)/\Φ v C/\St K W (blk b (.cells #[v] T)::(C++REST)):=by
 obtain⟨v,hi⟩:=aq6.1 (hall i (by simp))
 obtain⟨u,hj⟩:=aq6.1 (hall j (by simp))
 obtain⟨x,hk⟩:=aq6.1 (hall k (by simp))
 obtain⟨b,C0,e1,e2,hs⟩:=h;rw[hi,hj,hk]at hs;have h1:St K W (C0++(blk b (.cells #[v] T)::REST)):=hs;exact⟨b,v,C0,hi,by rw[hj,e2 u hj],⟨x,hk⟩,e1 v hi,h1.perm List.perm_middle⟩
end
end
section
def kD (K:aL)(bm bc:Nat)(g:Nat)(xv:Value)(L:List aO)(acc:Nat)(C:List aC)(L':List aO)(acc':Nat)(R:Bool->List aC->Prop):Prop:=
 ∀(w:World) (F:List aC),St K w (C++aJ bm bc L acc::F)->Calls Tryz.prog g #[xv,(.pointer (some ⟨bm,0,none⟩))] w fun e w' => ∃fin C',e=.returned (.bool fin)/\R fin C' /\ St K w' (C' ++ aJ bm bc L' acc' :: F)
section
variable {K:aL}{bm bc:Nat}{g:Nat}{xv:Value}{L L':List aO}{acc acc':Nat}{C:List aC}{R:Bool->List aC->Prop}
theorem St.front {w:World}{A B F:List aC}(h:St K w (A++(B++F))):St K w (B++(A++F)):=by
 rw[←List.append_assoc]at h ⊢;exact h.perm (List.Perm.append_right F List.perm_append_comm)
theorem St.Bo {w:World}:∀ {A B:List aC},St K w (A++B)->St K w B
 | [],_,h=>h
 | _::_,_,h=>St.Bo h.tail
theorem kD.nD {b b2 b3 b5:Nat}{T T2:TypeId}{f:Nat}{tx ty:Array Value}{tl:List Value}{V:List aC}{R2:Option FV->List Value->List aC->Prop}
  (hin:kD K bm bc g xv L acc C L' acc' R)
  (hm : ∀ (n : Nat) (w : World), (method (n + 1) T2 xv "Step").run Tryz.prog w = .ok (g, xv) w) (hg : Enters g) (hf : Enters f)
  (hnext:∀(C':List aC) (w:World) (F:List aC),R true C' -> St K w (blk b (.cells (aW (some (aA b2 b3 b5))::tl).toArray T)::(V++(C' ++ aJ bm bc L' acc' :: F))) ->
   Calls Tryz.prog f (tx++ty) w fun e w2=>∃o oy C2,e=.returned (aW o)/\R2 o oy C2/\St K w2 (blk b (.cells (aW (some (aA b2 b3 b5))::oy).toArray T)::(C2++aJ bm bc L' acc' :: F)))
  (w:World) (F:List aC)
  (hs:St K w (blk b (.cells (aW (some (aA b2 b3 b5))::tl).toArray T)::bG b2 b3 b5 (.iface T2 xv) (.func (.func f) tx ty)::(V++(C++aJ bm bc L acc::F)))) :
  Calls Tryz.prog 77 #[(.pointer (some ⟨b,0,none⟩)),(.pointer (some ⟨bm,0,none⟩))] w fun e w' => ∃o oy C2,e=.returned (.bool o.isNone)/\St K w' (blk b (.cells (aW o::oy).toArray T)::(C2++aJ bm bc L' acc' :: F)) /\
   ((o=some (aA b2 b3 b5)/\oy=tl/\∃C',R false C' /\ C2=bG b2 b3 b5 (.iface T2 xv) (.func (.func f) tx ty)::(V++C'))\/R2 o oy C2):=by
 have hc:=hs.k0 0;refine(ic (K:=K) (α:={ x:Option FV × List Value × List aC // (x.1=some (aA b2 b3 b5)/\x.2.1=tl/\∃C',R false C' /\ x.2.2=bG b2 b3 b5 (.iface T2 xv) (.func (.func f) tx ty)::(V++C'))\/R2 x.1 x.2.1 x.2.2 })
  (f:=aA b2 b3 b5) (o:=fun x=>x.1.1) (nx:=aW (some (aA b2 b3 b5))) (tl:=fun x=>x.1.2.1) (F' := fun x=>x.1.2.2++aJ bm bc L' acc' :: F) (T:=T) jY hc ?_).mono
  (fun e w' ⟨⟨⟨o,oy,C2⟩,h⟩,he,hs⟩=>⟨o,oy,C2,he,hs,h⟩)
 show Calls Tryz.prog 115 #[(.pointer (some ⟨bm,0,none⟩)),(.pointer (some ⟨b2,0,none⟩)),(.pointer (some ⟨b3,0,none⟩)),(.pointer (some ⟨b5,0,none⟩))] w _
 have hb:St K w (C++aJ bm bc L acc::((blk b (.cells (aW (some (aA b2 b3 b5))::tl).toArray T)::bG b2 b3 b5 (.iface T2 xv) (.func (.func f) tx ty)::V)++F)):=by
  have h1:St K w ((blk b (.cells (aW (some (aA b2 b3 b5))::tl).toArray T)::bG b2 b3 b5 (.iface T2 xv) (.func (.func f) tx ty)::V)++((C++[aJ bm bc L acc])++F)):=by simpa using hs
  have h2:=h1.front;simpa using h2
 have hrs:=hin w _ hb;refine(jr (P0:=fun w' => ∃C',R false C' /\ St K w' (blk b (.cells (aW (some (aA b2 b3 b5))::tl).toArray T)::((bG b2 b3 b5 (.iface T2 xv) (.func (.func f) tx ty)::(V++C'))++aJ bm bc L' acc' :: F)))
  (P1:=fun o w' => ∃oy C2,R2 o oy C2/\St K w' (blk b (.cells (aW (some (aA b2 b3 b5))::oy).toArray T)::(C2++aJ bm bc L' acc' :: F)))
  (F:=blk b (.cells (aW (some (aA b2 b3 b5))::tl).toArray T)::(V++(C++aJ bm bc L acc::F))) (K:=K) hs.b1 hm hg hf (hrs.mono ?_)).mono ?_
 ·rintro e w1 ⟨fin,C',rfl,hR,h⟩
  have h2:St K w1 ((blk b (.cells (aW (some (aA b2 b3 b5))::tl).toArray T)::bG b2 b3 b5 (.iface T2 xv) (.func (.func f) tx ty)::V)++((C' ++ [aJ bm bc L' acc'])++F)):=by
   have h1:St K w1 ((C' ++ [aJ bm bc L' acc'])++((blk b (.cells (aW (some (aA b2 b3 b5))::tl).toArray T)::bG b2 b3 b5 (.iface T2 xv) (.func (.func f) tx ty)::V)++F)):=by simpa using h
   exact h1.front
  have h3:St K w1 (blk b (.cells (aW (some (aA b2 b3 b5))::tl).toArray T)::bG b2 b3 b5 (.iface T2 xv) (.func (.func f) tx ty)::(V++(C' ++ aJ bm bc L' acc' :: F))):=by simpa using h2
  refine⟨⟨K,_,h3.b1⟩,?_⟩;cases fin with
  | false=>exact .inl ⟨rfl,C',hR,by simpa using h3⟩
  | true=>
   refine .inr ⟨rfl,?_⟩;refine(hnext C' w1 F hR h3.b1.tail).mono ?_
   rintro e w2 ⟨o,oy,C2,rfl,hR2,hs2⟩;exact⟨o,rfl,oy,C2,hR2,hs2⟩
 ·rintro e w1 ⟨o,rfl,⟨rfl,C',hR,h⟩|⟨oy,C2,hR2,h⟩⟩
  ·exact⟨⟨(_,tl,_),.inl ⟨rfl,rfl,C',hR,rfl⟩⟩,rfl,h⟩
  ·exact⟨⟨(o,oy,C2),.inr hR2⟩,rfl,h⟩
end
def xf (K:aL)(REST:List aC)(b:Nat)(T:TypeId)(tl:List Value)(e1 e2 e3:Nat)(Φ:FV->List aC->Prop)(ρ:Nat->Option Value)(W:World):Prop:=
 ∃(fv:FV) (C:List aC),(∀v,ρ e1=some v->v=aW (some fv)/\Φ fv C)/\(∀v,ρ e2=some v->v=.agg #[aW (some fv),.bool true]) /\
  St K W ((if (ρ e1).isSome then C else [])++(blk b (.cells ((if (ρ e3).isSome then aW (some fv)else .nilFunc) :: .bool (ρ e3).isSome::tl).toArray T)::REST))
section
variable {K:aL}{REST:List aC}{b:Nat}{T:TypeId}{tl:List Value}{e1 e2 e3:Nat}{Φ:FV->List aC->Prop}{ρ:Nat->Option Value}{W:World}{v1 v2:Value}
theorem xf.start (hs:St K W (blk b (.cells (.nilFunc :: .bool false::tl).toArray T)::REST)):xf K REST b T tl e1 e2 e3 Φ (fun _=>none) W:=
 ⟨⟨0, #[], #[]⟩,[],fun v h=>(by cases h),fun v h=>(by cases h),hs⟩
theorem xf.same {W':World}(h:xf K REST b T tl e1 e2 e3 Φ ρ W)(hb:Below W.heap.size W W'):xf K REST b T tl e1 e2 e3 Φ ρ W' := by
 obtain⟨fv,C,q1,q2,hs⟩:=h;exact⟨fv,C,q1,q2,hs.same hb⟩
theorem xf.rest (h:xf K REST b T tl e1 e2 e3 Φ ρ W):St K W REST:=by
 obtain⟨fv,C,q1,q2,hs⟩:=h;exact(hs.right).tail
theorem xf.call (h:xf K REST b T tl e1 e2 e3 Φ ρ W)(dS:e1≠e3)(dr:e1≠e2)(h1:ρ e1=none)(h2:ρ e2=none)(h3:ρ e3=none):St K W (blk b (.cells (.nilFunc :: .bool false::tl).toArray T)::REST) /\
  ∀fv C W',Φ fv C->St K W' (C++(blk b (.cells (.nilFunc :: .bool false::tl).toArray T)::REST))->xf K REST b T tl e1 e2 e3 Φ (upd ρ e1 (aW (some fv))) W' := by
 obtain⟨fv0,C0,q1,q2,hs⟩:=h;rw[h1,h3]at hs;refine⟨hs,fun fv C W' hΦ hs' => ⟨fv,C,fun v hv=>?_,fun v hv=>?_,?_⟩⟩
 ·rw[cC]at hv
  exact⟨(aq9 hv).symm,hΦ⟩
 ·rw[upd_ne (Ne.symm dr),h2]at hv;cases hv
 ·rw[cC,upd_ne (Ne.symm dS),h3];exact hs'
theorem xf.begin (h:xf K REST b T tl e1 e2 e3 Φ ρ W)(dr:e1≠e2)(Kj:e2≠e3)(h1:ρ e1=some v1):∃fv,v1=aW (some fv)/\∀W',Below W.heap.size W W' -> xf K REST b T tl e1 e2 e3 Φ (upd ρ e2 (.agg #[aW (some fv),.bool true])) W' := by
 obtain⟨fv,C,q1,q2,hs⟩:=h;refine⟨fv,(q1 v1 h1).1,fun W' hb=>⟨fv,C,fun v hv=>q1 v (by rwa [upd_ne dr]at hv),fun v hv=>by rw[cC]at hv;exact(aq9 hv).symm,?_⟩⟩
 rw[upd_ne dr,upd_ne (Ne.symm Kj)];exact hs.same hb
theorem xf.store (h:xf K REST b T tl e1 e2 e3 Φ ρ W)(dS:e1≠e3)(Kj:e2≠e3)(h2:ρ e2=some v2)(h3:ρ e3=none):∃(fv:FV)(R':List aC),v2=.agg #[aW (some fv),.bool true]/\St K W (blk b (.cells (.nilFunc :: .bool false::tl).toArray T)::R') /\
  ∀W',St K W' (blk b (.cells (aW (some fv) :: .bool true::tl).toArray T)::R')->xf K REST b T tl e1 e2 e3 Φ (upd ρ e3 undef) W' := by
 obtain⟨fv,C,q1,q2,hs⟩:=h;rw[h3]at hs;refine⟨fv,(if (ρ e1).isSome then C else [])++REST,q2 v2 h2,hs.perm List.perm_middle,fun W' hs' => ⟨fv,C,fun v hv=>q1 v (by rwa [upd_ne dS]at hv),fun v hv=>q2 v (by rwa [upd_ne Kj]at hv),?_⟩⟩
 rw[upd_ne dS,cC];exact hs'.perm (List.perm_middle.symm)
theorem xf.last (h:xf K REST b T tl e1 e2 e3 Φ ρ W)(hall:∀e,e∈[e1,e2,e3]->(ρ e).isSome=true):∃(fv:FV)(C:List aC),ρ e1=some (aW (some fv))/\ρ e2=some (.agg #[aW (some fv),.bool true])/\(∃v,ρ e3=some v)/\Φ fv C/\St K W (C++(blk b (.cells (aW (some fv) :: .bool true::tl).toArray T)::REST)):=by
 obtain⟨v1,h1⟩:=aq6.1 (hall e1 (by simp))
 obtain⟨v2,h2⟩:=aq6.1 (hall e2 (by simp))
 obtain⟨v3,h3⟩:=aq6.1 (hall e3 (by simp))
 obtain⟨fv,C,q1,q2,hs⟩:=h;rw[h1,h3]at hs;exact⟨fv,C,by rw[h1,(q1 v1 h1).1],by rw[h2,q2 v2 h2],⟨v3,h3⟩,(q1 v1 h1).2,hs⟩
end
def ahF (T2:TypeId)(xv t:Value)(fv:FV)(C:List aC):Prop:=∃b2 b3 b5,fv=aA b2 b3 b5/\C=[bG b2 b3 b5 (.iface T2 xv) t]
def R3 (i j k:Nat)(Pre:World->Prop)(M1:Value->World->Prop)(M2:Value->Value->World->Prop)(Post:Value->Value->Value->World->Prop)(ρ:Nat->Option Value)(W:World):Prop:=
 match ρ i,ρ j,ρ k with
 | none,_,_=>ρ j=none/\ρ k=none/\Pre W
 | some v,none,_=>ρ k=none/\M1 v W
 | some v,some u,none=>M2 v u W
 | some v,some u,some x=>Post v u x W
theorem jL {P:Program}{id:Nat}{Q:Exit->Act->World->Prop}{a:Act}{w:World}{l:List Oper}(m:List Bool)(i j k:Nat)(Pre:World->Prop)(M1:Value->World->Prop)(M2:Value->Value->World->Prop)(Post:Value->Value->Value->World->Prop)(Inv:World->Prop)(aS:Act)
  (hne:i≠j/\i≠k/\j≠k) (hm:P.follows .mixedOrders=true) (hB:Al l m [i,j,k] (fun e=>if e=j then [i]else if e=k then [j]else []) a.tmps.size=true)
  (H:∀W,Inv W->wpQuiet P (bL m l).toArray (fun w' => ∃x:Ext,w'=over W x) (fun a' => a'=aS) (bL m l) a)
  (iD:aS.tmps.size=a.tmps.size) (h0:Pre w)
  (hI:(∀W,Pre W->Inv W)/\(∀v W,M1 v W->Inv W)/\(∀v u W,M2 v u W->Inv W)/\(∀v u x W,Post v u x W->Inv W))
  (hR:(∀W W',Pre W->Below W.heap.size W W' -> Pre W')/\(∀v W W',M1 v W->Below W.heap.size W W' -> M1 v W')/\(∀v u W W',M2 v u W->Below W.heap.size W W' -> M2 v u W')/\(∀v u x W W',Post v u x W->Below W.heap.size W W' -> Post v u x W'))
  (Fx:∀(R:(Nat->Option Value)->World->Prop) o,l[i]?=some o->∀ ρ W,Pre W->(∀v W',M1 v W' -> R (upd ρ i v) W')->∀af,af=aS->wpList P l.toArray (Ak ρ af R i o) [o] af W)
  (vK:∀(R:(Nat->Option Value)->World->Prop) o,l[j]?=some o->∀ ρ v W,M1 v W->(∀u W',M2 v u W' -> R (upd ρ j u) W')->∀af,af=aS.put (aM l i) v->wpList P l.toArray (Ak ρ af R j o) [o] af W)
  (hE3:∀(R:(Nat->Option Value)->World->Prop) o,l[k]?=some o->∀ ρ v u W,M2 v u W->(∀x W',Post v u x W' -> R (upd ρ k x) W')->∀af,af=aS.put (aM l j) u->wpList P l.toArray (Ak ρ af R k o) [o] af W)
  (hQ:∀v u x W,Post v u x W->Q .normal (((aS.put (aM l i) v).put (aM l j) u).put (aM l k) x) W):(Code.region id l.toArray true).wp P Q a w:=by
 obtain⟨hij,hik,hjk⟩:=hne;refine aT m [i,j,k] (fun e=>if e=j then [i]else if e=k then [j]else []) (R3 i j k Pre M1 M2 Post) Inv aS hm hB H iD ⟨rfl,rfl,h0⟩ ?_ ?_ ⟨?_,?_,?_,trivial⟩ ?_
 ·intro ρ W h
  unfold R3 at h;cases hi:ρ i with
  | none=>rw[hi]at h;exact hI.1 W h.2.2
  | some v=>
   cases hj:ρ j with
   | none=>rw[hi,hj]at h;exact hI.2.1 v W h.2
   | some u=>
    cases hk:ρ k with
    | none=>rw[hi,hj,hk]at h;exact hI.2.2.1 v u W h
    | some x=>rw[hi,hj,hk]at h;exact hI.2.2.2 v u x W h
 ·intro ρ W W' h hb
  unfold R3 at h ⊢;cases hi:ρ i with
  | none=>rw[hi]at h;exact⟨h.1,h.2.1,hR.1 W W' h.2.2 hb⟩
  | some v=>
   cases hj:ρ j with
   | none=>rw[hi,hj]at h;exact⟨h.1,hR.2.1 v W W' h.2 hb⟩
   | some u=>
    cases hk:ρ k with
    | none=>rw[hi,hj,hk]at h;exact hR.2.2.1 v u W W' h hb
    | some x=>rw[hi,hj,hk]at h;exact hR.2.2.2 v u x W W' h hb
 ·intro o ho ρ W h hcl hi hd af aB
  have aB:af=aj l ρ (if i=j then [i]else if i=k then [j]else []) aS:=aB
  rw[if_neg hij,if_neg hik]at aB;obtain rfl:af=aS:=aB;unfold R3 at h;rw[hi]at h;refine Fx _ o ho ρ W h.2.2 (fun v W' hM=>?_) _ rfl
  unfold R3;have e1:upd ρ i v i=some v:=by simp[upd]
  have e2:upd ρ i v j=none:=by simp[upd,Ne.symm hij,h.1]
  have e3:upd ρ i v k=none:=by simp[upd,Ne.symm hik,h.2.1]
  rw[e1,e2,e3];exact⟨rfl,hM⟩
 ·intro o ho ρ W h hcl hj hd af aB
  have aB:af=aj l ρ (if j=j then [i]else if j=k then [j]else []) aS:=aB
  rw[if_pos rfl]at aB;obtain⟨v,hi⟩:=aq6.1 (hd i (by show i∈(if j=j then [i]else if j=k then [j]else []);simp))
  have aB:af=aS.put (aM l i) v:=by rw[aB];simp[aj,hi]
  unfold R3 at h;rw[hi,hj]at h;refine vK _ o ho ρ v W h.2 (fun u W' hM=>?_) _ aB
  unfold R3;have e1:upd ρ j u i=some v:=by simp[upd,hij,hi]
  have e2:upd ρ j u j=some u:=by simp[upd]
  have e3:upd ρ j u k=none:=by simp[upd,Ne.symm hjk,h.1]
  rw[e1,e2,e3];exact hM
 ·intro o ho ρ W h hcl hk hd af aB
  have aB:af=aj l ρ (if k=j then [i]else if k=k then [j]else []) aS:=aB
  rw[if_neg (Ne.symm hjk),if_pos rfl]at aB;obtain⟨u,hj⟩:=aq6.1 (hd j (by show j∈(if k=j then [i]else if k=k then [j]else []);simp[Ne.symm hjk]))
  have aB:af=aS.put (aM l j) u:=by rw[aB];simp[aj,hj]
  have hi':(ρ i).isSome=true:=hcl j (by simp) (by rw[hj];rfl) i (by show i∈(if j=j then [i]else if j=k then [j]else []);simp)
  obtain⟨v,hi⟩:=aq6.1 hi';unfold R3 at h;rw[hi,hj,hk]at h;refine hE3 _ o ho ρ v u W h (fun x W' hM=>?_) _ aB
  unfold R3;have e1:upd ρ k x i=some v:=by simp[upd,hik,hi]
  have e2:upd ρ k x j=some u:=by simp[upd,hjk,hj]
  have e3:upd ρ k x k=some x:=by simp[upd]
  rw[e1,e2,e3];exact hM
 ·intro ρ W h hall
  obtain⟨v,hi⟩:=aq6.1 (hall i (by simp))
  obtain⟨u,hj⟩:=aq6.1 (hall j (by simp))
  obtain⟨x,hk⟩:=aq6.1 (hall k (by simp))
  unfold R3 at h;rw[hi,hj,hk]at h;have:=hQ v u x W h;simpa[aj,hi,hj,hk] using this
def mM (T2:TypeId)(thn:Value)(Φ1:Value->List aC->Prop)(e1 e2 e3 e4:Nat)(e:Nat)(ρ:Nat->Option Value)(v:Value)(cs:List aC):Prop:=
 if e=e1 then Φ1 v cs
 else if e=e2 then(∃u,ρ e1=some u/\v=.iface T2 u)/\cs=[]
 else if e=e3 then ∃u b2 b3 b5,ρ e1=some u/\v=aW (some (aA b2 b3 b5))/\cs=[bG b2 b3 b5 (.iface T2 u) thn]
 else if e=e4 then(∃b2 b3 b5,v=aW (some (aA b2 b3 b5))/\ρ e3=some v)/\cs=[]
 else False
section
variable {T2:TypeId}{thn:Value}{Φ1:Value->List aC->Prop}{e1 e2 e3 e4:Nat}
theorem iL {ρ:Nat->Option Value}{k j:Nat}{u v:Value}(hk:ρ k=none)(hj:ρ j=some v):upd ρ k u j=some v:=by
 unfold upd;rw[if_neg (fun e=>by rw[e,hk]at hj;cases hj)]
 exact hj
theorem mM.mono {es:List Nat}:Rt es (mM T2 thn Φ1 e1 e2 e3 e4):=by
 intro e ρ v cs k u he hk h;unfold mM at h ⊢;by_cases c1:e=e1
 ·rw[if_pos c1]at h ⊢;exact h
 rw[if_neg c1]at h ⊢;by_cases c2:e=e2
 ·rw[if_pos c2]at h ⊢
  obtain⟨⟨u1,h1,h2⟩,h3⟩:=h;exact⟨⟨u1,iL hk h1,h2⟩,h3⟩
 rw[if_neg c2]at h ⊢;by_cases c3:e=e3
 ·rw[if_pos c3]at h ⊢
  obtain⟨u1,b2,b3,b5,h1,h2⟩:=h;exact⟨u1,b2,b3,b5,iL hk h1,h2⟩
 rw[if_neg c3]at h ⊢;by_cases c4:e=e4
 ·rw[if_pos c4]at h ⊢
  obtain⟨⟨b2,b3,b5,h1,h2⟩,h3⟩:=h;exact⟨⟨b2,b3,b5,h1,iL hk h2⟩,h3⟩
 rw[if_neg c4]at h ⊢;exact h
theorem mM.last {K:aL}{REST:List aC}{ρ:Nat->Option Value}{W:World}(hne:[e1,e2,e3,e4].Nodup)(h:GR K REST [e1,e2,e3,e4] (mM T2 thn Φ1 e1 e2 e3 e4) ρ W)(hall:∀e,e∈[e1,e2,e3,e4]->(ρ e).isSome=true) :
  ∃u b2 b3 b5 C,Φ1 u C/\ρ e1=some u/\ρ e2=some (.iface T2 u)/\ρ e3=some (aW (some (aA b2 b3 b5)))/\ρ e4=some (aW (some (aA b2 b3 b5)))/\St K W (bG b2 b3 b5 (.iface T2 u) thn::(C++REST)):=by
 obtain⟨C,hC,hs⟩:=h.last hall;simp only[List.nodup_cons,List.mem_cons,List.not_mem_nil,or_false,not_or,List.nodup_nil,and_true]at hne;obtain⟨⟨n12,n13,n14⟩,⟨n23,n24⟩,n34,_⟩:=hne;obtain⟨v1,h1,p1⟩:=hC e1 (by simp)
 obtain⟨v2,h2,p2⟩:=hC e2 (by simp)
 obtain⟨v3,h3,p3⟩:=hC e3 (by simp)
 obtain⟨v4,h4,p4⟩:=hC e4 (by simp)
 unfold mM at p1 p2 p3 p4;rw[if_pos rfl]at p1;rw[if_neg (Ne.symm n12),if_pos rfl]at p2;rw[if_neg (Ne.symm n13),if_neg (Ne.symm n23),if_pos rfl]at p3;rw[if_neg (Ne.symm n14),if_neg (Ne.symm n24),if_neg (Ne.symm n34),if_pos rfl]at p4;obtain⟨⟨u2,q2,rfl⟩,c2⟩:=p2;obtain⟨u3,b2,b3,b5,q3,rfl,c3⟩:=p3;obtain⟨⟨x2,x3,x5,rfl,q4⟩,c4⟩:=p4;rw[h1]at q2 q3;obtain rfl:=aq9 q2;obtain rfl:=aq9 q3;rw[h3]at q4;have q5:=aq9 q4;refine⟨_,b2,b3,b5,C e1,p1,h1,h2,h3,by rw[h4,q5],?_⟩
 simp only[List.flatMap_cons,List.flatMap_nil,List.append_nil,c2,c3,c4,List.nil_append]at hs;have hs2:St K W (C e1++([bG b2 b3 b5 (.iface T2 v1) thn]++REST)):=by simpa using hs
 simpa using hs2.front
end
end
end Go.Proofs.YtlpdhhhgckpcfaaGreat
