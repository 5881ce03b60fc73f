
/- The machine Insert. What follows a write of Insert. Insert after a split: the new node has been written; the split. Insert: the split. Insert: a number has been taken, or not. -/
import Derived.Test.YtlpdhhhgckpcfaaGreatPageOps
import Derived.Test.YtlpdhhhgckpcfaaGreatTakeA
import Derived.Test.YtlpdhhhgckpcfaaGreatNodeW
import Derived.Test.YtlpdhhhgckpcfaaGreatCallVar
namespace Go.Proofs.YtlpdhhhgckpcfaaGreat
set_option maxHeartbeats 16000000
open Go.RowKit
set_option maxRecDepth 100000
structure cB where
 id:Int
 word:Int
 pg:Pg
def vD (h:cB)(va:Value)(rest:List Value):List Value:= .int .u64 h.id :: .int .u64 h.word :: .int .i64 h.pg.az::va :: .string h.pg.hi :: .bool h.pg.la :: .int .u64 h.pg.ri::rest
structure oQ where
 fr:cB
 vf:Value
 fu:Pg
 vu:Value
 err:Int
 le:cB
 vl:Value
 ri:cB
 vr:Value
 sep:ByteArray
 on:Bool
def dK (nx:Value)(d:aR)(x:oQ):List Value:=
 nx :: .bool x.on :: .int .i64 d.th :: .int .i64 d.sn :: .int .i64 d.no :: .int .i64 d.ch :: .int .i64 d.re :: .int .i64 d.fa :: .int .u64 d.cl ::
  vD x.fr x.vf (.int .i64 x.fu.az::x.vu :: .string x.fu.hi :: .bool x.fu.la :: .int .u64 x.fu.ri :: .int .i64 x.err::vD x.le x.vl (vD x.ri x.vr [.string x.sep]))
def bz (b:Nat)(nx:Value)(d:aR)(x:oQ):aB:=blk b (.cells (dK nx d x).toArray 151)
structure Rq where
 b2:Nat
 b3:Nat
 b5:Nat
 Ea:Nat
 iU:Nat
 bw:Nat
 bn:Nat
 g:Nat
 cap:Nat
 va:Value
def aaU (B:Rq):Value:= .func (.func 133) #[] #[(.pointer (some ⟨B.Ea,0,none⟩)),(.pointer (some ⟨B.iU,0,none⟩))]
def oh (B:Rq):FV:=aA B.b2 B.b3 B.b5
def Eb (b:Nat)(B:Rq)(id word:Int)(p:Pg)(ps:List Pt)(k:Nat):List aB:=
 [bD B.b2 B.b3 B.b5 (.iface 76 (.pointer (some ⟨B.bw,0,none⟩))) (aaU B),blk B.Ea (.cells #[(.pointer (some ⟨B.bw,0,none⟩))] 76),blk B.iU (.cells #[(.pointer (some ⟨b,0,none⟩))] 82),mz B.bn id word p B.va B.g B.cap ps k,
  ak (.slice (some ⟨B.g,0,none⟩) ps.length B.cap) 139 4 ps.length (ck ps),blk B.bw (.cells #[(.pointer (some ⟨B.bn,0,none⟩))] 147),bq B.va p]
def nE (d:aR)(h:cB)(p:Pg)(ps:List Pt):Prop:=
 ∃ mid,lh (bN d h.id h.pg) (bN d h.id p) mid/\ps=⟨d.node h.id 0,⟨bC h.word,⟨#[]⟩,0⟩⟩::mid++[⟨d.node h.id 0,⟨dM (bC h.word),⟨#[]⟩,0⟩⟩]
structure cB.Ok (d:aR)(h:cB):Prop where
 id:1<=h.id/\h.id<=d.no
 word:0<=h.word/\h.word<18446744073709551616
 pg:oM d h.pg
 az:0<=h.pg.az/\h.pg.az<1000000
def ah2 (d:aR)(h:cB)(p:Pg)(v:Value)(C:List aB):Prop:=
 ∃ (bw bn g cap:Nat) (va:Value) (ps:List Pt),v=(.pointer (some ⟨bw,0,none⟩))/\nE d h p ps/\C=[mz bn h.id (dM (bC h.word)) p va g cap ps 0,ak (.slice (some ⟨g,0,none⟩) ps.length cap) 139 4 ps.length (ck ps),blk bw (.cells #[(.pointer (some ⟨bn,0,none⟩))] 147),bq va p]
section
variable {K:aK}{w:World}{F:List aB}{b:Nat}{nx:Value}{d:aR}{x:oQ}{p:Pg}{ap af:Option Addr}{cp cf:Nat}
theorem rL (hd:d.Ok)(hfr:x.fr.Ok d)(hp:oM d p)(hpl:0<=p.az/\p.az<1000000)(hv:x.vf=.slice af x.fr.pg.sl.length cf)(hs:St K w (bz b nx d x::bq x.vf x.fr.pg::bq (.slice ap p.sl.length cp) p::F)) :
  Calls Tryz.prog 97 #[(.pointer (some ⟨b,0,none⟩)),(.agg #[.int .i64 (p).az,(.slice ap p.sl.length cp),.string (p).hi,.bool (p).la,.int .u64 (p).ri])] w fun e w' => ∃ (B:Rq) (ps:List Pt),e=.returned (aX (some (oh B)))/\nE d x.fr p ps /\
   St K w' (bz b nx d x::bq x.vf x.fr.pg::bq (.slice ap p.sl.length cp) p::(Eb b B x.fr.id (dM (bC x.fr.word)) p ps 0++F)):=by
 obtain⟨fr,vf,fu,vu,err,le,vl,ri,vr,sep,on⟩:=x;simp only at hv hfr;subst hv;have QW:=aqo (fun W (R:List aB) (h:St K W (bq (.slice af fr.pg.sl.length cf) fr.pg::bq (.slice ap p.sl.length cp) p::R))=>Bi hd hfr.id.1 hfr.id.2 hfr.word hfr.pg hp hfr.az hpl h)
 have hs:=(hs.made (.cells #[(.pointer (some ⟨b,0,none⟩))] 82)).made (.cells #[.int .i64 (p).az,(.slice ap p.sl.length cp),.string (p).hi,.bool (p).la,.int .u64 (p).ri] 43);rw[World.size_alloc]at hs;obtain⟨bi,hbi⟩:∃ bi,bi=w.heap.size:=⟨_,rfl⟩;go_enter Tryz.func97,Tryz.ntmps97
 go_upto_region 1 with(fail)
 rw[← hbi]at hs ⊢;clear hbi;have Hs:=aqo (hs.re [3,4,2,0,1] rfl);clear hs;refine aT [false,false,false,false,false,false,false,false,false,true,true,true] [9,10,11] (fun|11=>[9,10] | _=>[])
  (oA K (bq (.slice af fr.pg.sl.length cf) fr.pg::bq (.slice ap p.sl.length cp) p::bz b nx d ⟨fr,.slice af fr.pg.sl.length cf,fu,vu,err,le,vl,ri,vr,sep,on⟩::blk (bi+1) (.cells #[.int .i64 (p).az,(.slice ap p.sl.length cp),.string (p).hi,.bool (p).la,.int .u64 (p).ri] 43)::blk bi (.cells #[(.pointer (some ⟨b,0,none⟩))] 82)::F) 76 (.pointer none) 9 10 11 (ah2 d fr p))
  (fun W=>∃ R1 R2,St K W (R1::R2::bz b nx d ⟨fr,.slice af fr.pg.sl.length cf,fu,vu,err,le,vl,ri,vr,sep,on⟩::blk (bi+1) (.cells #[.int .i64 (p).az,(.slice ap p.sl.length cp),.string (p).hi,.bool (p).la,.int .u64 (p).ri] 43)::blk bi (.cells #[(.pointer (some ⟨b,0,none⟩))] 82)::F)) ?aS (by kernel_rfl) ?hB ?H ?iA ?h0 ?hI ?hR ?hE ?hQ
 case hB=>as_aux_lemma=>kernel_rfl
 case H=>
  rintro W2 ⟨R1,R2,hs⟩;have k:=hs.k2;unfold dK vD at k;have kp:=hs.tail.k2;have ki:=hs.tail.tail.k2;clear hs;simp only[bK];repeat (go_big_quiet_step (fail))
  refine wpQuiet_nil ?_
  rfl
 case iA=>rfl
 case h0=>exact oA.start Hs.out
 case hI=>exact fun ρ W2 h=>⟨_,_,h.rest⟩
 case hR=>exact fun ρ W2 W3 h hb=>h.same hb
 case hE=>
  refine⟨?e9,?Wu,?e11,trivial⟩;case e9=>
   intro o ho ρ W2 h hcl h9 hd2 dW aC;obtain rfl:=aqu ho;replace aC:dW=aj _ ρ [] _:=aC;have h11:ρ 11=none:=hcl.none (by simp) (show 9∈[9,10]by simp) h9
   obtain⟨X,hs,hnext⟩:=h.call (by omega) (by omega) h9 h11
   simp only[aj]at aC;subst aC;have Hn:=aqo hnext;clear hnext hcl hd2 h9 h11 h;go_wp2_with fail
   refine(QW.out _ _ hs).mono ?_
   rintro e W3 ⟨bw,bn,g,cap,va,mid,ps,rfl,hm,hps,hs'⟩;have dZ:=aqo hs';have Hm:=aqo hm;have yf:=aqo hps;clear hs hs' hm hps;go_wp2
   exact⟨rfl,_,rfl,Hn.out _ _ W3 ⟨bw,bn,g,cap,va,ps,rfl,⟨mid,Hm.out,yf.out⟩,rfl⟩ dZ.out⟩
  case Wu=>
   intro o ho ρ W2 h hcl h10 hd2 dW aC;obtain rfl:=aqu ho;replace aC:dW=aj _ ρ [] _:=aC;have h11:ρ 11=none:=hcl.none (by simp) (show 10∈[9,10]by simp) h10
   have Hn:=aqo (h.var (by omega) (by omega) h10 h11)
   simp only[aj]at aC;subst aC;clear hcl hd2 h10 h11 h;go_wp2
   exact⟨rfl,_,rfl,Hn.out⟩
  case e11=>
   intro o ho ρ W2 h hcl h11 hd2 dW aC;obtain rfl:=aqu ho;replace aC:dW=aj _ ρ [9,10] _:=aC;obtain⟨v9,h9⟩:=aqr.1 (hd2 9 (by show _∈[9,10];simp))
   obtain⟨v10,h10⟩:=aqr.1 (hd2 10 (by show _∈[9,10];simp))
   obtain⟨bv,R',rfl,⟨C,bw,bn,g,cap,va,ps,rfl,_,_⟩,hs,hnext⟩:=h.store (by omega) (by omega) h9 h10 h11
   simp only[aj,h9,h10,Option.getD_some,aL,Act.put,aqv]at aC;subst aC;have k0:=hs.k0;have f0:=hs.f0;have gh:Hid (St K _ (blk bv (.cells #[(.pointer (some ⟨bw,0,none⟩))] 76)::R')):=aqo (hs.aI 0 (.pointer (some ⟨bw,0,none⟩)));have Hn:=aqo hnext;clear hs hnext hcl hd2 h h9 h10 h11;go_wp2
   exact⟨rfl,undef,rfl,Hn.out _ gh.out⟩
 case hQ=>
  intro ρ W2 h hall;obtain⟨bv,v,C,h9,h10,⟨v11,h11⟩,⟨bw,bn,g,cap,va,ps,rfl,hps,rfl⟩,hs⟩:=h.last hall;simp only[aj,h9,h10,h11,Option.getD_some,aL,Act.put,aqv];have yf:=aqo hps;clear h hall h9 h10 h11 hps;have kv:=hs.k0;have q:=fF (T2:=76) (xv:=(.pointer (some ⟨bw,0,none⟩))) (f:=133) (tx:= #[]) (ty:= #[(.pointer (some ⟨bv,0,none⟩)),(.pointer (some ⟨bi,0,none⟩))]) hs;have Q:=aqo q;clear q hs;go_wp2_with fail
  refine(Q.out).mono ?_
  rintro e W3 ⟨b2,b3,b5,rfl,hs⟩;have dZ:=aqo hs;clear hs kv Q;simp only[aA,aX];go_wp2
  go_ret;refine⟨⟨b2,b3,b5,bv,bi,bw,bn,g,cap,va⟩,ps,rfl,yf.out,?_⟩;exact((show St K W3 (_::_::_::_::_::_::_::_::_::_::_::F)from dZ.out).re [9,8,6,7,0,1,10,2,3,4,5] rfl).tail
end
section
variable {K:aK}{w:World}{F:List aB}{b:Nat}{nx:Value}{d:aR}{x:oQ}{p:Pg}{id word:Int}{B:Rq}{ps:List Pt}
theorem Rs (hn:p.sl.length<=1000000)(hs:St K w (bz b nx d x::(Eb b B id word p ps ps.length++F))) :
  Calls Tryz.prog 133 #[(.pointer (some ⟨B.Ea,0,none⟩)),(.pointer (some ⟨B.iU,0,none⟩))] w fun e w' => ∃ va,e=.returned (aX none)/\St K w' (bz b nx d { x with le:=⟨id,word,p⟩,vl:=va }::bq va p::F):=by
 obtain⟨b2,b3,b5,Ea,iU,bw,bn,g,cap,va⟩:=B;have hs:St K w (bz b nx d x::bD b2 b3 b5 _ _::blk Ea (.cells #[(.pointer (some ⟨bw,0,none⟩))] 76)::blk iU (.cells #[(.pointer (some ⟨b,0,none⟩))] 82)::mz bn id word p va g cap ps ps.length::ak (.slice (some ⟨g,0,none⟩) ps.length cap) 139 4 ps.length (ck ps)::blk bw (.cells #[(.pointer (some ⟨bn,0,none⟩))] 147)::bq va p::F):=hs;have hs:St K w (blk Ea (.cells #[(.pointer (some ⟨bw,0,none⟩))] 76)::blk iU (.cells #[(.pointer (some ⟨b,0,none⟩))] 82)::bz b nx d x::mz bn id word p va g cap ps ps.length::bq va p::blk bw (.cells #[(.pointer (some ⟨bn,0,none⟩))] 147)::F):=(hs.re [1,5,2,3,0,4,7,6] rfl).tail.tail;obtain⟨av,cv,Ob,_,_⟩:=(show St K w (ak va 69 2 p.sl.length (aD p.sl)::_)from hs.b4).aF
 subst Ob;obtain⟨fr,vf,fu,vu,err,le,vl,ri,vr,sep,on⟩:=x;have Hs:=aqo hs;clear hs;go_enter Tryz.func133,Tryz.ntmps133
 go_upto_region 1 with(fail)
 refine fZ [false,false,true,false,false,true] 2 5
  (fun W=>St K W (blk Ea (.cells #[(.pointer (some ⟨bw,0,none⟩))] 76)::blk iU (.cells #[(.pointer (some ⟨b,0,none⟩))] 82)::bz b nx d ⟨fr,vf,fu,vu,err,le,vl,ri,vr,sep,on⟩::mz bn id word p (.slice av p.sl.length cv) g cap ps ps.length::bq (.slice av p.sl.length cv) p::blk bw (.cells #[(.pointer (some ⟨bn,0,none⟩))] 147)::F))
  (fun v W=>∃ (a1:Option Addr) (c1:Nat),v=(.agg #[.int .u64 id,.int .u64 word,.int .i64 (p).az,(.slice a1 p.sl.length c1),.string (p).hi,.bool (p).la,.int .u64 (p).ri])/\St K W (blk Ea (.cells #[(.pointer (some ⟨bw,0,none⟩))] 76)::blk iU (.cells #[(.pointer (some ⟨b,0,none⟩))] 82)::bz b nx d ⟨fr,vf,fu,vu,err,le,vl,ri,vr,sep,on⟩::bq (.slice a1 p.sl.length c1) p::F))
  (fun v u W=>∃ (a1:Option Addr) (c1:Nat),u=undef/\v=(.agg #[.int .u64 id,.int .u64 word,.int .i64 (p).az,(.slice a1 p.sl.length c1),.string (p).hi,.bool (p).la,.int .u64 (p).ri])/\St K W (blk Ea (.cells #[(.pointer (some ⟨bw,0,none⟩))] 76)::blk iU (.cells #[(.pointer (some ⟨b,0,none⟩))] 82)::bz b nx d ⟨fr,vf,fu,vu,err,⟨id,word,p⟩,.slice a1 p.sl.length c1,ri,vr,sep,on⟩::bq (.slice a1 p.sl.length c1) p::F))
  (fun W=>∃ cs,St K W (blk Ea (.cells #[(.pointer (some ⟨bw,0,none⟩))] 76)::blk iU (.cells #[(.pointer (some ⟨b,0,none⟩))] 82)::cs)) ?aS (by decide) (by kernel_rfl) ?hB ?H ?iA Hs.out ?hI ?hR ?Ff ?vv ?hQ
 case hB=>as_aux_lemma=>kernel_rfl
 case H=>
  rintro W2 ⟨cs,hs⟩;have k1:=hs.k0;have k2:=hs.k1;clear hs;simp only[bK];repeat (go_big_quiet_step (fail))
  refine wpQuiet_nil ?_
  rfl
 case iA=>rfl
 case hI=>exact⟨fun W h=>⟨_,h⟩,fun v W ⟨_,_,_,h⟩=>⟨_,h⟩,fun v u W ⟨_,_,_,_,h⟩=>⟨_,h⟩⟩
 case hR=>exact⟨fun W W' h hb=>h.same hb,fun v W W' ⟨a,c,e,h⟩ hb=>⟨a,c,e,h.same hb⟩,fun v u W W' ⟨a,c,e,e2,h⟩ hb=>⟨a,c,e,e2,h.same hb⟩⟩
 case Ff=>
  intro qN o ho ρ W2 hs hk af aC;obtain rfl:=aqu ho;subst aC;have Hk:=aqo hk;clear hk;go_wp2_with fail
  refine(yg hn (hs.re [3,4,5,0,1,2] rfl)).mono ?_
  rintro e w1 ⟨kW,rfl,hs⟩;obtain⟨a1,c1,rfl,_,_⟩:=hs.aF;go_wp2
  exact⟨rfl,_,rfl,Hk.out _ _ ⟨a1,c1,rfl,(hs.re [1,2,3,4,5,6,0] rfl).tail.tail.tail⟩⟩
 case vv=>
  rintro qN o ho ρ v W2 ⟨a1,c1,rfl,hs⟩ hk af aC;obtain rfl:=aqu ho;have Hk:=aqo hk;clear hk;simp only[aL,List.getElem?_cons_succ,List.getElem?_cons_zero,Option.bind_some,Act.put,List.setIfInBounds_toArray,List.set_cons_zero,List.set_cons_succ]at aC;subst aC;have hs:=hs.b2;have k:=hs.k0;have kf:=hs.f0;unfold dK vD at k;have gh:Hid (St K _ (bz b nx d ⟨fr,vf,fu,vu,err,⟨id,word,p⟩,.slice a1 p.sl.length c1,ri,vr,sep,on⟩::_)):=aqo (((((((hs.aI 22 (.int .u64 id)).aI 23 (.int .u64 word)).aI 24 (.int .i64 p.az)).aI 25 (.slice a1 p.sl.length c1)).aI 26 (.string p.hi)).aI 27 (.bool p.la)).aI 28 (.int .u64 p.ri));clear hs;go_wp2
  exact⟨rfl,undef,rfl,Hk.out _ _ ⟨a1,c1,rfl,rfl,gh.out.u2⟩⟩
 case hQ=>
  rintro v u W2 ⟨a1,c1,rfl,rfl,hs⟩;simp only[aL,List.getElem?_cons_succ,List.getElem?_cons_zero,Option.bind_some,Act.put,List.setIfInBounds_toArray,List.set_cons_zero,List.set_cons_succ];clear Hs;go_wp2
  go_ret;exact⟨rfl,_,hs.tail.tail⟩
end
structure Vg where
 b2:Nat
 b3:Nat
 b5:Nat
 Jq:Nat
 Jr:Nat
 iU:Nat
 Mo:Nat
 bw:Nat
 bn:Nat
 g:Nat
 cap:Nat
 va:Value
 vq:Value
def aaV (B:Vg):Value:= .func (.func 136) #[] #[(.pointer (some ⟨B.Jq,0,none⟩)),(.pointer (some ⟨B.Jr,0,none⟩)),(.pointer (some ⟨B.iU,0,none⟩)),(.pointer (some ⟨B.Mo,0,none⟩))]
def sj (B:Vg):FV:=aA B.b2 B.b3 B.b5
def Mp (b:Nat)(B:Vg)(id:Int)(p q:Pg)(sep:ByteArray)(ps:List Pt)(k:Nat):List aB:=
 [bD B.b2 B.b3 B.b5 (.iface 74 (.pointer (some ⟨B.bw,0,none⟩))) (aaV B),blk B.Jq (.cells #[(.pointer (some ⟨B.bw,0,none⟩))] 74),blk B.Jr (.cells #[.string sep] 9),blk B.iU (.cells #[(.pointer (some ⟨b,0,none⟩))] 82),blk B.Mo (.cells #[.int .i64 (q).az,B.vq,.string (q).hi,.bool (q).la,.int .u64 (q).ri] 43),
  mz B.bn id (aO 0) p B.va B.g B.cap ps k,ak (.slice (some ⟨B.g,0,none⟩) ps.length B.cap) 139 4 ps.length (ck ps),blk B.bw (.cells #[(.pointer (some ⟨B.bn,0,none⟩))] 145),bq B.va p,bq B.vq q]
def wT (K:aK)(REST:List aB)(b:Nat)(nx:Value)(d:aR)(x:oQ)(id:Int)(p:Pg)(sep:ByteArray)(ρ:Nat->Option Value)(W:World):Prop:=
 ∃ (a1:Option Addr) (c1:Nat),(∀ v,ρ 3=some v->v=(.agg #[.int .u64 id,.int .u64 (aO 0),.int .i64 (p).az,(.slice a1 p.sl.length c1),.string (p).hi,.bool (p).la,.int .u64 (p).ri])) /\
  St K W (dA (ρ 3) (bq (.slice a1 p.sl.length c1) p)::bz b nx d { x with ri:=if (ρ 7).isSome then⟨id,aO 0,p⟩else x.ri,vr:=if (ρ 7).isSome then .slice a1 p.sl.length c1 else x.vr,sep:=if (ρ 10).isSome then sep else x.sep }::REST)
section
variable {K:aK}{REST:List aB}{b:Nat}{nx:Value}{d:aR}{x:oQ}{id:Int}{p:Pg}{sep:ByteArray}{ρ:Nat->Option Value}{W:World}{v3:Value}
theorem wT.start (hs:St K W (bz b nx d x::REST)):wT K REST b nx d x id p sep (fun _=>none) W:=⟨none,0,fun v h=>(by cases h),hs.empty⟩
theorem wT.same {W':World}(h:wT K REST b nx d x id p sep ρ W)(hb:Below W.heap.size W W'):wT K REST b nx d x id p sep ρ W' := by
 obtain⟨a1,c1,e,hs⟩:=h;exact⟨a1,c1,e,hs.same hb⟩
theorem wT.rest (h:wT K REST b nx d x id p sep ρ W):St K W REST:=by
 obtain⟨a1,c1,e,hs⟩:=h;exact hs.tail.tail
theorem wT.e3 (h:wT K REST b nx d x id p sep ρ W)(h3:ρ 3=none)(h7:ρ 7=none):∃ R',St K W (R' :: REST)/\∀ (a1:Option Addr)(c1:Nat) W',St K W' (bq (.slice a1 p.sl.length c1) p::R' :: REST)->wT K REST b nx d x id p sep (upd ρ 3 (.agg #[.int .u64 id,.int .u64 (aO 0),.int .i64 (p).az,(.slice a1 p.sl.length c1),.string (p).hi,.bool (p).la,.int .u64 (p).ri])) W' := by
 obtain⟨a0,c0,e,hs⟩:=h;rw[h3,h7]at hs;refine⟨_,hs.tail,fun a1 c1 W' hs' => ⟨a1,c1,fun v hv=>by rw[cC]at hv;exact(aqu hv).symm,?_⟩⟩
 rw[cC,upd_ne (by omega),upd_ne (by omega),h7]
 exact hs'
theorem wT.e7 (h:wT K REST b nx d x id p sep ρ W)(h3:ρ 3=some v3)(h7:ρ 7=none):∃ (a1:Option Addr)(c1:Nat)(s':ByteArray)(R':List aB),v3=(.agg #[.int .u64 id,.int .u64 (aO 0),.int .i64 (p).az,(.slice a1 p.sl.length c1),.string (p).hi,.bool (p).la,.int .u64 (p).ri])/\St K W (bz b nx d { x with sep:=s' }::R') /\
  ∀ W',St K W' (bz b nx d { x with ri:=⟨id,aO 0,p⟩,vr:= .slice a1 p.sl.length c1,sep:=s' }::R')->wT K REST b nx d x id p sep (upd ρ 7 undef) W' := by
 obtain⟨a1,c1,e,hs⟩:=h;rw[h3,h7]at hs;refine⟨a1,c1,_,_,e v3 h3,hs.b1,fun W' hs' => ⟨a1,c1,fun v hv=>e v (by rwa [upd_ne (by omega)]at hv),?_⟩⟩
 rw[upd_ne (by omega),cC,upd_ne (by omega),h3]
 exact hs'.b1
theorem wT.Wu (h:wT K REST b nx d x id p sep ρ W)(h10:ρ 10=none):∃ (r':cB)(v':Value)(R':List aB),St K W (bz b nx d { x with ri:=r',vr:=v' }::R') /\
  ∀ W',St K W' (bz b nx d { x with ri:=r',vr:=v',sep:=sep }::R')->wT K REST b nx d x id p sep (upd ρ 10 undef) W' := by
 obtain⟨a1,c1,e,hs⟩:=h;rw[h10]at hs;refine⟨_,_,_,hs.b1,fun W' hs' => ⟨a1,c1,fun v hv=>e v (by rwa [upd_ne (by omega)]at hv),?_⟩⟩
 rw[upd_ne (by omega),upd_ne (by omega),cC]
 exact hs'.b1
theorem wT.last (h:wT K REST b nx d x id p sep ρ W)(hall:∀ e,e∈[3,7,10]->(ρ e).isSome=true):∃ (a1:Option Addr)(c1:Nat),(∃ v,ρ 3=some v)/\(∃ v,ρ 7=some v)/\(∃ v,ρ 10=some v) /\
  St K W (bq (.slice a1 p.sl.length c1) p::bz b nx d { x with ri:=⟨id,aO 0,p⟩,vr:= .slice a1 p.sl.length c1,sep:=sep }::REST):=by
 obtain⟨v3,h3⟩:=aqr.1 (hall 3 (by simp))
 obtain⟨v7,h7⟩:=aqr.1 (hall 7 (by simp))
 obtain⟨v10,h10⟩:=aqr.1 (hall 10 (by simp))
 obtain⟨a1,c1,e,hs⟩:=h;rw[h3,h7,h10]at hs;exact⟨a1,c1,⟨v3,h3⟩,⟨v7,h7⟩,⟨v10,h10⟩,hs⟩
end
section
variable {K:aK}{w:World}{F:List aB}{b:Nat}{nx:Value}{d:aR}{x:oQ}{p q:Pg}{id:Int}{sep:ByteArray}{B:Vg}{ps:List Pt}{af aq:Option Addr}{cf cq:Nat}
theorem Rt (hd:d.Ok)(hfr:x.fr.Ok d)(hq:oM d q)(hql:0<=q.az/\q.az<1000000)(hn:p.sl.length<=1000000)(hv:x.vf=.slice af x.fr.pg.sl.length cf)(y8:B.vq=.slice aq q.sl.length cq)(hs:St K w (bz b nx d x::bq x.vf x.fr.pg::(Mp b B id p q sep ps ps.length++F))) :
  Calls Tryz.prog 136 #[(.pointer (some ⟨B.Jq,0,none⟩)),(.pointer (some ⟨B.Jr,0,none⟩)),(.pointer (some ⟨B.iU,0,none⟩)),(.pointer (some ⟨B.Mo,0,none⟩))] w fun e w' => ∃ (va:Value) (B':Rq) (ps':List Pt),e=.returned (aX (some (oh B')))/\nE d x.fr q ps' /\
   St K w' (bz b nx d { x with ri:=⟨id,aO 0,p⟩,vr:=va,sep:=sep }::bq x.vf x.fr.pg::bq va p::bq B.vq q::(Eb b B' x.fr.id (dM (bC x.fr.word)) q ps' 0++F)):=by
 obtain⟨b2,b3,b5,Jq,Jr,iU,Mo,bw,bn,g,cap,va,vq⟩:=B;simp only at y8;subst y8;have hs:St K w (bz b nx d x::bq x.vf x.fr.pg::bD b2 b3 b5 _ _::blk Jq (.cells #[(.pointer (some ⟨bw,0,none⟩))] 74)::blk Jr (.cells #[.string sep] 9)::blk iU (.cells #[(.pointer (some ⟨b,0,none⟩))] 82)::blk Mo (.cells #[.int .i64 (q).az,(.slice aq q.sl.length cq),.string (q).hi,.bool (q).la,.int .u64 (q).ri] 43) ::
  mz bn id (aO 0) p va g cap ps ps.length::ak (.slice (some ⟨g,0,none⟩) ps.length cap) 139 4 ps.length (ck ps)::blk bw (.cells #[(.pointer (some ⟨bn,0,none⟩))] 145)::bq va p::bq (.slice aq q.sl.length cq) q::F):=hs
 have hs:St K w (bz b nx d x::blk Jq (.cells #[(.pointer (some ⟨bw,0,none⟩))] 74)::blk Jr (.cells #[.string sep] 9)::blk iU (.cells #[(.pointer (some ⟨b,0,none⟩))] 82)::blk Mo (.cells #[.int .i64 (q).az,(.slice aq q.sl.length cq),.string (q).hi,.bool (q).la,.int .u64 (q).ri] 43) ::
  mz bn id (aO 0) p va g cap ps ps.length::bq va p::blk bw (.cells #[(.pointer (some ⟨bn,0,none⟩))] 145)::bq x.vf x.fr.pg::bq (.slice aq q.sl.length cq) q::F):=(hs.re [2,8,0,3,4,5,6,7,10,9,1,11] rfl).tail.tail
 obtain⟨av,cv,Ob,_,_⟩:=(show St K w (ak va 69 2 p.sl.length (aD p.sl)::_)from hs.b6).aF
 subst Ob;have Hfr:=aqo hfr;have Hv:=aqo hv;have Hs:=aqo hs;clear hs hfr hv;go_enter Tryz.func136,Tryz.ntmps136
 go_upto_region 1 with(fail)
 refine aT [false,false,false,true,false,false,false,true,false,false,true] [3,7,10] (fun|7=>[3] | _=>[])
  (wT K (blk Jq (.cells #[(.pointer (some ⟨bw,0,none⟩))] 74)::blk Jr (.cells #[.string sep] 9)::blk iU (.cells #[(.pointer (some ⟨b,0,none⟩))] 82)::blk Mo (.cells #[.int .i64 (q).az,(.slice aq q.sl.length cq),.string (q).hi,.bool (q).la,.int .u64 (q).ri] 43) ::
   mz bn id (aO 0) p (.slice av p.sl.length cv) g cap ps ps.length::bq (.slice av p.sl.length cv) p::blk bw (.cells #[(.pointer (some ⟨bn,0,none⟩))] 145)::bq x.vf x.fr.pg::bq (.slice aq q.sl.length cq) q::F) b nx d x id p sep)
  (fun W=>∃ cs,St K W (blk Jq (.cells #[(.pointer (some ⟨bw,0,none⟩))] 74)::blk Jr (.cells #[.string sep] 9)::blk iU (.cells #[(.pointer (some ⟨b,0,none⟩))] 82)::cs)) ?aS (by kernel_rfl) ?hB ?H ?iA ?h0 ?hI ?hR ?hE ?hQ
 case hB=>as_aux_lemma=>kernel_rfl
 case H=>
  rintro W2 ⟨cs,hs⟩;have k1:=hs.k0;have k2:=hs.k1;have k3:=hs.k2;clear hs;simp only[bK];repeat (go_big_quiet_step (fail))
  refine wpQuiet_nil ?_
  rfl
 case iA=>rfl
 case h0=>exact wT.start Hs.out
 case hI=>exact fun ρ W2 h=>⟨_,h.rest⟩
 case hR=>exact fun ρ W2 W3 h hb=>h.same hb
 case hE=>
  refine⟨?e3,?e7,?Wu,trivial⟩;case e3=>
   intro o ho ρ W2 h hcl h3 hd2 dW aC;obtain rfl:=aqu ho;replace aC:dW=aj _ ρ [] _:=aC;have h7:ρ 7=none:=hcl.none (by simp) (show 3∈[3]by simp) h3
   obtain⟨R',hs,hnext⟩:=h.e3 h3 h7;simp only[aj]at aC;subst aC;have Hn:=aqo hnext;clear hnext hcl hd2 h3 h7 h;go_wp2_with fail
   refine(qa hn (hs.re [5,6,7,0,1,2,3,4] rfl)).mono ?_
   rintro e W3 ⟨kW,rfl,hs'⟩;obtain⟨a1,c1,rfl,_,_⟩:=hs'.aF;have dZ:=aqo (hs'.re [0,4,5,6,7,8,1,2,3] rfl);clear hs hs';go_wp2
   exact⟨rfl,_,rfl,Hn.out a1 c1 W3 dZ.out⟩
  case e7=>
   intro o ho ρ W2 h hcl h7 hd2 dW aC;obtain rfl:=aqu ho;replace aC:dW=aj _ ρ [3] _:=aC;obtain⟨v3,h3⟩:=aqr.1 (hd2 3 (by show _∈[3];simp))
   obtain⟨a1,c1,s',R',rfl,hs,hnext⟩:=h.e7 h3 h7;simp only[aj,h3,Option.getD_some,aL,Act.put,aqv]at aC;subst aC;have k:=hs.k0;have kf:=hs.f0;unfold dK vD at k;have gh:Hid (St K _ (bz b nx d { x with ri:=⟨id,aO 0,p⟩,vr:= .slice a1 p.sl.length c1,sep:=s' }::R')):=aqo (((((((hs.aI 29 (.int .u64 id)).aI 30 (.int .u64 (aO 0))).aI 31 (.int .i64 p.az)).aI 32 (.slice a1 p.sl.length c1)).aI 33 (.string p.hi)).aI 34 (.bool p.la)).aI 35 (.int .u64 p.ri));have Hn:=aqo hnext;clear hs hnext hcl hd2 h h3 h7;go_wp2
   exact⟨rfl,undef,rfl,Hn.out _ gh.out⟩
  case Wu=>
   intro o ho ρ W2 h hcl h10 hd2 dW aC;obtain rfl:=aqu ho;replace aC:dW=aj _ ρ [] _:=aC;obtain⟨r',v',R',hs,hnext⟩:=h.Wu h10;simp only[aj]at aC;subst aC;have k:=hs.k0;have kf:=hs.f0;unfold dK vD at k;have gh:Hid (St K _ (bz b nx d { x with ri:=r',vr:=v',sep:=sep }::R')):=aqo (hs.aI 36 (.string sep));have Hn:=aqo hnext;clear hs hnext hcl hd2 h h10;go_wp2
   exact⟨rfl,undef,rfl,Hn.out _ gh.out⟩
 case hQ=>
  intro ρ W2 h hall;obtain⟨a1,c1,⟨v3,h3⟩,⟨v7,h7⟩,⟨v10,h10⟩,hs⟩:=h.last hall;simp only[aj,h3,h7,h10,Option.getD_some,aL,Act.put,aqv];clear h hall h3 h7 h10 Hs;have ki:=hs.tail.tail.tail.k1;have kl:=hs.tail.tail.tail.k2;have hs:St K W2 (bz b nx d { x with ri:=⟨id,aO 0,p⟩,vr:= .slice a1 p.sl.length c1,sep:=sep }::bq x.vf x.fr.pg::bq (.slice aq q.sl.length cq) q::bq (.slice a1 p.sl.length c1) p::F):=(hs.re [2,3,4,5,6,7,8,1,9,10,0] rfl).tail.tail.tail.tail.tail.tail.tail;have qw:=rL (x:={ x with ri:=⟨id,aO 0,p⟩,vr:= .slice a1 p.sl.length c1,sep:=sep }) hd Hfr.out hq hql Hv.out hs;have Q:=aqo qw;clear qw hs;go_wp2_with fail
  refine(Q.out).mono ?_
  rintro e W3 ⟨B',ps',rfl,hps,hs⟩;have yf:=aqo hps;have dZ:=aqo hs;clear hs hps ki kl Q;simp only[oh,aA,aX];go_wp2
  go_ret;exact⟨_,B',ps',rfl,yf.out,(show St K W3 (_::_::_::_::_::_::_::_::_::_::_::F)from dZ.out).re [0,1,10,2,3,4,5,6,7,8,9] rfl⟩
end
def ah4 (d:aR)(id:Int)(p:Pg)(v:Value)(C:List aB):Prop:=
 ∃ (bw bn g cap:Nat) (va:Value) (ps:List Pt),v=(.pointer (some ⟨bw,0,none⟩))/\ps=⟨d.node id 0,⟨aO 0,⟨#[]⟩,0⟩⟩::bN d id p/\C=[mz bn id (aO 0) p va g cap ps 0,ak (.slice (some ⟨g,0,none⟩) ps.length cap) 139 4 ps.length (ck ps),blk bw (.cells #[(.pointer (some ⟨bn,0,none⟩))] 145),bq va p]
section
variable {K:aK}{w:World}{F:List aB}{b:Nat}{nx:Value}{d:aR}{x:oQ}{id:Int}{au:Option Addr}{cu:Nat}
theorem Bo (hd:d.Ok)(hid:0<=id/\id<18446744073709551616)(hul:0<=x.fu.az/\x.fu.az<1000000)(h2:2<=x.fu.sl.length)(hle:(x.fu.sl.length:Int)<=d.fa+1)(hsz:∀ s,s∈x.fu.sl->s.k.size<=1000000)(hvu:x.vu=.slice au x.fu.sl.length cu)
  (hs:St K w (bz b nx d x::bq x.vu x.fu::F)) :
  Calls Tryz.prog 102 #[(.pointer (some ⟨b,0,none⟩)),.int .u64 id] w fun e w' => ∃ (B:Vg) (ps:List Pt),e=.returned (aX (some (sj B)))/\ps=⟨d.node id 0,⟨aO 0,⟨#[]⟩,0⟩⟩::bN d id (dD x.fu)/\(∃ a c,B.vq=.slice a (fy x.fu id).sl.length c) /\
   St K w' (bz b nx d x::bq x.vu x.fu::(Mp b B id (dD x.fu) (fy x.fu id) (bM x.fu) ps 0++F)):=by
 obtain⟨fr,vf,fu,vu,err,le,vl,ri,vr,sep,on⟩:=x;simp only at hvu hul h2 hle hsz;subst hvu;have hf2:=hd.mV;have QS:=aqo (fun W (R:List aB) (h:St K W (bq (.slice au fu.sl.length cu) fu::R))=>xW (right:=id) h2 (by omega) hsz h)
 have hs:=hs.made (.cells #[(.pointer (some ⟨b,0,none⟩))] 82);have k:=hs.k1;unfold dK vD at k;have ki:=hs.k0;obtain⟨bi,hbi⟩:∃ bi,bi=w.heap.size:=⟨_,rfl⟩;go_enter Tryz.func102,Tryz.ntmps102
 go_wp2_with fail
 rw[← hbi]at hs ⊢;clear hbi;refine(QS.out _ _ (hs.re [2,0,1] rfl)).mono ?_
 clear hs k ki;rintro e w2 ⟨a1,c1,a2,c2,rfl,hs⟩;have hpl:0<=(dD fu).az/\(dD fu).az<1000000:=hul;have hpn:((dD fu).sl.length:Int)<=d.fa:=by
  show((fu.sl.drop (gm fu.sl.length)).length:Int)<=d.fa
  have Wc:=hd.fw;rw[List.length_drop];unfold gm;omega
 obtain⟨p,hp⟩:∃ p,p=dD fu:=⟨_,rfl⟩;obtain⟨q,hq⟩:∃ q,q=fy fu id:=⟨_,rfl⟩;obtain⟨sp,hsp⟩:∃ sp,sp=bM fu:=⟨_,rfl⟩;rw[← hp,← hq,← hsp];rw[← hp]at hpl hpn hs;rw[← hq]at hs;have Hp:=aqo hp;have Hq:=aqo hq;have Hsp:=aqo hsp;clear hp hq hsp;have hs:=((hs.made (.cells #[.int .i64 (q).az,(.slice a1 q.sl.length c1),.string (q).hi,.bool (q).la,.int .u64 (q).ri] 43)).made (.cells #[.int .i64 (p).az,(.slice a2 p.sl.length c2),.string (p).hi,.bool (p).la,.int .u64 (p).ri] 43)).made (.cells #[.string sp] 9);simp only[World.size_alloc]at hs;obtain⟨bl,hbl⟩:∃ bl,bl=w2.heap.size:=⟨_,rfl⟩;rw[show w2.heap.size+1+1=w2.heap.size+2 by omega,← hbl]at hs
 have QN:=aqo (fun W (R:List aB) (h:St K W (bq (.slice a2 p.sl.length c2) p::R))=>rJ (id:=id) hd hid hpl hpn h)
 go_upto_region 2 with(fail)
 rw[show w2.heap.size+1+1=w2.heap.size+2 by omega,← hbl]
 clear hbl;have Hs:Hid (St K _ (bq (.slice a2 p.sl.length c2) p::bz b nx d ⟨fr,vf,fu,.slice au fu.sl.length cu,err,le,vl,ri,vr,sep,on⟩::blk bi (.cells #[(.pointer (some ⟨b,0,none⟩))] 82)::blk (bl+1) (.cells #[.int .i64 (p).az,(.slice a2 p.sl.length c2),.string (p).hi,.bool (p).la,.int .u64 (p).ri] 43)::blk (bl+2) (.cells #[.string sp] 9)::blk bl (.cells #[.int .i64 (q).az,(.slice a1 q.sl.length c1),.string (q).hi,.bool (q).la,.int .u64 (q).ri] 43)::bq (.slice a1 q.sl.length c1) q::bq (.slice au fu.sl.length cu) fu::F)):=aqo (hs.re [4,7,6,1,0,2,3,5] rfl);clear hs;refine aT [false,false,false,false,false,false,true,true,true] [6,7,8] (fun|8=>[6,7] | _=>[])
  (oA K (bq (.slice a2 p.sl.length c2) p::bz b nx d ⟨fr,vf,fu,.slice au fu.sl.length cu,err,le,vl,ri,vr,sep,on⟩::blk bi (.cells #[(.pointer (some ⟨b,0,none⟩))] 82)::blk (bl+1) (.cells #[.int .i64 (p).az,(.slice a2 p.sl.length c2),.string (p).hi,.bool (p).la,.int .u64 (p).ri] 43)::blk (bl+2) (.cells #[.string sp] 9)::blk bl (.cells #[.int .i64 (q).az,(.slice a1 q.sl.length c1),.string (q).hi,.bool (q).la,.int .u64 (q).ri] 43)::bq (.slice a1 q.sl.length c1) q::bq (.slice au fu.sl.length cu) fu::F) 74 (.pointer none) 6 7 8 (ah4 d id p))
  (fun W=>St K W (bq (.slice a2 p.sl.length c2) p::bz b nx d ⟨fr,vf,fu,.slice au fu.sl.length cu,err,le,vl,ri,vr,sep,on⟩::blk bi (.cells #[(.pointer (some ⟨b,0,none⟩))] 82)::blk (bl+1) (.cells #[.int .i64 (p).az,(.slice a2 p.sl.length c2),.string (p).hi,.bool (p).la,.int .u64 (p).ri] 43)::blk (bl+2) (.cells #[.string sp] 9)::blk bl (.cells #[.int .i64 (q).az,(.slice a1 q.sl.length c1),.string (q).hi,.bool (q).la,.int .u64 (q).ri] 43)::bq (.slice a1 q.sl.length c1) q::bq (.slice au fu.sl.length cu) fu::F)) ?aS (by kernel_rfl) ?hB ?H ?iA ?h0 ?hI ?hR ?hE ?hQ
 case hB=>as_aux_lemma=>kernel_rfl
 case H=>
  intro W2 hs;have k:=hs.k1;unfold dK vD at k;have ki:=hs.k2;have kp:=hs.tail.k2;clear hs;simp only[bK];repeat (go_big_quiet_step (fail))
  refine wpQuiet_nil ?_
  rfl
 case iA=>rfl
 case h0=>exact oA.start Hs.out
 case hI=>exact fun ρ W2 h=>h.rest
 case hR=>exact fun ρ W2 W3 h hb=>h.same hb
 case hE=>
  refine⟨?e6,?e7,?e8,trivial⟩;case e6=>
   intro o ho ρ W2 h hcl h6 hd2 dW aC;obtain rfl:=aqu ho;replace aC:dW=aj _ ρ [] _:=aC;have h8:ρ 8=none:=hcl.none (by simp) (show 6∈[6,7]by simp) h6
   obtain⟨X,hs,hnext⟩:=h.call (by omega) (by omega) h6 h8
   simp only[aj]at aC;subst aC;have Hn:=aqo hnext;clear hnext hcl hd2 h6 h8 h;go_wp2_with fail
   refine(QN.out _ _ hs).mono ?_
   rintro e W3 ⟨bw,bn,g,cap,va,ps,rfl,hps,hs'⟩;have dZ:=aqo hs';have yf:=aqo hps;clear hs hs' hps;go_wp2
   exact⟨rfl,_,rfl,Hn.out _ _ W3 ⟨bw,bn,g,cap,va,ps,rfl,yf.out,rfl⟩ dZ.out⟩
  case e7=>
   intro o ho ρ W2 h hcl h7 hd2 dW aC;obtain rfl:=aqu ho;replace aC:dW=aj _ ρ [] _:=aC;have h8:ρ 8=none:=hcl.none (by simp) (show 7∈[6,7]by simp) h7
   have Hn:=aqo (h.var (by omega) (by omega) h7 h8)
   simp only[aj]at aC;subst aC;clear hcl hd2 h7 h8 h;go_wp2
   exact⟨rfl,_,rfl,Hn.out⟩
  case e8=>
   intro o ho ρ W2 h hcl h8 hd2 dW aC;obtain rfl:=aqu ho;replace aC:dW=aj _ ρ [6,7] _:=aC;obtain⟨v6,h6⟩:=aqr.1 (hd2 6 (by show _∈[6,7];simp))
   obtain⟨v7,h7⟩:=aqr.1 (hd2 7 (by show _∈[6,7];simp))
   obtain⟨bv,R',rfl,⟨C,bw,bn,g,cap,va,ps,rfl,_,_⟩,hs,hnext⟩:=h.store (by omega) (by omega) h6 h7 h8
   simp only[aj,h6,h7,Option.getD_some,aL,Act.put,aqv]at aC;subst aC;have k0:=hs.k0;have f0:=hs.f0;have gh:Hid (St K _ (blk bv (.cells #[(.pointer (some ⟨bw,0,none⟩))] 74)::R')):=aqo (hs.aI 0 (.pointer (some ⟨bw,0,none⟩)));have Hn:=aqo hnext;clear hs hnext hcl hd2 h h6 h7 h8;go_wp2
   exact⟨rfl,undef,rfl,Hn.out _ gh.out⟩
 case hQ=>
  intro ρ W2 h hall;obtain⟨bv,v,C,h6,h7,⟨v8,h8⟩,⟨bw,bn,g,cap,va,ps,rfl,hps,rfl⟩,hs⟩:=h.last hall;simp only[aj,h6,h7,h8,Option.getD_some,aL,Act.put,aqv];have yf:=aqo hps;clear h hall h6 h7 h8 hps;have kv:=hs.k0;have q1:=fF (T2:=74) (xv:=(.pointer (some ⟨bw,0,none⟩))) (f:=136) (tx:= #[]) (ty:= #[(.pointer (some ⟨bv,0,none⟩)),(.pointer (some ⟨(bl+2),0,none⟩)),(.pointer (some ⟨bi,0,none⟩)),(.pointer (some ⟨bl,0,none⟩))]) hs;have Q:=aqo q1;clear q1 hs;go_wp2_with fail
  refine(Q.out).mono ?_
  rintro e W3 ⟨b2,b3,b5,rfl,hs⟩;have dZ:=aqo hs;clear hs kv Q;simp only[aA,aX];go_wp2
  go_ret;refine⟨⟨b2,b3,b5,bv,bl+2,bi,bl,bw,bn,g,cap,va,.slice a1 q.sl.length c1⟩,ps,rfl,by rw[← Hp.out];exact yf.out,⟨a1,c1,by rw[← Hq.out]⟩,?_⟩
  rw[← Hp.out,← Hq.out,← Hsp.out];exact((show St K W3 (_::_::_::_::_::_::_::_::_::_::_::_::_::_::F)from dZ.out).re [6,9,7,13,0,1,10,8,11,2,3,4,5,12] rfl).tail.tail
end
structure TkB where
 b2:Nat
 b3:Nat
 b5:Nat
 Ec:Nat
 iU:Nat
 bt:Nat
def aaX (B:TkB):Value:= .func (.func 100) #[] #[(.pointer (some ⟨B.Ec,0,none⟩)),(.pointer (some ⟨B.iU,0,none⟩))]
def Gf (B:TkB):FV:=aA B.b2 B.b3 B.b5
def Vh (b:Nat)(B:TkB)(i lim:Int)(s:iy):List aB:=
 [bD B.b2 B.b3 B.b5 (.iface 156 (.pointer (some ⟨B.bt,0,none⟩))) (aaX B),blk B.Ec (.cells #[(.pointer (some ⟨B.bt,0,none⟩))] 156),blk B.iU (.cells #[(.pointer (some ⟨b,0,none⟩))] 82),gH B.bt i lim s]
def T1R (K:aK)(REST:List aB)(b:Nat)(nx:Value)(d:aR)(x:oQ)(ρ:Nat->Option Value)(W:World):Prop:=
 St K W (bz b nx d { x with err:=if (ρ 8).isSome then 2 else x.err,le:=if (ρ 11).isSome then x.fr else x.le,vl:=if (ρ 11).isSome then x.vf else x.vl }::REST)
section
variable {K:aK}{w:World}{F:List aB}{b:Nat}{nx:Value}{d:aR}{x:oQ}{i lim:Int}{s:iy}{B:TkB}{af au:Option Addr}{cf cu:Nat}
theorem Ru (hv:x.vf=.slice af x.fr.pg.sl.length cf)(hok:s.ok=false)(hs:St K w (bz b nx d x::(Vh b B i lim s++F))) :
  Calls Tryz.prog 100 #[(.pointer (some ⟨B.Ec,0,none⟩)),(.pointer (some ⟨B.iU,0,none⟩))] w fun e w' => e=.returned (aX none)/\St K w' (bz b nx d { x with err:=2,le:=x.fr,vl:=x.vf }::F):=by
 obtain⟨b2,b3,b5,Ec,iU,bt⟩:=B;obtain⟨fr,vf,fu,vu,err,le,vl,ri,vr,sep,on⟩:=x;simp only at hv;subst hv;have hs:St K w (bz b nx d ⟨fr,.slice af fr.pg.sl.length cf,fu,vu,err,le,vl,ri,vr,sep,on⟩::bD b2 b3 b5 _ _::blk Ec (.cells #[(.pointer (some ⟨bt,0,none⟩))] 156)::blk iU (.cells #[(.pointer (some ⟨b,0,none⟩))] 82)::gH bt i lim s::F):=hs;have kt:=hs.k2;have q:=kE (i:=i) (lim:=lim) (s:=s) hs.b4.head (fun e=>by rw[hok]at e;cases e)
 rw[hok]at q;have Q:=aqo q;clear q;go_enter Tryz.func100,Tryz.ntmps100
 go_wp2_with fail
 refine(Q.out).mono ?_
 rintro e w2 ⟨rfl,rfl⟩;clear kt Q;go_upto_region 3 with(fail)
 have Hs:Hid (St K _ (bz b nx d ⟨fr,.slice af fr.pg.sl.length cf,fu,vu,err,le,vl,ri,vr,sep,on⟩::blk iU (.cells #[(.pointer (some ⟨b,0,none⟩))] 82)::F)):=aqo (hs.re [1,2,4,0,3] rfl).tail.tail.tail;clear hs;refine aT [false,false,false,false,false,false,false,false,true,false,false,true] [8,11] (fun _=>[])
  (T1R K (blk iU (.cells #[(.pointer (some ⟨b,0,none⟩))] 82)::F) b nx d ⟨fr,.slice af fr.pg.sl.length cf,fu,vu,err,le,vl,ri,vr,sep,on⟩)
  (fun W=>∃ err' le' vl',St K W (bz b nx d ⟨fr,.slice af fr.pg.sl.length cf,fu,vu,err',le',vl',ri,vr,sep,on⟩::blk iU (.cells #[(.pointer (some ⟨b,0,none⟩))] 82)::F)) ?aS (by kernel_rfl) ?hB ?H ?iA ?h0 ?hI ?hR ?hE ?hQ
 case hB=>as_aux_lemma=>kernel_rfl
 case H=>
  rintro W2 ⟨err',le',vl',hs⟩;have k:=hs.k0;unfold dK vD at k;have ki:=hs.k1;clear hs;simp only[bK];repeat (go_big_quiet_step (fail))
  refine wpQuiet_nil ?_
  rfl
 case iA=>rfl
 case h0=>exact Hs.out
 case hI=>exact fun ρ W2 h=>⟨_,_,_,h⟩
 case hR=>exact fun ρ W2 W3 h hb=>St.same h hb
 case hE=>
  refine⟨?e8,?e11,trivial⟩;case e8=>
   intro o ho ρ W2 h hcl h8 hd2 dW aC;obtain rfl:=aqu ho;replace aC:dW=aj _ ρ [] _:=aC;simp only[aj]at aC;subst aC;unfold T1R at h;rw[h8]at h;obtain⟨l2,hl2⟩:∃ l2:cB,l2=(if (ρ 11).isSome=true then fr else le):=⟨_,rfl⟩
   obtain⟨v2,hv2⟩:∃ v2:Value,v2=(if (ρ 11).isSome=true then .slice af fr.pg.sl.length cf else vl):=⟨_,rfl⟩
   have hs:St K W2 (bz b nx d ⟨fr,.slice af fr.pg.sl.length cf,fu,vu,err,l2,v2,ri,vr,sep,on⟩::blk iU (.cells #[(.pointer (some ⟨b,0,none⟩))] 82)::F):=by rw[hl2,hv2];exact h
   have Hl2:=aqo hl2;have Hv2:=aqo hv2;have k:=hs.k0;have kf:=hs.f0;unfold dK vD at k;have gh:Hid (St K _ (bz b nx d ⟨fr,.slice af fr.pg.sl.length cf,fu,vu,2,l2,v2,ri,vr,sep,on⟩::blk iU (.cells #[(.pointer (some ⟨b,0,none⟩))] 82)::F)):=aqo (hs.aI 21 (.int .i64 2));clear h hs hcl hd2 hl2 hv2;go_wp2
   refine⟨rfl,undef,rfl,?_⟩;unfold T1R;rw[cC,upd_ne (by omega)]
   have:=gh.out;rw[Hl2.out,Hv2.out]at this;exact this
  case e11=>
   intro o ho ρ W2 h hcl h11 hd2 dW aC;obtain rfl:=aqu ho;replace aC:dW=aj _ ρ [] _:=aC;simp only[aj]at aC;subst aC;unfold T1R at h;rw[h11]at h;obtain⟨e2,he2⟩:∃ e2:Int,e2=(if (ρ 8).isSome=true then 2 else err):=⟨_,rfl⟩
   have hs:St K W2 (bz b nx d ⟨fr,.slice af fr.pg.sl.length cf,fu,vu,e2,le,vl,ri,vr,sep,on⟩::blk iU (.cells #[(.pointer (some ⟨b,0,none⟩))] 82)::F):=by rw[he2];exact h
   have He2:=aqo he2;have k:=hs.k0;have kf:=hs.f0;unfold dK vD at k;have gh:Hid (St K _ (bz b nx d ⟨fr,.slice af fr.pg.sl.length cf,fu,vu,e2,fr,.slice af fr.pg.sl.length cf,ri,vr,sep,on⟩::blk iU (.cells #[(.pointer (some ⟨b,0,none⟩))] 82)::F)):=aqo (((((((hs.aI 22 (.int .u64 fr.id)).aI 23 (.int .u64 fr.word)).aI 24 (.int .i64 fr.pg.az)).aI 25 (.slice af fr.pg.sl.length cf)).aI 26 (.string fr.pg.hi)).aI 27 (.bool fr.pg.la)).aI 28 (.int .u64 fr.pg.ri));clear h hs hcl hd2 he2;go_wp2
   refine⟨rfl,undef,rfl,?_⟩;unfold T1R;rw[cC,upd_ne (by omega)]
   have:=gh.out;rw[He2.out]at this;exact this
 case hQ=>
  intro ρ W2 h hall;obtain⟨v8,h8⟩:=aqr.1 (hall 8 (by simp))
  obtain⟨v11,h11⟩:=aqr.1 (hall 11 (by simp))
  unfold T1R at h;rw[h8,h11]at h;have hs:St K W2 (bz b nx d ⟨fr,.slice af fr.pg.sl.length cf,fu,vu,2,fr,.slice af fr.pg.sl.length cf,ri,vr,sep,on⟩::blk iU (.cells #[(.pointer (some ⟨b,0,none⟩))] 82)::F):=h;simp only[aj,h8,h11,Option.getD_some,aL,List.getElem?_cons_succ,List.getElem?_cons_zero,Option.bind_some,Option.bind_none,Act.put];clear h hall h8 h11 Hs;go_wp2
  go_ret;exact⟨rfl,hs.b1.tail⟩
theorem Mq (hd:d.Ok)(hul:0<=x.fu.az/\x.fu.az<1000000)(h2:2<=x.fu.sl.length)(hle:(x.fu.sl.length:Int)<=d.fa+1)(hsz:∀ s,s∈x.fu.sl->s.k.size<=1000000)(hvu:x.vu=.slice au x.fu.sl.length cu)(hok:s.ok=true)(hseen:0<=s.seen/\s.seen<18446744073709551615)
  (hs:St K w (bz b nx d x::bq x.vu x.fu::(Vh b B i lim s++F))) :
  Calls Tryz.prog 100 #[(.pointer (some ⟨B.Ec,0,none⟩)),(.pointer (some ⟨B.iU,0,none⟩))] w fun e w' => ∃ (B':Vg) (ps:List Pt),e=.returned (aX (some (sj B')))/\ps=⟨d.node (s.seen+1) 0,⟨aO 0,⟨#[]⟩,0⟩⟩::bN d (s.seen+1) (dD x.fu)/\(∃ a c,B'.vq=.slice a (fy x.fu (s.seen+1)).sl.length c) /\
   St K w' (bz b nx d x::bq x.vu x.fu::(Mp b B' (s.seen+1) (dD x.fu) (fy x.fu (s.seen+1)) (bM x.fu) ps 0++F)):=by
 obtain⟨b2,b3,b5,Ec,iU,bt⟩:=B;have hs:St K w (bz b nx d x::bq x.vu x.fu::bD b2 b3 b5 _ _::blk Ec (.cells #[(.pointer (some ⟨bt,0,none⟩))] 156)::blk iU (.cells #[(.pointer (some ⟨b,0,none⟩))] 82)::gH bt i lim s::F):=hs;have kt:=hs.tail.k2;have ki:=hs.tail.tail.k2;have q:=kE (i:=i) (lim:=lim) (s:=s) hs.b5.head (fun _=>hseen)
 rw[hok,if_pos rfl]at q;have Q:=aqo q;have q2:=Bo (id:=s.seen+1) hd (by omega) hul h2 hle hsz hvu ((hs.re [2,3,4,5,0,1] rfl).tail.tail.tail.tail)
 have Q2:=aqo q2;clear q q2 hs;go_enter Tryz.func100,Tryz.ntmps100
 go_wp2_with fail
 refine(Q.out).mono ?_
 rintro e w2 ⟨rfl,rfl⟩;clear kt Q;go_wp2_with fail
 refine(Q2.out).mono ?_
 rintro e w3 ⟨B',ps,rfl,hps,y8,hs⟩;have yf:=aqo hps;have Hvq:=aqo y8;have Hs:=aqo hs;clear hs hps y8 ki Q2;simp only[sj,aA,aX];go_wp2
 go_ret;exact⟨B',ps,rfl,yf.out,Hvq.out,Hs.out⟩
end
end Go.Proofs.YtlpdhhhgckpcfaaGreat
