/- The machine Insert. What follows a. -/
import Derived.Test.YtlpdhhhgckpcfaaGreatPageOps
import Derived.Test.YtlpdhhhgckpcfaaGreatNodeW
namespace Go.Proofs.YtlpdhhhgckpcfaaGreat
set_option linter.unusedSimpArgs false
set_option linter.unusedVariables false
open Go.RowKit
set_option maxHeartbeats 16000000
set_option maxRecDepth 100000
section
structure cm where
 id:Int
 word:Int
 pg:Pg
def vQ (h:cm)(va:Value)(rest:List Value):List Value:= .int .u64 h.id :: .int .u64 h.word :: .int .i64 h.pg.ak::va :: .string h.pg.hi :: .bool h.pg.la :: .int .u64 h.pg.ri::rest
structure o8 where
 fr:cm
 vf:Value
 fu:Pg
 vu:Value
 err:Int
 le:cm
 vl:Value
 ri:cm
 vr:Value
 sep:ByteArray
 on:Bool
def dL (nx:Value)(d:aR)(x:o8):List Value:=
 nx :: .bool x.on :: .int .i64 d.th :: .int .i64 d.sn :: .int .i64 d.no :: .int .i64 d.ch :: .int .i64 d.re :: .int .i64 d.fa :: .int .u64 d.cl ::
  vQ x.fr x.vf (.int .i64 x.fu.ak::x.vu :: .string x.fu.hi :: .bool x.fu.la :: .int .u64 x.fu.ri :: .int .i64 x.err::vQ x.le x.vl (vQ x.ri x.vr [.string x.sep]))
def bz (b:Nat)(nx:Value)(d:aR)(x:o8):aC:=blk b (.cells (dL nx d x).toArray 151)
structure Sy where
 b2:Nat
 b3:Nat
 b5:Nat
 Ep:Nat
 ja:Nat
 bw:Nat
 bn:Nat
 g:Nat
 cap:Nat
 va:Value
def abn (B:Sy):Value:= .func (.func 133) #[] #[(.pointer (some ⟨B.Ep,0,none⟩)),(.pointer (some ⟨B.ja,0,none⟩))]
def oz (B:Sy):FV:=aA B.b2 B.b3 B.b5
def Er (b:Nat)(B:Sy)(id word:Int)(p:Pg)(ps:List Pt)(k:Nat):List aC:=
 [bG B.b2 B.b3 B.b5 (.iface 76 (.pointer (some ⟨B.bw,0,none⟩))) (abn B),blk B.Ep (.cells #[(.pointer (some ⟨B.bw,0,none⟩))] 76),blk B.ja (.cells #[(.pointer (some ⟨b,0,none⟩))] 82),mH B.bn id word p B.va B.g B.cap ps k,
  az (.slice (some ⟨B.g,0,none⟩) ps.length B.cap) 139 4 ps.length (cj ps),blk B.bw (.cells #[(.pointer (some ⟨B.bn,0,none⟩))] 147),bu B.va p]
def nI (d:aR)(h:cm)(p:Pg)(ps:List Pt):Prop:=
 ∃mid,lz (bP d h.id h.pg) (bP d h.id p) mid/\ps=⟨d.node h.id 0,⟨bE h.word,⟨#[]⟩,0⟩⟩::mid++[⟨d.node h.id 0,⟨dM (bE h.word),⟨#[]⟩,0⟩⟩]
structure cm.Ok (d:aR)(h:cm):Prop where
 id:1<=h.id/\h.id<=d.no
 word:0<=h.word/\h.word<18446744073709551616
 pg:oW d h.pg
 ak:0<=h.pg.ak/\h.pg.ak<1000000
def aik (d:aR)(h:cm)(p:Pg)(v:Value)(C:List aC):Prop:=
 ∃(bw bn g cap:Nat) (va:Value) (ps:List Pt),v=(.pointer (some ⟨bw,0,none⟩))/\nI d h p ps/\C=[mH bn h.id (dM (bE h.word)) p va g cap ps 0,az (.slice (some ⟨g,0,none⟩) ps.length cap) 139 4 ps.length (cj ps),blk bw (.cells #[(.pointer (some ⟨bn,0,none⟩))] 147),bu va p]
section
variable {K:aL}{w:World}{F:List aC}{b:Nat}{nx:Value}{d:aR}{x:o8}{p:Pg}{ap af:Option Addr}{cp cf:Nat}
theorem rW (hd:d.Ok)(hfr:x.fr.Ok d)(hp:oW d p)(hpl:0<=p.ak/\p.ak<1000000)(hv:x.vf=.slice af x.fr.pg.sl.length cf)(hs:St K w (bz b nx d x::bu x.vf x.fr.pg::bu (.slice ap p.sl.length cp) p::F)) :
  Calls Tryz.prog 97 #[(.pointer (some ⟨b,0,none⟩)),(.agg #[.int .i64 (p).ak,(.slice ap p.sl.length cp),.string (p).hi,.bool (p).la,.int .u64 (p).ri])] w fun e w' => ∃(B:Sy) (ps:List Pt),e=.returned (aW (some (oz B)))/\nI d x.fr p ps /\
   St K w' (bz b nx d x::bu x.vf x.fr.pg::bu (.slice ap p.sl.length cp) p::(Er b B x.fr.id (dM (bE x.fr.word)) p ps 0++F)):=by
 obtain⟨fr,vf,fu,vu,err,le,vl,ri,vr,sep,on⟩:=x;simp only at hv hfr;subst hv;have QW:=aq3 (fun W (R:List aC) (h:St K W (bu (.slice af fr.pg.sl.length cf) fr.pg::bu (.slice ap p.sl.length cp) p::R))=>Cg hd hfr.id.1 hfr.id.2 hfr.word hfr.pg hp hfr.ak hpl h)
 have hs:=(hs.made (.cells #[(.pointer (some ⟨b,0,none⟩))] 82)).made (.cells #[.int .i64 (p).ak,(.slice ap p.sl.length cp),.string (p).hi,.bool (p).la,.int .u64 (p).ri] 43);rw[World.size_alloc]at hs;obtain⟨bi,hbi⟩:∃bi,bi=w.heap.size:=⟨_,rfl⟩;go_enter Tryz.func97,Tryz.ntmps97
 go_upto_region 1 with(fail)
 rw[←hbi]at hs ⊢;clear hbi;have Hs:=aq3 (hs.re [3,4,2,0,1] rfl);clear hs;refine aT [false,false,false,false,false,false,false,false,false,true,true,true] [9,10,11] (fun|11=>[9,10] | _=>[])
  (oK K (bu (.slice af fr.pg.sl.length cf) fr.pg::bu (.slice ap p.sl.length cp) p::bz b nx d ⟨fr,.slice af fr.pg.sl.length cf,fu,vu,err,le,vl,ri,vr,sep,on⟩::blk (bi+1) (.cells #[.int .i64 (p).ak,(.slice ap p.sl.length cp),.string (p).hi,.bool (p).la,.int .u64 (p).ri] 43)::blk bi (.cells #[(.pointer (some ⟨b,0,none⟩))] 82)::F) 76 (.pointer none) 9 10 11 (aik d fr p))
  (fun W=>∃R1 R2,St K W (R1::R2::bz b nx d ⟨fr,.slice af fr.pg.sl.length cf,fu,vu,err,le,vl,ri,vr,sep,on⟩::blk (bi+1) (.cells #[.int .i64 (p).ak,(.slice ap p.sl.length cp),.string (p).hi,.bool (p).la,.int .u64 (p).ri] 43)::blk bi (.cells #[(.pointer (some ⟨b,0,none⟩))] 82)::F)) ?aS (by kernel_rfl) ?hB ?H ?iD ?h0 ?hI ?hR ?hE ?hQ
 case hB=>as_aux_lemma=>kernel_rfl
 case H=>
  rintro W2 ⟨R1,R2,hs⟩;have k:=hs.k2;unfold dL vQ at k;have kp:=hs.tail.k2;have ki:=hs.tail.tail.k2;clear hs;simp only[bL];repeat (go_big_quiet_step (fail))
  refine wpQuiet_nil ?_
  rfl
 case iD=>rfl
 case h0=>exact oK.start Hs.out
 case hI=>exact fun ρ W2 h=>⟨_,_,h.rest⟩
 case hR=>exact fun ρ W2 W3 h hb=>h.same hb
 case hE=>
  refine⟨?e9,?Xu,?e11,trivial⟩;case e9=>
   intro o ho ρ W2 h hcl h9 hd2 dX aB;obtain rfl:=aq9 ho;replace aB:dX=aj _ ρ [] _:=aB;have h11:ρ 11=none:=hcl.none (by simp) (show 9∈[9,10]by simp) h9
   obtain⟨X,hs,hnext⟩:=h.call (by omega) (by omega) h9 h11
   simp only[aj]at aB;subst aB;have Hn:=aq3 hnext;clear hnext hcl hd2 h9 h11 h;go_wp2_with fail
   refine(QW.out _ _ hs).mono ?_
   rintro e W3 ⟨bw,bn,g,cap,va,mid,ps,rfl,hm,hps,hs'⟩;have eG:=aq3 hs';have Hm:=aq3 hm;have yF:=aq3 hps;clear hs hs' hm hps;go_wp2
   exact⟨rfl,_,rfl,Hn.out _ _ W3 ⟨bw,bn,g,cap,va,ps,rfl,⟨mid,Hm.out,yF.out⟩,rfl⟩ eG.out⟩
  case Xu=>
   intro o ho ρ W2 h hcl h10 hd2 dX aB;obtain rfl:=aq9 ho;replace aB:dX=aj _ ρ [] _:=aB;have h11:ρ 11=none:=hcl.none (by simp) (show 10∈[9,10]by simp) h10
   have Hn:=aq3 (h.var (by omega) (by omega) h10 h11)
   simp only[aj]at aB;subst aB;clear hcl hd2 h10 h11 h;go_wp2
   exact⟨rfl,_,rfl,Hn.out⟩
  case e11=>
   intro o ho ρ W2 h hcl h11 hd2 dX aB;obtain rfl:=aq9 ho;replace aB:dX=aj _ ρ [9,10] _:=aB;obtain⟨v9,h9⟩:=aq6.1 (hd2 9 (by show _∈[9,10];simp))
   obtain⟨v10,h10⟩:=aq6.1 (hd2 10 (by show _∈[9,10];simp))
   obtain⟨bv,R',rfl,⟨C,bw,bn,g,cap,va,ps,rfl,_,_⟩,hs,hnext⟩:=h.store (by omega) (by omega) h9 h10 h11
   simp only[aj,h9,h10,Option.getD_some,aM,Act.put,ara]at aB;subst aB;have k0:=hs.k0;have f0:=hs.f0;have fZ:Hid (St K _ (blk bv (.cells #[(.pointer (some ⟨bw,0,none⟩))] 76)::R')):=aq3 (hs.aI 0 (.pointer (some ⟨bw,0,none⟩)));have Hn:=aq3 hnext;clear hs hnext hcl hd2 h h9 h10 h11;go_wp2
   exact⟨rfl,undef,rfl,Hn.out _ fZ.out⟩
 case hQ=>
  intro ρ W2 h hall;obtain⟨bv,v,C,h9,h10,⟨v11,h11⟩,⟨bw,bn,g,cap,va,ps,rfl,hps,rfl⟩,hs⟩:=h.last hall;simp only[aj,h9,h10,h11,Option.getD_some,aM,Act.put,ara];have yF:=aq3 hps;clear h hall h9 h10 h11 hps;have kv:=hs.k0;have q:=fG (T2:=76) (xv:=(.pointer (some ⟨bw,0,none⟩))) (f:=133) (tx:= #[]) (ty:= #[(.pointer (some ⟨bv,0,none⟩)),(.pointer (some ⟨bi,0,none⟩))]) hs;have Q:=aq3 q;clear q hs;go_wp2_with fail
  refine(Q.out).mono ?_
  rintro e W3 ⟨b2,b3,b5,rfl,hs⟩;have eG:=aq3 hs;clear hs kv Q;simp only[aA,aW];go_wp2
  go_ret;refine⟨⟨b2,b3,b5,bv,bi,bw,bn,g,cap,va⟩,ps,rfl,yF.out,?_⟩;exact((show St K W3 (_::_::_::_::_::_::_::_::_::_::_::F)from eG.out).re [9,8,6,7,0,1,10,2,3,4,5] rfl).tail
end
section
variable {K:aL}{w:World}{F:List aC}{b:Nat}{nx:Value}{d:aR}{x:o8}{p:Pg}{id word:Int}{B:Sy}{ps:List Pt}
theorem Sz (hn:p.sl.length<=1000000)(hs:St K w (bz b nx d x::(Er b B id word p ps ps.length++F))) :
  Calls Tryz.prog 133 #[(.pointer (some ⟨B.Ep,0,none⟩)),(.pointer (some ⟨B.ja,0,none⟩))] w fun e w' => ∃va,e=.returned (aW none)/\St K w' (bz b nx d { x with le:=⟨id,word,p⟩,vl:=va }::bu va p::F):=by
 obtain⟨b2,b3,b5,Ep,ja,bw,bn,g,cap,va⟩:=B;have hs:St K w (bz b nx d x::bG b2 b3 b5 _ _::blk Ep (.cells #[(.pointer (some ⟨bw,0,none⟩))] 76)::blk ja (.cells #[(.pointer (some ⟨b,0,none⟩))] 82)::mH bn id word p va g cap ps ps.length::az (.slice (some ⟨g,0,none⟩) ps.length cap) 139 4 ps.length (cj ps)::blk bw (.cells #[(.pointer (some ⟨bn,0,none⟩))] 147)::bu va p::F):=hs;have hs:St K w (blk Ep (.cells #[(.pointer (some ⟨bw,0,none⟩))] 76)::blk ja (.cells #[(.pointer (some ⟨b,0,none⟩))] 82)::bz b nx d x::mH bn id word p va g cap ps ps.length::bu va p::blk bw (.cells #[(.pointer (some ⟨bn,0,none⟩))] 147)::F):=(hs.re [1,5,2,3,0,4,7,6] rfl).tail.tail;obtain⟨av,cv,Pd,_,_⟩:=(show St K w (az va 69 2 p.sl.length (aD p.sl)::_)from hs.b4).aH
 subst Pd;obtain⟨fr,vf,fu,vu,err,le,vl,ri,vr,sep,on⟩:=x;have Hs:=aq3 hs;clear hs;go_enter Tryz.func133,Tryz.ntmps133
 go_upto_region 1 with(fail)
 refine fY [false,false,true,false,false,true] 2 5
  (fun W=>St K W (blk Ep (.cells #[(.pointer (some ⟨bw,0,none⟩))] 76)::blk ja (.cells #[(.pointer (some ⟨b,0,none⟩))] 82)::bz b nx d ⟨fr,vf,fu,vu,err,le,vl,ri,vr,sep,on⟩::mH bn id word p (.slice av p.sl.length cv) g cap ps ps.length::bu (.slice av p.sl.length cv) p::blk bw (.cells #[(.pointer (some ⟨bn,0,none⟩))] 147)::F))
  (fun v W=>∃(a1:Option Addr) (c1:Nat),v=(.agg #[.int .u64 id,.int .u64 word,.int .i64 (p).ak,(.slice a1 p.sl.length c1),.string (p).hi,.bool (p).la,.int .u64 (p).ri])/\St K W (blk Ep (.cells #[(.pointer (some ⟨bw,0,none⟩))] 76)::blk ja (.cells #[(.pointer (some ⟨b,0,none⟩))] 82)::bz b nx d ⟨fr,vf,fu,vu,err,le,vl,ri,vr,sep,on⟩::bu (.slice a1 p.sl.length c1) p::F))
  (fun v u W=>∃(a1:Option Addr) (c1:Nat),u=undef/\v=(.agg #[.int .u64 id,.int .u64 word,.int .i64 (p).ak,(.slice a1 p.sl.length c1),.string (p).hi,.bool (p).la,.int .u64 (p).ri])/\St K W (blk Ep (.cells #[(.pointer (some ⟨bw,0,none⟩))] 76)::blk ja (.cells #[(.pointer (some ⟨b,0,none⟩))] 82)::bz b nx d ⟨fr,vf,fu,vu,err,⟨id,word,p⟩,.slice a1 p.sl.length c1,ri,vr,sep,on⟩::bu (.slice a1 p.sl.length c1) p::F))
  (fun W=>∃cs,St K W (blk Ep (.cells #[(.pointer (some ⟨bw,0,none⟩))] 76)::blk ja (.cells #[(.pointer (some ⟨b,0,none⟩))] 82)::cs)) ?aS (by decide) (by kernel_rfl) ?hB ?H ?iD Hs.out ?hI ?hR ?Fx ?vK ?hQ
 case hB=>as_aux_lemma=>kernel_rfl
 case H=>
  rintro W2 ⟨cs,hs⟩;have k1:=hs.k0;have k2:=hs.k1;clear hs;simp only[bL];repeat (go_big_quiet_step (fail))
  refine wpQuiet_nil ?_
  rfl
 case iD=>rfl
 case hI=>exact⟨fun W h=>⟨_,h⟩,fun v W ⟨_,_,_,h⟩=>⟨_,h⟩,fun v u W ⟨_,_,_,_,h⟩=>⟨_,h⟩⟩
 case hR=>exact⟨fun W W' h hb=>h.same hb,fun v W W' ⟨a,c,e,h⟩ hb=>⟨a,c,e,h.same hb⟩,fun v u W W' ⟨a,c,e,e2,h⟩ hb=>⟨a,c,e,e2,h.same hb⟩⟩
 case Fx=>
  intro rj o ho ρ W2 hs hk af aB;obtain rfl:=aq9 ho;subst aB;have Hk:=aq3 hk;clear hk;go_wp2_with fail
  refine(yG hn (hs.re [3,4,5,0,1,2] rfl)).mono ?_
  rintro e w1 ⟨lj,rfl,hs⟩;obtain⟨a1,c1,rfl,_,_⟩:=hs.aH;go_wp2
  exact⟨rfl,_,rfl,Hk.out _ _ ⟨a1,c1,rfl,(hs.re [1,2,3,4,5,6,0] rfl).tail.tail.tail⟩⟩
 case vK=>
  rintro rj o ho ρ v W2 ⟨a1,c1,rfl,hs⟩ hk af aB;obtain rfl:=aq9 ho;have Hk:=aq3 hk;clear hk;simp only[aM,List.getElem?_cons_succ,List.getElem?_cons_zero,Option.bind_some,Act.put,List.setIfInBounds_toArray,List.set_cons_zero,List.set_cons_succ]at aB;subst aB;have hs:=hs.b2;have k:=hs.k0;have kf:=hs.f0;unfold dL vQ at k;have fZ:Hid (St K _ (bz b nx d ⟨fr,vf,fu,vu,err,⟨id,word,p⟩,.slice a1 p.sl.length c1,ri,vr,sep,on⟩::_)):=aq3 (((((((hs.aI 22 (.int .u64 id)).aI 23 (.int .u64 word)).aI 24 (.int .i64 p.ak)).aI 25 (.slice a1 p.sl.length c1)).aI 26 (.string p.hi)).aI 27 (.bool p.la)).aI 28 (.int .u64 p.ri));clear hs;go_wp2
  exact⟨rfl,undef,rfl,Hk.out _ _ ⟨a1,c1,rfl,rfl,fZ.out.u2⟩⟩
 case hQ=>
  rintro v u W2 ⟨a1,c1,rfl,rfl,hs⟩;simp only[aM,List.getElem?_cons_succ,List.getElem?_cons_zero,Option.bind_some,Act.put,List.setIfInBounds_toArray,List.set_cons_zero,List.set_cons_succ];clear Hs;go_wp2
  go_ret;exact⟨rfl,_,hs.tail.tail⟩
end
structure Wj where
 b2:Nat
 b3:Nat
 b5:Nat
 Kn:Nat
 Ko:Nat
 ja:Nat
 Nk:Nat
 bw:Nat
 bn:Nat
 g:Nat
 cap:Nat
 va:Value
 vq:Value
def abo (B:Wj):Value:= .func (.func 136) #[] #[(.pointer (some ⟨B.Kn,0,none⟩)),(.pointer (some ⟨B.Ko,0,none⟩)),(.pointer (some ⟨B.ja,0,none⟩)),(.pointer (some ⟨B.Nk,0,none⟩))]
def sI (B:Wj):FV:=aA B.b2 B.b3 B.b5
def Nl (b:Nat)(B:Wj)(id:Int)(p q:Pg)(sep:ByteArray)(ps:List Pt)(k:Nat):List aC:=
 [bG B.b2 B.b3 B.b5 (.iface 74 (.pointer (some ⟨B.bw,0,none⟩))) (abo B),blk B.Kn (.cells #[(.pointer (some ⟨B.bw,0,none⟩))] 74),blk B.Ko (.cells #[.string sep] 9),blk B.ja (.cells #[(.pointer (some ⟨b,0,none⟩))] 82),blk B.Nk (.cells #[.int .i64 (q).ak,B.vq,.string (q).hi,.bool (q).la,.int .u64 (q).ri] 43),
  mH B.bn id (aN 0) p B.va B.g B.cap ps k,az (.slice (some ⟨B.g,0,none⟩) ps.length B.cap) 139 4 ps.length (cj ps),blk B.bw (.cells #[(.pointer (some ⟨B.bn,0,none⟩))] 145),bu B.va p,bu B.vq q]
def xq (K:aL)(REST:List aC)(b:Nat)(nx:Value)(d:aR)(x:o8)(id:Int)(p:Pg)(sep:ByteArray)(ρ:Nat->Option Value)(W:World):Prop:=
 ∃(a1:Option Addr) (c1:Nat),(∀v,ρ 3=some v->v=(.agg #[.int .u64 id,.int .u64 (aN 0),.int .i64 (p).ak,(.slice a1 p.sl.length c1),.string (p).hi,.bool (p).la,.int .u64 (p).ri])) /\
  St K W (dH (ρ 3) (bu (.slice a1 p.sl.length c1) p)::bz b nx d { x with ri:=if (ρ 7).isSome then⟨id,aN 0,p⟩else x.ri,vr:=if (ρ 7).isSome then .slice a1 p.sl.length c1 else x.vr,sep:=if (ρ 10).isSome then sep else x.sep }::REST)
section
variable {K:aL}{REST:List aC}{b:Nat}{nx:Value}{d:aR}{x:o8}{id:Int}{p:Pg}{sep:ByteArray}{ρ:Nat->Option Value}{W:World}{v3:Value}
theorem xq.start (hs:St K W (bz b nx d x::REST)):xq K REST b nx d x id p sep (fun _=>none) W:=⟨none,0,fun v h=>(by cases h),hs.empty⟩
theorem xq.same {W':World}(h:xq K REST b nx d x id p sep ρ W)(hb:Below W.heap.size W W'):xq K REST b nx d x id p sep ρ W' := by
 obtain⟨a1,c1,e,hs⟩:=h;exact⟨a1,c1,e,hs.same hb⟩
theorem xq.rest (h:xq K REST b nx d x id p sep ρ W):St K W REST:=by
 obtain⟨a1,c1,e,hs⟩:=h;exact hs.tail.tail
theorem xq.e3 (h:xq K REST b nx d x id p sep ρ W)(h3:ρ 3=none)(h7:ρ 7=none):∃R',St K W (R' :: REST)/\∀(a1:Option Addr)(c1:Nat) W',St K W' (bu (.slice a1 p.sl.length c1) p::R' :: REST)->xq K REST b nx d x id p sep (upd ρ 3 (.agg #[.int .u64 id,.int .u64 (aN 0),.int .i64 (p).ak,(.slice a1 p.sl.length c1),.string (p).hi,.bool (p).la,.int .u64 (p).ri])) W' := by
 obtain⟨a0,c0,e,hs⟩:=h;rw[h3,h7]at hs;refine⟨_,hs.tail,fun a1 c1 W' hs' => ⟨a1,c1,fun v hv=>by rw[cC]at hv;exact(aq9 hv).symm,?_⟩⟩
 rw[cC,upd_ne (by omega),upd_ne (by omega),h7]
 exact hs'
theorem xq.e7 (h:xq K REST b nx d x id p sep ρ W)(h3:ρ 3=some v3)(h7:ρ 7=none):∃(a1:Option Addr)(c1:Nat)(s':ByteArray)(R':List aC),v3=(.agg #[.int .u64 id,.int .u64 (aN 0),.int .i64 (p).ak,(.slice a1 p.sl.length c1),.string (p).hi,.bool (p).la,.int .u64 (p).ri])/\St K W (bz b nx d { x with sep:=s' }::R') /\
  ∀W',St K W' (bz b nx d { x with ri:=⟨id,aN 0,p⟩,vr:= .slice a1 p.sl.length c1,sep:=s' }::R')->xq K REST b nx d x id p sep (upd ρ 7 undef) W' := by
 obtain⟨a1,c1,e,hs⟩:=h;rw[h3,h7]at hs;refine⟨a1,c1,_,_,e v3 h3,hs.b1,fun W' hs' => ⟨a1,c1,fun v hv=>e v (by rwa [upd_ne (by omega)]at hv),?_⟩⟩
 rw[upd_ne (by omega),cC,upd_ne (by omega),h3]
 exact hs'.b1
theorem xq.Xu (h:xq K REST b nx d x id p sep ρ W)(h10:ρ 10=none):∃(r':cm)(v':Value)(R':List aC),St K W (bz b nx d { x with ri:=r',vr:=v' }::R') /\
  ∀W',St K W' (bz b nx d { x with ri:=r',vr:=v',sep:=sep }::R')->xq K REST b nx d x id p sep (upd ρ 10 undef) W' := by
 obtain⟨a1,c1,e,hs⟩:=h;rw[h10]at hs;refine⟨_,_,_,hs.b1,fun W' hs' => ⟨a1,c1,fun v hv=>e v (by rwa [upd_ne (by omega)]at hv),?_⟩⟩
 rw[upd_ne (by omega),upd_ne (by omega),cC]
 exact hs'.b1
theorem xq.last (h:xq K REST b nx d x id p sep ρ W)(hall:∀e,e∈[3,7,10]->(ρ e).isSome=true):∃(a1:Option Addr)(c1:Nat),(∃v,ρ 3=some v)/\(∃v,ρ 7=some v)/\(∃v,ρ 10=some v) /\
  St K W (bu (.slice a1 p.sl.length c1) p::bz b nx d { x with ri:=⟨id,aN 0,p⟩,vr:= .slice a1 p.sl.length c1,sep:=sep }::REST):=by
 obtain⟨v3,h3⟩:=aq6.1 (hall 3 (by simp))
 obtain⟨v7,h7⟩:=aq6.1 (hall 7 (by simp))
 obtain⟨v10,h10⟩:=aq6.1 (hall 10 (by simp))
 obtain⟨a1,c1,e,hs⟩:=h;rw[h3,h7,h10]at hs;exact⟨a1,c1,⟨v3,h3⟩,⟨v7,h7⟩,⟨v10,h10⟩,hs⟩
end
section
variable {K:aL}{w:World}{F:List aC}{b:Nat}{nx:Value}{d:aR}{x:o8}{p q:Pg}{id:Int}{sep:ByteArray}{B:Wj}{ps:List Pt}{af aq:Option Addr}{cf cq:Nat}
theorem Ta (hd:d.Ok)(hfr:x.fr.Ok d)(hq:oW d q)(hql:0<=q.ak/\q.ak<1000000)(hn:p.sl.length<=1000000)(hv:x.vf=.slice af x.fr.pg.sl.length cf)(zw:B.vq=.slice aq q.sl.length cq)(hs:St K w (bz b nx d x::bu x.vf x.fr.pg::(Nl b B id p q sep ps ps.length++F))) :
  Calls Tryz.prog 136 #[(.pointer (some ⟨B.Kn,0,none⟩)),(.pointer (some ⟨B.Ko,0,none⟩)),(.pointer (some ⟨B.ja,0,none⟩)),(.pointer (some ⟨B.Nk,0,none⟩))] w fun e w' => ∃(va:Value) (B':Sy) (ps':List Pt),e=.returned (aW (some (oz B')))/\nI d x.fr q ps' /\
   St K w' (bz b nx d { x with ri:=⟨id,aN 0,p⟩,vr:=va,sep:=sep }::bu x.vf x.fr.pg::bu va p::bu B.vq q::(Er b B' x.fr.id (dM (bE x.fr.word)) q ps' 0++F)):=by
 obtain⟨b2,b3,b5,Kn,Ko,ja,Nk,bw,bn,g,cap,va,vq⟩:=B;simp only at zw;subst zw;have hs:St K w (bz b nx d x::bu x.vf x.fr.pg::bG b2 b3 b5 _ _::blk Kn (.cells #[(.pointer (some ⟨bw,0,none⟩))] 74)::blk Ko (.cells #[.string sep] 9)::blk ja (.cells #[(.pointer (some ⟨b,0,none⟩))] 82)::blk Nk (.cells #[.int .i64 (q).ak,(.slice aq q.sl.length cq),.string (q).hi,.bool (q).la,.int .u64 (q).ri] 43) ::
  mH bn id (aN 0) p va g cap ps ps.length::az (.slice (some ⟨g,0,none⟩) ps.length cap) 139 4 ps.length (cj ps)::blk bw (.cells #[(.pointer (some ⟨bn,0,none⟩))] 145)::bu va p::bu (.slice aq q.sl.length cq) q::F):=hs
 have hs:St K w (bz b nx d x::blk Kn (.cells #[(.pointer (some ⟨bw,0,none⟩))] 74)::blk Ko (.cells #[.string sep] 9)::blk ja (.cells #[(.pointer (some ⟨b,0,none⟩))] 82)::blk Nk (.cells #[.int .i64 (q).ak,(.slice aq q.sl.length cq),.string (q).hi,.bool (q).la,.int .u64 (q).ri] 43) ::
  mH bn id (aN 0) p va g cap ps ps.length::bu va p::blk bw (.cells #[(.pointer (some ⟨bn,0,none⟩))] 145)::bu x.vf x.fr.pg::bu (.slice aq q.sl.length cq) q::F):=(hs.re [2,8,0,3,4,5,6,7,10,9,1,11] rfl).tail.tail
 obtain⟨av,cv,Pd,_,_⟩:=(show St K w (az va 69 2 p.sl.length (aD p.sl)::_)from hs.b6).aH
 subst Pd;have Hfr:=aq3 hfr;have Hv:=aq3 hv;have Hs:=aq3 hs;clear hs hfr hv;go_enter Tryz.func136,Tryz.ntmps136
 go_upto_region 1 with(fail)
 refine aT [false,false,false,true,false,false,false,true,false,false,true] [3,7,10] (fun|7=>[3] | _=>[])
  (xq K (blk Kn (.cells #[(.pointer (some ⟨bw,0,none⟩))] 74)::blk Ko (.cells #[.string sep] 9)::blk ja (.cells #[(.pointer (some ⟨b,0,none⟩))] 82)::blk Nk (.cells #[.int .i64 (q).ak,(.slice aq q.sl.length cq),.string (q).hi,.bool (q).la,.int .u64 (q).ri] 43) ::
   mH bn id (aN 0) p (.slice av p.sl.length cv) g cap ps ps.length::bu (.slice av p.sl.length cv) p::blk bw (.cells #[(.pointer (some ⟨bn,0,none⟩))] 145)::bu x.vf x.fr.pg::bu (.slice aq q.sl.length cq) q::F) b nx d x id p sep)
  (fun W=>∃cs,St K W (blk Kn (.cells #[(.pointer (some ⟨bw,0,none⟩))] 74)::blk Ko (.cells #[.string sep] 9)::blk ja (.cells #[(.pointer (some ⟨b,0,none⟩))] 82)::cs)) ?aS (by kernel_rfl) ?hB ?H ?iD ?h0 ?hI ?hR ?hE ?hQ
 case hB=>as_aux_lemma=>kernel_rfl
 case H=>
  rintro W2 ⟨cs,hs⟩;have k1:=hs.k0;have k2:=hs.k1;have k3:=hs.k2;clear hs;simp only[bL];repeat (go_big_quiet_step (fail))
  refine wpQuiet_nil ?_
  rfl
 case iD=>rfl
 case h0=>exact xq.start Hs.out
 case hI=>exact fun ρ W2 h=>⟨_,h.rest⟩
 case hR=>exact fun ρ W2 W3 h hb=>h.same hb
 case hE=>
  refine⟨?e3,?e7,?Xu,trivial⟩;case e3=>
   intro o ho ρ W2 h hcl h3 hd2 dX aB;obtain rfl:=aq9 ho;replace aB:dX=aj _ ρ [] _:=aB;have h7:ρ 7=none:=hcl.none (by simp) (show 3∈[3]by simp) h3
   obtain⟨R',hs,hnext⟩:=h.e3 h3 h7;simp only[aj]at aB;subst aB;have Hn:=aq3 hnext;clear hnext hcl hd2 h3 h7 h;go_wp2_with fail
   refine(qB hn (hs.re [5,6,7,0,1,2,3,4] rfl)).mono ?_
   rintro e W3 ⟨lj,rfl,hs'⟩;obtain⟨a1,c1,rfl,_,_⟩:=hs'.aH;have eG:=aq3 (hs'.re [0,4,5,6,7,8,1,2,3] rfl);clear hs hs';go_wp2
   exact⟨rfl,_,rfl,Hn.out a1 c1 W3 eG.out⟩
  case e7=>
   intro o ho ρ W2 h hcl h7 hd2 dX aB;obtain rfl:=aq9 ho;replace aB:dX=aj _ ρ [3] _:=aB;obtain⟨v3,h3⟩:=aq6.1 (hd2 3 (by show _∈[3];simp))
   obtain⟨a1,c1,s',R',rfl,hs,hnext⟩:=h.e7 h3 h7;simp only[aj,h3,Option.getD_some,aM,Act.put,ara]at aB;subst aB;have k:=hs.k0;have kf:=hs.f0;unfold dL vQ at k;have fZ:Hid (St K _ (bz b nx d { x with ri:=⟨id,aN 0,p⟩,vr:= .slice a1 p.sl.length c1,sep:=s' }::R')):=aq3 (((((((hs.aI 29 (.int .u64 id)).aI 30 (.int .u64 (aN 0))).aI 31 (.int .i64 p.ak)).aI 32 (.slice a1 p.sl.length c1)).aI 33 (.string p.hi)).aI 34 (.bool p.la)).aI 35 (.int .u64 p.ri));have Hn:=aq3 hnext;clear hs hnext hcl hd2 h h3 h7;go_wp2
   exact⟨rfl,undef,rfl,Hn.out _ fZ.out⟩
  case Xu=>
   intro o ho ρ W2 h hcl h10 hd2 dX aB;obtain rfl:=aq9 ho;replace aB:dX=aj _ ρ [] _:=aB;obtain⟨r',v',R',hs,hnext⟩:=h.Xu h10;simp only[aj]at aB;subst aB;have k:=hs.k0;have kf:=hs.f0;unfold dL vQ at k;have fZ:Hid (St K _ (bz b nx d { x with ri:=r',vr:=v',sep:=sep }::R')):=aq3 (hs.aI 36 (.string sep));have Hn:=aq3 hnext;clear hs hnext hcl hd2 h h10;go_wp2
   exact⟨rfl,undef,rfl,Hn.out _ fZ.out⟩
 case hQ=>
  intro ρ W2 h hall;obtain⟨a1,c1,⟨v3,h3⟩,⟨v7,h7⟩,⟨v10,h10⟩,hs⟩:=h.last hall;simp only[aj,h3,h7,h10,Option.getD_some,aM,Act.put,ara];clear h hall h3 h7 h10 Hs;have ki:=hs.tail.tail.tail.k1;have kl:=hs.tail.tail.tail.k2;have hs:St K W2 (bz b nx d { x with ri:=⟨id,aN 0,p⟩,vr:= .slice a1 p.sl.length c1,sep:=sep }::bu x.vf x.fr.pg::bu (.slice aq q.sl.length cq) q::bu (.slice a1 p.sl.length c1) p::F):=(hs.re [2,3,4,5,6,7,8,1,9,10,0] rfl).tail.tail.tail.tail.tail.tail.tail;have qw:=rW (x:={ x with ri:=⟨id,aN 0,p⟩,vr:= .slice a1 p.sl.length c1,sep:=sep }) hd Hfr.out hq hql Hv.out hs;have Q:=aq3 qw;clear qw hs;go_wp2_with fail
  refine(Q.out).mono ?_
  rintro e W3 ⟨B',ps',rfl,hps,hs⟩;have yF:=aq3 hps;have eG:=aq3 hs;clear hs hps ki kl Q;simp only[oz,aA,aW];go_wp2
  go_ret;exact⟨_,B',ps',rfl,yF.out,(show St K W3 (_::_::_::_::_::_::_::_::_::_::_::F)from eG.out).re [0,1,10,2,3,4,5,6,7,8,9] rfl⟩
end
def aim (d:aR)(id:Int)(p:Pg)(v:Value)(C:List aC):Prop:=
 ∃(bw bn g cap:Nat) (va:Value) (ps:List Pt),v=(.pointer (some ⟨bw,0,none⟩))/\ps=⟨d.node id 0,⟨aN 0,⟨#[]⟩,0⟩⟩::bP d id p/\C=[mH bn id (aN 0) p va g cap ps 0,az (.slice (some ⟨g,0,none⟩) ps.length cap) 139 4 ps.length (cj ps),blk bw (.cells #[(.pointer (some ⟨bn,0,none⟩))] 145),bu va p]
section
variable {K:aL}{w:World}{F:List aC}{b:Nat}{nx:Value}{d:aR}{x:o8}{id:Int}{au:Option Addr}{cu:Nat}
theorem Cn (hd:d.Ok)(hid:0<=id/\id<18446744073709551616)(hul:0<=x.fu.ak/\x.fu.ak<1000000)(h2:2<=x.fu.sl.length)(hle:(x.fu.sl.length:Int)<=d.fa+1)(hsz:∀s,s∈x.fu.sl->s.k.size<=1000000)(hvu:x.vu=.slice au x.fu.sl.length cu)
  (hs:St K w (bz b nx d x::bu x.vu x.fu::F)) :
  Calls Tryz.prog 102 #[(.pointer (some ⟨b,0,none⟩)),.int .u64 id] w fun e w' => ∃(B:Wj) (ps:List Pt),e=.returned (aW (some (sI B)))/\ps=⟨d.node id 0,⟨aN 0,⟨#[]⟩,0⟩⟩::bP d id (dI x.fu)/\(∃a c,B.vq=.slice a (fA x.fu id).sl.length c) /\
   St K w' (bz b nx d x::bu x.vu x.fu::(Nl b B id (dI x.fu) (fA x.fu id) (bN x.fu) ps 0++F)):=by
 obtain⟨fr,vf,fu,vu,err,le,vl,ri,vr,sep,on⟩:=x;simp only at hvu hul h2 hle hsz;subst hvu;have hf2:=hd.mK;have QS:=aq3 (fun W (R:List aC) (h:St K W (bu (.slice au fu.sl.length cu) fu::R))=>yo (right:=id) h2 (by omega) hsz h)
 have hs:=hs.made (.cells #[(.pointer (some ⟨b,0,none⟩))] 82);have k:=hs.k1;unfold dL vQ at k;have ki:=hs.k0;obtain⟨bi,hbi⟩:∃bi,bi=w.heap.size:=⟨_,rfl⟩;go_enter Tryz.func102,Tryz.ntmps102
 go_wp2_with fail
 rw[←hbi]at hs ⊢;clear hbi;refine(QS.out _ _ (hs.re [2,0,1] rfl)).mono ?_
 clear hs k ki;rintro e w2 ⟨a1,c1,a2,c2,rfl,hs⟩;have hpl:0<=(dI fu).ak/\(dI fu).ak<1000000:=hul;have hpn:((dI fu).sl.length:Int)<=d.fa:=by
  show((fu.sl.drop (gh fu.sl.length)).length:Int)<=d.fa
  have Xf:=hd.fo;rw[List.length_drop];unfold gh;omega
 obtain⟨p,hp⟩:∃p,p=dI fu:=⟨_,rfl⟩;obtain⟨q,hq⟩:∃q,q=fA fu id:=⟨_,rfl⟩;obtain⟨sp,hsp⟩:∃sp,sp=bN fu:=⟨_,rfl⟩;rw[←hp,←hq,←hsp];rw[←hp]at hpl hpn hs;rw[←hq]at hs;have Hp:=aq3 hp;have Hq:=aq3 hq;have Hsp:=aq3 hsp;clear hp hq hsp;have hs:=((hs.made (.cells #[.int .i64 (q).ak,(.slice a1 q.sl.length c1),.string (q).hi,.bool (q).la,.int .u64 (q).ri] 43)).made (.cells #[.int .i64 (p).ak,(.slice a2 p.sl.length c2),.string (p).hi,.bool (p).la,.int .u64 (p).ri] 43)).made (.cells #[.string sp] 9);simp only[World.size_alloc]at hs;obtain⟨bl,hbl⟩:∃bl,bl=w2.heap.size:=⟨_,rfl⟩;rw[show w2.heap.size+1+1=w2.heap.size+2 by omega,←hbl]at hs
 have QN:=aq3 (fun W (R:List aC) (h:St K W (bu (.slice a2 p.sl.length c2) p::R))=>rU (id:=id) hd hid hpl hpn h)
 go_upto_region 2 with(fail)
 rw[show w2.heap.size+1+1=w2.heap.size+2 by omega,←hbl]
 clear hbl;have Hs:Hid (St K _ (bu (.slice a2 p.sl.length c2) p::bz b nx d ⟨fr,vf,fu,.slice au fu.sl.length cu,err,le,vl,ri,vr,sep,on⟩::blk bi (.cells #[(.pointer (some ⟨b,0,none⟩))] 82)::blk (bl+1) (.cells #[.int .i64 (p).ak,(.slice a2 p.sl.length c2),.string (p).hi,.bool (p).la,.int .u64 (p).ri] 43)::blk (bl+2) (.cells #[.string sp] 9)::blk bl (.cells #[.int .i64 (q).ak,(.slice a1 q.sl.length c1),.string (q).hi,.bool (q).la,.int .u64 (q).ri] 43)::bu (.slice a1 q.sl.length c1) q::bu (.slice au fu.sl.length cu) fu::F)):=aq3 (hs.re [4,7,6,1,0,2,3,5] rfl);clear hs;refine aT [false,false,false,false,false,false,true,true,true] [6,7,8] (fun|8=>[6,7] | _=>[])
  (oK K (bu (.slice a2 p.sl.length c2) p::bz b nx d ⟨fr,vf,fu,.slice au fu.sl.length cu,err,le,vl,ri,vr,sep,on⟩::blk bi (.cells #[(.pointer (some ⟨b,0,none⟩))] 82)::blk (bl+1) (.cells #[.int .i64 (p).ak,(.slice a2 p.sl.length c2),.string (p).hi,.bool (p).la,.int .u64 (p).ri] 43)::blk (bl+2) (.cells #[.string sp] 9)::blk bl (.cells #[.int .i64 (q).ak,(.slice a1 q.sl.length c1),.string (q).hi,.bool (q).la,.int .u64 (q).ri] 43)::bu (.slice a1 q.sl.length c1) q::bu (.slice au fu.sl.length cu) fu::F) 74 (.pointer none) 6 7 8 (aim d id p))
  (fun W=>St K W (bu (.slice a2 p.sl.length c2) p::bz b nx d ⟨fr,vf,fu,.slice au fu.sl.length cu,err,le,vl,ri,vr,sep,on⟩::blk bi (.cells #[(.pointer (some ⟨b,0,none⟩))] 82)::blk (bl+1) (.cells #[.int .i64 (p).ak,(.slice a2 p.sl.length c2),.string (p).hi,.bool (p).la,.int .u64 (p).ri] 43)::blk (bl+2) (.cells #[.string sp] 9)::blk bl (.cells #[.int .i64 (q).ak,(.slice a1 q.sl.length c1),.string (q).hi,.bool (q).la,.int .u64 (q).ri] 43)::bu (.slice a1 q.sl.length c1) q::bu (.slice au fu.sl.length cu) fu::F)) ?aS (by kernel_rfl) ?hB ?H ?iD ?h0 ?hI ?hR ?hE ?hQ
 case hB=>as_aux_lemma=>kernel_rfl
 case H=>
  intro W2 hs;have k:=hs.k1;unfold dL vQ at k;have ki:=hs.k2;have kp:=hs.tail.k2;clear hs;simp only[bL];repeat (go_big_quiet_step (fail))
  refine wpQuiet_nil ?_
  rfl
 case iD=>rfl
 case h0=>exact oK.start Hs.out
 case hI=>exact fun ρ W2 h=>h.rest
 case hR=>exact fun ρ W2 W3 h hb=>h.same hb
 case hE=>
  refine⟨?e6,?e7,?e8,trivial⟩;case e6=>
   intro o ho ρ W2 h hcl h6 hd2 dX aB;obtain rfl:=aq9 ho;replace aB:dX=aj _ ρ [] _:=aB;have h8:ρ 8=none:=hcl.none (by simp) (show 6∈[6,7]by simp) h6
   obtain⟨X,hs,hnext⟩:=h.call (by omega) (by omega) h6 h8
   simp only[aj]at aB;subst aB;have Hn:=aq3 hnext;clear hnext hcl hd2 h6 h8 h;go_wp2_with fail
   refine(QN.out _ _ hs).mono ?_
   rintro e W3 ⟨bw,bn,g,cap,va,ps,rfl,hps,hs'⟩;have eG:=aq3 hs';have yF:=aq3 hps;clear hs hs' hps;go_wp2
   exact⟨rfl,_,rfl,Hn.out _ _ W3 ⟨bw,bn,g,cap,va,ps,rfl,yF.out,rfl⟩ eG.out⟩
  case e7=>
   intro o ho ρ W2 h hcl h7 hd2 dX aB;obtain rfl:=aq9 ho;replace aB:dX=aj _ ρ [] _:=aB;have h8:ρ 8=none:=hcl.none (by simp) (show 7∈[6,7]by simp) h7
   have Hn:=aq3 (h.var (by omega) (by omega) h7 h8)
   simp only[aj]at aB;subst aB;clear hcl hd2 h7 h8 h;go_wp2
   exact⟨rfl,_,rfl,Hn.out⟩
  case e8=>
   intro o ho ρ W2 h hcl h8 hd2 dX aB;obtain rfl:=aq9 ho;replace aB:dX=aj _ ρ [6,7] _:=aB;obtain⟨v6,h6⟩:=aq6.1 (hd2 6 (by show _∈[6,7];simp))
   obtain⟨v7,h7⟩:=aq6.1 (hd2 7 (by show _∈[6,7];simp))
   obtain⟨bv,R',rfl,⟨C,bw,bn,g,cap,va,ps,rfl,_,_⟩,hs,hnext⟩:=h.store (by omega) (by omega) h6 h7 h8
   simp only[aj,h6,h7,Option.getD_some,aM,Act.put,ara]at aB;subst aB;have k0:=hs.k0;have f0:=hs.f0;have fZ:Hid (St K _ (blk bv (.cells #[(.pointer (some ⟨bw,0,none⟩))] 74)::R')):=aq3 (hs.aI 0 (.pointer (some ⟨bw,0,none⟩)));have Hn:=aq3 hnext;clear hs hnext hcl hd2 h h6 h7 h8;go_wp2
   exact⟨rfl,undef,rfl,Hn.out _ fZ.out⟩
 case hQ=>
  intro ρ W2 h hall;obtain⟨bv,v,C,h6,h7,⟨v8,h8⟩,⟨bw,bn,g,cap,va,ps,rfl,hps,rfl⟩,hs⟩:=h.last hall;simp only[aj,h6,h7,h8,Option.getD_some,aM,Act.put,ara];have yF:=aq3 hps;clear h hall h6 h7 h8 hps;have kv:=hs.k0;have q1:=fG (T2:=74) (xv:=(.pointer (some ⟨bw,0,none⟩))) (f:=136) (tx:= #[]) (ty:= #[(.pointer (some ⟨bv,0,none⟩)),(.pointer (some ⟨(bl+2),0,none⟩)),(.pointer (some ⟨bi,0,none⟩)),(.pointer (some ⟨bl,0,none⟩))]) hs;have Q:=aq3 q1;clear q1 hs;go_wp2_with fail
  refine(Q.out).mono ?_
  rintro e W3 ⟨b2,b3,b5,rfl,hs⟩;have eG:=aq3 hs;clear hs kv Q;simp only[aA,aW];go_wp2
  go_ret;refine⟨⟨b2,b3,b5,bv,bl+2,bi,bl,bw,bn,g,cap,va,.slice a1 q.sl.length c1⟩,ps,rfl,by rw[←Hp.out];exact yF.out,⟨a1,c1,by rw[←Hq.out]⟩,?_⟩
  rw[←Hp.out,←Hq.out,←Hsp.out];exact((show St K W3 (_::_::_::_::_::_::_::_::_::_::_::_::_::_::F)from eG.out).re [6,9,7,13,0,1,10,8,11,2,3,4,5,12] rfl).tail.tail
end
structure TkB where
 b2:Nat
 b3:Nat
 b5:Nat
 Es:Nat
 ja:Nat
 bt:Nat
def abq (B:TkB):Value:= .func (.func 100) #[] #[(.pointer (some ⟨B.Es,0,none⟩)),(.pointer (some ⟨B.ja,0,none⟩))]
def Gx (B:TkB):FV:=aA B.b2 B.b3 B.b5
def Wl (b:Nat)(B:TkB)(i lim:Int)(s:iB):List aC:=
 [bG B.b2 B.b3 B.b5 (.iface 156 (.pointer (some ⟨B.bt,0,none⟩))) (abq B),blk B.Es (.cells #[(.pointer (some ⟨B.bt,0,none⟩))] 156),blk B.ja (.cells #[(.pointer (some ⟨b,0,none⟩))] 82),gL B.bt i lim s]
def T1R (K:aL)(REST:List aC)(b:Nat)(nx:Value)(d:aR)(x:o8)(ρ:Nat->Option Value)(W:World):Prop:=
 St K W (bz b nx d { x with err:=if (ρ 8).isSome then 2 else x.err,le:=if (ρ 11).isSome then x.fr else x.le,vl:=if (ρ 11).isSome then x.vf else x.vl }::REST)
section
variable {K:aL}{w:World}{F:List aC}{b:Nat}{nx:Value}{d:aR}{x:o8}{i lim:Int}{s:iB}{B:TkB}{af au:Option Addr}{cf cu:Nat}
theorem Tb (hv:x.vf=.slice af x.fr.pg.sl.length cf)(hok:s.ok=false)(hs:St K w (bz b nx d x::(Wl b B i lim s++F))) :
  Calls Tryz.prog 100 #[(.pointer (some ⟨B.Es,0,none⟩)),(.pointer (some ⟨B.ja,0,none⟩))] w fun e w' => e=.returned (aW none)/\St K w' (bz b nx d { x with err:=2,le:=x.fr,vl:=x.vf }::F):=by
 obtain⟨b2,b3,b5,Es,ja,bt⟩:=B;obtain⟨fr,vf,fu,vu,err,le,vl,ri,vr,sep,on⟩:=x;simp only at hv;subst hv;have hs:St K w (bz b nx d ⟨fr,.slice af fr.pg.sl.length cf,fu,vu,err,le,vl,ri,vr,sep,on⟩::bG b2 b3 b5 _ _::blk Es (.cells #[(.pointer (some ⟨bt,0,none⟩))] 156)::blk ja (.cells #[(.pointer (some ⟨b,0,none⟩))] 82)::gL bt i lim s::F):=hs;have kt:=hs.k2;have q:=kK (i:=i) (lim:=lim) (s:=s) hs.b4.head (fun e=>by rw[hok]at e;cases e)
 rw[hok]at q;have Q:=aq3 q;clear q;go_enter Tryz.func100,Tryz.ntmps100
 go_wp2_with fail
 refine(Q.out).mono ?_
 rintro e w2 ⟨rfl,rfl⟩;clear kt Q;go_upto_region 3 with(fail)
 have Hs:Hid (St K _ (bz b nx d ⟨fr,.slice af fr.pg.sl.length cf,fu,vu,err,le,vl,ri,vr,sep,on⟩::blk ja (.cells #[(.pointer (some ⟨b,0,none⟩))] 82)::F)):=aq3 (hs.re [1,2,4,0,3] rfl).tail.tail.tail;clear hs;refine aT [false,false,false,false,false,false,false,false,true,false,false,true] [8,11] (fun _=>[])
  (T1R K (blk ja (.cells #[(.pointer (some ⟨b,0,none⟩))] 82)::F) b nx d ⟨fr,.slice af fr.pg.sl.length cf,fu,vu,err,le,vl,ri,vr,sep,on⟩)
  (fun W=>∃err' le' vl',St K W (bz b nx d ⟨fr,.slice af fr.pg.sl.length cf,fu,vu,err',le',vl',ri,vr,sep,on⟩::blk ja (.cells #[(.pointer (some ⟨b,0,none⟩))] 82)::F)) ?aS (by kernel_rfl) ?hB ?H ?iD ?h0 ?hI ?hR ?hE ?hQ
 case hB=>as_aux_lemma=>kernel_rfl
 case H=>
  rintro W2 ⟨err',le',vl',hs⟩;have k:=hs.k0;unfold dL vQ at k;have ki:=hs.k1;clear hs;simp only[bL];repeat (go_big_quiet_step (fail))
  refine wpQuiet_nil ?_
  rfl
 case iD=>rfl
 case h0=>exact Hs.out
 case hI=>exact fun ρ W2 h=>⟨_,_,_,h⟩
 case hR=>exact fun ρ W2 W3 h hb=>St.same h hb
 case hE=>
  refine⟨?e8,?e11,trivial⟩;case e8=>
   intro o ho ρ W2 h hcl h8 hd2 dX aB;obtain rfl:=aq9 ho;replace aB:dX=aj _ ρ [] _:=aB;simp only[aj]at aB;subst aB;unfold T1R at h;rw[h8]at h;obtain⟨l2,hl2⟩:∃l2:cm,l2=(if (ρ 11).isSome=true then fr else le):=⟨_,rfl⟩
   obtain⟨v2,hv2⟩:∃v2:Value,v2=(if (ρ 11).isSome=true then .slice af fr.pg.sl.length cf else vl):=⟨_,rfl⟩
   have hs:St K W2 (bz b nx d ⟨fr,.slice af fr.pg.sl.length cf,fu,vu,err,l2,v2,ri,vr,sep,on⟩::blk ja (.cells #[(.pointer (some ⟨b,0,none⟩))] 82)::F):=by rw[hl2,hv2];exact h
   have Hl2:=aq3 hl2;have Hv2:=aq3 hv2;have k:=hs.k0;have kf:=hs.f0;unfold dL vQ at k;have fZ:Hid (St K _ (bz b nx d ⟨fr,.slice af fr.pg.sl.length cf,fu,vu,2,l2,v2,ri,vr,sep,on⟩::blk ja (.cells #[(.pointer (some ⟨b,0,none⟩))] 82)::F)):=aq3 (hs.aI 21 (.int .i64 2));clear h hs hcl hd2 hl2 hv2;go_wp2
   refine⟨rfl,undef,rfl,?_⟩;unfold T1R;rw[cC,upd_ne (by omega)]
   have:=fZ.out;rw[Hl2.out,Hv2.out]at this;exact this
  case e11=>
   intro o ho ρ W2 h hcl h11 hd2 dX aB;obtain rfl:=aq9 ho;replace aB:dX=aj _ ρ [] _:=aB;simp only[aj]at aB;subst aB;unfold T1R at h;rw[h11]at h;obtain⟨e2,he2⟩:∃e2:Int,e2=(if (ρ 8).isSome=true then 2 else err):=⟨_,rfl⟩
   have hs:St K W2 (bz b nx d ⟨fr,.slice af fr.pg.sl.length cf,fu,vu,e2,le,vl,ri,vr,sep,on⟩::blk ja (.cells #[(.pointer (some ⟨b,0,none⟩))] 82)::F):=by rw[he2];exact h
   have He2:=aq3 he2;have k:=hs.k0;have kf:=hs.f0;unfold dL vQ at k;have fZ:Hid (St K _ (bz b nx d ⟨fr,.slice af fr.pg.sl.length cf,fu,vu,e2,fr,.slice af fr.pg.sl.length cf,ri,vr,sep,on⟩::blk ja (.cells #[(.pointer (some ⟨b,0,none⟩))] 82)::F)):=aq3 (((((((hs.aI 22 (.int .u64 fr.id)).aI 23 (.int .u64 fr.word)).aI 24 (.int .i64 fr.pg.ak)).aI 25 (.slice af fr.pg.sl.length cf)).aI 26 (.string fr.pg.hi)).aI 27 (.bool fr.pg.la)).aI 28 (.int .u64 fr.pg.ri));clear h hs hcl hd2 he2;go_wp2
   refine⟨rfl,undef,rfl,?_⟩;unfold T1R;rw[cC,upd_ne (by omega)]
   have:=fZ.out;rw[He2.out]at this;exact this
 case hQ=>
  intro ρ W2 h hall;obtain⟨v8,h8⟩:=aq6.1 (hall 8 (by simp))
  obtain⟨v11,h11⟩:=aq6.1 (hall 11 (by simp))
  unfold T1R at h;rw[h8,h11]at h;have hs:St K W2 (bz b nx d ⟨fr,.slice af fr.pg.sl.length cf,fu,vu,2,fr,.slice af fr.pg.sl.length cf,ri,vr,sep,on⟩::blk ja (.cells #[(.pointer (some ⟨b,0,none⟩))] 82)::F):=h;simp only[aj,h8,h11,Option.getD_some,aM,List.getElem?_cons_succ,List.getElem?_cons_zero,Option.bind_some,Option.bind_none,Act.put];clear h hall h8 h11 Hs;go_wp2
  go_ret;exact⟨rfl,hs.b1.tail⟩
theorem Nn (hd:d.Ok)(hul:0<=x.fu.ak/\x.fu.ak<1000000)(h2:2<=x.fu.sl.length)(hle:(x.fu.sl.length:Int)<=d.fa+1)(hsz:∀s,s∈x.fu.sl->s.k.size<=1000000)(hvu:x.vu=.slice au x.fu.sl.length cu)(hok:s.ok=true)(hseen:0<=s.seen/\s.seen<18446744073709551615)
  (hs:St K w (bz b nx d x::bu x.vu x.fu::(Wl b B i lim s++F))) :
  Calls Tryz.prog 100 #[(.pointer (some ⟨B.Es,0,none⟩)),(.pointer (some ⟨B.ja,0,none⟩))] w fun e w' => ∃(B':Wj) (ps:List Pt),e=.returned (aW (some (sI B')))/\ps=⟨d.node (s.seen+1) 0,⟨aN 0,⟨#[]⟩,0⟩⟩::bP d (s.seen+1) (dI x.fu)/\(∃a c,B'.vq=.slice a (fA x.fu (s.seen+1)).sl.length c) /\
   St K w' (bz b nx d x::bu x.vu x.fu::(Nl b B' (s.seen+1) (dI x.fu) (fA x.fu (s.seen+1)) (bN x.fu) ps 0++F)):=by
 obtain⟨b2,b3,b5,Es,ja,bt⟩:=B;have hs:St K w (bz b nx d x::bu x.vu x.fu::bG b2 b3 b5 _ _::blk Es (.cells #[(.pointer (some ⟨bt,0,none⟩))] 156)::blk ja (.cells #[(.pointer (some ⟨b,0,none⟩))] 82)::gL bt i lim s::F):=hs;have kt:=hs.tail.k2;have ki:=hs.tail.tail.k2;have q:=kK (i:=i) (lim:=lim) (s:=s) hs.b5.head (fun _=>hseen)
 rw[hok,if_pos rfl]at q;have Q:=aq3 q;have q2:=Cn (id:=s.seen+1) hd (by omega) hul h2 hle hsz hvu ((hs.re [2,3,4,5,0,1] rfl).tail.tail.tail.tail)
 have Q2:=aq3 q2;clear q q2 hs;go_enter Tryz.func100,Tryz.ntmps100
 go_wp2_with fail
 refine(Q.out).mono ?_
 rintro e w2 ⟨rfl,rfl⟩;clear kt Q;go_wp2_with fail
 refine(Q2.out).mono ?_
 rintro e w3 ⟨B',ps,rfl,hps,zw,hs⟩;have yF:=aq3 hps;have Hvq:=aq3 zw;have Hs:=aq3 hs;clear hs hps zw ki Q2;simp only[sI,aA,aW];go_wp2
 go_ret;exact⟨B',ps,rfl,yF.out,Hvq.out,Hs.out⟩
end
end
section
def l6:cm:=⟨0,0,Fu⟩
def Np (fr:cm)(vf:Value):o8:=⟨fr,vf,Fu,.slice none 0 0,0,l6,.slice none 0 0,l6,.slice none 0 0,⟨#[]⟩,false⟩
def jC (fr:cm)(vf:Value)(fu:Pg)(vu:Value):o8:=⟨fr,vf,fu,vu,0,l6,.slice none 0 0,l6,.slice none 0 0,⟨#[]⟩,false⟩
def rX (K:aL)(REST:List aC)(bi:Nat)(d:aR)(fr:cm)(vf:Value)(fu:Pg)(ρ:Nat->Option Value)(W:World):Prop:=
 ∃(a:Option Addr) (c:Nat),(∀v,ρ 5=some v->v=.tuple #[(.agg #[.int .i64 (fu).ak,(.slice a fu.sl.length c),.string (fu).hi,.bool (fu).la,.int .u64 (fu).ri]),.bool true])/\(∀v,ρ 6=some v->v=.tuple #[(.agg #[.int .i64 (fu).ak,(.slice a fu.sl.length c),.string (fu).hi,.bool (fu).la,.int .u64 (fu).ri]),.bool true])/\(∀v,ρ 7=some v->v=(.agg #[.int .i64 (fu).ak,(.slice a fu.sl.length c),.string (fu).hi,.bool (fu).la,.int .u64 (fu).ri]))/\(∀v,ρ 8=some v->v=.bool true) /\
  St K W (dH (ρ 5) (bu (.slice a fu.sl.length c) fu)::bz bi .nilFunc d (if (ρ 11).isSome then jC fr vf fu (.slice a fu.sl.length c)else Np fr vf)::REST)
section
variable {K:aL}{REST:List aC}{bi:Nat}{d:aR}{fr:cm}{vf:Value}{fu:Pg}{ρ:Nat->Option Value}{W:World}{v5 v6 v7:Value}
theorem rX.start (hs:St K W (bz bi .nilFunc d (Np fr vf)::REST)):rX K REST bi d fr vf fu (fun _=>none) W:=
 ⟨none,0,fun v h=>(by cases h),fun v h=>(by cases h),fun v h=>(by cases h),fun v h=>(by cases h),hs.empty⟩
theorem rX.same {W':World}(h:rX K REST bi d fr vf fu ρ W)(hb:Below W.heap.size W W'):rX K REST bi d fr vf fu ρ W' := by
 obtain⟨a,c,e1,e2,e3,e4,hs⟩:=h;exact⟨a,c,e1,e2,e3,e4,hs.same hb⟩
theorem rX.rest (h:rX K REST bi d fr vf fu ρ W):St K W REST:=by
 obtain⟨a,c,e1,e2,e3,e4,hs⟩:=h;exact hs.tail.tail
theorem rX.e5 (h:rX K REST bi d fr vf fu ρ W)(h5:ρ 5=none)(h6:ρ 6=none)(h7:ρ 7=none)(h11:ρ 11=none):∃R',St K W (R' :: REST)/\∀(a:Option Addr)(c:Nat) W',St K W' (bu (.slice a fu.sl.length c) fu::R' :: REST)->rX K REST bi d fr vf fu (upd ρ 5 (.tuple #[(.agg #[.int .i64 (fu).ak,(.slice a fu.sl.length c),.string (fu).hi,.bool (fu).la,.int .u64 (fu).ri]),.bool true])) W' := by
 obtain⟨a0,c0,e1,e2,e3,e4,hs⟩:=h;rw[h5,h11]at hs;refine⟨_,hs.tail,fun a c W' hs' => ⟨a,c,fun v hv=>by rw[cC]at hv;exact(aq9 hv).symm,fun v hv=>?_,fun v hv=>?_,fun v hv=>e4 v (by rwa [upd_ne (by omega)]at hv),?_⟩⟩
 ·rw[upd_ne (by omega),h6]at hv;cases hv
 ·rw[upd_ne (by omega),h7]at hv;cases hv
 ·rw[cC,upd_ne (by omega),h11];exact hs'
theorem rX.e6 (h:rX K REST bi d fr vf fu ρ W)(h5:ρ 5=some v5):∃a c,v5=.tuple #[(.agg #[.int .i64 (fu).ak,(.slice a fu.sl.length c),.string (fu).hi,.bool (fu).la,.int .u64 (fu).ri]),.bool true]/\rX K REST bi d fr vf fu (upd ρ 6 v5) W:=by
 obtain⟨a,c,e1,e2,e3,e4,hs⟩:=h;obtain rfl:=e1 v5 h5;refine⟨a,c,rfl,a,c,fun v hv=>e1 v (by rwa [upd_ne (by omega)]at hv),fun v hv=>by rw[cC]at hv;exact(aq9 hv).symm,fun v hv=>e3 v (by rwa [upd_ne (by omega)]at hv),fun v hv=>e4 v (by rwa [upd_ne (by omega)]at hv),?_⟩
 rw[upd_ne (by omega),upd_ne (by omega)];exact hs
theorem rX.e7 (h:rX K REST bi d fr vf fu ρ W)(h6:ρ 6=some v6):∃a c,v6=.tuple #[(.agg #[.int .i64 (fu).ak,(.slice a fu.sl.length c),.string (fu).hi,.bool (fu).la,.int .u64 (fu).ri]),.bool true]/\rX K REST bi d fr vf fu (upd ρ 7 (.agg #[.int .i64 (fu).ak,(.slice a fu.sl.length c),.string (fu).hi,.bool (fu).la,.int .u64 (fu).ri])) W:=by
 obtain⟨a,c,e1,e2,e3,e4,hs⟩:=h;obtain rfl:=e2 v6 h6;refine⟨a,c,rfl,a,c,fun v hv=>e1 v (by rwa [upd_ne (by omega)]at hv),fun v hv=>e2 v (by rwa [upd_ne (by omega)]at hv),fun v hv=>by rw[cC]at hv;exact(aq9 hv).symm,fun v hv=>e4 v (by rwa [upd_ne (by omega)]at hv),?_⟩
 rw[upd_ne (by omega),upd_ne (by omega)];exact hs
theorem rX.e8 (h:rX K REST bi d fr vf fu ρ W)(h6:ρ 6=some v6):∃a c,v6=.tuple #[(.agg #[.int .i64 (fu).ak,(.slice a fu.sl.length c),.string (fu).hi,.bool (fu).la,.int .u64 (fu).ri]),.bool true]/\rX K REST bi d fr vf fu (upd ρ 8 (.bool true)) W:=by
 obtain⟨a,c,e1,e2,e3,e4,hs⟩:=h;obtain rfl:=e2 v6 h6;refine⟨a,c,rfl,a,c,fun v hv=>e1 v (by rwa [upd_ne (by omega)]at hv),fun v hv=>e2 v (by rwa [upd_ne (by omega)]at hv),fun v hv=>e3 v (by rwa [upd_ne (by omega)]at hv),fun v hv=>by rw[cC]at hv;exact(aq9 hv).symm,?_⟩
 rw[upd_ne (by omega),upd_ne (by omega)];exact hs
theorem rX.e11 (h:rX K REST bi d fr vf fu ρ W)(h7:ρ 7=some v7)(h11:ρ 11=none):∃(a:Option Addr)(c:Nat)(R':List aC),v7=(.agg #[.int .i64 (fu).ak,(.slice a fu.sl.length c),.string (fu).hi,.bool (fu).la,.int .u64 (fu).ri])/\St K W (bz bi .nilFunc d (Np fr vf)::R') /\
  ∀W',St K W' (bz bi .nilFunc d (jC fr vf fu (.slice a fu.sl.length c))::R')->rX K REST bi d fr vf fu (upd ρ 11 undef) W' := by
 obtain⟨a,c,e1,e2,e3,e4,hs⟩:=h;rw[h11]at hs;refine⟨a,c,_,e3 v7 h7,hs.b1,fun W' hs' => ⟨a,c,fun v hv=>e1 v (by rwa [upd_ne (by omega)]at hv),fun v hv=>e2 v (by rwa [upd_ne (by omega)]at hv),fun v hv=>e3 v (by rwa [upd_ne (by omega)]at hv),fun v hv=>e4 v (by rwa [upd_ne (by omega)]at hv),?_⟩⟩
 rw[upd_ne (by omega),cC];exact hs'.b1
theorem rX.last (h:rX K REST bi d fr vf fu ρ W)(hall:∀e,e∈[5,6,7,8,11]->(ρ e).isSome=true):∃(a:Option Addr)(c:Nat),ρ 5=some (.tuple #[(.agg #[.int .i64 (fu).ak,(.slice a fu.sl.length c),.string (fu).hi,.bool (fu).la,.int .u64 (fu).ri]),.bool true])/\ρ 6=some (.tuple #[(.agg #[.int .i64 (fu).ak,(.slice a fu.sl.length c),.string (fu).hi,.bool (fu).la,.int .u64 (fu).ri]),.bool true])/\ρ 7=some (.agg #[.int .i64 (fu).ak,(.slice a fu.sl.length c),.string (fu).hi,.bool (fu).la,.int .u64 (fu).ri])/\ρ 8=some (.bool true)/\(∃v,ρ 11=some v) /\
  St K W (bu (.slice a fu.sl.length c) fu::bz bi .nilFunc d (jC fr vf fu (.slice a fu.sl.length c))::REST):=by
 obtain⟨v5,h5⟩:=aq6.1 (hall 5 (by simp))
 obtain⟨v6,h6⟩:=aq6.1 (hall 6 (by simp))
 obtain⟨v7,h7⟩:=aq6.1 (hall 7 (by simp))
 obtain⟨v8,h8⟩:=aq6.1 (hall 8 (by simp))
 obtain⟨v11,h11⟩:=aq6.1 (hall 11 (by simp))
 obtain⟨a,c,e1,e2,e3,e4,hs⟩:=h;rw[h5,h11]at hs;exact⟨a,c,by rw[h5,e1 v5 h5],by rw[h6,e2 v6 h6],by rw[h7,e3 v7 h7],by rw[h8,e4 v8 h8],⟨v11,h11⟩,hs⟩
end
def xu (K:aL)(REST:List aC)(bi:Nat)(d:aR)(x:o8)(e1 e2 e3:Nat)(Φ:FV->List aC->Prop)(ρ:Nat->Option Value)(W:World):Prop:=
 ∃(fv:FV) (C:List aC),(∀v,ρ e1=some v->v=aW (some fv)/\Φ fv C)/\(∀v,ρ e2=some v->v=.agg #[aW (some fv),.bool true]) /\
  St K W ((if (ρ e1).isSome then C else [])++(bz bi (if (ρ e3).isSome then aW (some fv)else .nilFunc) d { x with on:=(ρ e3).isSome }::REST))
section
variable {K:aL}{REST:List aC}{bi:Nat}{d:aR}{x:o8}{e1 e2 e3:Nat}{Φ:FV->List aC->Prop}{ρ:Nat->Option Value}{W:World}{v1 v2:Value}
theorem xu.start (hs:St K W (bz bi .nilFunc d { x with on:=false }::REST)):xu K REST bi d x e1 e2 e3 Φ (fun _=>none) W:=
 ⟨⟨0, #[], #[]⟩,[],fun v h=>(by cases h),fun v h=>(by cases h),hs⟩
theorem xu.same {W':World}(h:xu K REST bi d x e1 e2 e3 Φ ρ W)(hb:Below W.heap.size W W'):xu K REST bi d x e1 e2 e3 Φ ρ W' := by
 obtain⟨fv,C,q1,q2,hs⟩:=h;exact⟨fv,C,q1,q2,hs.same hb⟩
theorem xu.call (h:xu K REST bi d x e1 e2 e3 Φ ρ W)(dS:e1≠e3)(dr:e1≠e2)(h1:ρ e1=none)(h2:ρ e2=none)(h3:ρ e3=none):St K W (bz bi .nilFunc d { x with on:=false }::REST) /\
  ∀fv C W',Φ fv C->St K W' (C++(bz bi .nilFunc d { x with on:=false }::REST))->xu K REST bi d x e1 e2 e3 Φ (upd ρ e1 (aW (some fv))) W' := by
 obtain⟨fv0,C0,q1,q2,hs⟩:=h;rw[h1,h3]at hs;refine⟨hs,fun fv C W' hΦ hs' => ⟨fv,C,fun v hv=>?_,fun v hv=>?_,?_⟩⟩
 ·rw[cC]at hv
  exact⟨(aq9 hv).symm,hΦ⟩
 ·rw[upd_ne (Ne.symm dr),h2]at hv;cases hv
 ·rw[cC,upd_ne (Ne.symm dS),h3];exact hs'
theorem xu.begin (h:xu K REST bi d x e1 e2 e3 Φ ρ W)(dr:e1≠e2)(Kj:e2≠e3)(h1:ρ e1=some v1):∃fv,v1=aW (some fv)/\∀W',Below W.heap.size W W' -> xu K REST bi d x e1 e2 e3 Φ (upd ρ e2 (.agg #[aW (some fv),.bool true])) W' := by
 obtain⟨fv,C,q1,q2,hs⟩:=h;refine⟨fv,(q1 v1 h1).1,fun W' hb=>⟨fv,C,fun v hv=>q1 v (by rwa [upd_ne dr]at hv),fun v hv=>by rw[cC]at hv;exact(aq9 hv).symm,?_⟩⟩
 rw[upd_ne dr,upd_ne (Ne.symm Kj)];exact hs.same hb
theorem xu.store (h:xu K REST bi d x e1 e2 e3 Φ ρ W)(dS:e1≠e3)(Kj:e2≠e3)(h2:ρ e2=some v2)(h3:ρ e3=none):∃(fv:FV)(R':List aC),v2=.agg #[aW (some fv),.bool true]/\St K W (bz bi .nilFunc d { x with on:=false }::R') /\
  ∀W',St K W' (bz bi (aW (some fv)) d { x with on:=true }::R')->xu K REST bi d x e1 e2 e3 Φ (upd ρ e3 undef) W' := by
 obtain⟨fv,C,q1,q2,hs⟩:=h;rw[h3]at hs;refine⟨fv,(if (ρ e1).isSome then C else [])++REST,q2 v2 h2,hs.perm List.perm_middle,fun W' hs' => ⟨fv,C,fun v hv=>q1 v (by rwa [upd_ne dS]at hv),fun v hv=>q2 v (by rwa [upd_ne Kj]at hv),?_⟩⟩
 rw[upd_ne dS,cC];exact hs'.perm (List.perm_middle.symm)
theorem xu.last (h:xu K REST bi d x e1 e2 e3 Φ ρ W)(hall:∀e,e∈[e1,e2,e3]->(ρ e).isSome=true):∃(fv:FV)(C:List aC),ρ e1=some (aW (some fv))/\ρ e2=some (.agg #[aW (some fv),.bool true])/\(∃v,ρ e3=some v)/\Φ fv C/\St K W (C++(bz bi (aW (some fv)) d { x with on:=true }::REST)):=by
 obtain⟨v1,h1⟩:=aq6.1 (hall e1 (by simp))
 obtain⟨v2,h2⟩:=aq6.1 (hall e2 (by simp))
 obtain⟨v3,h3⟩:=aq6.1 (hall e3 (by simp))
 obtain⟨fv,C,q1,q2,hs⟩:=h;rw[h1,h3]at hs;exact⟨fv,C,by rw[h1,(q1 v1 h1).1],by rw[h2,q2 v2 h2],⟨v3,h3⟩,(q1 v1 h1).2,hs⟩
end
def aio (b:Nat)(d:aR)(h:cm)(p:Pg)(fv:FV)(C:List aC):Prop:=
 ∃(B:Sy) (ps:List Pt),fv=oz B/\nI d h p ps/\C=Er b B h.id (dM (bE h.word)) p ps 0
def aip (Es ja bt:Nat)(fv:FV)(C:List aC):Prop:=
 ∃(b2 b3 b5:Nat),fv=aA b2 b3 b5/\C=[bG b2 b3 b5 (.iface 156 (.pointer (some ⟨bt,0,none⟩))) (.func (.func 100) #[] #[(.pointer (some ⟨Es,0,none⟩)),(.pointer (some ⟨ja,0,none⟩))])]
def aiq (lim:Int)(v:Value)(C:List aC):Prop:=∃bt:Nat,v=(.pointer (some ⟨bt,0,none⟩))/\C=[gL bt 4 lim ⟨0,0,false⟩]
theorem uD (d:aR)(w:World):(Instr.field 26 (.agg #[.int .i64 (d).th,.int .i64 (d).sn,.int .i64 (d).no,.int .i64 (d).ch,.int .i64 (d).re,.int .i64 (d).fa,.int .u64 (d).cl]) 2).run Tryz.prog w=.ok (.int .i64 d.no) w:=by kernel_rfl
section
variable {K:aL}{w:World}{F:List aC}{d:aR}{fr:cm}{af:Option Addr}{cf:Nat}{key:ByteArray}{r:Int}{fu:Pg}
theorem yH (hd:d.Ok)(hfr:fr.Ok d)(lA:fu=aZ fr.pg key r)(hno:decide (gD fr.pg.sl key<iE fr.pg.sl key)=false)(dJ:kV fr.pg.sl)(kW:(fu.sl.length:Int)<=d.fa->oW d fu)(hs:St K w (bu (.slice af fr.pg.sl.length cf) fr.pg::F)) :
  Calls Tryz.prog 46 #[.agg #[.int .i64 d.th,.int .i64 d.sn,.int .i64 d.no,.int .i64 d.ch,.int .i64 d.re,.int .i64 d.fa,.int .u64 d.cl],(.agg #[.int .u64 (fr).id,.int .u64 (fr).word,.int .i64 (fr).pg.ak,(.slice af fr.pg.sl.length cf),.string (fr).pg.hi,.bool (fr).pg.la,.int .u64 (fr).pg.ri]),.string key,.int .u64 r] w fun e w' => ∃(b:Nat) (a:Option Addr) (c:Nat),e=.returned (.pointer (some ⟨b,0,none⟩)) /\
   (((fu.sl.length:Int)<=d.fa/\∃(B:Sy) (ps:List Pt),nI d fr fu ps/\St K w' (bz b (aW (some (oz B))) d { jC fr (.slice af fr.pg.sl.length cf) fu (.slice a fu.sl.length c)with on:=true }::bu (.slice af fr.pg.sl.length cf) fr.pg::bu (.slice a fu.sl.length c) fu::(Er b B fr.id (dM (bE fr.word)) fu ps 0++F))) \/
   (d.fa<(fu.sl.length:Int)/\∃B:TkB,St K w' (bz b (aW (some (Gx B))) d { jC fr (.slice af fr.pg.sl.length cf) fu (.slice a fu.sl.length c)with on:=true }::bu (.slice af fr.pg.sl.length cf) fr.pg::bu (.slice a fu.sl.length c) fu::(Wl b B 4 d.no ⟨0,0,false⟩++F)))):=by
 have hf2:=hd.mK;have ym:fr.pg.sl.length<=100:=by have:=hfr.pg.le;omega
 have QI:=aq3 (fun W (R:List aC) (h:St K W (bu (.slice af fr.pg.sl.length cf) fr.pg::R))=>vO (key:=key) (r:=r) hno dJ ym h)
 rw[←lA]at QI;have bZ:fu.ak=fr.pg.ak:=by rw[lA];rfl
 have hs:=(((hs.made (.cells #[.int .i64 (d).th,.int .i64 (d).sn,.int .i64 (d).no,.int .i64 (d).ch,.int .i64 (d).re,.int .i64 (d).fa,.int .u64 (d).cl] 29)).made (.cells #[.int .u64 (fr).id,.int .u64 (fr).word,.int .i64 (fr).pg.ak,(.slice af fr.pg.sl.length cf),.string (fr).pg.hi,.bool (fr).pg.la,.int .u64 (fr).pg.ri] 45)).made (.cells (dL .nilFunc d (Np fr (.slice af fr.pg.sl.length cf))).toArray 151)).made (.cells #[(.pointer (some ⟨(w.heap.size+2),0,none⟩))] 82);simp only[World.size_alloc]at hs;obtain⟨bl,hbl⟩:∃bl,bl=w.heap.size:=⟨_,rfl⟩;rw[show w.heap.size+1+1+1=w.heap.size+3 by omega,show w.heap.size+1+1=w.heap.size+2 by omega,←hbl]at hs
 have uE:=aq3 bZ;have Hpg:=aq3 kW;clear hno dJ lA bZ kW;go_enter Tryz.func46,Tryz.ntmps46
 go_upto_region 2 with(fail)
 rw[show w.heap.size+1+1+1=w.heap.size+3 by omega,show w.heap.size+1+1=w.heap.size+2 by omega,←hbl]
 clear hbl;have Hs:Hid (St K _ (bz (bl+2) .nilFunc d (Np fr (.slice af fr.pg.sl.length cf))::bu (.slice af fr.pg.sl.length cf) fr.pg::blk (bl+3) (.cells #[(.pointer (some ⟨(bl+2),0,none⟩))] 82)::blk (bl+1) (.cells #[.int .u64 (fr).id,.int .u64 (fr).word,.int .i64 (fr).pg.ak,(.slice af fr.pg.sl.length cf),.string (fr).pg.hi,.bool (fr).pg.la,.int .u64 (fr).pg.ri] 45)::blk bl (.cells #[.int .i64 (d).th,.int .i64 (d).sn,.int .i64 (d).no,.int .i64 (d).ch,.int .i64 (d).re,.int .i64 (d).fa,.int .u64 (d).cl] 29)::F)):=aq3 (hs.re [1,4,0,2,3] rfl);clear hs;refine aT [false,false,false,false,false,true,true,true,true,false,false,true] [5,6,7,8,11] (fun|6=>[5] | 7=>[6] | 8=>[6] | 11=>[7] | _=>[])
  (rX K (bu (.slice af fr.pg.sl.length cf) fr.pg::blk (bl+3) (.cells #[(.pointer (some ⟨(bl+2),0,none⟩))] 82)::blk (bl+1) (.cells #[.int .u64 (fr).id,.int .u64 (fr).word,.int .i64 (fr).pg.ak,(.slice af fr.pg.sl.length cf),.string (fr).pg.hi,.bool (fr).pg.la,.int .u64 (fr).pg.ri] 45)::blk bl (.cells #[.int .i64 (d).th,.int .i64 (d).sn,.int .i64 (d).no,.int .i64 (d).ch,.int .i64 (d).re,.int .i64 (d).fa,.int .u64 (d).cl] 29)::F) (bl+2) d fr (.slice af fr.pg.sl.length cf) fu)
  (fun W=>St K W (bu (.slice af fr.pg.sl.length cf) fr.pg::blk (bl+3) (.cells #[(.pointer (some ⟨(bl+2),0,none⟩))] 82)::blk (bl+1) (.cells #[.int .u64 (fr).id,.int .u64 (fr).word,.int .i64 (fr).pg.ak,(.slice af fr.pg.sl.length cf),.string (fr).pg.hi,.bool (fr).pg.la,.int .u64 (fr).pg.ri] 45)::blk bl (.cells #[.int .i64 (d).th,.int .i64 (d).sn,.int .i64 (d).no,.int .i64 (d).ch,.int .i64 (d).re,.int .i64 (d).fa,.int .u64 (d).cl] 29)::F)) ?aS (by kernel_rfl) ?hB ?H ?iD ?h0 ?hI ?hR ?hE ?hQ
 case hB=>as_aux_lemma=>kernel_rfl
 case H=>
  intro W2 hs;have ki:=hs.k1;have kh:=hs.k2;clear hs;simp only[bL];repeat (go_big_quiet_step (fail))
  refine wpQuiet_nil ?_
  rfl
 case iD=>rfl
 case h0=>exact rX.start Hs.out
 case hI=>exact fun ρ W2 h=>h.rest
 case hR=>exact fun ρ W2 W3 h hb=>h.same hb
 case hE=>
  refine⟨?e5,?e6,?e7,?e8,?e11,trivial⟩;case e5=>
   intro o ho ρ W2 h hcl h5 hd2 dX aB;obtain rfl:=aq9 ho;replace aB:dX=aj _ ρ [] _:=aB;have h6:ρ 6=none:=hcl.none (by simp) (show 5∈[5]by simp) h5
   have h7:ρ 7=none:=hcl.none (by simp) (show 6∈[6]by simp) h6
   have h11:ρ 11=none:=hcl.none (by simp) (show 7∈[7]by simp) h7
   obtain⟨R',hs,hnext⟩:=h.e5 h5 h6 h7 h11;simp only[aj]at aB;subst aB;have Hn:=aq3 hnext;clear hnext hcl hd2 h5 h6 h7 h11 h;go_wp2_with fail
   refine(QI.out _ _ hs.b1).mono ?_
   rintro e W3 ⟨a',c',rfl,hs'⟩;have eG:=aq3 (hs'.re [0,2,1] rfl);clear hs hs';go_wp2
   exact⟨rfl,_,rfl,Hn.out a' c' W3 eG.out⟩
  case e6=>
   intro o ho ρ W2 h hcl h6 hd2 dX aB;obtain rfl:=aq9 ho;replace aB:dX=aj _ ρ [5] _:=aB;obtain⟨v5,h5⟩:=aq6.1 (hd2 5 (by show _∈[5];simp))
   obtain⟨a',c',rfl,hk⟩:=h.e6 h5;simp only[aj,h5,Option.getD_some,aM,Act.put,ara]at aB;subst aB;have Hk:=aq3 hk;clear hk hcl hd2 h5 h6 h;go_wp2
   exact⟨rfl,_,rfl,Hk.out⟩
  case e7=>
   intro o ho ρ W2 h hcl h7 hd2 dX aB;obtain rfl:=aq9 ho;replace aB:dX=aj _ ρ [6] _:=aB;obtain⟨v6,h6⟩:=aq6.1 (hd2 6 (by show _∈[6];simp))
   obtain⟨a',c',rfl,hk⟩:=h.e7 h6;simp only[aj,h6,Option.getD_some,aM,Act.put,ara]at aB;subst aB;have Hk:=aq3 hk;clear hk hcl hd2 h6 h7 h;go_wp2
   exact⟨rfl,_,rfl,Hk.out⟩
  case e8=>
   intro o ho ρ W2 h hcl h8 hd2 dX aB;obtain rfl:=aq9 ho;replace aB:dX=aj _ ρ [6] _:=aB;obtain⟨v6,h6⟩:=aq6.1 (hd2 6 (by show _∈[6];simp))
   obtain⟨a',c',rfl,hk⟩:=h.e8 h6;simp only[aj,h6,Option.getD_some,aM,Act.put,ara]at aB;subst aB;have Hk:=aq3 hk;clear hk hcl hd2 h6 h8 h;go_wp2
   exact⟨rfl,_,rfl,Hk.out⟩
  case e11=>
   intro o ho ρ W2 h hcl h11 hd2 dX aB;obtain rfl:=aq9 ho;replace aB:dX=aj _ ρ [7] _:=aB;obtain⟨v7,h7⟩:=aq6.1 (hd2 7 (by show _∈[7];simp))
   obtain⟨a',c',R',rfl,hs,hnext⟩:=h.e11 h7 h11;simp only[aj,h7,Option.getD_some,aM,Act.put,ara]at aB;subst aB;have k:=hs.k0;have kf:=hs.f0;unfold dL vQ Np at k;have fZ:Hid (St K _ (bz (bl+2) .nilFunc d (jC fr (.slice af fr.pg.sl.length cf) fu (.slice a' fu.sl.length c'))::R')):=aq3 (((((hs.aI 16 (.int .i64 fu.ak)).aI 17 (.slice a' fu.sl.length c')).aI 18 (.string fu.hi)).aI 19 (.bool fu.la)).aI 20 (.int .u64 fu.ri));have Hn:=aq3 hnext;clear hs hnext hcl hd2 h h7 h11;go_wp2
   exact⟨rfl,undef,rfl,Hn.out _ fZ.out⟩
 case hQ=>
 intro ρ W2 h hall;obtain⟨a,c,h5,h6,h7,h8,⟨v11,h11⟩,hs⟩:=h.last hall;simp only[aj,h5,h6,h7,h8,h11,Option.getD_some,aM,Act.put,ara];clear h hall h5 h6 h7 h8 h11 Hs;have hs:St K W2 (bz (bl+2) .nilFunc d { jC fr (.slice af fr.pg.sl.length cf) fu (.slice a fu.sl.length c)with on:=false }::bu (.slice af fr.pg.sl.length cf) fr.pg::bu (.slice a fu.sl.length c) fu::blk (bl+3) (.cells #[(.pointer (some ⟨(bl+2),0,none⟩))] 82)::blk (bl+1) (.cells #[.int .u64 (fr).id,.int .u64 (fr).word,.int .i64 (fr).pg.ak,(.slice af fr.pg.sl.length cf),.string (fr).pg.hi,.bool (fr).pg.la,.int .u64 (fr).pg.ri] 45)::blk bl (.cells #[.int .i64 (d).th,.int .i64 (d).sn,.int .i64 (d).no,.int .i64 (d).ch,.int .i64 (d).re,.int .i64 (d).fa,.int .u64 (d).cl] 29)::F):=hs.re [1,2,0,3,4,5] rfl;go_upto_region 3 with(fail)
 go_cut [35] (fun v wx=>v=.bool (decide ((fu.sl.length:Int)<=d.fa))/\St K wx (bz (bl+2) .nilFunc d { jC fr (.slice af fr.pg.sl.length cf) fu (.slice a fu.sl.length c)with on:=false }::bu (.slice af fr.pg.sl.length cf) fr.pg::bu (.slice a fu.sl.length c) fu::blk (bl+3) (.cells #[(.pointer (some ⟨(bl+2),0,none⟩))] 82)::blk (bl+1) (.cells #[.int .u64 (fr).id,.int .u64 (fr).word,.int .i64 (fr).pg.ak,(.slice af fr.pg.sl.length cf),.string (fr).pg.hi,.bool (fr).pg.la,.int .u64 (fr).pg.ri] 45)::blk bl (.cells #[.int .i64 (d).th,.int .i64 (d).sn,.int .i64 (d).no,.int .i64 (d).ch,.int .i64 (d).re,.int .i64 (d).fa,.int .u64 (d).cl] 29)::F))
 case first=>
  as_aux_lemma=>
  have k:=hs.k0;unfold dL vQ jC at k;have ki:=hs.tail.k2;have kl:=hs.tail.tail.tail.k2;have Qg:=aq3 (fun w=>lR d w)
  refine bI (by kernel_rfl) (by as_aux_lemma=>kernel_rfl) ?_
  repeat (go_big_quiet_step ((go_at_call 96;exact aX ((Qg.out _).mono (by rintro e w' ⟨rfl,hb⟩;exact⟨rfl,hb⟩)))))
  refine wpQuiet_nil ?_
  intro w3 hb3;have hs:=hs.same hb3;clear k ki kl hb3;go_wp2
  go_meet;exact⟨rfl,hs⟩
 case rest=>
 clear hs;obtain⟨rfl,hs⟩:=hcut;by_cases hle:(fu.sl.length:Int)<=d.fa
 ·rw[decide_eq_true hle]
  go_upto_region 4 with(fail)
  have Hs:=aq3 hs;clear hs;refine aT [false,false,false,false,false,false,true,true,false,false,true] [6,7,10] (fun|7=>[6] | 10=>[7] | _=>[])
   (xu K (bu (.slice af fr.pg.sl.length cf) fr.pg::bu (.slice a fu.sl.length c) fu::blk (bl+3) (.cells #[(.pointer (some ⟨(bl+2),0,none⟩))] 82)::blk (bl+1) (.cells #[.int .u64 (fr).id,.int .u64 (fr).word,.int .i64 (fr).pg.ak,(.slice af fr.pg.sl.length cf),.string (fr).pg.hi,.bool (fr).pg.la,.int .u64 (fr).pg.ri] 45)::blk bl (.cells #[.int .i64 (d).th,.int .i64 (d).sn,.int .i64 (d).no,.int .i64 (d).ch,.int .i64 (d).re,.int .i64 (d).fa,.int .u64 (d).cl] 29)::F) (bl+2) d (jC fr (.slice af fr.pg.sl.length cf) fu (.slice a fu.sl.length c)) 6 7 10 (aio (bl+2) d fr fu))
   (fun W=>∃nx on,St K W (bz (bl+2) nx d { jC fr (.slice af fr.pg.sl.length cf) fu (.slice a fu.sl.length c)with on:=on }::bu (.slice af fr.pg.sl.length cf) fr.pg::bu (.slice a fu.sl.length c) fu::blk (bl+3) (.cells #[(.pointer (some ⟨(bl+2),0,none⟩))] 82)::blk (bl+1) (.cells #[.int .u64 (fr).id,.int .u64 (fr).word,.int .i64 (fr).pg.ak,(.slice af fr.pg.sl.length cf),.string (fr).pg.hi,.bool (fr).pg.la,.int .u64 (fr).pg.ri] 45)::blk bl (.cells #[.int .i64 (d).th,.int .i64 (d).sn,.int .i64 (d).no,.int .i64 (d).ch,.int .i64 (d).re,.int .i64 (d).fa,.int .u64 (d).cl] 29)::F)) ?anG (by kernel_rfl) ?air ?HA4 ?ael ?ais ?ait ?aiu ?aiv ?aiw
  case air=>as_aux_lemma=>kernel_rfl
  case HA4=>
   rintro W2 ⟨nx,on,hs⟩;have k:=hs.k0;unfold dL vQ jC at k;have ki:=hs.tail.k2;clear hs;simp only[bL];repeat (go_big_quiet_step (fail))
   refine wpQuiet_nil ?_
   rfl
  case ael=>rfl
  case ais=>exact xu.start Hs.out
  case ait=>exact fun ρ W2 ⟨fv,C,_,_,h⟩=>⟨_,_,h.right⟩
  case aiu=>exact fun ρ W2 W3 h hb=>h.same hb
  case aiv=>
   refine⟨?aix,?aiy,?aiz,trivial⟩;case aix=>
    intro o ho ρ W2 h hcl h1' hd2 dX aB;obtain rfl:=aq9 ho;replace aB:dX=aj _ ρ [] _:=aB;have h2' : ρ 7=none:=hcl.none (by simp) (show 6∈[6]by simp) h1'
    have h3' : ρ 10=none:=hcl.none (by simp) (show 7∈[7]by simp) h2'
    obtain⟨hs,hnext⟩:=h.call (by omega) (by omega) h1' h2' h3'
    simp only[aj]at aB;subst aB;have Hn:=aq3 hnext;clear hnext hcl hd2 h1' h2' h3' h;have hs:St K W2 (bz (bl+2) .nilFunc d { jC fr (.slice af fr.pg.sl.length cf) fu (.slice a fu.sl.length c)with on:=false }::bu (.slice af fr.pg.sl.length cf) fr.pg::bu (.slice a fu.sl.length c) fu::blk (bl+3) (.cells #[(.pointer (some ⟨(bl+2),0,none⟩))] 82)::blk (bl+1) (.cells #[.int .u64 (fr).id,.int .u64 (fr).word,.int .i64 (fr).pg.ak,(.slice af fr.pg.sl.length cf),.string (fr).pg.hi,.bool (fr).pg.la,.int .u64 (fr).pg.ri] 45)::blk bl (.cells #[.int .i64 (d).th,.int .i64 (d).sn,.int .i64 (d).no,.int .i64 (d).ch,.int .i64 (d).re,.int .i64 (d).fa,.int .u64 (d).cl] 29)::F):=hs;have qw:=rW (x:={ jC fr (.slice af fr.pg.sl.length cf) fu (.slice a fu.sl.length c)with on:=false }) hd hfr (Hpg.out hle) (by rw[uE.out];exact hfr.ak) rfl hs
    have Qw:=aq3 qw;clear qw hs;go_wp2_with fail
    refine(Qw.out).mono ?_
    rintro e W3 ⟨B,ps,rfl,hps,hs⟩;have yF:=aq3 hps;have eG:Hid (St K W3 (Er (bl+2) B fr.id (dM (bE fr.word)) fu ps 0++(bz (bl+2) .nilFunc d { jC fr (.slice af fr.pg.sl.length cf) fu (.slice a fu.sl.length c)with on:=false }::bu (.slice af fr.pg.sl.length cf) fr.pg::bu (.slice a fu.sl.length c) fu::blk (bl+3) (.cells #[(.pointer (some ⟨(bl+2),0,none⟩))] 82)::blk (bl+1) (.cells #[.int .u64 (fr).id,.int .u64 (fr).word,.int .i64 (fr).pg.ak,(.slice af fr.pg.sl.length cf),.string (fr).pg.hi,.bool (fr).pg.la,.int .u64 (fr).pg.ri] 45)::blk bl (.cells #[.int .i64 (d).th,.int .i64 (d).sn,.int .i64 (d).no,.int .i64 (d).ch,.int .i64 (d).re,.int .i64 (d).fa,.int .u64 (d).cl] 29)::F))):=aq3 ((show St K W3 (_::_::_::_::_::_::_::_::_::_::_)from hs).re [3,4,5,6,7,8,9,0,1,2] rfl)
    clear hs hps Qw;simp only[oz,aA,aW];go_wp2
    exact⟨rfl,_,rfl,Hn.out (oz B) _ W3 ⟨B,ps,rfl,yF.out,rfl⟩ eG.out⟩
   case aiy=>
    intro o ho ρ W2 h hcl h2' hd2 dX aB;obtain rfl:=aq9 ho;replace aB:dX=aj _ ρ [6] _:=aB;obtain⟨v1,h1'⟩:=aq6.1 (hd2 6 (by show _∈[6];simp))
    obtain⟨fv,rfl,hnext⟩:=h.begin (by omega) (by omega) h1'
    simp only[aj,h1',Option.getD_some,aM,Act.put,ara]at aB;subst aB;have Hn:=aq3 hnext;clear hnext hcl hd2 h1' h2' h;simp only[aW];go_wp2_with fail
    refine(fq _ _ _ _).mono ?_
    rintro e W3 ⟨rfl,hb⟩;have Hb:=aq3 hb;clear hb;go_wp2
    exact⟨rfl,_,rfl,Hn.out W3 Hb.out⟩
   case aiz=>
    intro o ho ρ W2 h hcl h3' hd2 dX aB;obtain rfl:=aq9 ho;replace aB:dX=aj _ ρ [7] _:=aB;obtain⟨v2,h2'⟩:=aq6.1 (hd2 7 (by show _∈[7];simp))
    obtain⟨fv,R',rfl,hs,hnext⟩:=h.store (by omega) (by omega) h2' h3'
    simp only[aj,h2',Option.getD_some,aM,Act.put,ara]at aB;subst aB;have k:=hs.k0;have kf:=hs.f0;unfold dL vQ jC at k;have fZ:Hid (St K _ (bz (bl+2) (aW (some fv)) d { jC fr (.slice af fr.pg.sl.length cf) fu (.slice a fu.sl.length c)with on:=true }::R')):=aq3 ((hs.aI 0 (aW (some fv))).aI 1 (.bool true));have Hn:=aq3 hnext;clear hs hnext hcl hd2 h h2' h3';simp only[aW]at fZ ⊢;go_wp2
    exact⟨rfl,undef,rfl,Hn.out _ fZ.out⟩
  case aiw=>
  intro ρ W2 h hall;obtain⟨fv,C,h1',h2',⟨v3,h3'⟩,hΦ,hs⟩:=h.last hall;simp only[aj,h1',h2',h3',Option.getD_some,aM,Act.put,ara];clear h hall h1' h2' h3' Hs;obtain⟨B,ps,rfl,hps,rfl⟩:=hΦ;have hs:=(show St K W2 (_::_::_::_::_::_::_::_::_::_::_::_::_::F)from hs)
  have ki:=hs.b10.k0;have eG:=aq3 (hs.re [10,11,12,7,8,9,0,1,2,3,4,5,6] rfl);have yF:=aq3 hps;clear hs hps;go_wp2
  go_ret;exact⟨bl+2,a,c,rfl,.inl ⟨hle,B,ps,yF.out,eG.out.tail.tail.tail⟩⟩
 ·rw[decide_eq_false hle]
  have iX:=hd.mJ;have Xv:=hd.Jo;have hwn:IntKind.u64.wrap d.no=d.no:=by rw[IntKind.wrap_u64];omega
  go_upto_region 6 with(fail)
  have Hs:=aq3 hs;clear hs;refine aT [false,false,false,false,false,false,true,true,true] [6,7,8] (fun|8=>[6,7] | _=>[])
   (oK K (bz (bl+2) .nilFunc d { jC fr (.slice af fr.pg.sl.length cf) fu (.slice a fu.sl.length c)with on:=false }::bu (.slice af fr.pg.sl.length cf) fr.pg::bu (.slice a fu.sl.length c) fu::blk (bl+3) (.cells #[(.pointer (some ⟨(bl+2),0,none⟩))] 82)::blk (bl+1) (.cells #[.int .u64 (fr).id,.int .u64 (fr).word,.int .i64 (fr).pg.ak,(.slice af fr.pg.sl.length cf),.string (fr).pg.hi,.bool (fr).pg.la,.int .u64 (fr).pg.ri] 45)::blk bl (.cells #[.int .i64 (d).th,.int .i64 (d).sn,.int .i64 (d).no,.int .i64 (d).ch,.int .i64 (d).re,.int .i64 (d).fa,.int .u64 (d).cl] 29)::F) 156 (.pointer none) 6 7 8 (aiq d.no))
   (fun W=>St K W (bz (bl+2) .nilFunc d { jC fr (.slice af fr.pg.sl.length cf) fu (.slice a fu.sl.length c)with on:=false }::bu (.slice af fr.pg.sl.length cf) fr.pg::bu (.slice a fu.sl.length c) fu::blk (bl+3) (.cells #[(.pointer (some ⟨(bl+2),0,none⟩))] 82)::blk (bl+1) (.cells #[.int .u64 (fr).id,.int .u64 (fr).word,.int .i64 (fr).pg.ak,(.slice af fr.pg.sl.length cf),.string (fr).pg.hi,.bool (fr).pg.la,.int .u64 (fr).pg.ri] 45)::blk bl (.cells #[.int .i64 (d).th,.int .i64 (d).sn,.int .i64 (d).no,.int .i64 (d).ch,.int .i64 (d).re,.int .i64 (d).fa,.int .u64 (d).cl] 29)::F)) ?aSb (by kernel_rfl) ?hBb ?Hb ?Gy ?h0b ?hIb ?hRb ?hEb ?hQb
  case hBb=>as_aux_lemma=>kernel_rfl
  case Hb=>
   intro W2 hs;have kl:=hs.tail.tail.tail.k2;have Qg:=aq3 (fun w=>lR d w)
   have Qn:=aq3 (fun w=>qW d w)
   have aiB:=uD d;clear hs;simp only[bL];repeat (go_big_quiet_step (first|(go_at_call 96;exact aX (Qg.out _))|(go_at_call 99;exact aX (Qn.out _))))
   refine wpQuiet_nil ?_
   rfl
  case Gy=>rfl
  case h0b=>exact oK.start Hs.out
  case hIb=>exact fun ρ W2 h=>h.rest
  case hRb=>exact fun ρ W2 W3 h hb=>h.same hb
  case hEb=>
   refine⟨?e6b,?e7b,?e8b,trivial⟩;case e6b=>
    intro o ho ρ W2 h hcl h6 hd2 dX aB;obtain rfl:=aq9 ho;replace aB:dX=aj _ ρ [] _:=aB;have h8:ρ 8=none:=hcl.none (by simp) (show 6∈[6,7]by simp) h6
    obtain⟨X,hs,hnext⟩:=h.call (by omega) (by omega) h6 h8
    simp only[aj]at aB;subst aB;have Hn:=aq3 hnext;clear hnext hcl hd2 h6 h8 h;go_wp2_with fail
    refine(uz (i:=4) (lim:=d.no) hs).mono ?_
    rintro e W3 ⟨bt,rfl,hs'⟩;have eG:=aq3 hs';clear hs hs';go_wp2
    exact⟨rfl,_,rfl,Hn.out _ _ W3 ⟨bt,rfl,rfl⟩ eG.out⟩
   case e7b=>
    intro o ho ρ W2 h hcl h7 hd2 dX aB;obtain rfl:=aq9 ho;replace aB:dX=aj _ ρ [] _:=aB;have h8:ρ 8=none:=hcl.none (by simp) (show 7∈[6,7]by simp) h7
    have Hn:=aq3 (h.var (by omega) (by omega) h7 h8)
    simp only[aj]at aB;subst aB;clear hcl hd2 h7 h8 h;go_wp2
    exact⟨rfl,_,rfl,Hn.out⟩
   case e8b=>
    intro o ho ρ W2 h hcl h8 hd2 dX aB;obtain rfl:=aq9 ho;replace aB:dX=aj _ ρ [6,7] _:=aB;obtain⟨v6,h6⟩:=aq6.1 (hd2 6 (by show _∈[6,7];simp))
    obtain⟨v7,h7⟩:=aq6.1 (hd2 7 (by show _∈[6,7];simp))
    obtain⟨bv,R',rfl,⟨C,bt,rfl,_⟩,hs,hnext⟩:=h.store (by omega) (by omega) h6 h7 h8
    simp only[aj,h6,h7,Option.getD_some,aM,Act.put,ara]at aB;subst aB;have k0:=hs.k0;have f0:=hs.f0;have fZ:Hid (St K _ (blk bv (.cells #[(.pointer (some ⟨bt,0,none⟩))] 156)::R')):=aq3 (hs.aI 0 (.pointer (some ⟨bt,0,none⟩)));have Hn:=aq3 hnext;clear hs hnext hcl hd2 h h6 h7 h8;go_wp2
    exact⟨rfl,undef,rfl,Hn.out _ fZ.out⟩
  case hQb=>
  intro ρ W2 h hall;obtain⟨bv,v,C,h6,h7,⟨v8,h8⟩,⟨bt,rfl,rfl⟩,hs⟩:=h.last hall;simp only[aj,h6,h7,h8,Option.getD_some,aM,Act.put,ara];clear h hall h6 h7 h8 Hs;have hs:=(show St K W2 (_::_::_::_)from hs).re [2,0,1] rfl
  go_upto_region 7 with(fail)
  have Hs:Hid (St K W2 (bz (bl+2) .nilFunc d { jC fr (.slice af fr.pg.sl.length cf) fu (.slice a fu.sl.length c)with on:=false }::blk bv (.cells #[(.pointer (some ⟨bt,0,none⟩))] 156)::gL bt 4 d.no ⟨0,0,false⟩::bu (.slice af fr.pg.sl.length cf) fr.pg::bu (.slice a fu.sl.length c) fu::blk (bl+3) (.cells #[(.pointer (some ⟨(bl+2),0,none⟩))] 82)::blk (bl+1) (.cells #[.int .u64 (fr).id,.int .u64 (fr).word,.int .i64 (fr).pg.ak,(.slice af fr.pg.sl.length cf),.string (fr).pg.hi,.bool (fr).pg.la,.int .u64 (fr).pg.ri] 45)::blk bl (.cells #[.int .i64 (d).th,.int .i64 (d).sn,.int .i64 (d).no,.int .i64 (d).ch,.int .i64 (d).re,.int .i64 (d).fa,.int .u64 (d).cl] 29)::F)):=aq3 hs;clear hs;refine aT [false,false,false,false,true,true,false,false,true] [4,5,8] (fun|5=>[4] | 8=>[5] | _=>[])
   (xu K (blk bv (.cells #[(.pointer (some ⟨bt,0,none⟩))] 156)::gL bt 4 d.no ⟨0,0,false⟩::bu (.slice af fr.pg.sl.length cf) fr.pg::bu (.slice a fu.sl.length c) fu::blk (bl+3) (.cells #[(.pointer (some ⟨(bl+2),0,none⟩))] 82)::blk (bl+1) (.cells #[.int .u64 (fr).id,.int .u64 (fr).word,.int .i64 (fr).pg.ak,(.slice af fr.pg.sl.length cf),.string (fr).pg.hi,.bool (fr).pg.la,.int .u64 (fr).pg.ri] 45)::blk bl (.cells #[.int .i64 (d).th,.int .i64 (d).sn,.int .i64 (d).no,.int .i64 (d).ch,.int .i64 (d).re,.int .i64 (d).fa,.int .u64 (d).cl] 29)::F) (bl+2) d (jC fr (.slice af fr.pg.sl.length cf) fu (.slice a fu.sl.length c)) 4 5 8 (aip bv (bl+3) bt))
   (fun W=>∃nx on,St K W (bz (bl+2) nx d { jC fr (.slice af fr.pg.sl.length cf) fu (.slice a fu.sl.length c)with on:=on }::blk bv (.cells #[(.pointer (some ⟨bt,0,none⟩))] 156)::gL bt 4 d.no ⟨0,0,false⟩::bu (.slice af fr.pg.sl.length cf) fr.pg::bu (.slice a fu.sl.length c) fu::blk (bl+3) (.cells #[(.pointer (some ⟨(bl+2),0,none⟩))] 82)::blk (bl+1) (.cells #[.int .u64 (fr).id,.int .u64 (fr).word,.int .i64 (fr).pg.ak,(.slice af fr.pg.sl.length cf),.string (fr).pg.hi,.bool (fr).pg.la,.int .u64 (fr).pg.ri] 45)::blk bl (.cells #[.int .i64 (d).th,.int .i64 (d).sn,.int .i64 (d).no,.int .i64 (d).ch,.int .i64 (d).re,.int .i64 (d).fa,.int .u64 (d).cl] 29)::F)) ?anJ (by kernel_rfl) ?aiC ?HB7 ?aem ?aiD ?aiE ?aiF ?aiG ?aiH
  case aiC=>as_aux_lemma=>kernel_rfl
  case HB7=>
   rintro W2 ⟨nx,on,hs⟩;have kv:=hs.k1;have ki:=hs.tail.tail.tail.k2;clear hs;simp only[bL];repeat (go_big_quiet_step (fail))
   refine wpQuiet_nil ?_
   rfl
  case aem=>rfl
  case aiD=>exact xu.start Hs.out
  case aiE=>exact fun ρ W2 ⟨fv,C,_,_,h⟩=>⟨_,_,h.right⟩
  case aiF=>exact fun ρ W2 W3 h hb=>h.same hb
  case aiG=>
   refine⟨?aiI,?aiJ,?aiK,trivial⟩;case aiI=>
    intro o ho ρ W2 h hcl h1' hd2 dX aB;obtain rfl:=aq9 ho;replace aB:dX=aj _ ρ [] _:=aB;have h2' : ρ 5=none:=hcl.none (by simp) (show 4∈[4]by simp) h1'
    have h3' : ρ 8=none:=hcl.none (by simp) (show 5∈[5]by simp) h2'
    obtain⟨hs,hnext⟩:=h.call (by omega) (by omega) h1' h2' h3'
    simp only[aj]at aB;subst aB;have Hn:=aq3 hnext;clear hnext hcl hd2 h1' h2' h3' h;have qw:=fG (T2:=156) (xv:=(.pointer (some ⟨bt,0,none⟩))) (f:=100) (tx:= #[]) (ty:= #[(.pointer (some ⟨bv,0,none⟩)),(.pointer (some ⟨(bl+3),0,none⟩))]) hs;have Qw:=aq3 qw;clear qw hs;go_wp2_with fail
    refine(Qw.out).mono ?_
    rintro e W3 ⟨b2,b3,b5,rfl,hs⟩;have eG:=aq3 hs;clear hs Qw;simp only[aA,aW];go_wp2
    exact⟨rfl,_,rfl,Hn.out (aA b2 b3 b5) _ W3 ⟨b2,b3,b5,rfl,rfl⟩ eG.out⟩
   case aiJ=>
    intro o ho ρ W2 h hcl h2' hd2 dX aB;obtain rfl:=aq9 ho;replace aB:dX=aj _ ρ [4] _:=aB;obtain⟨v1,h1'⟩:=aq6.1 (hd2 4 (by show _∈[4];simp))
    obtain⟨fv,rfl,hnext⟩:=h.begin (by omega) (by omega) h1'
    simp only[aj,h1',Option.getD_some,aM,Act.put,ara]at aB;subst aB;have Hn:=aq3 hnext;clear hnext hcl hd2 h1' h2' h;simp only[aW];go_wp2_with fail
    refine(fq _ _ _ _).mono ?_
    rintro e W3 ⟨rfl,hb⟩;have Hb:=aq3 hb;clear hb;go_wp2
    exact⟨rfl,_,rfl,Hn.out W3 Hb.out⟩
   case aiK=>
    intro o ho ρ W2 h hcl h3' hd2 dX aB;obtain rfl:=aq9 ho;replace aB:dX=aj _ ρ [5] _:=aB;obtain⟨v2,h2'⟩:=aq6.1 (hd2 5 (by show _∈[5];simp))
    obtain⟨fv,R',rfl,hs,hnext⟩:=h.store (by omega) (by omega) h2' h3'
    simp only[aj,h2',Option.getD_some,aM,Act.put,ara]at aB;subst aB;have k:=hs.k0;have kf:=hs.f0;unfold dL vQ jC at k;have fZ:Hid (St K _ (bz (bl+2) (aW (some fv)) d { jC fr (.slice af fr.pg.sl.length cf) fu (.slice a fu.sl.length c)with on:=true }::R')):=aq3 ((hs.aI 0 (aW (some fv))).aI 1 (.bool true));have Hn:=aq3 hnext;clear hs hnext hcl hd2 h h2' h3';simp only[aW]at fZ ⊢;go_wp2
    exact⟨rfl,undef,rfl,Hn.out _ fZ.out⟩
  case aiH=>
  intro ρ W2 h hall;obtain⟨fv,C,h1',h2',⟨v3,h3'⟩,hΦ,hs⟩:=h.last hall;simp only[aj,h1',h2',h3',Option.getD_some,aM,Act.put,ara];clear h hall h1' h2' h3' Hs;obtain⟨b2,b3,b5,rfl,rfl⟩:=hΦ;have hs:=(show St K W2 (_::_::_::_::_::_::_::_::_::F)from hs)
  have ki:=hs.b6.k0;have eG:=aq3 (hs.re [7,8,1,4,5,0,2,6,3] rfl);clear hs;go_wp2
  go_ret;exact⟨bl+2,rfl,a,c,.inr ⟨⟨b2,b3,b5,bv,bl+3,bt⟩,eG.out.tail.tail⟩⟩
end
theorem rr {K:aL}{w:World}{α:Type}{b m:Nat}{f:FV}{o:α->Option FV}{nx:Value}{tl:α->List Value}{T:TypeId}{F' : α->List aC}(hf:Enters f.f)(hc:w.cell? ⟨b,0,none⟩=some (aW (some f)))
  (hcall:Calls Tryz.prog f.f (f.x ++ #[(.pointer (some ⟨m,0,none⟩))]++f.y) w fun e w1=>∃x,e=.returned (aW (o x))/\St K w1 (blk b (.cells (nx::tl x).toArray T)::F' x)) :
  Calls Tryz.prog 77 #[(.pointer (some ⟨b,0,none⟩)),(.pointer (some ⟨m,0,none⟩))] w fun e w' => ∃x,e=.returned (.bool (o x).isNone)/\St K w' (blk b (.cells (aW (o x)::tl x).toArray T)::F' x):=by
 refine(oT (R:=fun l=>∃x,l=⟨o x,K,nx,tl x,T,F' x⟩) w b m f hf hc (hcall.mono fun e w1 ⟨x,he,hs⟩=>⟨⟨o x,K,nx,tl x,T,F' x⟩,he,⟨x,rfl⟩,hs⟩)).mono ?_
 rintro e w' ⟨l,he,⟨x,rfl⟩,hs⟩;exact⟨x,he,hs⟩
theorem yI:Enters 133:=fun _ _=>by kernel_rfl
theorem yJ:Enters 136:=fun _ _=>by kernel_rfl
theorem yK:Enters 100:=fun _ _=>by kernel_rfl
def Gz (d:aR)(x:o8):List Value:=(dL .nilFunc d x).tail
section
variable {K:aL}{w:World}{F:List aC}{b bm bc acc:Nat}{d:aR}{x:o8}{L:List aO}{p q:Pg}{id word:Int}{ps:List Pt}{k:Nat}{pt:Pt}{sep:ByteArray}{af au:Option Addr}{cf cu:Nat}{s:iB}
theorem Xw (B:Sy)(hn:p.sl.length<=1000000)(hk:ps[k]?=some pt)(ha:acc<=1000000000000)
  (hs:St K w (bz b (aW (some (oz B))) d x::aJ bm bc L acc::(Er b B id word p ps k++F))) :
  Calls Tryz.prog 77 #[(.pointer (some ⟨b,0,none⟩)),(.pointer (some ⟨bm,0,none⟩))] w fun e w' => (k+1≠ps.length/\e=.returned (.bool false)/\St K w' (bz b (aW (some (oz B))) d x::aJ bm bc (aP L pt.i pt.c) (acc+1)::(Er b B id word p ps (k+1)++F))) \/
   (k+1=ps.length/\e=.returned (.bool true)/\∃va,St K w' (bz b .nilFunc d { x with le:=⟨id,word,p⟩,vl:=va }::aJ bm bc (aP L pt.i pt.c) (acc+1)::bu va p::F)):=by
 obtain⟨b2,b3,b5,Ep,ja,bw,bn,g,cap,va⟩:=B;have hc:w.cell? ⟨b,0,none⟩=some (aW (some (aA b2 b3 b5))):=hs.k0 0;have hs:St K w (bz b (aW (some (aA b2 b3 b5))) d x::aJ bm bc L acc::bG b2 b3 b5 (.iface 76 (.pointer (some ⟨bw,0,none⟩))) (.func (.func 133) #[] #[(.pointer (some ⟨Ep,0,none⟩)),(.pointer (some ⟨ja,0,none⟩))])::blk Ep (.cells #[(.pointer (some ⟨bw,0,none⟩))] 76)::blk ja (.cells #[(.pointer (some ⟨b,0,none⟩))] 82) ::
  mH bn id word p va g cap ps k::az (.slice (some ⟨g,0,none⟩) ps.length cap) 139 4 ps.length (cj ps)::blk bw (.cells #[(.pointer (some ⟨bn,0,none⟩))] 147)::bu va p::F):=hs
 refine(rr (K:=K) (α:={ y:Option Value // y.isSome=decide (k+1=ps.length) }) (f:=aA b2 b3 b5) (o:=fun y=>match y.1 with|none=>some (aA b2 b3 b5)|some _=>none) (nx:=aW (some (aA b2 b3 b5)))
  (tl:=fun y=>match y.1 with|none=>Gz d x|some eX=>Gz d { x with le:=⟨id,word,p⟩,vl:=eX })
  (F' := fun y=>aJ bm bc (aP L pt.i pt.c) (acc+1)::(match y.1 with|none=>Er b ⟨b2,b3,b5,Ep,ja,bw,bn,g,cap,va⟩ id word p ps (k+1)++F|some eX=>bu eX p::F)) (T:=151) jY hc ?_).mono (fun e w' h=>?_)
 ·show Calls Tryz.prog 115 #[(.pointer (some ⟨bm,0,none⟩)),(.pointer (some ⟨b2,0,none⟩)),(.pointer (some ⟨b3,0,none⟩)),(.pointer (some ⟨b5,0,none⟩))] w _
  refine(jr (P0:=fun w' => k+1≠ps.length/\St K w' (bz b (aW (some (aA b2 b3 b5))) d x::aJ bm bc (aP L pt.i pt.c) (acc+1)::(Er b ⟨b2,b3,b5,Ep,ja,bw,bn,g,cap,va⟩ id word p ps (k+1)++F)))
   (P1:=fun o w' => k+1=ps.length/\o=none/\∃eX,St K w' (bz b (aW (some (aA b2 b3 b5))) d { x with le:=⟨id,word,p⟩,vl:=eX }::bu eX p::aJ bm bc (aP L pt.i pt.c) (acc+1)::F))
   (hs.re [2,0,1,3,4,5,6,7,8] rfl) (fun n w=>yu n _ w) Ca yI ((yE hk ha (hs.re [5,1,6,7,0,2,3,4,8] rfl)).mono ?_)).mono ?_
  ·rintro e w1 ⟨rfl,hs⟩
   refine⟨⟨K,_,hs.re [5,0,1,2,3,4,6,7,8] rfl⟩,?_⟩;by_cases hl:k+1=ps.length
   ·refine .inr ⟨by rw[decide_eq_true hl],?_⟩
    have hs':St K w1 (bz b (aW (some (aA b2 b3 b5))) d x::(Er b ⟨b2,b3,b5,Ep,ja,bw,bn,g,cap,va⟩ id word p ps ps.length++(aJ bm bc (aP L pt.i pt.c) (acc+1)::F))):=by
     have h9:=hs.re [4,5,6,7,0,2,3,8,1] rfl;rw[hl]at h9;exact h9
    refine(Sz hn hs').mono ?_
    rintro e w2 ⟨eX,rfl,hs2⟩;exact⟨none,rfl,hl,rfl,eX,hs2⟩
   ·exact .inl ⟨by rw[decide_eq_false hl],hl,hs.re [4,1,5,6,7,0,2,3,8] rfl⟩
  ·rintro e w1 ⟨o,rfl,⟨rfl,hl,hs⟩|⟨hl,rfl,eX,hs⟩⟩
   ·exact⟨⟨none,by simp[hl]⟩,rfl,hs⟩
   ·exact⟨⟨some eX,by simp[hl]⟩,rfl,hs.re [0,2,1] rfl⟩
 ·obtain⟨⟨y,hy⟩,rfl,hs⟩:=h
  cases y with
  | none=>exact .inl ⟨by simpa using hy,rfl,hs⟩
  | some eX=>exact .inr ⟨by simpa using hy,rfl,eX,hs⟩
theorem Xx (B:Wj)(hd:d.Ok)(hfr:x.fr.Ok d)(hq:oW d q)(hql:0<=q.ak/\q.ak<1000000)(hn:p.sl.length<=1000000)(hv:x.vf=.slice af x.fr.pg.sl.length cf)(zw:∃a c,B.vq=.slice a q.sl.length c)(hk:ps[k]?=some pt)(ha:acc<=1000000000000)
  (hs:St K w (bz b (aW (some (sI B))) d x::aJ bm bc L acc::bu x.vf x.fr.pg::(Nl b B id p q sep ps k++F))) :
  Calls Tryz.prog 77 #[(.pointer (some ⟨b,0,none⟩)),(.pointer (some ⟨bm,0,none⟩))] w fun e w' => e=.returned (.bool false) /\
   ((k+1≠ps.length/\St K w' (bz b (aW (some (sI B))) d x::aJ bm bc (aP L pt.i pt.c) (acc+1)::bu x.vf x.fr.pg::(Nl b B id p q sep ps (k+1)++F))) \/
   (k+1=ps.length/\∃va B' ps',nI d x.fr q ps' /\ St K w' (bz b (aW (some (oz B'))) d { x with ri:=⟨id,aN 0,p⟩,vr:=va,sep:=sep }::aJ bm bc (aP L pt.i pt.c) (acc+1)::bu x.vf x.fr.pg::bu va p::bu B.vq q::(Er b B' x.fr.id (dM (bE x.fr.word)) q ps' 0++F)))):=by
 obtain⟨b2,b3,b5,Kn,Ko,ja,Nk,bw,bn,g,cap,va,vq⟩:=B;have hc:w.cell? ⟨b,0,none⟩=some (aW (some (aA b2 b3 b5))):=hs.k0 0;have hs:St K w (bz b (aW (some (aA b2 b3 b5))) d x::aJ bm bc L acc::bu x.vf x.fr.pg::bG b2 b3 b5 (.iface 74 (.pointer (some ⟨bw,0,none⟩))) (.func (.func 136) #[] #[(.pointer (some ⟨Kn,0,none⟩)),(.pointer (some ⟨Ko,0,none⟩)),(.pointer (some ⟨ja,0,none⟩)),(.pointer (some ⟨Nk,0,none⟩))]) ::
  blk Kn (.cells #[(.pointer (some ⟨bw,0,none⟩))] 74)::blk Ko (.cells #[.string sep] 9)::blk ja (.cells #[(.pointer (some ⟨b,0,none⟩))] 82)::blk Nk (.cells #[.int .i64 (q).ak,vq,.string (q).hi,.bool (q).la,.int .u64 (q).ri] 43) ::
  mH bn id (aN 0) p va g cap ps k::az (.slice (some ⟨g,0,none⟩) ps.length cap) 139 4 ps.length (cj ps)::blk bw (.cells #[(.pointer (some ⟨bn,0,none⟩))] 145)::bu va p::bu vq q::F):=hs
 refine(rr (K:=K) (α:={ y:Option (Value × Sy × List Pt) // y.isSome=decide (k+1=ps.length)/\∀z,y=some z->nI d x.fr q z.2.2 }) (f:=aA b2 b3 b5) (o:=fun y=>match y.1 with|none=>some (aA b2 b3 b5)|some z=>some (oz z.2.1)) (nx:=aW (some (aA b2 b3 b5)))
  (tl:=fun y=>match y.1 with|none=>Gz d x|some z=>Gz d { x with ri:=⟨id,aN 0,p⟩,vr:=z.1,sep:=sep })
  (F' := fun y=>aJ bm bc (aP L pt.i pt.c) (acc+1)::bu x.vf x.fr.pg::(match y.1 with|none=>Nl b ⟨b2,b3,b5,Kn,Ko,ja,Nk,bw,bn,g,cap,va,vq⟩ id p q sep ps (k+1)++F|some z=>bu z.1 p::bu vq q::(Er b z.2.1 x.fr.id (dM (bE x.fr.word)) q z.2.2 0++F))) (T:=151) jY hc ?_).mono (fun e w' h=>?_)
 ·show Calls Tryz.prog 115 #[(.pointer (some ⟨bm,0,none⟩)),(.pointer (some ⟨b2,0,none⟩)),(.pointer (some ⟨b3,0,none⟩)),(.pointer (some ⟨b5,0,none⟩))] w _
  refine(jr (P0:=fun w' => k+1≠ps.length/\St K w' (bz b (aW (some (aA b2 b3 b5))) d x::aJ bm bc (aP L pt.i pt.c) (acc+1)::bu x.vf x.fr.pg::(Nl b ⟨b2,b3,b5,Kn,Ko,ja,Nk,bw,bn,g,cap,va,vq⟩ id p q sep ps (k+1)++F)))
   (P1:=fun o w' => k+1=ps.length/\∃eX B' ps',o=some (oz B')/\nI d x.fr q ps' /\ St K w' (bz b (aW (some (aA b2 b3 b5))) d { x with ri:=⟨id,aN 0,p⟩,vr:=eX,sep:=sep }::aJ bm bc (aP L pt.i pt.c) (acc+1)::bu x.vf x.fr.pg::bu eX p::bu vq q::(Er b B' x.fr.id (dM (bE x.fr.word)) q ps' 0++F)))
   (hs.re [3,0,1,2,4,5,6,7,8,9,10,11,12] rfl) (fun n w=>qo n _ w) Cb yJ ((qC hk ha (hs.re [8,1,9,10,0,2,3,4,5,6,7,11,12] rfl)).mono ?_)).mono ?_
  ·rintro e w1 ⟨rfl,hs⟩
   refine⟨⟨K,_,hs.re [6,0,1,2,3,4,5,7,8,9,10,11,12] rfl⟩,?_⟩;by_cases hl:k+1=ps.length
   ·refine .inr ⟨by rw[decide_eq_true hl],?_⟩
    have hs':St K w1 (bz b (aW (some (aA b2 b3 b5))) d x::bu x.vf x.fr.pg::(Nl b ⟨b2,b3,b5,Kn,Ko,ja,Nk,bw,bn,g,cap,va,vq⟩ id p q sep ps ps.length++(aJ bm bc (aP L pt.i pt.c) (acc+1)::F))):=by
     have h9:=hs.re [4,5,6,7,8,9,10,0,2,3,11,12,1] rfl;rw[hl]at h9;exact h9
    obtain⟨aq,cq,zw⟩:=zw;refine(Ta hd hfr hq hql hn hv zw hs').mono ?_
    rintro e w2 ⟨eX,B',ps',rfl,hw,hs2⟩;exact⟨some (oz B'),rfl,hl,eX,B',ps',rfl,hw,(show St K w2 (_::_::_::_::_::_::_::_::_::_::_::_::F)from hs2).re [0,11,1,2,3,4,5,6,7,8,9,10] rfl⟩
   ·exact .inl ⟨by rw[decide_eq_false hl],hl,hs.re [4,1,5,6,7,8,9,10,0,2,3,11,12] rfl⟩
  ·rintro e w1 ⟨o,rfl,⟨rfl,hl,hs⟩|⟨hl,eX,B',ps',rfl,hw,hs⟩⟩
   ·exact⟨⟨none,by simp[hl],by simp⟩,rfl,hs⟩
   ·exact⟨⟨some ⟨eX,B',ps'⟩,by simp[hl],fun z hz=>by obtain rfl:=aq9 hz;exact hw⟩,rfl,hs⟩
 ·obtain⟨⟨y,hy,hw⟩,rfl,hs⟩:=h
  cases y with
  | none=>exact⟨rfl,.inl ⟨by simpa using hy,hs⟩⟩
  | some z=>exact⟨rfl,.inr ⟨by simpa using hy,z.1,z.2.1,z.2.2,hw z rfl,hs⟩⟩
theorem Xy (B:TkB)(hd:d.Ok)(hul:0<=x.fu.ak/\x.fu.ak<1000000)(h2:2<=x.fu.sl.length)(hle:(x.fu.sl.length:Int)<=d.fa+1)(hsz:∀s,s∈x.fu.sl->s.k.size<=1000000)(hvu:x.vu=.slice au x.fu.sl.length cu)(hv:x.vf=.slice af x.fr.pg.sl.length cf)
  (pM:s.pc<2) (h1:s.pc=1->0<=s.seen/\s.seen<18446744073709551615) (hseen:(aF 4 d.no L s).1.ok=true->0<=(aF 4 d.no L s).1.seen/\(aF 4 d.no L s).1.seen<18446744073709551615) (ha:acc<=1000000000000)
  (hs:St K w (bz b (aW (some (Gx B))) d x::aJ bm bc L acc::bu x.vu x.fu::(Wl b B 4 d.no s++F))) :
  Calls Tryz.prog 77 #[(.pointer (some ⟨b,0,none⟩)),(.pointer (some ⟨bm,0,none⟩))] w fun e w' =>
   ((aF 4 d.no L s).1.pc<2/\e=.returned (.bool false)/\St K w' (bz b (aW (some (Gx B))) d x::aJ bm bc (aF 4 d.no L s).2 (acc+1)::bu x.vu x.fu::(Wl b B 4 d.no (aF 4 d.no L s).1++F))) \/
   (2<=(aF 4 d.no L s).1.pc/\(aF 4 d.no L s).1.ok=false/\e=.returned (.bool true)/\St K w' (bz b .nilFunc d { x with err:=2,le:=x.fr,vl:=x.vf }::aJ bm bc (aF 4 d.no L s).2 (acc+1)::bu x.vu x.fu::F)) \/
   (2<=(aF 4 d.no L s).1.pc/\(aF 4 d.no L s).1.ok=true/\e=.returned (.bool false)/\∃(B':Wj) (ps:List Pt),ps=⟨d.node ((aF 4 d.no L s).1.seen+1) 0,⟨aN 0,⟨#[]⟩,0⟩⟩::bP d ((aF 4 d.no L s).1.seen+1) (dI x.fu)/\(∃a c,B'.vq=.slice a (fA x.fu ((aF 4 d.no L s).1.seen+1)).sl.length c) /\
    St K w' (bz b (aW (some (sI B'))) d x::aJ bm bc (aF 4 d.no L s).2 (acc+1)::bu x.vu x.fu::(Nl b B' ((aF 4 d.no L s).1.seen+1) (dI x.fu) (fA x.fu ((aF 4 d.no L s).1.seen+1)) (bN x.fu) ps 0++F))):=by
 obtain⟨b2,b3,b5,Es,ja,bt⟩:=B;have hc:w.cell? ⟨b,0,none⟩=some (aW (some (aA b2 b3 b5))):=hs.k0 0;have hs:St K w (bz b (aW (some (aA b2 b3 b5))) d x::aJ bm bc L acc::bu x.vu x.fu::bG b2 b3 b5 (.iface 156 (.pointer (some ⟨bt,0,none⟩))) (.func (.func 100) #[] #[(.pointer (some ⟨Es,0,none⟩)),(.pointer (some ⟨ja,0,none⟩))]) ::
  blk Es (.cells #[(.pointer (some ⟨bt,0,none⟩))] 156)::blk ja (.cells #[(.pointer (some ⟨b,0,none⟩))] 82)::gL bt 4 d.no s::F):=hs
 obtain⟨s',hs'⟩:∃s',s'=(aF 4 d.no L s).1:=⟨_,rfl⟩;obtain⟨L',hL'⟩:∃L',L'=(aF 4 d.no L s).2:=⟨_,rfl⟩;have q:=rT (i:=4) (lim:=d.no) (hs.re [6,1,0,2,3,4,5] rfl) ha h1;rw[if_neg (by omega:¬ 2<=s.pc)]at q
 rw[←hs']at hseen;rw[←hs',←hL']at q ⊢;have Q:=aq3 q;clear q hs' hL';refine(rr (K:=K) (α:={ y:Option (Option (Wj × List Pt)) // match y with|none=>s'.pc<2|some none=>2<=s'.pc/\s'.ok=false|some (some z)=>2<=s'.pc/\s'.ok=true/\z.2=⟨d.node (s'.seen+1) 0,⟨aN 0,⟨#[]⟩,0⟩⟩::bP d (s'.seen+1) (dI x.fu)/\(∃a c,z.1.vq=.slice a (fA x.fu (s'.seen+1)).sl.length c) })
  (f:=aA b2 b3 b5) (o:=fun y=>match y.1 with|none=>some (aA b2 b3 b5)|some none=>none|some (some z)=>some (sI z.1)) (nx:=aW (some (aA b2 b3 b5)))
  (tl:=fun y=>match y.1 with|none=>Gz d x|some none=>Gz d { x with err:=2,le:=x.fr,vl:=x.vf } | some (some _)=>Gz d x)
  (F' := fun y=>aJ bm bc L' (acc+1)::bu x.vu x.fu::(match y.1 with|none=>Wl b ⟨b2,b3,b5,Es,ja,bt⟩ 4 d.no s' ++ F|some none=>F|some (some z)=>Nl b z.1 (s'.seen+1) (dI x.fu) (fA x.fu (s'.seen+1)) (bN x.fu) z.2 0++F)) (T:=151) jY hc ?_).mono (fun e w' h=>?_)
 ·show Calls Tryz.prog 115 #[(.pointer (some ⟨bm,0,none⟩)),(.pointer (some ⟨b2,0,none⟩)),(.pointer (some ⟨b3,0,none⟩)),(.pointer (some ⟨b5,0,none⟩))] w _
  refine(jr (P0:=fun w' => s'.pc<2/\St K w' (bz b (aW (some (aA b2 b3 b5))) d x::aJ bm bc L' (acc+1)::bu x.vu x.fu::(Wl b ⟨b2,b3,b5,Es,ja,bt⟩ 4 d.no s' ++ F)))
   (P1:=fun o w' => 2<=s'.pc/\((s'.ok=false/\o=none/\St K w' (bz b (aW (some (aA b2 b3 b5))) d { x with err:=2,le:=x.fr,vl:=x.vf }::aJ bm bc L' (acc+1)::bu x.vu x.fu::F)) \/
    (s'.ok=true/\∃B' ps,o=some (sI B')/\ps=⟨d.node (s'.seen+1) 0,⟨aN 0,⟨#[]⟩,0⟩⟩::bP d (s'.seen+1) (dI x.fu)/\(∃a c,B'.vq=.slice a (fA x.fu (s'.seen+1)).sl.length c) /\
     St K w' (bz b (aW (some (aA b2 b3 b5))) d x::aJ bm bc L' (acc+1)::bu x.vu x.fu::(Nl b B' (s'.seen+1) (dI x.fu) (fA x.fu (s'.seen+1)) (bN x.fu) ps 0++F)))))
   (hs.re [3,0,1,2,4,5,6] rfl) (fun n w=>rS n _ w) Gt yK ((Q.out).mono ?_)).mono ?_
  ·rintro e w1 ⟨rfl,hs⟩
   refine⟨⟨K,_,hs.re [4,0,1,2,3,5,6] rfl⟩,?_⟩;by_cases hl:2<=s'.pc
   ·refine .inr ⟨by rw[decide_eq_true hl],?_⟩
    have hs':St K w1 (bz b (aW (some (aA b2 b3 b5))) d x::bu x.vu x.fu::(Wl b ⟨b2,b3,b5,Es,ja,bt⟩ 4 d.no s' ++ (aJ bm bc L' (acc+1)::F))):=hs.re [2,3,4,5,6,0,1] rfl;cases hok:s'.ok with
    | true=>
     refine(Nn hd hul h2 hle hsz hvu hok (hseen hok) hs').mono ?_
     rintro e w2 ⟨B',ps,rfl,hps,zw,hs2⟩;exact⟨some (sI B'),rfl,hl,.inr ⟨rfl,B',ps,rfl,hps,zw,(show St K w2 (_::_::_::_::_::_::_::_::_::_::_::_::_::F)from hs2).re [0,12,1,2,3,4,5,6,7,8,9,10,11] rfl⟩⟩
    | false=>
     refine(Tb hv hok ((show St K w1 (_::_::_::_::_::_::_::F)from hs').re [0,2,3,4,5,1,6] rfl)).mono ?_
     rintro e w2 ⟨rfl,hs2⟩;exact⟨none,rfl,hl,.inl ⟨rfl,rfl,hs2.re [0,2,1] rfl⟩⟩
   ·exact .inl ⟨by rw[decide_eq_false hl],by omega,hs.re [2,1,3,4,5,6,0] rfl⟩
  ·rintro e w1 ⟨o,rfl,⟨rfl,hl,hs⟩|⟨hl,⟨hok,rfl,hs⟩|⟨hok,B',ps,rfl,hps,zw,hs⟩⟩⟩
   ·exact⟨⟨none,hl⟩,rfl,hs⟩
   ·exact⟨⟨some none,hl,hok⟩,rfl,hs⟩
   ·exact⟨⟨some (some ⟨B',ps⟩),hl,hok,hps,zw⟩,rfl,hs⟩
 ·obtain⟨⟨y,hy⟩,rfl,hs⟩:=h
  match y,hy,hs with
  | none,hy,hs=>exact .inl ⟨hy,rfl,hs⟩
  | some none,hy,hs=>exact .inr (.inl ⟨hy.1,hy.2,rfl,hs⟩)
  | some (some z),hy,hs=>exact .inr (.inr ⟨hy.1,hy.2.1,rfl,z.1,z.2,hy.2.2.1,hy.2.2.2,hs⟩)
end
theorem Ia (tmps:Array Value)(w:World)(b:Nat)(v0 v1 v2 v3 v4 v5 v6:Value)(hp:tmps[4]?=some ((.pointer (some ⟨b,0,none⟩))))(hk:∀k,w.cell? ⟨b,k,none⟩=(#[v0,v1,v2,v3,v4,v5,v6]:Array Value)[k]?) :
  (results Tryz.f106 tmps).run Tryz.prog w=.ok (.agg #[v0,v1,v2,v3,v4,v5,v6]) w:=by
 simp[results,Tryz.results106,go_sem,hp,hk]
theorem Co (tmps:Array Value)(w:World)(b:Nat)(v0 v1 v2 v3 v4 v5 v6:Value)(hp:tmps[2]?=some ((.pointer (some ⟨b,0,none⟩))))(hk:∀k,w.cell? ⟨b,k,none⟩=(#[v0,v1,v2,v3,v4,v5,v6]:Array Value)[k]?) :
  (results Tryz.f53 tmps).run Tryz.prog w=.ok (.agg #[v0,v1,v2,v3,v4,v5,v6]) w:=by
 simp[results,Tryz.results53,go_sem,hp,hk]
theorem yL (tmps:Array Value)(w:World)(b:Nat)(v0 v1 v2 v3 v4 v5 v6:Value)(hp:tmps[2]?=some ((.pointer (some ⟨b,0,none⟩))))(hk:∀k,w.cell? ⟨b,k,none⟩=(#[v0,v1,v2,v3,v4,v5,v6]:Array Value)[k]?) :
  (results Tryz.f54 tmps).run Tryz.prog w=.ok (.agg #[v0,v1,v2,v3,v4,v5,v6]) w:=by
 simp[results,Tryz.results54,go_sem,hp,hk]
theorem Cp (w:World)(id wd ak ri:Int)(a:Option Addr)(n c:Nat)(hi:ByteArray)(la:Bool):(Instr.field 45 (.agg #[.int .u64 id,.int .u64 wd,.int .i64 ak,.slice a n c,.string hi,.bool la,.int .u64 ri]) 0).run Tryz.prog w=.ok (.int .u64 id) w:=by kernel_rfl
theorem Cq (w:World)(id wd ak ri:Int)(a:Option Addr)(n c:Nat)(hi:ByteArray)(la:Bool):(Instr.field 45 (.agg #[.int .u64 id,.int .u64 wd,.int .i64 ak,.slice a n c,.string hi,.bool la,.int .u64 ri]) 1).run Tryz.prog w=.ok (.int .u64 wd) w:=by kernel_rfl
theorem Cr (w:World)(id wd ak ri:Int)(a:Option Addr)(n c:Nat)(hi:ByteArray)(la:Bool):(Instr.field 45 (.agg #[.int .u64 id,.int .u64 wd,.int .i64 ak,.slice a n c,.string hi,.bool la,.int .u64 ri]) 2).run Tryz.prog w=.ok (.agg #[.int .i64 ak,.slice a n c,.string hi,.bool la,.int .u64 ri]) w:=by kernel_rfl
theorem yM (w:World)(ak ri:Int)(a:Option Addr)(n c:Nat)(hi:ByteArray)(la:Bool):(Instr.field 43 (.agg #[.int .i64 ak,.slice a n c,.string hi,.bool la,.int .u64 ri]) 1).run Tryz.prog w=.ok (.slice a n c) w:=by kernel_rfl
attribute [go_sem] yM Cp Cq Cr
section
variable {K:aL}{w:World}{F:List aC}{b bm bc acc:Nat}{d:aR}{x:o8}{h:cm}{L:List aO}{a:Option Addr}{c:Nat}{nx:Value}
theorem qD (hon:x.on=true)(hn:h.pg.sl.length<=1000000)(hs:St K w (bz b .nilFunc d x::bu (.slice a h.pg.sl.length c) h.pg::F)) :
  Calls Tryz.prog 106 #[(.pointer (some ⟨b,0,none⟩)),(.agg #[.int .u64 (h).id,.int .u64 (h).word,.int .i64 (h).pg.ak,(.slice a h.pg.sl.length c),.string (h).pg.hi,.bool (h).pg.la,.int .u64 (h).pg.ri])] w fun e w' => ∃va,e=.returned (.agg #[.int .u64 (h).id,.int .u64 (h).word,.int .i64 (h).pg.ak,va,.string (h).pg.hi,.bool (h).pg.la,.int .u64 (h).pg.ri])/\St K w' (bu va h.pg::bz b .nilFunc d x::bu (.slice a h.pg.sl.length c) h.pg::F):=by
 obtain⟨fr,vf,fu,vu,err,le,vl,ri,vr,sep,on⟩:=x;simp only at hon;subst hon;have hs:=(hs.made (.cells #[.int .u64 (h).id,.int .u64 (h).word,.int .i64 (h).pg.ak,(.slice a h.pg.sl.length c),.string (h).pg.hi,.bool (h).pg.la,.int .u64 (h).pg.ri] 45)).made (.cells #[.int .u64 0,.int .u64 0,.int .i64 0,.slice none 0 0,.string ⟨#[]⟩,.bool false,.int .u64 0] 45);rw[World.size_alloc]at hs;have Qd:=aq3 (fX ((w.alloc (.cells #[.int .u64 (h).id,.int .u64 (h).word,.int .i64 (h).pg.ak,(.slice a h.pg.sl.length c),.string (h).pg.hi,.bool (h).pg.la,.int .u64 (h).pg.ri] 45)).alloc (.cells #[.int .u64 0,.int .u64 0,.int .i64 0,.slice none 0 0,.string ⟨#[]⟩,.bool false,.int .u64 0] 45)) b (hs.k2 0) (hs.k2 1));have Hs:=aq3 hs;clear hs;go_enter Tryz.func106,Tryz.ntmps106
 go_wp2_with fail
 refine(Qd.out).mono ?_
 clear Qd;rintro e w1 ⟨rfl,rfl⟩;go_upto_region 3 with(fail)
 obtain⟨b0,hb0⟩:∃b0,b0=w.heap.size:=⟨_,rfl⟩;rw[←hb0]at Hs ⊢;have hs:=Hs.out;refine cP hs ?_
 clear hs Hs hb0;intro W hs;have eY:=(show St K _ (az (.slice a h.pg.sl.length c) 69 2 h.pg.sl.length (aD h.pg.sl)::_)from hs.b3).cO (by omega)
 have Hl:=aq3 (show(aD h.pg.sl).length=h.pg.sl.length*2 by rw[fF])
 have H0:Hid (a=none->h.pg.sl.length=0):=aq3 (fun e=>by subst e;rw[eY.no];rfl)
 have H1:=aq3 (lh h.pg.sl);obtain⟨iv,cZ,dc,dg,dh⟩:=info_parts gU;have lI:=aq3 cZ;have lJ:=aq3 dc;have lK:=aq3 dg;have lM:=aq3 dh;clear cZ dc dg dh;have Hn:=aq3 eY.news;obtain⟨sl,uk⟩:∃sl,sl=aD h.pg.sl:=⟨_,rfl⟩;rw[←uk]at Hl H1 Hn;have Sk:=aq3 uk;have kp:=hs.k1;have fp:=hs.b1.f0;have Hs:=aq3 (hs.cF (T:=69) (size:=2));clear hs eY uk;go_wp2_with (at_builtin;refine cG _ _ 41 69 _ 0 h.pg.sl.length c 2 24 [] sl (.agg #[.string ⟨#[]⟩,.int .u64 0]) iv a Hs.out rfl rfl Tryz.underlying41 lI.out lJ.out lK.out lM.out rfl (by decide) rfl rfl Hl.out H0.out Hn.out H1.out (by omega) (by decide) ?_)
 intro v' w' hs;obtain⟨ao,oU,hv,_,_⟩:=hs.aH;subst hv;clear Hs kp fp Hl H0 H1 Hn lI lJ lK lM;have hs:=hs.b2;have kb:=hs.k0;have fb:=hs.f0;have hs:=hs.aI 3 (.slice ao h.pg.sl.length oU);simp only[List.set_cons_zero,List.set_cons_succ]at hs;go_upto_region 4 with(fail)
 refine cP hs ?_
 clear hs kb fb;intro W3 hs;have k1:=hs.k0;have hs:=hs.b2;have k0:=hs.k0;have f0:=hs.f0;have hs:=((((((hs.aI 0 (.int .u64 h.id)).aI 1 (.int .u64 h.word)).aI 2 (.int .i64 h.pg.ak)).aI 3 (.slice ao h.pg.sl.length oU)).aI 4 (.string h.pg.hi)).aI 5 (.bool h.pg.la)).aI 6 (.int .u64 h.pg.ri);simp only[List.set_cons_zero,List.set_cons_succ]at hs;go_wp2
 rw[Sk.out]at hs;refine bodyPost_ret (Ia _ _ (b0+1) _ _ _ _ _ _ _ rfl hs.k0) rfl ⟨_,rfl,hs.tail.tail⟩
theorem Ib {P:Value->World->Prop}(q:Calls Tryz.prog 77 #[(.pointer (some ⟨b,0,none⟩)),(.pointer (some ⟨bm,0,none⟩))] w fun e w' => ∃v,e=.returned v/\P v w')(hp:∀v w',P v w' -> ∃t:Bool,v=.bool t) :
  Calls Tryz.prog 48 #[(.pointer (some ⟨b,0,none⟩)),(.pointer (some ⟨bm,0,none⟩))] w fun e w' => ∃v,e=.returned v/\P v w' := by
 have Q:=aq3 q;clear q;go_enter Tryz.func48,Tryz.ntmps48
 go_wp2_with fail
 refine(Q.out).mono ?_
 rintro e w1 ⟨v,rfl,h⟩;obtain⟨t,rfl⟩:=hp v w1 h;have H:=aq3 h;clear h Q hp;go_wp2
 go_ret;exact⟨.bool t,rfl,H.out⟩
theorem Ic (hon:x.on=true)(hn:x.le.pg.sl.length<=1000000)(hv:x.vl=.slice a x.le.pg.sl.length c)(hs:St K w (bz b .nilFunc d x::bu x.vl x.le.pg::F)) :
  Calls Tryz.prog 53 #[(.pointer (some ⟨b,0,none⟩))] w fun e w' => ∃va,e=.returned (.agg #[.int .u64 (x.le).id,.int .u64 (x.le).word,.int .i64 (x.le).pg.ak,va,.string (x.le).pg.hi,.bool (x.le).pg.la,.int .u64 (x.le).pg.ri])/\St K w' (bu va x.le.pg::bz b .nilFunc d x::bu x.vl x.le.pg::F):=by
 obtain⟨fr,vf,fu,vu,err,le,vl,ri,vr,sep,on⟩:=x;simp only at hv hn;subst hv;have hs:=(hs.made (.cells #[.int .u64 0,.int .u64 0,.int .i64 0,.slice none 0 0,.string ⟨#[]⟩,.bool false,.int .u64 0] 45)).u2;have Q:=aq3 (qD hon hn hs);have k:=hs.k0;unfold dL vQ at k;clear hs hon;go_enter Tryz.func53,Tryz.ntmps53
 go_wp2_with fail
 refine(Q.out).mono ?_
 clear Q k;generalize w.heap.size=b0;rintro e w1 ⟨va,rfl,hs⟩;obtain⟨a2,c2,rfl,_,_⟩:=hs.aH;have hs:=hs.b3;have k0:=hs.k0;have f0:=hs.f0;have hs:=((((((hs.aI 0 (.int .u64 le.id)).aI 1 (.int .u64 le.word)).aI 2 (.int .i64 le.pg.ak)).aI 3 (.slice a2 le.pg.sl.length c2)).aI 4 (.string le.pg.hi)).aI 5 (.bool le.pg.la)).aI 6 (.int .u64 le.pg.ri);simp only[List.set_cons_zero,List.set_cons_succ]at hs;go_wp2
 refine bodyPost_ret (Co _ _ b0 _ _ _ _ _ _ _ rfl hs.k0) rfl ⟨_,rfl,hs.tail⟩
theorem nJ (hon:x.on=true)(hn:x.ri.pg.sl.length<=1000000)(hv:x.vr=.slice a x.ri.pg.sl.length c)(hs:St K w (bz b .nilFunc d x::bu x.vr x.ri.pg::F)) :
  Calls Tryz.prog 54 #[(.pointer (some ⟨b,0,none⟩))] w fun e w' => ∃va,e=.returned (.agg #[.int .u64 (x.ri).id,.int .u64 (x.ri).word,.int .i64 (x.ri).pg.ak,va,.string (x.ri).pg.hi,.bool (x.ri).pg.la,.int .u64 (x.ri).pg.ri])/\St K w' (bu va x.ri.pg::bz b .nilFunc d x::bu x.vr x.ri.pg::F):=by
 obtain⟨fr,vf,fu,vu,err,le,vl,ri,vr,sep,on⟩:=x;simp only at hv hn;subst hv;have hs:=(hs.made (.cells #[.int .u64 0,.int .u64 0,.int .i64 0,.slice none 0 0,.string ⟨#[]⟩,.bool false,.int .u64 0] 45)).u2;have Q:=aq3 (qD hon hn hs);have k:=hs.k0;unfold dL vQ at k;clear hs hon;go_enter Tryz.func54,Tryz.ntmps54
 go_wp2_with fail
 refine(Q.out).mono ?_
 clear Q k;generalize w.heap.size=b0;rintro e w1 ⟨va,rfl,hs⟩;obtain⟨a2,c2,rfl,_,_⟩:=hs.aH;have hs:=hs.b3;have k0:=hs.k0;have f0:=hs.f0;have hs:=((((((hs.aI 0 (.int .u64 ri.id)).aI 1 (.int .u64 ri.word)).aI 2 (.int .i64 ri.pg.ak)).aI 3 (.slice a2 ri.pg.sl.length c2)).aI 4 (.string ri.pg.hi)).aI 5 (.bool ri.pg.la)).aI 6 (.int .u64 ri.pg.ri);simp only[List.set_cons_zero,List.set_cons_succ]at hs;go_wp2
 refine bodyPost_ret (yL _ _ b0 _ _ _ _ _ _ _ rfl hs.k0) rfl ⟨_,rfl,hs.tail⟩
end
structure lB (d:aR)(fr:cm)(fu:Pg):Prop where
 ak:fu.ak=fr.pg.ak
 len:(fu.sl.length:Int)<=d.fa+1
 r:∀s,s∈fu.sl->0<=s.r/\s.r<18446744073709551616
 k:∀s,s∈fu.sl->s.k.size<=1000000
 hi:fu.hi.size<=maxLen
 la:fu.la=true->fu.hi=⟨#[]⟩
 ri:0<=fu.ri/\fu.ri<18446744073709551616
theorem yN (a b:ByteArray):∀(f n:Nat),(eO a b f n).size<=b.size:=by
 intro f;induction f with
 | zero=>intro n;exact Nat.zero_le _
 | succ f ih=>
  intro n;unfold eO;split
  ·rw[ByteArray.size_extract];omega
  ·exact ih _
theorem xw (a b:ByteArray):(lY a b).size<=b.size:=yN a b _ _
theorem gF {d:aR}(hd:d.Ok):10<=d.cells:=by
 have h1:=bV hd (id:=1) (by omega) hd.Jo (k:=2) (by omega) (by have:=hd.fo;omega)
 have h2:=(iy d hd).2.1;omega
section
variable {d:aR}{fr:cm}{fu:Pg}{id:Int}
theorem lB.fit (h:lB d fr fu)(hle:(fu.sl.length:Int)<=d.fa):oW d fu:=
 ⟨hle,h.ri,h.r,fun s hs=>Nat.le_trans (h.k s hs) (by decide),h.hi,h.la⟩
theorem lB.sep (h:lB d fr fu):(bN fu).size<=1000000:=by
 unfold bN;split
 ·rename_i x y hx hy
  have hy:=h.k y (aq7 hy);split
  ·exact Nat.le_trans (xw _ _) hy
  ·exact hy
 ·exact Nat.zero_le _
theorem lB.left (h:lB d fr fu)(hd:d.Ok)(hid:0<=id/\id<18446744073709551616):oW d (fA fu id):=by
 have h1:=hd.fo;have h2:=h.len;refine⟨?_,hid,fun s hs=>h.r s (List.mem_of_mem_take hs),fun s hs=>Nat.le_trans (h.k s (List.mem_of_mem_take hs)) (by decide),Nat.le_trans h.sep (by decide),fun e=>by cases e⟩
 show((fu.sl.take (gh fu.sl.length)).length:Int)<=d.fa
 rw[List.length_take];unfold gh;omega
theorem lB.right (h:lB d fr fu)(hd:d.Ok):oW d (dI fu):=by
 have h1:=hd.fo;have h2:=h.len;refine⟨?_,h.ri,fun s hs=>h.r s (List.mem_of_mem_drop hs),fun s hs=>Nat.le_trans (h.k s (List.mem_of_mem_drop hs)) (by decide),h.hi,h.la⟩
 show((fu.sl.drop (gh fu.sl.length)).length:Int)<=d.fa
 rw[List.length_drop];unfold gh;omega
theorem nI.len {p:Pg}{ps:List Pt}(h:nI d fr p ps):2<=ps.length/\ps.length<=p.sl.length+5:=by
 obtain⟨mid,hn,rfl⟩:=h;have:=hn.1.length_le;simp[bP,eT]at this ⊢;omega
end
def o9 (fr:cm)(vf:Value)(fu:Pg)(vu:Value):o8:={ jC fr vf fu vu with on:=true }
def Xz (fr:cm)(vf:Value)(fu:Pg)(vu:Value)(id:Int)(va:Value):o8:={ o9 fr vf fu vu with ri:=⟨id,aN 0,dI fu⟩,vr:=va,sep:=bN fu }
section
variable (K:aL)(W:World)(b bm bc:Nat)(d:aR)(fr:cm)(vf:Value)(fu:Pg)(vu:Value)(L:List aO)(F:List aC)
end
section
variable {K:aL}{W W':World}{b bm bc j r:Nat}{d:aR}{fr:cm}{vf vu:Value}{fu:Pg}{L:List aO}{F:List aC}
end
section
variable {K:aL}{w:World}{b bm bc j r:Nat}{d:aR}{fr:cm}{af au:Option Addr}{cf cu:Nat}{fu:Pg}{L:List aO}{F:List aC}
end
end
end Go.Proofs.YtlpdhhhgckpcfaaGreat
