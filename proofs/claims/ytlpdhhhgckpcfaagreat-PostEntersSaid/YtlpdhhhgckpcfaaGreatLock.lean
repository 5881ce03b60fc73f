/- The machine aen.Lock: Find, Xm, Own. -/
import Derived.Test.YtlpdhhhgckpcfaaGreatInsA
namespace Go.Proofs.YtlpdhhhgckpcfaaGreat
set_option linter.unusedSimpArgs false
set_option linter.unusedVariables false
open Go.RowKit
set_option maxHeartbeats 16000000
set_option maxRecDepth 100000
section
def ea (d:aR)(key:ByteArray)(h:cm)(va:Value):List Value:=
 [.int .i64 d.th,.int .i64 d.sn,.int .i64 d.no,.int .i64 d.ch,.int .i64 d.re,.int .i64 d.fa,.int .u64 d.cl,.string key,.int .u64 h.id,.int .u64 h.word,.int .i64 h.pg.ak,va,.string h.pg.hi,.bool h.pg.la,.int .u64 h.pg.ri]
structure vB where
 pc:Nat
 fd:pO
 id:Int
 aq:oZ
 ow:jX
 h:cm
def oA:vB:=⟨0,fd0,0,mL,nC 0,l6⟩
def qE (key:ByteArray)(pg:Pg):Bool:=pg.la || cA key pg.hi
def aK (d:aR)(key:ByteArray)(level:Int)(L:List aO)(s:vB):vB × List aO:=
 match s.pc with
 | 0=>
  let f:=bS d L key level s.fd
  if f.pc=2 then(if f.id=0 then({ s with pc:=4,fd:=f },L)else({ s with pc:=1,fd:=f,id:=f.id,aq:=mL },L))else({ s with fd:=f },L)
 | 1=>
  let a:=bM (d.node s.id 0) L s.aq
  if a.1.pc=2 then({ s with pc:=2,aq:=a.1,ow:=nC a.1.word },a.2)else({ s with aq:=a.1 },a.2)
 | 2=>
  let o:=bA d s.id L s.ow
  if o.pc=6 then(if qE key o.pg then({ s with pc:=4,ow:=o,h:=⟨s.id,o.word,o.pg⟩ },L)else({ s with pc:=3,ow:=o },L))else({ s with ow:=o },L)
 | 3=>({ s with pc:=1,id:=s.ow.pg.ri,aq:=mL },aP L (d.node s.id 0) ⟨aG s.ow.word,⟨#[]⟩,0⟩)
 | _=>(s,L)
def Kp (jn iY:Nat):Value:= .func (.func 75) #[] #[(.pointer (some ⟨jn,0,none⟩)),(.pointer (some ⟨iY,0,none⟩))]
def td (bk bi eU:Nat):Value:= .func (.func 117) #[] #[(.pointer (some ⟨bk,0,none⟩)),(.pointer (some ⟨bi,0,none⟩)),(.pointer (some ⟨eU,0,none⟩))]
def Kq (bk vR:Nat):Value:= .func (.func 120) #[] #[(.pointer (some ⟨bk,0,none⟩)),(.pointer (some ⟨vR,0,none⟩))]
def yO (bk bh:Nat):Value:= .func (.func 154) #[] #[(.pointer (some ⟨bk,0,none⟩)),(.pointer (some ⟨bh,0,none⟩))]
def lC (d:aR)(key:ByteArray)(level:Int)(b:Nat)(s:vB)(C:List aC):Prop:=
 match s.pc with
 | 0=>∃b2 b3 b5 bf jn iY B lj pN,C=blk b (.cells ((aW (some (aA b2 b3 b5))) :: .bool true::ea d key l6 (.slice none 0 0)).toArray 125)::bG b2 b3 b5 (.iface 84 (.pointer (some ⟨bf,0,none⟩))) (Kp jn iY)::([blk jn (.cells #[(.pointer (some ⟨bf,0,none⟩))] 84),blk iY (.cells #[(.pointer (some ⟨b,0,none⟩))] 37)]++s7 bf (aW (lp bf B s.fd.pc)) B lj pN d key level s.fd)
 | 1=>∃b2 b3 b5 ba bk bi eU,C=blk b (.cells ((aW (some (aA b2 b3 b5))) :: .bool true::ea d key l6 (.slice none 0 0)).toArray 125)::bG b2 b3 b5 (.iface 175 (.pointer (some ⟨ba,0,none⟩))) (td bk bi eU)::([blk bk (.cells #[(.pointer (some ⟨b,0,none⟩))] 37),blk bi (.cells #[.int .u64 s.id] 23),blk eU (.cells #[(.pointer (some ⟨ba,0,none⟩))] 175)]++[fS ba (d.node s.id 0) s.aq])
 | 2=>∃b2 b3 b5 bo bk vR lj,C=blk b (.cells ((aW (some (aA b2 b3 b5))) :: .bool true::ea d key l6 (.slice none 0 0)).toArray 125)::bG b2 b3 b5 (.iface 177 (.pointer (some ⟨bo,0,none⟩))) (Kq bk vR)::([blk bk (.cells #[(.pointer (some ⟨b,0,none⟩))] 37),blk vR (.cells #[(.pointer (some ⟨bo,0,none⟩))] 177)]++[lq bo d s.id lj s.ow,bu lj s.ow.pg])
 | 3=>∃b2 b3 b5 br bi bw bk bh lj,C=blk b (.cells ((aW (some (aA b2 b3 b5))) :: .bool true::ea d key l6 (.slice none 0 0)).toArray 125)::bG b2 b3 b5 (.iface 47 (.pointer (some ⟨br,0,none⟩))) (yO bk bh)::([blk bk (.cells #[(.pointer (some ⟨b,0,none⟩))] 37),blk bh (.cells #[.int .u64 ((⟨s.id,s.ow.word,s.ow.pg⟩:cm)).id,.int .u64 ((⟨s.id,s.ow.word,s.ow.pg⟩:cm)).word,.int .i64 ((⟨s.id,s.ow.word,s.ow.pg⟩:cm)).pg.ak,lj,.string ((⟨s.id,s.ow.word,s.ow.pg⟩:cm)).pg.hi,.bool ((⟨s.id,s.ow.word,s.ow.pg⟩:cm)).pg.la,.int .u64 ((⟨s.id,s.ow.word,s.ow.pg⟩:cm)).pg.ri] 45)]++fe br bi bw (d.node s.id 0) s.ow.word 0)
 | _=>∃lj,C=[blk b (.cells (.nilFunc :: .bool true::ea d key s.h lj).toArray 125),bu lj s.h.pg]
section
variable {K:aL}{w:World}{F:List aC}{b:Nat}{d:aR}{key:ByteArray}{level:Int}
theorem Ie (hs:St K w F):Calls Tryz.prog 17 #[.agg #[.int .i64 d.th,.int .i64 d.sn,.int .i64 d.no,.int .i64 d.ch,.int .i64 d.re,.int .i64 d.fa,.int .u64 d.cl],.string key,.int .i64 level] w fun e w' => ∃b C,e=.returned (.pointer (some ⟨b,0,none⟩))/\lC d key level b oA C/\St K w' (C++F):=by
 have hs:=hs.made (.cells #[.int .i64 (d).th,.int .i64 (d).sn,.int .i64 (d).no,.int .i64 (d).ch,.int .i64 (d).re,.int .i64 (d).fa,.int .u64 (d).cl] 29);have hs:=hs.made (.cells (.nilFunc :: .bool false::ea d key l6 (.slice none 0 0)).toArray 125);have hs:=hs.made (.cells #[(.pointer (some ⟨(w.heap.size+1),0,none⟩))] 37);simp only[World.size_alloc]at hs;have Hs:=aq3 hs;clear hs;go_enter Tryz.func17,Tryz.ntmps17
 go_wp2_with fail
 refine(Gh (level:=level) Hs.out).mono ?_
 clear Hs;rintro e w1 ⟨bf,rfl,hs⟩;have hs:=hs ⟨0,0,0,0,0,0⟩;have hs:=hs.made (.cells #[(.pointer (some ⟨bf,0,none⟩))] 84);obtain⟨bl,hbl⟩:∃bl,bl=w.heap.size:=⟨_,rfl⟩;obtain⟨jn,aeo⟩:∃jn,jn=w1.heap.size:=⟨_,rfl⟩;go_upto_region 3 with(fail)
 rw[←hbl]at hs ⊢;rw[←aeo]at hs ⊢;clear hbl aeo;refine cP hs ?_
 clear hs;intro w2 hs;have hs:St K w2 (blk (bl+1) (.cells (.nilFunc :: .bool false::ea d key l6 (.slice none 0 0)).toArray 125)::blk jn (.cells #[(.pointer (some ⟨bf,0,none⟩))] 84)::blk (bl+1+1) (.cells #[(.pointer (some ⟨(bl+1),0,none⟩))] 37)::(s7 bf (aW (some (jz bf))) ⟨0,0,0,0,0,0⟩ (.slice none 0 0) (.slice none 0 0) d key level fd0++F)):=(hs.re [5,4,0,3,1,2] rfl).tail;have Hs:=aq3 hs;clear hs;refine aT [false,false,false,false,true,true,false,false,true] [4,5,8] (fun|5=>[4] | 8=>[5] | _=>[])
  (xf K (blk jn (.cells #[(.pointer (some ⟨bf,0,none⟩))] 84)::blk (bl+1+1) (.cells #[(.pointer (some ⟨(bl+1),0,none⟩))] 37)::(s7 bf (aW (some (jz bf))) ⟨0,0,0,0,0,0⟩ (.slice none 0 0) (.slice none 0 0) d key level fd0++F)) (bl+1) 125 (ea d key l6 (.slice none 0 0)) 4 5 8 (ahF 84 (.pointer (some ⟨bf,0,none⟩)) (Kp jn (bl+1+1))))
  (fun W=>St K W (blk jn (.cells #[(.pointer (some ⟨bf,0,none⟩))] 84)::blk (bl+1+1) (.cells #[(.pointer (some ⟨(bl+1),0,none⟩))] 37)::(s7 bf (aW (some (jz bf))) ⟨0,0,0,0,0,0⟩ (.slice none 0 0) (.slice none 0 0) d key level fd0++F))) ?aSA (by kernel_rfl) ?hBA ?HA ?Ig ?h0A ?hIA ?hRA ?hEA ?hQA
 case hBA=>as_aux_lemma=>kernel_rfl
 case HA=>
  intro W2 hs;have k0:=hs.k0;have k1:=hs.k1;clear hs;simp only[bL];repeat (go_big_quiet_step (fail))
  refine wpQuiet_nil ?_
  rfl
 case Ig=>rfl
 case h0A=>exact xf.start Hs.out
 case hIA=>exact fun ρ W2 h=>h.rest
 case hRA=>exact fun ρ W2 W3 h hb=>h.same hb
 case hEA=>
  refine⟨?e1A,?e2A,?e3A,trivial⟩;case e1A=>
   intro o ho ρ W2 h hcl Ih hd2 dX aB;obtain rfl:=aq9 ho;replace aB:dX=aj _ ρ [] _:=aB;have Pe:ρ 5=none:=hcl.none (by simp) (show 4∈[4]by simp) Ih
   have pd:ρ 8=none:=hcl.none (by simp) (show 5∈[5]by simp) Pe
   obtain⟨hs,hnext⟩:=h.call (by omega) (by omega) Ih Pe pd
   simp only[aj]at aB;subst aB;have Hn:=aq3 hnext;clear hnext hcl hd2 Ih Pe pd h;have Q:=aq3 (fG (T2:=84) (xv:=(.pointer (some ⟨bf,0,none⟩))) (f:=75) (tx:= #[]) (ty:= #[(.pointer (some ⟨jn,0,none⟩)),(.pointer (some ⟨(bl+1+1),0,none⟩))]) hs);clear hs;go_wp2_with fail
   refine(Q.out).mono ?_
   rintro e W3 ⟨b2,b3,b5,rfl,hs'⟩;have eG:=aq3 hs';clear hs' Q;simp only[aA,aW];go_wp2
   exact⟨rfl,_,rfl,Hn.out _ _ W3 ⟨b2,b3,b5,rfl,rfl⟩ eG.out⟩
  case e2A=>
   intro o ho ρ W2 h hcl Pe hd2 dX aB;obtain rfl:=aq9 ho;replace aB:dX=aj _ ρ [4] _:=aB;obtain⟨v4,Ih⟩:=aq6.1 (hd2 4 (by show _∈[4];simp))
   obtain⟨fv,rfl,hnext⟩:=h.begin (by omega) (by omega) Ih
   simp only[aj,Ih,Option.getD_some,aM,Act.put,ara]at aB;subst aB;have Hn:=aq3 hnext;clear hnext hcl hd2 Ih Pe h;simp only[aW];go_wp2_with fail
   refine(fq _ _ _ _).mono ?_
   rintro e W3 ⟨rfl,hb⟩;have Hb:=aq3 hb;clear hb;go_wp2
   exact⟨rfl,_,rfl,Hn.out W3 Hb.out⟩
  case e3A=>
   intro o ho ρ W2 h hcl pd hd2 dX aB;obtain rfl:=aq9 ho;replace aB:dX=aj _ ρ [5] _:=aB;obtain⟨v5,Pe⟩:=aq6.1 (hd2 5 (by show _∈[5];simp))
   obtain⟨fv,R',rfl,hs,hnext⟩:=h.store (by omega) (by omega) Pe pd
   simp only[aj,Pe,Option.getD_some,aM,Act.put,ara]at aB;subst aB;have k:=hs.k0;have kf:=hs.f0;unfold ea at k;have fZ:=aq3 ((hs.aI 0 (aW (some fv))).aI 1 (.bool true));simp only[List.set_cons_zero,List.set_cons_succ]at fZ;have Hn:=aq3 hnext;clear hs hnext hcl hd2 h Pe pd;simp only[aW]at fZ ⊢;go_wp2
   exact⟨rfl,undef,rfl,Hn.out _ fZ.out⟩
 case hQA=>
 intro ρ W2 h hall;obtain⟨fv,C,Ih,Pe,⟨v8,pd⟩,hΦ,hs⟩:=h.last hall;simp only[aj,Ih,Pe,pd,Option.getD_some,aM,Act.put,ara];clear h hall Ih Pe pd Hs;obtain⟨b2,b3,b5,rfl,rfl⟩:=hΦ;have kv:=(show St K W2 (bG _ _ _ _ _::blk _ _::blk _ _::blk _ (.cells #[(.pointer (some ⟨(bl+1),0,none⟩))] 37)::_)from hs).b3.k0
 have Hs:=aq3 hs;clear hs;go_wp2
 go_ret;exact⟨_,_,rfl,⟨b2,b3,b5,bf,jn,_,⟨0,0,0,0,0,0⟩,.slice none 0 0,.slice none 0 0,rfl⟩,(show St K W2 (bG _ _ _ _ _::blk _ _::_)from Hs.out).b1⟩
end
section
variable {K:aL}{w:World}{F:List aC}{b:Nat}{d:aR}{key:ByteArray}{h:cm}{va nx:Value}{id:Int}
theorem nK (hd:d.Ok)(hid:0<=id/\id<18446744073709551616)(hs:St K w (blk b (.cells (nx :: .bool true::ea d key h va).toArray 125)::F)):Calls Tryz.prog 76 #[(.pointer (some ⟨b,0,none⟩)),.int .u64 id] w fun e w' => ∃b2 b3 b5 ba bk bi eU,e=.returned (aW (some (aA b2 b3 b5))) /\
  St K w' (blk b (.cells (nx :: .bool true::ea d key h va).toArray 125)::bG b2 b3 b5 (.iface 175 (.pointer (some ⟨ba,0,none⟩))) (td bk bi eU)::blk bk (.cells #[(.pointer (some ⟨b,0,none⟩))] 37)::blk bi (.cells #[.int .u64 id] 23)::blk eU (.cells #[(.pointer (some ⟨ba,0,none⟩))] 175)::fS ba (d.node id 0) mL::F):=by
 have hs:=(hs.made (.cells #[(.pointer (some ⟨b,0,none⟩))] 37)).made (.cells #[.int .u64 id] 23);simp only[World.size_alloc]at hs;go_enter Tryz.func76,Tryz.ntmps76
 go_upto_region 1 with(fail)
 obtain⟨bk,hbk⟩:∃bk,bk=w.heap.size:=⟨_,rfl⟩;rw[←hbk]at hs ⊢;clear hbk;refine cP hs ?_
 clear hs;intro w1 hs;have Hs:=aq3 hs;clear hs;refine aT [false,false,false,false,false,false,true,true,true] [6,7,8] (fun|8=>[6,7] | _=>[])
  (oK K (blk (bk+1) (.cells #[.int .u64 id] 23)::blk bk (.cells #[(.pointer (some ⟨b,0,none⟩))] 37)::blk b (.cells (nx :: .bool true::ea d key h va).toArray 125)::F) 175 (.pointer none) 6 7 8 (fun v C=>∃ba,v=(.pointer (some ⟨ba,0,none⟩))/\C=[fS ba (d.node id 0) mL]))
  (fun W=>St K W (blk (bk+1) (.cells #[.int .u64 id] 23)::blk bk (.cells #[(.pointer (some ⟨b,0,none⟩))] 37)::blk b (.cells (nx :: .bool true::ea d key h va).toArray 125)::F)) ?aSB (by kernel_rfl) ?hBB ?HB ?Tc ?h0B ?hIB ?hRB ?hEB ?hQB
 case hBB=>as_aux_lemma=>kernel_rfl
 case HB=>
  intro W2 hs;have k0:=hs.k0;have k1:=hs.k1;have k2:=hs.k2;unfold ea at k2;have Ql:=aq3 (fun w=>iw d hd id hid.1 hid.2 w)
  clear hs;simp only[bL];repeat (go_big_quiet_step ((go_at_call 69;exact aX (Ql.out _))))
  refine wpQuiet_nil ?_
  rfl
 case Tc=>rfl
 case h0B=>exact oK.start Hs.out
 case hIB=>exact fun ρ W2 h=>h.rest
 case hRB=>exact fun ρ W2 W3 h hb=>h.same hb
 case hEB=>
  refine⟨?e1B,?e2B,?e3B,trivial⟩;case e1B=>
   intro o ho ρ W2 h hcl Wm hd2 dX aB;obtain rfl:=aq9 ho;replace aB:dX=aj _ ρ [] _:=aB;have pd:ρ 8=none:=hcl.none (by simp) (show 6∈[6,7]by simp) Wm
   obtain⟨X,hs,hnext⟩:=h.call (by omega) (by omega) Wm pd
   simp only[aj]at aB;subst aB;have Hn:=aq3 hnext;clear hnext hcl hd2 Wm pd h;go_wp2_with fail
   refine(oJ (i:=d.node id 0) hs).mono ?_
   rintro e W3 ⟨ba,rfl,hs'⟩;have eG:=aq3 hs';clear hs hs';go_wp2
   exact⟨rfl,_,rfl,Hn.out _ _ W3 ⟨ba,rfl,rfl⟩ eG.out⟩
  case e2B=>
   intro o ho ρ W2 h hcl vS hd2 dX aB;obtain rfl:=aq9 ho;replace aB:dX=aj _ ρ [] _:=aB;have pd:ρ 8=none:=hcl.none (by simp) (show 7∈[6,7]by simp) vS
   have Hn:=aq3 (h.var (by omega) (by omega) vS pd)
   simp only[aj]at aB;subst aB;clear hcl hd2 vS pd h;go_wp2
   exact⟨rfl,_,rfl,Hn.out⟩
  case e3B=>
   intro o ho ρ W2 h hcl pd hd2 dX aB;obtain rfl:=aq9 ho;replace aB:dX=aj _ ρ [6,7] _:=aB;obtain⟨v6,Wm⟩:=aq6.1 (hd2 6 (by show _∈[6,7];simp))
   obtain⟨v7,vS⟩:=aq6.1 (hd2 7 (by show _∈[6,7];simp))
   obtain⟨bv,R',rfl,⟨C,ba,rfl,_⟩,hs,hnext⟩:=h.store (by omega) (by omega) Wm vS pd
   simp only[aj,Wm,vS,Option.getD_some,aM,Act.put,ara]at aB;subst aB;have k0:=hs.k0;have f0:=hs.f0;have fZ:Hid (St K _ (blk bv (.cells #[(.pointer (some ⟨ba,0,none⟩))] 175)::R')):=aq3 (hs.aI 0 (.pointer (some ⟨ba,0,none⟩)));have Hn:=aq3 hnext;clear hs hnext hcl hd2 h Wm vS pd;go_wp2
   exact⟨rfl,undef,rfl,Hn.out _ fZ.out⟩
 case hQB=>
 intro ρ W2 h hall;obtain⟨bv,v,C,Wm,vS,⟨v8,pd⟩,hΦ,hs⟩:=h.last hall;simp only[aj,Wm,vS,pd,Option.getD_some,aM,Act.put,ara];clear h hall Wm vS pd Hs;obtain⟨ba,rfl,rfl⟩:=hΦ;have hs:St K W2 (blk bv (.cells #[(.pointer (some ⟨ba,0,none⟩))] 175)::fS ba (d.node id 0) mL::blk (bk+1) (.cells #[.int .u64 id] 23)::blk bk (.cells #[(.pointer (some ⟨b,0,none⟩))] 37)::blk b (.cells (nx :: .bool true::ea d key h va).toArray 125)::F):=hs;have kv:=hs.k0;have Q:=aq3 (fG (T2:=175) (xv:=(.pointer (some ⟨ba,0,none⟩))) (f:=117) (tx:= #[]) (ty:= #[(.pointer (some ⟨bk,0,none⟩)),(.pointer (some ⟨(bk+1),0,none⟩)),(.pointer (some ⟨bv,0,none⟩))]) hs);clear hs;go_wp2_with fail
 refine(Q.out).mono ?_
 clear Q kv;rintro e w3 ⟨b2,b3,b5,rfl,hs⟩;have Hs:=aq3 (hs.re [5,0,4,3,1,2] rfl);clear hs;simp only[aA,aW];go_wp2
 go_ret;exact⟨b2,b3,b5,ba,bk,bk+1,bv,rfl,Hs.out⟩
theorem Ii {s:oZ}{bk bi eU ba:Nat}{ii:Int}(h2:s.pc=2)(hs:St K w (blk b (.cells (nx :: .bool true::ea d key h va).toArray 125)::blk bk (.cells #[(.pointer (some ⟨b,0,none⟩))] 37)::blk bi (.cells #[.int .u64 id] 23)::blk eU (.cells #[(.pointer (some ⟨ba,0,none⟩))] 175)::fS ba ii s::F)) :
  Calls Tryz.prog 117 #[(.pointer (some ⟨bk,0,none⟩)),(.pointer (some ⟨bi,0,none⟩)),(.pointer (some ⟨eU,0,none⟩))] w fun e w' => ∃b2 b3 b5 bo vR,e=.returned (aW (some (aA b2 b3 b5))) /\
  St K w' (blk b (.cells (nx :: .bool true::ea d key h va).toArray 125)::bG b2 b3 b5 (.iface 177 (.pointer (some ⟨bo,0,none⟩))) (Kq bk vR)::blk bk (.cells #[(.pointer (some ⟨b,0,none⟩))] 37)::blk vR (.cells #[(.pointer (some ⟨bo,0,none⟩))] 177)::lq bo d id (.slice none 0 0) (nC s.word)::bu (.slice none 0 0) Fu::F):=by
 go_enter Tryz.func117,Tryz.ntmps117
 go_upto_region 1 with(fail)
 have Hs:=aq3 hs;clear hs;refine aT [false,false,false,false,false,false,false,true,true,true] [7,8,9] (fun|9=>[7,8] | _=>[])
  (oK K (blk b (.cells (nx :: .bool true::ea d key h va).toArray 125)::blk bk (.cells #[(.pointer (some ⟨b,0,none⟩))] 37)::blk bi (.cells #[.int .u64 id] 23)::blk eU (.cells #[(.pointer (some ⟨ba,0,none⟩))] 175)::fS ba ii s::F) 177 (.pointer none) 7 8 9 (fun v C=>∃bo,v=(.pointer (some ⟨bo,0,none⟩))/\C=[lq bo d id (.slice none 0 0) (nC s.word),bu (.slice none 0 0) Fu]))
  (fun W=>St K W (blk b (.cells (nx :: .bool true::ea d key h va).toArray 125)::blk bk (.cells #[(.pointer (some ⟨b,0,none⟩))] 37)::blk bi (.cells #[.int .u64 id] 23)::blk eU (.cells #[(.pointer (some ⟨ba,0,none⟩))] 175)::fS ba ii s::F)) ?aSC (by kernel_rfl) ?hBC ?HC ?abD ?h0C ?hIC ?hRC ?hEC ?hQC
 case hBC=>as_aux_lemma=>kernel_rfl
 case HC=>
  intro W2 hs;have k0:=hs.k0;unfold ea at k0;have k1:=hs.k1;have k2:=hs.k2;have k3:=hs.b3.k0;have Qw:=aq3 (fun wz (hy:∃x:Ext,wz=over W2 x)=>o5 h2 (hs.same (Pure.below hy)).b4)
  clear hs;simp only[bL];repeat (go_big_quiet_step ((go_at_call 119;exact dz (Qw.out _ ⟨_,rfl⟩))))
  refine wpQuiet_nil ?_
  rfl
 case abD=>rfl
 case h0C=>exact oK.start Hs.out
 case hIC=>exact fun ρ W2 h=>h.rest
 case hRC=>exact fun ρ W2 W3 h hb=>h.same hb
 case hEC=>
  refine⟨?e1C,?e2C,?e3C,trivial⟩;case e1C=>
   intro o ho ρ W2 h hcl vS hd2 dX aB;obtain rfl:=aq9 ho;replace aB:dX=aj _ ρ [] _:=aB;have pq:ρ 9=none:=hcl.none (by simp) (show 7∈[7,8]by simp) vS
   obtain⟨X,hs,hnext⟩:=h.call (by omega) (by omega) vS pq
   simp only[aj]at aB;subst aB;have Hn:=aq3 hnext;clear hnext hcl hd2 vS pq h;go_wp2_with fail
   refine(Mu (d:=d) (id:=id) (word:=s.word) hs).mono ?_
   rintro e W3 ⟨bo,rfl,hs'⟩;have eG:=aq3 hs';clear hs hs';go_wp2
   exact⟨rfl,_,rfl,Hn.out _ _ W3 ⟨bo,rfl,rfl⟩ eG.out⟩
  case e2C=>
   intro o ho ρ W2 h hcl pd hd2 dX aB;obtain rfl:=aq9 ho;replace aB:dX=aj _ ρ [] _:=aB;have pq:ρ 9=none:=hcl.none (by simp) (show 8∈[7,8]by simp) pd
   have Hn:=aq3 (h.var (by omega) (by omega) pd pq)
   simp only[aj]at aB;subst aB;clear hcl hd2 pd pq h;go_wp2
   exact⟨rfl,_,rfl,Hn.out⟩
  case e3C=>
   intro o ho ρ W2 h hcl pq hd2 dX aB;obtain rfl:=aq9 ho;replace aB:dX=aj _ ρ [7,8] _:=aB;obtain⟨v7,vS⟩:=aq6.1 (hd2 7 (by show _∈[7,8];simp))
   obtain⟨v8,pd⟩:=aq6.1 (hd2 8 (by show _∈[7,8];simp))
   obtain⟨bv,R',rfl,⟨C,bo,rfl,_⟩,hs,hnext⟩:=h.store (by omega) (by omega) vS pd pq
   simp only[aj,vS,pd,Option.getD_some,aM,Act.put,ara]at aB;subst aB;have k0:=hs.k0;have f0:=hs.f0;have fZ:Hid (St K _ (blk bv (.cells #[(.pointer (some ⟨bo,0,none⟩))] 177)::R')):=aq3 (hs.aI 0 (.pointer (some ⟨bo,0,none⟩)));have Hn:=aq3 hnext;clear hs hnext hcl hd2 h vS pd pq;go_wp2
   exact⟨rfl,undef,rfl,Hn.out _ fZ.out⟩
 case hQC=>
 intro ρ W2 h hall;obtain⟨bv,v,C,vS,pd,⟨v9,pq⟩,hΦ,hs⟩:=h.last hall;simp only[aj,vS,pd,pq,Option.getD_some,aM,Act.put,ara];clear h hall vS pd pq Hs;obtain⟨bo,rfl,rfl⟩:=hΦ;have hs:St K W2 (blk bv (.cells #[(.pointer (some ⟨bo,0,none⟩))] 177)::lq bo d id (.slice none 0 0) (nC s.word)::bu (.slice none 0 0) Fu::blk b (.cells (nx :: .bool true::ea d key h va).toArray 125)::blk bk (.cells #[(.pointer (some ⟨b,0,none⟩))] 37)::blk bi (.cells #[.int .u64 id] 23)::blk eU (.cells #[(.pointer (some ⟨ba,0,none⟩))] 175)::fS ba ii s::F):=hs;have kv:=hs.k0;have Q:=aq3 (fG (T2:=177) (xv:=(.pointer (some ⟨bo,0,none⟩))) (f:=120) (tx:= #[]) (ty:= #[(.pointer (some ⟨bk,0,none⟩)),(.pointer (some ⟨bv,0,none⟩))]) hs);clear hs;go_wp2_with fail
 refine(Q.out).mono ?_
 clear Q kv;rintro e w3 ⟨b2,b3,b5,rfl,hs⟩;have Hs:=aq3 ((hs.re [6,7,8,4,0,5,1,2,3] rfl).tail.tail.tail);clear hs;simp only[aA,aW];go_wp2
 go_ret;exact⟨b2,b3,b5,bo,bv,rfl,Hs.out⟩
def Zx (i word:Int)(v:Value)(C:List aC):Prop:=∃br bi bw,v=(.pointer (some ⟨br,0,none⟩))/\C=fe br bi bw i word 0
def Zy (K:aL)(b:Nat)(d:aR)(key:ByteArray)(nx:Value)(h0:cm)(mO:Value)(h:cm)(a:Option Addr)(c:Nat)(F:List aC)(e:Ending)(w':World):Prop:=
 (qE key h.pg=true/\e=.returned .nilFunc/\St K w' (blk b (.cells (nx :: .bool true::ea d key h (.slice a h.pg.sl.length c)).toArray 125)::bu (.slice a h.pg.sl.length c) h.pg::F)) \/
 (qE key h.pg=false/\∃b2 b3 b5 br bi bw bk bh,e=.returned (aW (some (aA b2 b3 b5)))/\St K w' (blk b (.cells (nx :: .bool true::ea d key h0 mO).toArray 125)::bG b2 b3 b5 (.iface 47 (.pointer (some ⟨br,0,none⟩))) (yO bk bh)::([blk bk (.cells #[(.pointer (some ⟨b,0,none⟩))] 37),blk bh (.cells #[.int .u64 (h).id,.int .u64 (h).word,.int .i64 (h).pg.ak,(.slice a h.pg.sl.length c),.string (h).pg.hi,.bool (h).pg.la,.int .u64 (h).pg.ri] 45)]++(fe br bi bw (d.node h.id 0) h.word 0++F))))
theorem yP {h0:cm}{mO:Value}{a:Option Addr}{c:Nat}(hd:d.Ok)(hid:0<=h.id/\h.id<18446744073709551616)(hs:St K w (blk b (.cells (nx :: .bool true::ea d key h0 mO).toArray 125)::bu (.slice a h.pg.sl.length c) h.pg::F)) :
  Calls Tryz.prog 121 #[(.pointer (some ⟨b,0,none⟩)),(.agg #[.int .u64 (h).id,.int .u64 (h).word,.int .i64 (h).pg.ak,(.slice a h.pg.sl.length c),.string (h).pg.hi,.bool (h).pg.la,.int .u64 (h).pg.ri])] w (Zy K b d key nx h0 mO h a c F):=by
 have hs:=(hs.made (.cells #[(.pointer (some ⟨b,0,none⟩))] 37)).made (.cells #[.int .u64 (h).id,.int .u64 (h).word,.int .i64 (h).pg.ak,(.slice a h.pg.sl.length c),.string (h).pg.hi,.bool (h).pg.la,.int .u64 (h).pg.ri] 45);simp only[World.size_alloc]at hs;obtain⟨id,word,pg⟩:=h;simp only at hid hs;have q:=fun w=>ud key ⟨#[]⟩ pg.hi pg.la w
 rw[jd,Bool.not_false,Bool.true_and]at q;obtain⟨inb,abE⟩:∃inb,inb=(pg.la || cA key pg.hi):=⟨_,rfl⟩;rw[←abE]at q;have aeu:=aq3 abE;have Qw:=aq3 q;clear q abE;go_enter Tryz.func121,Tryz.ntmps121
 go_upto_region 1 with(fail)
 obtain⟨bk,hbk⟩:∃bk,bk=w.heap.size:=⟨_,rfl⟩;rw[←hbk]at hs ⊢;clear hbk;refine cP hs ?_
 clear hs;intro w1 hs;go_cut [15]from 999 to 0 (fun v15 wx=>v15=.bool inb/\St K wx (blk (bk+1) (.cells #[.int .u64 ((⟨id,word,pg⟩:cm)).id,.int .u64 ((⟨id,word,pg⟩:cm)).word,.int .i64 ((⟨id,word,pg⟩:cm)).pg.ak,(.slice a pg.sl.length c),.string ((⟨id,word,pg⟩:cm)).pg.hi,.bool ((⟨id,word,pg⟩:cm)).pg.la,.int .u64 ((⟨id,word,pg⟩:cm)).pg.ri] 45)::blk bk (.cells #[(.pointer (some ⟨b,0,none⟩))] 37)::blk b (.cells (nx :: .bool true::ea d key h0 mO).toArray 125)::bu (.slice a pg.sl.length c) pg::F))
 case first=>
  have k0:=hs.k0;have k1:=hs.k1;have k2:=hs.k2;unfold ea at k2;refine bI (by kernel_rfl) (by as_aux_lemma=>kernel_rfl) ?_
  repeat (go_big_quiet_step ((go_at_call 138;exact dz (Qw.out _))))
  refine wpQuiet_nil ?_
  intro w5 hb5;have Hs:=aq3 (hs.same hb5);clear hb5 hs k0 k1 k2;go_wp2
  go_meet;exact⟨rfl,Hs.out⟩
 case rest=>
 clear hs;obtain⟨rfl,hs⟩:=hcut;apply_assumption
 rcases Bool.eq_false_or_eq_true inb with h|h
 ·rw[h]
  have Hin:Hid (qE key pg=true):=aq3 (by rw[←h,aeu.out];rfl)
  clear h;have k0:=hs.k0;have k1:=hs.k1;have hs:=hs.b2;have kl:=hs.k0;have fl:=hs.f0;unfold ea at kl;have Hs:=aq3 (((((((hs.aI 10 (.int .u64 id)).aI 11 (.int .u64 word)).aI 12 (.int .i64 pg.ak)).aI 13 (.slice a pg.sl.length c)).aI 14 (.string pg.hi)).aI 15 (.bool pg.la)).aI 16 (.int .u64 pg.ri));clear hs;go_wp2
  go_ret;exact .inl ⟨Hin.out,rfl,((show St K _ (blk b (.cells (nx :: .bool true::ea d key (⟨id,word,pg⟩:cm) (.slice a pg.sl.length c)).toArray 125)::_::_::_::F)from Hs.out).re [1,2,0,3] rfl).tail.tail⟩
 ·rw[h]
  have Hin:Hid (qE key pg=false):=aq3 (by rw[←h,aeu.out];rfl)
  clear h;go_upto_region 4 with(fail)
  have Hs:=aq3 hs;clear hs;refine aT [false,false,false,false,false,false,false,false,false,true,true,false,true,true] [9,10,12,13] (fun|10=>[9] | 12=>[10] | 13=>[12] | _=>[])
   (GR K (blk (bk+1) (.cells #[.int .u64 ((⟨id,word,pg⟩:cm)).id,.int .u64 ((⟨id,word,pg⟩:cm)).word,.int .i64 ((⟨id,word,pg⟩:cm)).pg.ak,(.slice a pg.sl.length c),.string ((⟨id,word,pg⟩:cm)).pg.hi,.bool ((⟨id,word,pg⟩:cm)).pg.la,.int .u64 ((⟨id,word,pg⟩:cm)).pg.ri] 45)::blk bk (.cells #[(.pointer (some ⟨b,0,none⟩))] 37)::blk b (.cells (nx :: .bool true::ea d key h0 mO).toArray 125)::bu (.slice a pg.sl.length c) pg::F) [9,10,12,13] (mM 47 (yO bk (bk+1)) (Zx (d.node id 0) word) 9 10 12 13))
   (fun W=>St K W (blk (bk+1) (.cells #[.int .u64 ((⟨id,word,pg⟩:cm)).id,.int .u64 ((⟨id,word,pg⟩:cm)).word,.int .i64 ((⟨id,word,pg⟩:cm)).pg.ak,(.slice a pg.sl.length c),.string ((⟨id,word,pg⟩:cm)).pg.hi,.bool ((⟨id,word,pg⟩:cm)).pg.la,.int .u64 ((⟨id,word,pg⟩:cm)).pg.ri] 45)::blk bk (.cells #[(.pointer (some ⟨b,0,none⟩))] 37)::blk b (.cells (nx :: .bool true::ea d key h0 mO).toArray 125)::bu (.slice a pg.sl.length c) pg::F)) ?aSD (by kernel_rfl) ?hBD ?HD ?abF ?h0D ?hID ?hRD ?hED ?hQD
  case hBD=>as_aux_lemma=>kernel_rfl
  case HD=>
   intro W2 hs;have k0:=hs.k0;have k1:=hs.k1;have k2:=hs.k2;unfold ea at k2;have Ql:=aq3 (fun w=>iw d hd id hid.1 hid.2 w)
   clear hs;simp only[bL];repeat (go_big_quiet_step ((go_at_call 69;exact aX (Ql.out _))))
   refine wpQuiet_nil ?_
   rfl
  case abF=>rfl
  case h0D=>exact GR.start Hs.out
  case hID=>exact fun ρ W2 h=>h.rest
  case hRD=>exact fun ρ W2 W3 h hb=>h.same hb
  case hED=>
   refine⟨?e1D,?e2D,?e3D,?e4D,trivial⟩;case e1D=>
    intro o ho ρ W2 h hcl pq hd2 dX aB;obtain rfl:=aq9 ho;replace aB:dX=aj _ ρ [] _:=aB;obtain⟨C,R',hx1,hs,hnext⟩:=h.step mM.mono 9 [] (by decide) (by decide) (by decide) pq (by simp)
    simp only[aj]at aB;subst aB;have Hn:=aq3 hnext;clear hnext hx1 h hcl hd2 pq;have Q:=aq3 (kJ (i:=d.node id 0) (word:=word) hs);clear hs;go_wp2_with fail
    refine(Q.out).mono ?_
    rintro e W3 ⟨br,bi,bw,rfl,hs'⟩;have eG:=aq3 hs';clear hs' Q;go_wp2
    exact⟨rfl,_,rfl,Hn.out _ _ W3 ⟨br,bi,bw,rfl,rfl⟩ eG.out⟩
   case e2D=>
    intro o ho ρ W2 h hcl kO hd2 dX aB;obtain rfl:=aq9 ho;replace aB:dX=aj _ ρ [9] _:=aB;obtain⟨v9,pq⟩:=aq6.1 (hd2 9 (by show _∈[9];simp))
    simp only[aj,pq,Option.getD_some,aM,Act.put,ara]at aB;subst aB;have H:=aq3 (h.jT mM.mono 10 (by decide) (by simp) kO (.iface 47 v9) ⟨⟨v9,iL kO pq,rfl⟩,rfl⟩)
    clear h hcl hd2 kO pq;go_wp2
    exact⟨rfl,_,rfl,H.out⟩
   case e3D=>
    intro o ho ρ W2 h hcl eD hd2 dX aB;obtain rfl:=aq9 ho;replace aB:dX=aj _ ρ [10] _:=aB;obtain⟨v10,kO⟩:=aq6.1 (hd2 10 (by show _∈[10];simp))
    obtain⟨Zz,R8,⟨⟨u1,hu1,rfl⟩,_⟩,_⟩:=h.at 10 (by simp) kO
    obtain⟨C,R',hx1,hs,hnext⟩:=h.step mM.mono 12 [] (by decide) (by decide) (by decide) eD (by simp)
    simp only[aj,kO,Option.getD_some,aM,Act.put,ara]at aB;subst aB;have hu2:∀v,upd ρ 12 v 9=some u1:=fun v=>iL eD hu1
    have Hn:=aq3 hnext;have Hu:=aq3 hu2;clear hnext hx1 h hcl hd2 kO eD hu1 hu2;have Q:=aq3 (fG (T2:=47) (xv:=u1) (f:=154) (tx:= #[]) (ty:= #[(.pointer (some ⟨bk,0,none⟩)),(.pointer (some ⟨(bk+1),0,none⟩))]) hs);clear hs;go_wp2_with fail
    refine(Q.out).mono ?_
    rintro e W3 ⟨b2,b3,b5,rfl,hs'⟩;have eG:=aq3 hs';clear hs' Q;simp only[aA,aW];go_wp2
    exact⟨rfl,_,rfl,Hn.out _ [_] W3 ⟨u1,b2,b3,b5,Hu.out _,rfl,rfl⟩ eG.out⟩
   case e4D=>
    intro o ho ρ W2 h hcl eo hd2 dX aB;obtain rfl:=aq9 ho;replace aB:dX=aj _ ρ [12] _:=aB;obtain⟨v12,eD⟩:=aq6.1 (hd2 12 (by show _∈[12];simp))
    obtain⟨Zz,R8,⟨u1,b2,b3,b5,hu1,rfl,_⟩,_⟩:=h.at 12 (by simp) eD
    simp only[aj,eD,Option.getD_some,aM,Act.put,ara]at aB;subst aB;have H:=aq3 (h.jT mM.mono 13 (by decide) (by simp) eo (aW (some (aA b2 b3 b5))) ⟨⟨b2,b3,b5,rfl,iL eo eD⟩,rfl⟩)
    clear h hcl hd2 eD eo hu1;simp only[aA,aW]at H ⊢;go_wp2
    exact⟨rfl,_,rfl,H.out⟩
  case hQD=>
  intro ρ W2 h hall;obtain⟨u1,b2,b3,b5,C,hΦ,pq,kO,eD,eo,hs⟩:=mM.last (by decide) h hall
  simp only[aj,pq,kO,eD,eo,Option.getD_some,aM,Act.put,ara];clear h hall pq kO eD eo Hs;obtain⟨br,bi,bw,rfl,rfl⟩:=hΦ;have Hs:=aq3 hs;clear hs;simp only[aA,aW];go_wp2
  go_ret;refine .inr ⟨Hin.out,b2,b3,b5,br,bi,bw,bk,bk+1,rfl,?_⟩;have hs:St K W2 (bG b2 b3 b5 _ _::blk br _::blk bi _::blk bw _::blk (bk+1) _::blk bk _::blk b (.cells (nx :: .bool true::ea d key h0 mO).toArray 125)::bu (.slice a pg.sl.length c) pg::F):=Hs.out;exact(hs.re [7,6,0,5,4,1,2,3] rfl).tail
theorem Zy.same {K:aL}{b:Nat}{d:aR}{key:ByteArray}{nx:Value}{h0:cm}{mO:Value}{h:cm}{a:Option Addr}{c:Nat}{F:List aC}{e:Ending}{W W':World}(hj:Zy K b d key nx h0 mO h a c F e W)(hb:Below W.heap.size W W'):Zy K b d key nx h0 mO h a c F e W' := by
 rcases hj with⟨h1,h2,hs⟩|⟨h1,b2,b3,b5,br,bi,bw,bk,bh,h2,hs⟩
 ·exact .inl ⟨h1,h2,hs.same hb⟩
 ·exact .inr ⟨h1,b2,b3,b5,br,bi,bw,bk,bh,h2,hs.same hb⟩
theorem Zy.rest {K:aL}{b:Nat}{d:aR}{key:ByteArray}{nx:Value}{h0:cm}{mO:Value}{h:cm}{a:Option Addr}{c:Nat}{F:List aC}{e:Ending}{W:World}(hj:Zy K b d key nx h0 mO h a c F e W):St K W F:=by
 rcases hj with⟨h1,h2,hs⟩|⟨h1,b2,b3,b5,br,bi,bw,bk,bh,h2,hs⟩
 ·exact hs.tail.tail
 ·exact(show St K W (_::_::_::_::_::_::_::F)from hs).tail.tail.tail.tail.tail.tail.tail
def HlM (K:aL)(b:Nat)(d:aR)(key:ByteArray)(nx:Value)(h0:cm)(mO:Value)(h:cm)(F:List aC)(v:Value)(W:World):Prop:=
 ∃(a:Option Addr) (c:Nat),v=(.agg #[.int .u64 (h).id,.int .u64 (h).word,.int .i64 (h).pg.ak,(.slice a h.pg.sl.length c),.string (h).pg.hi,.bool (h).pg.la,.int .u64 (h).pg.ri])/\St K W (blk b (.cells (nx :: .bool true::ea d key h0 mO).toArray 125)::bu (.slice a h.pg.sl.length c) h.pg::F)
def JdM (K:aL)(b:Nat)(d:aR)(key:ByteArray)(nx:Value)(h0:cm)(mO:Value)(h:cm)(F:List aC)(u:Value)(W:World):Prop:=
 ∃(a:Option Addr) (c:Nat),Zy K b d key nx h0 mO h a c F (.returned u) W
theorem Cs {h0:cm}{mO:Value}{bk vR bo left:Nat}{word:Int}{pg:Pg}{av:Option Addr}{cv:Nat}(hd:d.Ok)(hid:0<=id/\id<18446744073709551616)(hn:pg.sl.length<=1000000)
  (hs:St K w (blk b (.cells (nx :: .bool true::ea d key h0 mO).toArray 125)::blk bk (.cells #[(.pointer (some ⟨b,0,none⟩))] 37)::blk vR (.cells #[(.pointer (some ⟨bo,0,none⟩))] 177)::lq bo d id (.slice av pg.sl.length cv) ⟨6,pg,left,word,false⟩::bu (.slice av pg.sl.length cv) pg::F)) :
  Calls Tryz.prog 120 #[(.pointer (some ⟨bk,0,none⟩)),(.pointer (some ⟨vR,0,none⟩))] w fun e w' => ∃(a:Option Addr) (c:Nat),Zy K b d key nx h0 mO ⟨id,word,pg⟩ a c (blk bk (.cells #[(.pointer (some ⟨b,0,none⟩))] 37)::blk vR (.cells #[(.pointer (some ⟨bo,0,none⟩))] 177)::lq bo d id (.slice av pg.sl.length cv) ⟨6,pg,left,word,false⟩::bu (.slice av pg.sl.length cv) pg::F) e w' := by
 have Hs:=aq3 hs;clear hs;go_enter Tryz.func120,Tryz.ntmps120
 go_upto_region 1 with(fail)
 refine jL [false,false,true,true,true] 2 3 4
  (fun W=>St K W (blk b (.cells (nx :: .bool true::ea d key h0 mO).toArray 125)::blk bk (.cells #[(.pointer (some ⟨b,0,none⟩))] 37)::blk vR (.cells #[(.pointer (some ⟨bo,0,none⟩))] 177)::lq bo d id (.slice av pg.sl.length cv) ⟨6,pg,left,word,false⟩::bu (.slice av pg.sl.length cv) pg::F))
  (HlM K b d key nx h0 mO ⟨id,word,pg⟩ (blk bk (.cells #[(.pointer (some ⟨b,0,none⟩))] 37)::blk vR (.cells #[(.pointer (some ⟨bo,0,none⟩))] 177)::lq bo d id (.slice av pg.sl.length cv) ⟨6,pg,left,word,false⟩::bu (.slice av pg.sl.length cv) pg::F))
  (fun _ u W=>JdM K b d key nx h0 mO ⟨id,word,pg⟩ (blk bk (.cells #[(.pointer (some ⟨b,0,none⟩))] 37)::blk vR (.cells #[(.pointer (some ⟨bo,0,none⟩))] 177)::lq bo d id (.slice av pg.sl.length cv) ⟨6,pg,left,word,false⟩::bu (.slice av pg.sl.length cv) pg::F) u W)
  (fun _ u x W=>x=u/\JdM K b d key nx h0 mO ⟨id,word,pg⟩ (blk bk (.cells #[(.pointer (some ⟨b,0,none⟩))] 37)::blk vR (.cells #[(.pointer (some ⟨bo,0,none⟩))] 177)::lq bo d id (.slice av pg.sl.length cv) ⟨6,pg,left,word,false⟩::bu (.slice av pg.sl.length cv) pg::F) u W)
  (fun W=>∃cs,St K W (blk bk (.cells #[(.pointer (some ⟨b,0,none⟩))] 37)::blk vR (.cells #[(.pointer (some ⟨bo,0,none⟩))] 177)::cs)) ?aS (by decide) (by kernel_rfl) ?hB ?H ?iD Hs.out ?hI ?hR ?Fx ?vK ?hE3 ?hQ
 case hB=>as_aux_lemma=>kernel_rfl
 case H=>
  rintro W2 ⟨cs,hs⟩;have k0:=hs.k0;have k1:=hs.k1;clear hs;simp only[bL];repeat (go_big_quiet_step (fail))
  refine wpQuiet_nil ?_
  rfl
 case iD=>rfl
 case hI=>exact⟨fun W h=>⟨_,h.tail⟩,fun v W ⟨_,_,_,h⟩=>⟨_,h.tail.tail⟩,fun v u W ⟨_,_,h⟩=>⟨_,h.rest⟩,fun v u x W ⟨_,_,_,h⟩=>⟨_,h.rest⟩⟩
 case hR=>exact⟨fun W W' h hb=>h.same hb,fun v W W' ⟨a,c,e,h⟩ hb=>⟨a,c,e,h.same hb⟩,fun v u W W' ⟨a,c,h⟩ hb=>⟨a,c,h.same hb⟩,fun v u x W W' ⟨e,a,c,h⟩ hb=>⟨e,a,c,h.same hb⟩⟩
 case Fx=>
  intro rj o ho ρ W2 hs hk af aB;obtain rfl:=aq9 ho;subst aB;have Hk:=aq3 hk;clear hk;have Q:=aq3 (Gr hn (hs.re [3,4,0,1,2] rfl));clear hs;go_wp2_with fail
  refine(Q.out).mono ?_
  rintro e w1 ⟨lj,rfl,hs⟩;obtain⟨a1,c1,rfl,_,_⟩:=hs.aH;have fZ:=aq3 (hs.re [3,0,4,5,1,2] rfl);clear hs Q;go_wp2
  exact⟨rfl,_,rfl,Hk.out _ _ ⟨a1,c1,rfl,fZ.out⟩⟩
 case vK=>
  rintro rj o ho ρ v W2 ⟨a1,c1,rfl,hs⟩ hk af aB;obtain rfl:=aq9 ho;have Hk:=aq3 hk;clear hk;simp only[aM,List.getElem?_cons_succ,List.getElem?_cons_zero,Option.bind_some,Act.put,List.setIfInBounds_toArray,List.set_cons_zero,List.set_cons_succ]at aB;subst aB;have Q:=aq3 (yP (h:=⟨id,word,pg⟩) hd hid hs);clear hs;go_wp2_with fail
  refine(Q.out).mono ?_
  rintro e w1 hj;clear Q;rcases hj with⟨h1,rfl,hs⟩|⟨h1,b2,b3,b5,br,bi,bw,bk',bh,rfl,hs⟩
  ·have Hj:=aq3 (show JdM K b d key nx h0 mO ⟨id,word,pg⟩ _ .nilFunc w1 from⟨a1,c1,.inl ⟨h1,rfl,hs⟩⟩)
   clear hs h1;go_wp2
   exact⟨rfl,_,rfl,Hk.out _ _ Hj.out⟩
  ·have Hj:=aq3 (show JdM K b d key nx h0 mO ⟨id,word,pg⟩ _ (aW (some (aA b2 b3 b5))) w1 from⟨a1,c1,.inr ⟨h1,b2,b3,b5,br,bi,bw,bk',bh,rfl,hs⟩⟩)
   clear hs h1;simp only[aA,aW]at Hj ⊢;go_wp2
   exact⟨rfl,_,rfl,Hk.out _ _ Hj.out⟩
 case hE3=>
  rintro rj o ho ρ v u W2 ⟨a1,c1,hj⟩ hk af aB;obtain rfl:=aq9 ho;have Hk:=aq3 hk;clear hk;simp only[aM,List.getElem?_cons_succ,List.getElem?_cons_zero,Option.bind_some,Act.put,List.setIfInBounds_toArray,List.set_cons_zero,List.set_cons_succ]at aB;subst aB;have hj0:=hj;rcases hj with⟨_,h1,_⟩|⟨_,b2,b3,b5,br,bi,bw,bk',bh,h1,_⟩
  ·obtain rfl:=Ending.returned.inj h1
   have Hj:=aq3 (show JdM K b d key nx h0 mO ⟨id,word,pg⟩ _ .nilFunc W2 from⟨a1,c1,hj0⟩)
   clear hj0 h1;go_wp2
   exact⟨rfl,_,rfl,Hk.out _ _ ⟨rfl,Hj.out⟩⟩
  ·obtain rfl:=Ending.returned.inj h1
   have Hj:=aq3 (show JdM K b d key nx h0 mO ⟨id,word,pg⟩ _ (aW (some (aA b2 b3 b5))) W2 from⟨a1,c1,hj0⟩)
   clear hj0 h1;simp only[aA,aW]at Hj Hk ⊢;go_wp2
   exact⟨rfl,_,rfl,Hk.out _ _ ⟨rfl,Hj.out⟩⟩
 case hQ=>
  rintro v u x W2 ⟨rfl,a1,c1,hj⟩;simp only[aM,List.getElem?_cons_succ,List.getElem?_cons_zero,Option.bind_some,Act.put,List.setIfInBounds_toArray,List.set_cons_zero,List.set_cons_succ];have hj0:=hj;rcases hj with⟨_,h1,_⟩|⟨_,b2,b3,b5,br,bi,bw,bk',bh,h1,_⟩
  ·obtain rfl:=Ending.returned.inj h1
   have Hj:=aq3 hj0;clear hj0 h1;go_wp2
   go_ret;exact⟨a1,c1,Hj.out⟩
  ·obtain rfl:=Ending.returned.inj h1
   have Hj:=aq3 hj0;clear hj0 h1;simp only[aA,aW]at Hj ⊢;go_wp2
   go_ret;exact⟨a1,c1,Hj.out⟩
theorem yQ {h0:cm}{mO lj pN:Value}{jn iY bf:Nat}{B:kB}{level:Int}{s:pO}(hd:d.Ok)(h2:s.pc=2)(hid:0<=s.id/\s.id<18446744073709551616)(hn:s.pg.sl.length<=1000000)
  (hs:St K w (blk b (.cells (nx :: .bool true::ea d key h0 mO).toArray 125)::blk jn (.cells #[(.pointer (some ⟨bf,0,none⟩))] 84)::blk iY (.cells #[(.pointer (some ⟨b,0,none⟩))] 37)::(s7 bf .nilFunc B lj pN d key level s++F))) :
  Calls Tryz.prog 75 #[(.pointer (some ⟨jn,0,none⟩)),(.pointer (some ⟨iY,0,none⟩))] w fun e w' => (s.id=0/\e=.returned .nilFunc/\St K w' (blk b (.cells (nx :: .bool true::ea d key h0 mO).toArray 125)::F)) \/
   (s.id≠0/\∃b2 b3 b5 ba bk bi eU,e=.returned (aW (some (aA b2 b3 b5))) /\
    St K w' (blk b (.cells (nx :: .bool true::ea d key h0 mO).toArray 125)::bG b2 b3 b5 (.iface 175 (.pointer (some ⟨ba,0,none⟩))) (td bk bi eU)::blk bk (.cells #[(.pointer (some ⟨b,0,none⟩))] 37)::blk bi (.cells #[.int .u64 s.id] 23)::blk eU (.cells #[(.pointer (some ⟨ba,0,none⟩))] 175)::fS ba (d.node s.id 0) mL::F)):=by
 have kf:=hs.k1;have hs1:St K w (s7 bf .nilFunc B lj pN d key level s++(blk b (.cells (nx :: .bool true::ea d key h0 mO).toArray 125)::blk iY (.cells #[(.pointer (some ⟨b,0,none⟩))] 37)::F)):=by
  have h1:St K w ([blk b (.cells (nx :: .bool true::ea d key h0 mO).toArray 125),blk iY (.cells #[(.pointer (some ⟨b,0,none⟩))] 37)]++(s7 bf .nilFunc B lj pN d key level s++F)):=(hs.re [1,0,2] rfl).tail;exact h1.front
 have Q:=aq3 (Bi h2 hn hs1);clear hs hs1;go_enter Tryz.func75,Tryz.ntmps75
 go_wp2_with fail
 refine(Q.out).mono ?_
 clear Q kf;rintro e w1 ⟨va3,rfl,hs⟩;obtain⟨a3,c3,rfl,_,_⟩:=(show St K w1 (az va3 69 2 s.pg.sl.length (aD s.pg.sl)::_)from hs).aH
 have hs:=hs.tail.Bo;have hs:=hs.pass (.cells #[.int .i64 s.pg.ak,.slice a3 s.pg.sl.length c3,.string s.pg.hi,.bool s.pg.la,.int .u64 s.pg.ri] 43);by_cases h0:s.id=0
 ·have hb:(s.id == 0)=true:=beq_iff_eq.2 h0
  have H0:=aq3 h0;clear h0;go_wp2
  go_ret;exact .inl ⟨H0.out,rfl,hs.bY⟩
 ·have hb:(s.id == 0)=false:=beq_eq_false_iff_ne.2 h0
  have H0:=aq3 h0;clear h0;have kv:=hs.k1;have Q:=aq3 (nK hd hid hs);clear hs;go_wp2_with fail
  refine(Q.out).mono ?_
  clear Q kv;rintro e w2 ⟨b2,b3,b5,ba,bk,bi,eU,rfl,hs⟩;have Hs:=aq3 ((hs.re [6,0,1,2,3,4,5] rfl).tail);clear hs;simp only[aA,aW];go_wp2
  go_ret;exact .inr ⟨H0.out,b2,b3,b5,ba,bk,bi,eU,rfl,Hs.out⟩
theorem Ct {h0:cm}{mO lj:Value}{bk bh:Nat}(hd:d.Ok)(hid:0<=h.pg.ri/\h.pg.ri<18446744073709551616)
  (hs:St K w (blk b (.cells (nx :: .bool true::ea d key h0 mO).toArray 125)::blk bk (.cells #[(.pointer (some ⟨b,0,none⟩))] 37)::blk bh (.cells #[.int .u64 (h).id,.int .u64 (h).word,.int .i64 (h).pg.ak,lj,.string (h).pg.hi,.bool (h).pg.la,.int .u64 (h).pg.ri] 45)::F)) :
  Calls Tryz.prog 154 #[(.pointer (some ⟨bk,0,none⟩)),(.pointer (some ⟨bh,0,none⟩))] w fun e w' => ∃b2 b3 b5 ba bk bi eU,e=.returned (aW (some (aA b2 b3 b5))) /\
    St K w' (blk b (.cells (nx :: .bool true::ea d key h0 mO).toArray 125)::bG b2 b3 b5 (.iface 175 (.pointer (some ⟨ba,0,none⟩))) (td bk bi eU)::blk bk (.cells #[(.pointer (some ⟨b,0,none⟩))] 37)::blk bi (.cells #[.int .u64 h.pg.ri] 23)::blk eU (.cells #[(.pointer (some ⟨ba,0,none⟩))] 175)::fS ba (d.node h.pg.ri 0) mL::F):=by
 have k1:=hs.k1;have k2:=hs.k2;have Q:=aq3 (nK hd hid (hs.re [1,2,0] rfl).tail.tail);clear hs;go_enter Tryz.func154,Tryz.ntmps154
 go_wp2_with fail
 refine(Q.out).mono ?_
 clear Q k1 k2;rintro e w2 ⟨b2,b3,b5,ba,bk2,bi,eU,rfl,hs⟩;have Hs:=aq3 hs;clear hs;simp only[aA,aW];go_wp2
 go_ret;exact⟨b2,b3,b5,ba,bk2,bi,eU,rfl,Hs.out⟩
end
theorem Nq {d:aR}{L:List aO}{key:ByteArray}{level:Int}{s:pO}(h:s.pc<=2):(bS d L key level s).pc<=2:=by
 have hgo:∀(x:pO) (i:Int),(gP x i).pc<=2:=by
  intro x i;unfold gP;split <;> simp
 unfold bS;split
 ·exact hgo _ _
 ·split
  ·unfold iK
   split
   ·simp
   ·split
    ·split
     ·simp
     ·exact hgo _ _
    ·exact hgo _ _
  ·simp
 ·exact h
structure vB.Ok (d:aR)(key:ByteArray)(level:Int)(L:List aO)(s:vB):Prop where
 pc:s.pc<=3
 fd:s.pc=0->s.fd.Ok d/\s.fd.pc≠2/\(s.fd.pc=1->(rdStep d s.fd.id L s.fd.rd).pc=6->oX level (rdStep d s.fd.id L s.fd.rd).pg) /\
  ((bS d L key level s.fd).pc=2->(0<=(bS d L key level s.fd).id/\(bS d L key level s.fd).id<18446744073709551616)/\(bS d L key level s.fd).pg.sl.length<=1000000)
 id:1<=s.pc->0<=s.id/\s.id<18446744073709551616
 aq:s.pc=1->s.aq.Ok/\s.aq.pc≠2
 ow:s.pc=2->s.ow.Wi d/\s.ow.pc≠6
 rl:s.pc=3->(0<=s.ow.word/\s.ow.word<18446744073709551616)/\0<=s.ow.pg.ri/\s.ow.pg.ri<18446744073709551616
theorem uF (n : Nat) (a : Addr) (w : World) : (method (n + 1) 175 (.pointer (some a)) "Step").run Tryz.prog w = .ok (213, .pointer (some a)) w := by kernel_rfl
theorem Ij (n : Nat) (a : Addr) (w : World) : (method (n + 1) 177 (.pointer (some a)) "Step").run Tryz.prog w = .ok (214, .pointer (some a)) w := by kernel_rfl
theorem ij (n : Nat) (a : Addr) (w : World) : (method (n + 1) 47 (.pointer (some a)) "Step").run Tryz.prog w = .ok (22, .pointer (some a)) w := by kernel_rfl
section
variable {K:aL}{w:World}{F:List aC}{b bm bc:Nat}{d:aR}{key:ByteArray}{level:Int}{L:List aO}{acc:Nat}{s:vB}{C:List aC}
def uG (d:aR)(key:ByteArray)(level:Int)(b:Nat)(s:vB)(o:Option FV)(tl:List Value)(C2:List aC):Prop:=
 ∃tl2,tl=.bool true::tl2/\o.isNone=decide (4<=s.pc)/\lC d key level b s (blk b (.cells (aW o::tl).toArray 125)::C2)
theorem uH {o:Option FV}{oy:List Value}{C2:List aC}{L1:List aO}{w':World}{e:Ending}{s s':vB}(he:e=.returned (.bool o.isNone))(hs:St K w' (blk b (.cells (aW o::oy).toArray 125)::(C2++aJ bm bc L1 (acc+1)::F)))(hn:uG d key level b s' o oy C2)
  (heq:aK d key level L s=(s',L1)):∃C',e=.returned (.bool (decide (4<=(aK d key level L s).1.pc)))/\lC d key level b (aK d key level L s).1 C' /\ St K w' (C' ++ aJ bm bc (aK d key level L s).2 (acc+1)::F):=by
 obtain⟨tl2,_,ho,hr⟩:=hn;rw[heq];exact⟨_,by rw[he,ho],hr,hs⟩
theorem Ik (hd:d.Ok)(hL:bD L)(ha:acc<=1000000000000)(hok:s.Ok d key level L)(hh:s.h=l6)(cS:lC d key level b s C)(hs:St K w (C++aJ bm bc L acc::F)) :
  Calls Tryz.prog 77 #[(.pointer (some ⟨b,0,none⟩)),(.pointer (some ⟨bm,0,none⟩))] w fun e w' => ∃C',e=.returned (.bool (decide (4<=(aK d key level L s).1.pc)))/\lC d key level b (aK d key level L s).1 C' /\ St K w' (C' ++ aJ bm bc (aK d key level L s).2 (acc+1)::F):=by
 obtain⟨pc,fd,id,aq,ow,h⟩:=s;obtain⟨pM,Wn,hid,haq,how,hrl⟩:=hok;simp only at pM Wn hid haq how hrl hh;subst hh;match pc,pM,cS,Wn,hid,haq,how,hrl with
 | 0,_,cS,Wn,hid,haq,how,hrl=>
  obtain⟨b2,b3,b5,bf,jn,iY,B,lj,pN,rfl⟩:=cS;obtain⟨f1,f2,f3,f4⟩:=Wn rfl;have hf2:=Nq f1.pc (L:=L) (key:=key) (level:=level) (d:=d);refine(kD.nD (R:=fun fin C' => fin=decide (2<=(bS d L key level fd).pc)/\∃B' Nr Ns,C'=s7 bf (aW (lp bf B' (bS d L key level fd).pc)) B' Nr Ns d key level (bS d L key level fd))
   (L' := L) (acc' := acc+1) (V:=[blk jn (.cells #[(.pointer (some ⟨bf,0,none⟩))] 84),blk iY (.cells #[(.pointer (some ⟨b,0,none⟩))] 37)]) (C:=s7 bf (aW (lp bf B fd.pc)) B lj pN d key level fd)
   (R2:=fun o oy C2=>(bS d L key level fd).pc=2/\uG d key level b (if (bS d L key level fd).id=0 then⟨4,bS d L key level fd,id,aq,ow,l6⟩else⟨1,bS d L key level fd,(bS d L key level fd).id,mL,ow,l6⟩) o oy C2)
   (fun w F hs=>?_) (fun n w=>Au n _ w) (fun _ _=>by kernel_rfl) (fun _ _=>by kernel_rfl) ?_ w F hs).mono ?_
  ·refine(Bg hd hL ha f1 f3 hs).mono ?_
   rintro e w' ⟨rfl,⟨B',Nr,Ns⟩,hs⟩;rw[show Bf fd.pc acc=acc+1 by unfold Bf;rw[if_neg f2]]at hs
   exact⟨_,_,rfl,⟨rfl,B',Nr,Ns,rfl⟩,hs⟩
  ·rintro C' w1 F1 ⟨dB,B',Nr,Ns,rfl⟩ hs
   have hp:(bS d L key level fd).pc=2:=by
    have:=of_decide_eq_true dB.symm;omega
   obtain⟨g1,g2⟩:=f4 hp;generalize bS d L key level fd=f at *;rw[hp]at hs;refine(yQ (level:=level) hd hp g1 g2 (F:=aJ bm bc L (acc+1)::F1) hs).mono ?_
   rintro e w2 (⟨h0,rfl,hs2⟩|⟨h0,x2,x3,x5,ba,bk,bi,eU,rfl,hs2⟩)
   ·rw[if_pos h0]
    exact⟨none,_,[bu (.slice none 0 0) l6.pg],rfl,⟨hp,_,rfl,rfl,_,rfl⟩,(hs2.cF (T:=69) (size:=2)).b1⟩
   ·rw[if_neg h0]
    exact⟨some (aA x2 x3 x5),_,[_,_,_,_,_],rfl,⟨hp,_,rfl,rfl,x2,x3,x5,ba,bk,bi,eU,rfl⟩,hs2⟩
  ·rintro e w' ⟨o,oy,C2,he,hs,⟨rfl,rfl,C',⟨dB,B',Nr,Ns,rfl⟩,rfl⟩|⟨hp,hn⟩⟩
   ·have hp:(bS d L key level fd).pc≠2:=by
     intro h2;rw[h2]at dB;cases dB
    refine uH he hs (s' := ⟨0,bS d L key level fd,id,aq,ow,l6⟩) ⟨_,rfl,rfl,b2,b3,b5,bf,jn,iY,B',Nr,Ns,rfl⟩ ?_
    show(if _ then _ else _)=_
    rw[if_neg hp]
   ·refine uH he hs hn ?_
    show(if _ then _ else _)=_
    rw[if_pos hp];split <;> rfl
 | 1,_,cS,Wn,hid,haq,how,hrl=>
  obtain⟨b2,b3,b5,ba,bk,bi,eU,rfl⟩:=cS;obtain⟨a1,a2⟩:=haq rfl;have hi:=hid (Nat.le_refl 1);have hst:=um (i:=d.node id 0) hL a1;refine(kD.nD (R:=fun fin C' => fin=decide (2<=(bM (d.node id 0) L aq).1.pc)/\C' = [fS ba (d.node id 0) (bM (d.node id 0) L aq).1])
   (L' := (bM (d.node id 0) L aq).2) (acc' := acc+1) (V:=[blk bk (.cells #[(.pointer (some ⟨b,0,none⟩))] 37),blk bi (.cells #[.int .u64 id] 23),blk eU (.cells #[(.pointer (some ⟨ba,0,none⟩))] 175)]) (C:=[fS ba (d.node id 0) aq])
   (R2:=fun o oy C2=>(bM (d.node id 0) L aq).1.pc=2/\uG d key level b ⟨2,fd,id,(bM (d.node id 0) L aq).1,nC (bM (d.node id 0) L aq).1.word,l6⟩ o oy C2)
   (fun w F hs=>?_) (fun n w=>uF n _ w) (fun _ _=>by kernel_rfl) (fun _ _=>by kernel_rfl) ?_ w F hs).mono ?_
  ·refine(uo hL ha a1 a2 hs).mono ?_
   rintro e w' ⟨rfl,hs⟩;exact⟨_,_,rfl,⟨rfl,rfl⟩,hs⟩
  ·rintro C' w1 F1 ⟨dB,rfl⟩ hs
   have hp:(bM (d.node id 0) L aq).1.pc=2:=by
    have:=of_decide_eq_true dB.symm;have:=hst.pc;omega
   refine(Ii hp hs).mono ?_
   rintro e w2 ⟨x2,x3,x5,bo,vR,rfl,hs2⟩;exact⟨some (aA x2 x3 x5),_,[_,_,_,_,_],rfl,⟨hp,_,rfl,rfl,x2,x3,x5,bo,bk,vR,_,rfl⟩,hs2⟩
  ·rintro e w' ⟨o,oy,C2,he,hs,⟨rfl,rfl,C',⟨dB,rfl⟩,rfl⟩|⟨hp,hn⟩⟩
   ·have hp:(bM (d.node id 0) L aq).1.pc≠2:=by
     intro h2;rw[h2]at dB;cases dB
    refine uH he hs (s' := ⟨1,fd,id,(bM (d.node id 0) L aq).1,ow,l6⟩) ⟨_,rfl,rfl,b2,b3,b5,ba,bk,bi,eU,rfl⟩ ?_
    show(if _ then _ else _)=_
    rw[if_neg hp]
   ·refine uH he hs hn ?_
    show(if _ then _ else _)=_
    rw[if_pos hp]
 | 2,_,cS,Wn,hid,haq,how,hrl=>
  obtain⟨b2,b3,b5,bo,bk,vR,lj,rfl⟩:=cS;obtain⟨a1,a2⟩:=how rfl;have hi:=hid (by omega)
  have hst:=o7 hd (id:=id) hL a1;have rO:=hd.mK;refine(kD.nD (R:=fun fin C' => fin=decide ((bA d id L ow).pc=6)/\∃(a:Option Addr) (c:Nat),C' = [lq bo d id (.slice a (bA d id L ow).pg.sl.length c) (bA d id L ow),bu (.slice a (bA d id L ow).pg.sl.length c) (bA d id L ow).pg])
   (L' := L) (acc' := acc+1) (V:=[blk bk (.cells #[(.pointer (some ⟨b,0,none⟩))] 37),blk vR (.cells #[(.pointer (some ⟨bo,0,none⟩))] 177)]) (C:=[lq bo d id lj ow,bu lj ow.pg])
   (R2:=fun o oy C2=>(bA d id L ow).pc=6/\uG d key level b (if qE key (bA d id L ow).pg then⟨4,fd,id,aq,bA d id L ow,⟨id,(bA d id L ow).word,(bA d id L ow).pg⟩⟩else⟨3,fd,id,aq,bA d id L ow,l6⟩) o oy C2)
   (fun w F hs=>?_) (fun n w=>Ij n _ w) (fun _ _=>by kernel_rfl) (fun _ _=>by kernel_rfl) ?_ w F hs).mono ?_
  ·refine(Gq hd hi hL ha a1 a2 hs).mono ?_
   rintro e w' ⟨eX,rfl,hs⟩;obtain⟨a,c,rfl,_,_⟩:=(show St K w' (az eX 69 2 (bA d id L ow).pg.sl.length (aD (bA d id L ow).pg.sl)::_)from hs.b1).aH
   exact⟨_,[_,_],rfl,⟨rfl,a,c,rfl⟩,hs⟩
  ·rintro C' w1 F1 ⟨dB,a,c,rfl⟩ hs
   have hp:(bA d id L ow).pc=6:=of_decide_eq_true dB.symm;have hlen:(bA d id L ow).pg.sl.length<=1000000:=by
    rcases hst.len with h|h <;> omega
   generalize bA d id L ow=o at *;obtain⟨opc,opg,alh,ali,ot⟩:=o;simp only at hp hlen;subst hp;refine(Cs (F:=aJ bm bc L (acc+1)::F1) hd hi hlen hs).mono ?_
   rintro e w2 ⟨a3,c3,⟨h1,rfl,hs2⟩|⟨h1,x2,x3,x5,br,bi,bw,bk',bh,rfl,hs2⟩⟩
   ·rw[if_pos h1]
    exact⟨none,_,[_],rfl,⟨rfl,_,rfl,rfl,_,rfl⟩,(hs2.re [2,3,4,5,0,1] rfl).tail.tail.tail.tail⟩
   ·rw[h1,if_neg (by simp)]
    refine⟨some (aA x2 x3 x5),_,[_,_,_,_,_,_],rfl,⟨rfl,_,rfl,rfl,x2,x3,x5,br,bi,bw,bk',bh,.slice a3 opg.sl.length c3,rfl⟩,?_⟩;exact((show St K w2 (_::_::_::_::_::_::_::_::_::_::_::aJ bm bc L (acc+1)::F1)from hs2).re [7,8,9,10,0,1,2,3,4,5,6] rfl).tail.tail.tail.tail
  ·rintro e w' ⟨o,oy,C2,he,hs,⟨rfl,rfl,C',⟨dB,a,c,rfl⟩,rfl⟩|⟨hp,hn⟩⟩
   ·have hp:(bA d id L ow).pc≠6:=of_decide_eq_false dB.symm
    refine uH he hs (s' := ⟨2,fd,id,aq,bA d id L ow,l6⟩) ⟨_,rfl,rfl,b2,b3,b5,bo,bk,vR,_,rfl⟩ ?_
    show(if _ then _ else _)=_
    rw[if_neg hp]
   ·refine uH he hs hn ?_
    show(if _ then _ else _)=_
    rw[if_pos hp];split <;> rfl
 | 3,_,cS,Wn,hid,haq,how,hrl=>
  obtain⟨b2,b3,b5,br,bi,bw,bk,bh,lj,rfl⟩:=cS;obtain⟨a1,a2⟩:=hrl rfl;have hi:=hid (by omega)
  refine(kD.nD (R:=fun fin C' => fin=true/\C'=fe br bi bw (d.node id 0) ow.word 1)
   (L' := aP L (d.node id 0) ⟨aG ow.word,⟨#[]⟩,0⟩) (acc' := acc+1) (V:=[blk bk (.cells #[(.pointer (some ⟨b,0,none⟩))] 37),blk bh (.cells #[.int .u64 ((⟨id,ow.word,ow.pg⟩:cm)).id,.int .u64 ((⟨id,ow.word,ow.pg⟩:cm)).word,.int .i64 ((⟨id,ow.word,ow.pg⟩:cm)).pg.ak,lj,.string ((⟨id,ow.word,ow.pg⟩:cm)).pg.hi,.bool ((⟨id,ow.word,ow.pg⟩:cm)).pg.la,.int .u64 ((⟨id,ow.word,ow.pg⟩:cm)).pg.ri] 45)]) (C:=fe br bi bw (d.node id 0) ow.word 0)
   (R2:=fun o oy C2=>uG d key level b ⟨1,fd,ow.pg.ri,mL,ow,l6⟩ o oy C2)
   (fun w F hs=>?_) (fun n w=>ij n _ w) (fun _ _=>by kernel_rfl) (fun _ _=>by kernel_rfl) ?_ w F hs).mono ?_
  ·refine(ig a1 ha hs).mono ?_
   rintro e w' ⟨rfl,hs⟩;exact⟨_,_,rfl,⟨rfl,rfl⟩,hs⟩
  ·rintro C' w1 F1 ⟨_,rfl⟩ hs
   refine(Ct (h:=⟨id,ow.word,ow.pg⟩) hd a2 hs).mono ?_
   rintro e w2 ⟨x2,x3,x5,ba,bk2,bi2,eU,rfl,hs2⟩;refine⟨some (aA x2 x3 x5),_,[_,_,_,_,_],rfl,⟨_,rfl,rfl,x2,x3,x5,ba,bk2,bi2,eU,rfl⟩,?_⟩;exact((show St K w2 (_::_::_::_::_::_::_::_::_::aJ bm bc _ (acc+1)::F1)from hs2).re [6,7,8,0,1,2,3,4,5] rfl).tail.tail.tail
  ·rintro e w' ⟨o,oy,C2,he,hs,⟨rfl,rfl,C',⟨dB,_⟩,rfl⟩|hn⟩
   ·cases dB
   ·exact uH he hs hn rfl
 | n+4,pM,cS,Wn,hid,haq,how,hrl=>omega
theorem Cu (hd:d.Ok)(hL:bD L)(ha:acc<=1000000000000)(hok:s.Ok d key level L)(hh:s.h=l6)(cS:lC d key level b s C)(hs:St K w (C++aJ bm bc L acc::F)) :
  Calls Tryz.prog 18 #[(.pointer (some ⟨b,0,none⟩)),(.pointer (some ⟨bm,0,none⟩))] w fun e w' => ∃C',e=.returned (.bool (decide (4<=(aK d key level L s).1.pc)))/\lC d key level b (aK d key level L s).1 C' /\ St K w' (C' ++ aJ bm bc (aK d key level L s).2 (acc+1)::F):=by
 have Q:=aq3 (Ik hd hL ha hok hh cS hs);clear hs;go_enter Tryz.func18,Tryz.ntmps18
 go_wp2_with fail
 refine(Q.out).mono ?_
 clear Q;rintro e w1 ⟨C',rfl,hr,hs⟩;have Hr:=aq3 hr;have Hs:=aq3 hs;clear hr hs;go_wp2
 go_ret;exact⟨C',rfl,Hr.out,Hs.out⟩
theorem yR (tmps:Array Value)(w:World)(b:Nat)(v0 v1 v2 v3 v4 v5 v6:Value)(hp:tmps[2]?=some ((.pointer (some ⟨b,0,none⟩))))(hk:∀k,w.cell? ⟨b,k,none⟩=(#[v0,v1,v2,v3,v4,v5,v6]:Array Value)[k]?) :
  (results Tryz.f19 tmps).run Tryz.prog w=.ok (.agg #[v0,v1,v2,v3,v4,v5,v6]) w:=by
 simp[results,Tryz.results19,go_sem,hp,hk]
theorem Cv {h:cm}{a:Option Addr}{c:Nat}{nx:Value}(hn:h.pg.sl.length<=1000000)(hs:St K w (blk b (.cells (nx :: .bool true::ea d key h (.slice a h.pg.sl.length c)).toArray 125)::bu (.slice a h.pg.sl.length c) h.pg::F)) :
  Calls Tryz.prog 19 #[(.pointer (some ⟨b,0,none⟩))] w fun e w' => ∃va,e=.returned (.agg #[.int .u64 (h).id,.int .u64 (h).word,.int .i64 (h).pg.ak,va,.string (h).pg.hi,.bool (h).pg.la,.int .u64 (h).pg.ri])/\St K w' (bu va h.pg::blk b (.cells (nx :: .bool true::ea d key h (.slice a h.pg.sl.length c)).toArray 125)::bu (.slice a h.pg.sl.length c) h.pg::F):=by
 have hs:=hs.made (.cells #[.int .u64 0,.int .u64 0,.int .i64 0,.slice none 0 0,.string ⟨#[]⟩,.bool false,.int .u64 0] 45);have kl:=hs.k1;unfold ea at kl;have hs:=hs.made (.cells #[.int .u64 (h).id,.int .u64 (h).word,.int .i64 (h).pg.ak,(.slice a h.pg.sl.length c),.string (h).pg.hi,.bool (h).pg.la,.int .u64 (h).pg.ri] 45);rw[World.size_alloc]at hs;have Hs:=aq3 hs;clear hs;go_enter Tryz.func19,Tryz.ntmps19
 go_upto_region 2 with(fail)
 obtain⟨b0,hb0⟩:∃b0,b0=w.heap.size:=⟨_,rfl⟩;rw[←hb0]at Hs ⊢;have hs:=Hs.out;refine cP hs ?_
 clear hs Hs hb0 kl;intro W hs;have eY:=(show St K _ (az (.slice a h.pg.sl.length c) 69 2 h.pg.sl.length (aD h.pg.sl)::_)from hs.b3).cO (by omega)
 have Hl:=aq3 (show(aD h.pg.sl).length=h.pg.sl.length*2 by rw[fF])
 have H0:Hid (a=none->h.pg.sl.length=0):=aq3 (fun e=>by subst e;rw[eY.no];rfl)
 have H1:=aq3 (lh h.pg.sl);obtain⟨iv,cZ,dc,dg,dh⟩:=info_parts gU;have lI:=aq3 cZ;have lJ:=aq3 dc;have lK:=aq3 dg;have lM:=aq3 dh;clear cZ dc dg dh;have Hn:=aq3 eY.news;obtain⟨sl,uk⟩:∃sl,sl=aD h.pg.sl:=⟨_,rfl⟩;rw[←uk]at Hl H1 Hn;have Sk:=aq3 uk;have kp:=hs.k0;have fp:=hs.f0;have Hs:=aq3 (hs.cF (T:=69) (size:=2));clear hs eY uk;go_wp2_with (at_builtin;refine cG _ _ 41 69 _ 0 h.pg.sl.length c 2 24 [] sl (.agg #[.string ⟨#[]⟩,.int .u64 0]) iv a Hs.out rfl rfl Tryz.underlying41 lI.out lJ.out lK.out lM.out rfl (by decide) rfl rfl Hl.out H0.out Hn.out H1.out (by omega) (by decide) ?_)
 intro v' w' hs;obtain⟨ao,oU,hv,_,_⟩:=hs.aH;subst hv;clear Hs kp fp Hl H0 H1 Hn lI lJ lK lM;have hs:=hs.b1;have kb:=hs.k0;have fb:=hs.f0;have hs:=hs.aI 3 (.slice ao h.pg.sl.length oU);simp only[List.set_cons_zero,List.set_cons_succ]at hs;go_upto_region 3 with(fail)
 refine cP hs ?_
 clear hs kb fb;intro W3 hs;have k1:=hs.k0;have hs:=hs.b2;have k0:=hs.k0;have f0:=hs.f0;have hs:=((((((hs.aI 0 (.int .u64 h.id)).aI 1 (.int .u64 h.word)).aI 2 (.int .i64 h.pg.ak)).aI 3 (.slice ao h.pg.sl.length oU)).aI 4 (.string h.pg.hi)).aI 5 (.bool h.pg.la)).aI 6 (.int .u64 h.pg.ri);simp only[List.set_cons_zero,List.set_cons_succ]at hs;go_wp2
 rw[Sk.out]at hs;refine bodyPost_ret (yR _ _ b0 _ _ _ _ _ _ _ rfl hs.k0) rfl ⟨_,rfl,hs.tail.tail⟩
end
end
section
structure fT where
 pc:Nat
 tk:iB
 k:Nat
 ps:List Pt
 sp:Bool
 id:Int
 full:Bool
def abG:fT:=⟨0,⟨0,0,false⟩,0,[],false,0,false⟩
def fT.pg (s:fT)(fu:Pg):Pg:=if s.sp then fA fu s.id else fu
def fT.right (s:fT)(fu:Pg):cm:=if s.sp then⟨s.id,aN 0,dI fu⟩else l6
def bT (d:aR)(L:List aO)(s:fT):List aO:=match s.pc with
 | 0=>(aF 4 d.no L s.tk).2
 | 1=>match s.ps[s.k]? with
  | some pt=>aP L pt.i pt.c
  | none=>L
 | 2=>match s.ps[s.k]? with
  | some pt=>aP L pt.i pt.c
  | none=>L
 | _=>L
def iC (d:aR)(fr:cm)(fu:Pg)(L:List aO)(s s':fT):Prop:=match s.pc with
 | 0=>((aF 4 d.no L s.tk).1.pc<2/\s' = { s with tk:=(aF 4 d.no L s.tk).1 }) \/
   (2<=(aF 4 d.no L s.tk).1.pc/\(aF 4 d.no L s.tk).1.ok=false/\s' = { s with pc:=3,tk:=(aF 4 d.no L s.tk).1,full:=true }) \/
   (2<=(aF 4 d.no L s.tk).1.pc/\(aF 4 d.no L s.tk).1.ok=true/\s'=⟨1,(aF 4 d.no L s.tk).1,0,⟨d.node ((aF 4 d.no L s.tk).1.seen+1) 0,⟨aN 0,⟨#[]⟩,0⟩⟩::bP d ((aF 4 d.no L s.tk).1.seen+1) (dI fu),false,(aF 4 d.no L s.tk).1.seen+1,false⟩)
 | 1=>(s.k+1≠s.ps.length/\s' = { s with k:=s.k+1 })\/(s.k+1=s.ps.length/\∃ps',nI d fr (fA fu s.id) ps' /\ s' = { s with pc:=2,sp:=true,k:=0,ps:=ps' })
 | 2=>(s.k+1≠s.ps.length/\s' = { s with k:=s.k+1 })\/(s.k+1=s.ps.length/\s' = { s with pc:=3,k:=s.k+1 })
 | _=>s'=s
structure fT.Ok (d:aR)(fu:Pg)(s:fT):Prop where
 pc:s.pc<=2
 tk:s.pc=0->d.fa<(fu.sl.length:Int)/\s.sp=false/\s.full=false/\((s.tk.pc=0/\s.tk.ok=false)\/(s.tk.pc=1/\s.tk.ok=false/\0<=s.tk.seen/\s.tk.seen<d.no))
 nw:s.pc=1->s.k<s.ps.length/\0<=s.id/\s.id<=d.no/\s.full=false
 wr:s.pc=2->s.k<s.ps.length/\s.full=false/\(s.sp=true\/(fu.sl.length:Int)<=d.fa)
structure yS (fr:cm)(fu:Pg)(s:fT)(x:o8):Prop where
 on:x.on=true
 err:x.err=if s.full then 2 else 0
 le:x.le=if s.full then fr else⟨fr.id,dM (bE fr.word),s.pg fu⟩
 vl:∃a c,x.vl=.slice a x.le.pg.sl.length c
 ri:x.ri=s.right fu
 vr:∃a c,x.vr=.slice a x.ri.pg.sl.length c
 sep:x.sep=if s.sp then bN fu else⟨#[]⟩
def kP (d:aR)(fr:cm)(fu:Pg)(b:Nat)(s:fT)(C:List aC):Prop:=match s.pc with
 | 0=>∃(B:TkB) (af au:Option Addr) (cf cu:Nat),C=bz b (aW (some (Gx B))) d (o9 fr (.slice af fr.pg.sl.length cf) fu (.slice au fu.sl.length cu))::bu (.slice au fu.sl.length cu) fu::(Wl b B 4 d.no s.tk++[bu (.slice af fr.pg.sl.length cf) fr.pg])
 | 1=>∃(B:Wj) (af au:Option Addr) (cf cu:Nat),(∃a c,B.vq=.slice a (fA fu s.id).sl.length c)/\C=bz b (aW (some (sI B))) d (o9 fr (.slice af fr.pg.sl.length cf) fu (.slice au fu.sl.length cu))::bu (.slice af fr.pg.sl.length cf) fr.pg::Nl b B s.id (dI fu) (fA fu s.id) (bN fu) s.ps s.k
 | 2=>∃(B:Sy) (x:o8) (af au:Option Addr) (cf cu:Nat),(x=if s.sp then Xz fr (.slice af fr.pg.sl.length cf) fu (.slice au fu.sl.length cu) s.id x.vr else o9 fr (.slice af fr.pg.sl.length cf) fu (.slice au fu.sl.length cu))/\(∃a c,x.vr=.slice a x.ri.pg.sl.length c)/\C=bz b (aW (some (oz B))) d x::(Er b B fr.id (dM (bE fr.word)) (s.pg fu) s.ps s.k++[bu (.slice af fr.pg.sl.length cf) fr.pg,bu x.vr x.ri.pg])
 | _=>∃x:o8,yS fr fu s x/\C=[bz b .nilFunc d x,bu x.vl x.le.pg,bu x.vr x.ri.pg]
def pz (d:aR)(fr:cm)(fu:Pg)(s:fT):Prop:=
 ((fu.sl.length:Int)<=d.fa/\s.pc=2/\s.sp=false/\s.full=false/\s.k=0/\nI d fr fu s.ps)\/(d.fa<(fu.sl.length:Int)/\s=abG)
section
variable {K:aL}{w:World}{F:List aC}{b bm bc acc:Nat}{d:aR}{fr:cm}{fu:Pg}{L:List aO}{s:fT}{C:List aC}
theorem Cw {af:Option Addr}{cf:Nat}{key:ByteArray}{ref:Int}(hd:d.Ok)(hfr:fr.Ok d)(he:fu=aZ fr.pg key ref)(hno:decide (gD fr.pg.sl key<iE fr.pg.sl key)=false)(dJ:kV fr.pg.sl)(lA:lB d fr fu)(hs:St K w (bu (.slice af fr.pg.sl.length cf) fr.pg::F)) :
  Calls Tryz.prog 46 #[.agg #[.int .i64 (d).th,.int .i64 (d).sn,.int .i64 (d).no,.int .i64 (d).ch,.int .i64 (d).re,.int .i64 (d).fa,.int .u64 (d).cl],(.agg #[.int .u64 (fr).id,.int .u64 (fr).word,.int .i64 (fr).pg.ak,(.slice af fr.pg.sl.length cf),.string (fr).pg.hi,.bool (fr).pg.la,.int .u64 (fr).pg.ri]),.string key,.int .u64 ref] w fun e w' => ∃(b:Nat) (s:fT) (C:List aC),e=.returned (.pointer (some ⟨b,0,none⟩))/\pz d fr fu s/\kP d fr fu b s C/\St K w' (C++F):=by
 refine(yH hd hfr he hno dJ (fun h=>lA.fit h) hs).mono ?_
 rintro e w' ⟨b,a,c,rfl,⟨hle,B,ps,hw,hs⟩|⟨hle,B,hs⟩⟩
 ·have hs:=(show St K w' (_::_::_::_::_::_::_::_::_::_::F)from hs)
  refine⟨b,⟨2,⟨0,0,false⟩,0,ps,false,0,false⟩,_,rfl,.inl ⟨hle,rfl,rfl,rfl,rfl,hw⟩,⟨B,o9 fr (.slice af fr.pg.sl.length cf) fu (.slice a fu.sl.length c),af,a,cf,c,rfl,⟨none,0,rfl⟩,rfl⟩,?_⟩;exact((hs.cF (T:=69) (size:=2)).re [3,1,4,5,6,7,8,9,10,2,0] rfl).tail
 ·have hs:=(show St K w' (_::_::_::_::_::_::_::F)from hs)
  refine⟨b,abG,_,rfl,.inr ⟨hle,rfl⟩,⟨B,af,a,cf,c,rfl⟩,?_⟩;exact hs.re [0,2,3,4,5,6,1] rfl
theorem Nt (hd:d.Ok)(hL:bD L)(ha:acc<=1000000000000)(hfr:fr.Ok d)(lA:lB d fr fu)(hok:s.Ok d fu)(cS:kP d fr fu b s C)(hs:St K w (C++aJ bm bc L acc::F)) :
  Calls Tryz.prog 48 #[(.pointer (some ⟨b,0,none⟩)),(.pointer (some ⟨bm,0,none⟩))] w fun e w' => ∃s' C',e=.returned (.bool (decide (3<=s'.pc)))/\iC d fr fu L s s' /\ kP d fr fu b s' C' /\ St K w' (C' ++ aJ bm bc (bT d L s) (acc+1)::F):=by
 have iX:=hd.mJ;have aje:=hd.fo;have vT:=hd.mK;have Nu:=lA.len;have q:Calls Tryz.prog 77 #[(.pointer (some ⟨b,0,none⟩)),(.pointer (some ⟨bm,0,none⟩))] w fun e w' => ∃v,e=.returned v/\∃s' C',v=.bool (decide (3<=s'.pc))/\iC d fr fu L s s' /\ kP d fr fu b s' C' /\ St K w' (C' ++ aJ bm bc (bT d L s) (acc+1)::F):=by
  obtain⟨pc,tk,k,ps,sp,id,full⟩:=s;have h3:=hok.pc;simp only at h3;rcases(by omega:pc=0\/pc=1\/pc=2)with rfl|rfl|rfl
  ·obtain⟨hle,hsp,xx,lQ⟩:=hok.tk rfl
   simp only at hsp xx lQ;subst hsp xx;obtain⟨B,af,au,cf,cu,rfl⟩:=cS;have hs:=(show St K w (bz b (aW (some (Gx B))) d (o9 fr (.slice af fr.pg.sl.length cf) fu (.slice au fu.sl.length cu))::bu (.slice au fu.sl.length cu) fu::_::_::_::_::bu (.slice af fr.pg.sl.length cf) fr.pg::aJ bm bc L acc::F)from hs)
   have hs:St K w (bz b (aW (some (Gx B))) d (o9 fr (.slice af fr.pg.sl.length cf) fu (.slice au fu.sl.length cu))::aJ bm bc L acc::bu (.slice au fu.sl.length cu) fu::(Wl b B 4 d.no tk++(bu (.slice af fr.pg.sl.length cf) fr.pg::F))):=hs.re [0,7,1,2,3,4,5,6] rfl;have pM:tk.pc<2:=by rcases lQ with⟨h,_⟩|⟨h,_⟩ <;> omega
   have anR:tk.ok=false:=by rcases lQ with⟨_,h⟩|⟨_,h,_⟩ <;> exact h
   have hseen:(aF 4 d.no L tk).1.ok=true->0<=(aF 4 d.no L tk).1.seen/\(aF 4 d.no L tk).1.seen<18446744073709551615:=by
    intro h;rcases lQ with⟨h0,h1⟩|⟨h0,h1,h2,h4⟩
    ·obtain⟨pc,seen,ok⟩:=tk
     simp only at h0 h1;subst h0 h1;cases h
    ·obtain⟨pc,seen,ok⟩:=tk
     simp only at h0 h1 h2 h4;subst h0 h1;unfold aF at h ⊢;simp only at h ⊢;split
     ·simp only;omega
     ·rename_i hsw
      rw[if_neg hsw]at h;cases h
   refine(Xy (x:=o9 fr (.slice af fr.pg.sl.length cf) fu (.slice au fu.sl.length cu)) B hd (by show 0<=fu.ak/\fu.ak<_;rw[lA.ak];exact hfr.ak) (show 2<=fu.sl.length by omega) Nu lA.k rfl rfl (s:=tk) pM (fun e=>by
    rcases lQ with⟨h,_⟩|⟨_,_,h2,h4⟩
    ·omega
    ·omega) hseen ha hs).mono ?_
   rintro e w' (⟨h1,rfl,hs⟩|⟨h1,h2,rfl,hs⟩|⟨h1,h2,rfl,B',ps',rfl,zw,hs⟩)
   ·have hs:=(show St K w' (bz b (aW (some (Gx B))) d (o9 fr (.slice af fr.pg.sl.length cf) fu (.slice au fu.sl.length cu))::aJ bm bc (aF 4 d.no L tk).2 (acc+1)::bu (.slice au fu.sl.length cu) fu::_::_::_::_::bu (.slice af fr.pg.sl.length cf) fr.pg::F)from hs)
    exact⟨_,rfl,_,_,rfl,.inl ⟨h1,rfl⟩,⟨B,af,au,cf,cu,rfl⟩,hs.re [0,2,3,4,5,6,7,1] rfl⟩
   ·have hs:=(hs.cF (T:=69) (size:=2))
    have hs:=(show St K w' (az (.slice none 0 0) 69 2 0 []::_::_::_::bu (.slice af fr.pg.sl.length cf) fr.pg::F)from hs)
    refine⟨_,rfl,_,_,rfl,.inr (.inl ⟨h1,h2,rfl⟩),⟨{ o9 fr (.slice af fr.pg.sl.length cf) fu (.slice au fu.sl.length cu)with err:=2,le:=fr,vl:=(.slice af fr.pg.sl.length cf) },⟨rfl,rfl,rfl,⟨af,cf,rfl⟩,rfl,⟨none,0,rfl⟩,rfl⟩,rfl⟩,?_⟩;exact(hs.re [3,1,4,0,2] rfl).tail
   ·have hs:=(show St K w' (_::_::_::_::_::_::_::_::_::_::_::_::_::bu (.slice af fr.pg.sl.length cf) fr.pg::F)from hs)
    refine⟨_,rfl,_,_,rfl,.inr (.inr ⟨h1,h2,rfl⟩),⟨B',af,au,cf,cu,zw,rfl⟩,?_⟩;exact(hs.re [2,0,13,3,4,5,6,7,8,9,10,11,12,1] rfl).tail
  ·obtain⟨hk,Ya,jB,xx⟩:=hok.nw rfl
   simp only at hk Ya jB xx;subst xx;obtain⟨B,af,au,cf,cu,zw,rfl⟩:=cS;have hg:=aq8 hk;have hs:=(show St K w (bz b (aW (some (sI B))) d (o9 fr (.slice af fr.pg.sl.length cf) fu (.slice au fu.sl.length cu))::bu (.slice af fr.pg.sl.length cf) fr.pg::_::_::_::_::_::_::_::_::_::_::aJ bm bc L acc::F)from hs)
   have hs:St K w (bz b (aW (some (sI B))) d (o9 fr (.slice af fr.pg.sl.length cf) fu (.slice au fu.sl.length cu))::aJ bm bc L acc::bu (.slice af fr.pg.sl.length cf) fr.pg::(Nl b B id (dI fu) (fA fu id) (bN fu) ps k++F)):=hs.re [0,12,1,2,3,4,5,6,7,8,9,10,11] rfl;have hrl:(dI fu).sl.length<=1000000:=by
    show(fu.sl.drop _).length<=_
    rw[List.length_drop];omega
   have hmm:bT d L ⟨1,tk,k,ps,sp,id,false⟩=aP L ps[k].i ps[k].c:=by
    show(match ps[k]? with|some pt=>aP L pt.i pt.c|none=>L)=_
    rw[hg]
   rw[hmm];refine(Xx (x:=o9 fr (.slice af fr.pg.sl.length cf) fu (.slice au fu.sl.length cu)) B hd hfr (lA.left hd ⟨Ya,by omega⟩) (by show 0<=fu.ak/\fu.ak<_;rw[lA.ak];exact hfr.ak) hrl rfl zw hg ha hs).mono ?_
   rintro e w' ⟨rfl,⟨hne,hs⟩|⟨he,va,B',ps',hw,hs⟩⟩
   ·have hs:=(show St K w' (_::aJ bm bc (aP L ps[k].i ps[k].c) (acc+1)::_::_::_::_::_::_::_::_::_::_::_::F)from hs)
    exact⟨_,rfl,_,_,rfl,.inl ⟨hne,rfl⟩,⟨B,af,au,cf,cu,zw,rfl⟩,hs.re [0,2,3,4,5,6,7,8,9,10,11,12,1] rfl⟩
   ·have hs:=(show St K w' (_::_::_::bu va (dI fu)::_::_::_::_::_::_::_::_::F)from hs)
    obtain⟨a,c,Pd,_,_⟩:=(show St K w' (az va 69 2 (dI fu).sl.length (aD (dI fu).sl)::_)from hs.b3).aH
    refine⟨_,rfl,_,_,rfl,.inr ⟨he,ps',hw,rfl⟩,⟨B',Xz fr (.slice af fr.pg.sl.length cf) fu (.slice au fu.sl.length cu) id va,af,au,cf,cu,rfl,⟨a,c,Pd⟩,rfl⟩,?_⟩;exact(hs.re [4,0,5,6,7,8,9,10,11,2,3,1] rfl).tail
  ·obtain⟨hk,xx,hfit⟩:=hok.wr rfl
   simp only at hk xx hfit;subst xx;obtain⟨B,x,af,au,cf,cu,hx,hvr,rfl⟩:=cS;have hg:=aq8 hk;have hpl:((⟨2,tk,k,ps,sp,id,false⟩:fT).pg fu).sl.length<=1000000:=by
    unfold fT.pg;split
    ·show(fu.sl.take _).length<=_
     rw[List.length_take];omega
    ·omega
   have hs:=(show St K w (bz b (aW (some (oz B))) d x::_::_::_::_::_::_::_::bu (.slice af fr.pg.sl.length cf) fr.pg::bu x.vr x.ri.pg::aJ bm bc L acc::F)from hs)
   have hs:St K w (bz b (aW (some (oz B))) d x::aJ bm bc L acc::(Er b B fr.id (dM (bE fr.word)) ((⟨2,tk,k,ps,sp,id,false⟩:fT).pg fu) ps k++(bu (.slice af fr.pg.sl.length cf) fr.pg::bu x.vr x.ri.pg::F))):=hs.re [0,10,1,2,3,4,5,6,7,8,9] rfl;have hmm:bT d L ⟨2,tk,k,ps,sp,id,false⟩=aP L ps[k].i ps[k].c:=by
    show(match ps[k]? with|some pt=>aP L pt.i pt.c|none=>L)=_
    rw[hg]
   rw[hmm];refine(Xw B hpl hg ha hs).mono ?_
   rintro e w' (⟨hne,rfl,hs⟩|⟨he,rfl,va,hs⟩)
   ·have hs:=(show St K w' (_::aJ bm bc (aP L ps[k].i ps[k].c) (acc+1)::_::_::_::_::_::_::_::bu (.slice af fr.pg.sl.length cf) fr.pg::bu x.vr x.ri.pg::F)from hs)
    exact⟨_,rfl,_,_,rfl,.inl ⟨hne,rfl⟩,⟨B,x,af,au,cf,cu,hx,hvr,rfl⟩,hs.re [0,2,3,4,5,6,7,8,9,10,1] rfl⟩
   ·obtain⟨a,c,Pd,_,_⟩:=(show St K w' (az va 69 2 ((⟨2,tk,k,ps,sp,id,false⟩:fT).pg fu).sl.length (aD ((⟨2,tk,k,ps,sp,id,false⟩:fT).pg fu).sl)::_)from hs.b2).aH
    refine⟨_,rfl,_,_,rfl,.inr ⟨he,rfl⟩,⟨{ x with le:=⟨fr.id,dM (bE fr.word),(⟨2,tk,k,ps,sp,id,false⟩:fT).pg fu⟩,vl:=va },⟨?_,?_,rfl,⟨a,c,Pd⟩,?_,hvr,?_⟩,rfl⟩,(hs.re [3,0,2,4,1] rfl).tail⟩
    ·show x.on=true
     rw[hx];split <;> rfl
    ·show x.err=0
     rw[hx];split <;> rfl
    ·show x.ri=_
     rw[hx];show(if sp=true then Xz fr (.slice af fr.pg.sl.length cf) fu (.slice au fu.sl.length cu) id x.vr else o9 fr (.slice af fr.pg.sl.length cf) fu (.slice au fu.sl.length cu)).ri=(if sp then _ else _)
     split <;> rfl
    ·show x.sep=_
     rw[hx];show(if sp=true then Xz fr (.slice af fr.pg.sl.length cf) fu (.slice au fu.sl.length cu) id x.vr else o9 fr (.slice af fr.pg.sl.length cf) fu (.slice au fu.sl.length cu)).sep=(if sp then _ else _)
     split <;> rfl
 refine(Ib (P:=fun v w' => ∃s' C',v=.bool (decide (3<=s'.pc))/\iC d fr fu L s s' /\ kP d fr fu b s' C' /\ St K w' (C' ++ aJ bm bc (bT d L s) (acc+1)::F)) q ?_).mono ?_
 ·rintro v w' ⟨s',C',rfl,_⟩
  exact⟨_,rfl⟩
 ·rintro e w' ⟨v,rfl,s',C',rfl,h1,h2,h3⟩
  exact⟨s',C',rfl,h1,h2,h3⟩
end
end
end Go.Proofs.YtlpdhhhgckpcfaaGreat
