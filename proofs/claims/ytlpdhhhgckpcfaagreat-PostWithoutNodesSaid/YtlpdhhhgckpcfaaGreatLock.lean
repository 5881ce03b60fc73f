
/- The machine adW.Lock: Find, Wj, Own, Wl as its parts. -/
import Derived.Test.YtlpdhhhgckpcfaaGreatAcq
import Derived.Test.YtlpdhhhgckpcfaaGreatNodeOwn
import Derived.Test.YtlpdhhhgckpcfaaGreatMach
import Derived.Test.YtlpdhhhgckpcfaaGreatInsB
namespace Go.Proofs.YtlpdhhhgckpcfaaGreat
set_option maxHeartbeats 16000000
open Go.RowKit
set_option maxRecDepth 100000
def ea (d:aR)(key:ByteArray)(h:cB)(va:Value):List Value:=
 [.int .i64 d.th,.int .i64 d.sn,.int .i64 d.no,.int .i64 d.ch,.int .i64 d.re,.int .i64 d.fa,.int .u64 d.cl,.string key,.int .u64 h.id,.int .u64 h.word,.int .i64 h.pg.az,va,.string h.pg.hi,.bool h.pg.la,.int .u64 h.pg.ri]
structure u6 where
 pc:Nat
 fd:pZ
 id:Int
 aq:oO
 ow:mN
 h:cB
def oU:u6:=⟨0,fd0,0,mF,xU 0,mA⟩
def qT (key:ByteArray)(pg:Pg):Bool:=pg.la || cE key pg.hi
def aM (d:aR)(key:ByteArray)(level:Int)(L:List aP)(s:u6):u6 × List aP:=
 match s.pc with
 | 0=>
  let f:=bX d L key level s.fd
  if f.pc=2 then(if f.id=0 then({ s with pc:=4,fd:=f },L)else({ s with pc:=1,fd:=f,id:=f.id,aq:=mF },L))else({ s with fd:=f },L)
 | 1=>
  let a:=bL (d.node s.id 0) L s.aq
  if a.1.pc=2 then({ s with pc:=2,aq:=a.1,ow:=xU a.1.word },a.2)else({ s with aq:=a.1 },a.2)
 | 2=>
  let o:=bR d s.id L s.ow
  if o.pc=6 then(if qT key o.pg then({ s with pc:=4,ow:=o,h:=⟨s.id,o.word,o.pg⟩ },L)else({ s with pc:=3,ow:=o },L))else({ s with ow:=o },L)
 | 3=>({ s with pc:=1,id:=s.ow.pg.ri,aq:=mF },aN L (d.node s.id 0) ⟨aH s.ow.word,⟨#[]⟩,0⟩)
 | _=>(s,L)
def Js (jf iQ:Nat):Value:= .func (.func 75) #[] #[(.pointer (some ⟨jf,0,none⟩)),(.pointer (some ⟨iQ,0,none⟩))]
def sV (bk bi eT:Nat):Value:= .func (.func 117) #[] #[(.pointer (some ⟨bk,0,none⟩)),(.pointer (some ⟨bi,0,none⟩)),(.pointer (some ⟨eT,0,none⟩))]
def Jt (bk vE:Nat):Value:= .func (.func 120) #[] #[(.pointer (some ⟨bk,0,none⟩)),(.pointer (some ⟨vE,0,none⟩))]
def yu (bk bh:Nat):Value:= .func (.func 154) #[] #[(.pointer (some ⟨bk,0,none⟩)),(.pointer (some ⟨bh,0,none⟩))]
def lr (d:aR)(key:ByteArray)(level:Int)(b:Nat)(s:u6)(C:List aB):Prop:=
 match s.pc with
 | 0=>∃ b2 b3 b5 bf jf iQ B kW pz,C=blk b (.cells ((aX (some (aA b2 b3 b5))) :: .bool true::ea d key mA (.slice none 0 0)).toArray 125)::bD b2 b3 b5 (.iface 84 (.pointer (some ⟨bf,0,none⟩))) (Js jf iQ)::([blk jf (.cells #[(.pointer (some ⟨bf,0,none⟩))] 84),blk iQ (.cells #[(.pointer (some ⟨b,0,none⟩))] 37)]++sQ bf (aX (kY bf B s.fd.pc)) B kW pz d key level s.fd)
 | 1=>∃ b2 b3 b5 ba bk bi eT,C=blk b (.cells ((aX (some (aA b2 b3 b5))) :: .bool true::ea d key mA (.slice none 0 0)).toArray 125)::bD b2 b3 b5 (.iface 175 (.pointer (some ⟨ba,0,none⟩))) (sV bk bi eT)::([blk bk (.cells #[(.pointer (some ⟨b,0,none⟩))] 37),blk bi (.cells #[.int .u64 s.id] 23),blk eT (.cells #[(.pointer (some ⟨ba,0,none⟩))] 175)]++[fT ba (d.node s.id 0) s.aq])
 | 2=>∃ b2 b3 b5 bo bk vE kW,C=blk b (.cells ((aX (some (aA b2 b3 b5))) :: .bool true::ea d key mA (.slice none 0 0)).toArray 125)::bD b2 b3 b5 (.iface 177 (.pointer (some ⟨bo,0,none⟩))) (Jt bk vE)::([blk bk (.cells #[(.pointer (some ⟨b,0,none⟩))] 37),blk vE (.cells #[(.pointer (some ⟨bo,0,none⟩))] 177)]++[kZ bo d s.id kW s.ow,bq kW s.ow.pg])
 | 3=>∃ b2 b3 b5 br bi bw bk bh kW,C=blk b (.cells ((aX (some (aA b2 b3 b5))) :: .bool true::ea d key mA (.slice none 0 0)).toArray 125)::bD b2 b3 b5 (.iface 47 (.pointer (some ⟨br,0,none⟩))) (yu bk bh)::([blk bk (.cells #[(.pointer (some ⟨b,0,none⟩))] 37),blk bh (.cells #[.int .u64 ((⟨s.id,s.ow.word,s.ow.pg⟩:cB)).id,.int .u64 ((⟨s.id,s.ow.word,s.ow.pg⟩:cB)).word,.int .i64 ((⟨s.id,s.ow.word,s.ow.pg⟩:cB)).pg.az,kW,.string ((⟨s.id,s.ow.word,s.ow.pg⟩:cB)).pg.hi,.bool ((⟨s.id,s.ow.word,s.ow.pg⟩:cB)).pg.la,.int .u64 ((⟨s.id,s.ow.word,s.ow.pg⟩:cB)).pg.ri] 45)]++eZ br bi bw (d.node s.id 0) s.ow.word 0)
 | _=>∃ kW,C=[blk b (.cells (.nilFunc :: .bool true::ea d key s.h kW).toArray 125),bq kW s.h.pg]
section
variable {K:aK}{w:World}{F:List aB}{b:Nat}{d:aR}{key:ByteArray}{level:Int}
theorem Gl (hs:St K w F):Calls Tryz.prog 17 #[.agg #[.int .i64 d.th,.int .i64 d.sn,.int .i64 d.no,.int .i64 d.ch,.int .i64 d.re,.int .i64 d.fa,.int .u64 d.cl],.string key,.int .i64 level] w fun e w' => ∃ b C,e=.returned (.pointer (some ⟨b,0,none⟩))/\lr d key level b oU C/\St K w' (C++F):=by
 have hs:=hs.made (.cells #[.int .i64 (d).th,.int .i64 (d).sn,.int .i64 (d).no,.int .i64 (d).ch,.int .i64 (d).re,.int .i64 (d).fa,.int .u64 (d).cl] 29);have hs:=hs.made (.cells (.nilFunc :: .bool false::ea d key mA (.slice none 0 0)).toArray 125);have hs:=hs.made (.cells #[(.pointer (some ⟨(w.heap.size+1),0,none⟩))] 37);simp only[World.size_alloc]at hs;have Hs:=aqo hs;clear hs;go_enter Tryz.func17,Tryz.ntmps17
 go_wp2_with fail
 refine(Fo (level:=level) Hs.out).mono ?_
 clear Hs;rintro e w1 ⟨bf,rfl,hs⟩;have hs:=hs ⟨0,0,0,0,0,0⟩;have hs:=hs.made (.cells #[(.pointer (some ⟨bf,0,none⟩))] 84);obtain⟨bl,hbl⟩:∃ bl,bl=w.heap.size:=⟨_,rfl⟩;obtain⟨jf,adX⟩:∃ jf,jf=w1.heap.size:=⟨_,rfl⟩;go_upto_region 3 with(fail)
 rw[← hbl]at hs ⊢;rw[← adX]at hs ⊢;clear hbl adX;refine cR hs ?_
 clear hs;intro w2 hs;have hs:St K w2 (blk (bl+1) (.cells (.nilFunc :: .bool false::ea d key mA (.slice none 0 0)).toArray 125)::blk jf (.cells #[(.pointer (some ⟨bf,0,none⟩))] 84)::blk (bl+1+1) (.cells #[(.pointer (some ⟨(bl+1),0,none⟩))] 37)::(sQ bf (aX (some (jq bf))) ⟨0,0,0,0,0,0⟩ (.slice none 0 0) (.slice none 0 0) d key level fd0++F)):=(hs.re [5,4,0,3,1,2] rfl).tail;have Hs:=aqo hs;clear hs;refine aT [false,false,false,false,true,true,false,false,true] [4,5,8] (fun|5=>[4] | 8=>[5] | _=>[])
  (wN K (blk jf (.cells #[(.pointer (some ⟨bf,0,none⟩))] 84)::blk (bl+1+1) (.cells #[(.pointer (some ⟨(bl+1),0,none⟩))] 37)::(sQ bf (aX (some (jq bf))) ⟨0,0,0,0,0,0⟩ (.slice none 0 0) (.slice none 0 0) d key level fd0++F)) (bl+1) 125 (ea d key mA (.slice none 0 0)) 4 5 8 (aho 84 (.pointer (some ⟨bf,0,none⟩)) (Js jf (bl+1+1))))
  (fun W=>St K W (blk jf (.cells #[(.pointer (some ⟨bf,0,none⟩))] 84)::blk (bl+1+1) (.cells #[(.pointer (some ⟨(bl+1),0,none⟩))] 37)::(sQ bf (aX (some (jq bf))) ⟨0,0,0,0,0,0⟩ (.slice none 0 0) (.slice none 0 0) d key level fd0++F))) ?aSA (by kernel_rfl) ?hBA ?HA ?Gm ?h0A ?hIA ?hRA ?hEA ?hQA
 case hBA=>as_aux_lemma=>kernel_rfl
 case HA=>
  intro W2 hs;have k0:=hs.k0;have k1:=hs.k1;clear hs;simp only[bK];repeat (go_big_quiet_step (fail))
  refine wpQuiet_nil ?_
  rfl
 case Gm=>rfl
 case h0A=>exact wN.start Hs.out
 case hIA=>exact fun ρ W2 h=>h.rest
 case hRA=>exact fun ρ W2 W3 h hb=>h.same hb
 case hEA=>
  refine⟨?e1A,?e2A,?e3A,trivial⟩;case e1A=>
   intro o ho ρ W2 h hcl Vi hd2 dW aC;obtain rfl:=aqu ho;replace aC:dW=aj _ ρ [] _:=aC;have Oc:ρ 5=none:=hcl.none (by simp) (show 4∈[4]by simp) Vi
   have oV:ρ 8=none:=hcl.none (by simp) (show 5∈[5]by simp) Oc
   obtain⟨hs,hnext⟩:=h.call (by omega) (by omega) Vi Oc oV
   simp only[aj]at aC;subst aC;have Hn:=aqo hnext;clear hnext hcl hd2 Vi Oc oV h;have Q:=aqo (fF (T2:=84) (xv:=(.pointer (some ⟨bf,0,none⟩))) (f:=75) (tx:= #[]) (ty:= #[(.pointer (some ⟨jf,0,none⟩)),(.pointer (some ⟨(bl+1+1),0,none⟩))]) hs);clear hs;go_wp2_with fail
   refine(Q.out).mono ?_
   rintro e W3 ⟨b2,b3,b5,rfl,hs'⟩;have dZ:=aqo hs';clear hs' Q;simp only[aA,aX];go_wp2
   exact⟨rfl,_,rfl,Hn.out _ _ W3 ⟨b2,b3,b5,rfl,rfl⟩ dZ.out⟩
  case e2A=>
   intro o ho ρ W2 h hcl Oc hd2 dW aC;obtain rfl:=aqu ho;replace aC:dW=aj _ ρ [4] _:=aC;obtain⟨v4,Vi⟩:=aqr.1 (hd2 4 (by show _∈[4];simp))
   obtain⟨fv,rfl,hnext⟩:=h.begin (by omega) (by omega) Vi
   simp only[aj,Vi,Option.getD_some,aL,Act.put,aqv]at aC;subst aC;have Hn:=aqo hnext;clear hnext hcl hd2 Vi Oc h;simp only[aX];go_wp2_with fail
   refine(fk _ _ _ _).mono ?_
   rintro e W3 ⟨rfl,hb⟩;have Hb:=aqo hb;clear hb;go_wp2
   exact⟨rfl,_,rfl,Hn.out W3 Hb.out⟩
  case e3A=>
   intro o ho ρ W2 h hcl oV hd2 dW aC;obtain rfl:=aqu ho;replace aC:dW=aj _ ρ [5] _:=aC;obtain⟨v5,Oc⟩:=aqr.1 (hd2 5 (by show _∈[5];simp))
   obtain⟨fv,R',rfl,hs,hnext⟩:=h.store (by omega) (by omega) Oc oV
   simp only[aj,Oc,Option.getD_some,aL,Act.put,aqv]at aC;subst aC;have k:=hs.k0;have kf:=hs.f0;unfold ea at k;have gh:=aqo ((hs.aI 0 (aX (some fv))).aI 1 (.bool true));simp only[List.set_cons_zero,List.set_cons_succ]at gh;have Hn:=aqo hnext;clear hs hnext hcl hd2 h Oc oV;simp only[aX]at gh ⊢;go_wp2
   exact⟨rfl,undef,rfl,Hn.out _ gh.out⟩
 case hQA=>
 intro ρ W2 h hall;obtain⟨fv,C,Vi,Oc,⟨v8,oV⟩,hΦ,hs⟩:=h.last hall;simp only[aj,Vi,Oc,oV,Option.getD_some,aL,Act.put,aqv];clear h hall Vi Oc oV Hs;obtain⟨b2,b3,b5,rfl,rfl⟩:=hΦ;have kv:=(show St K W2 (bD _ _ _ _ _::blk _ _::blk _ _::blk _ (.cells #[(.pointer (some ⟨(bl+1),0,none⟩))] 37)::_)from hs).b3.k0
 have Hs:=aqo hs;clear hs;go_wp2
 go_ret;exact⟨_,_,rfl,⟨b2,b3,b5,bf,jf,_,⟨0,0,0,0,0,0⟩,.slice none 0 0,.slice none 0 0,rfl⟩,(show St K W2 (bD _ _ _ _ _::blk _ _::_)from Hs.out).b1⟩
end
section
variable {K:aK}{w:World}{F:List aB}{b:Nat}{d:aR}{key:ByteArray}{h:cB}{va nx:Value}{id:Int}
theorem nH (hd:d.Ok)(hid:0<=id/\id<18446744073709551616)(hs:St K w (blk b (.cells (nx :: .bool true::ea d key h va).toArray 125)::F)):Calls Tryz.prog 76 #[(.pointer (some ⟨b,0,none⟩)),.int .u64 id] w fun e w' => ∃ b2 b3 b5 ba bk bi eT,e=.returned (aX (some (aA b2 b3 b5))) /\
  St K w' (blk b (.cells (nx :: .bool true::ea d key h va).toArray 125)::bD b2 b3 b5 (.iface 175 (.pointer (some ⟨ba,0,none⟩))) (sV bk bi eT)::blk bk (.cells #[(.pointer (some ⟨b,0,none⟩))] 37)::blk bi (.cells #[.int .u64 id] 23)::blk eT (.cells #[(.pointer (some ⟨ba,0,none⟩))] 175)::fT ba (d.node id 0) mF::F):=by
 have hs:=(hs.made (.cells #[(.pointer (some ⟨b,0,none⟩))] 37)).made (.cells #[.int .u64 id] 23);simp only[World.size_alloc]at hs;go_enter Tryz.func76,Tryz.ntmps76
 go_upto_region 1 with(fail)
 obtain⟨bk,hbk⟩:∃ bk,bk=w.heap.size:=⟨_,rfl⟩;rw[← hbk]at hs ⊢;clear hbk;refine cR hs ?_
 clear hs;intro w1 hs;have Hs:=aqo hs;clear hs;refine aT [false,false,false,false,false,false,true,true,true] [6,7,8] (fun|8=>[6,7] | _=>[])
  (oA K (blk (bk+1) (.cells #[.int .u64 id] 23)::blk bk (.cells #[(.pointer (some ⟨b,0,none⟩))] 37)::blk b (.cells (nx :: .bool true::ea d key h va).toArray 125)::F) 175 (.pointer none) 6 7 8 (fun v C=>∃ ba,v=(.pointer (some ⟨ba,0,none⟩))/\C=[fT ba (d.node id 0) mF]))
  (fun W=>St K W (blk (bk+1) (.cells #[.int .u64 id] 23)::blk bk (.cells #[(.pointer (some ⟨b,0,none⟩))] 37)::blk b (.cells (nx :: .bool true::ea d key h va).toArray 125)::F)) ?aSB (by kernel_rfl) ?hBB ?HB ?Rv ?h0B ?hIB ?hRB ?hEB ?hQB
 case hBB=>as_aux_lemma=>kernel_rfl
 case HB=>
  intro W2 hs;have k0:=hs.k0;have k1:=hs.k1;have k2:=hs.k2;unfold ea at k2;have Ql:=aqo (fun w=>iq d hd id hid.1 hid.2 w)
  clear hs;simp only[bK];repeat (go_big_quiet_step ((go_at_call 69;exact aW (Ql.out _))))
  refine wpQuiet_nil ?_
  rfl
 case Rv=>rfl
 case h0B=>exact oA.start Hs.out
 case hIB=>exact fun ρ W2 h=>h.rest
 case hRB=>exact fun ρ W2 W3 h hb=>h.same hb
 case hEB=>
  refine⟨?e1B,?e2B,?e3B,trivial⟩;case e1B=>
   intro o ho ρ W2 h hcl Vj hd2 dW aC;obtain rfl:=aqu ho;replace aC:dW=aj _ ρ [] _:=aC;have oV:ρ 8=none:=hcl.none (by simp) (show 6∈[6,7]by simp) Vj
   obtain⟨X,hs,hnext⟩:=h.call (by omega) (by omega) Vj oV
   simp only[aj]at aC;subst aC;have Hn:=aqo hnext;clear hnext hcl hd2 Vj oV h;go_wp2_with fail
   refine(oz (i:=d.node id 0) hs).mono ?_
   rintro e W3 ⟨ba,rfl,hs'⟩;have dZ:=aqo hs';clear hs hs';go_wp2
   exact⟨rfl,_,rfl,Hn.out _ _ W3 ⟨ba,rfl,rfl⟩ dZ.out⟩
  case e2B=>
   intro o ho ρ W2 h hcl vF hd2 dW aC;obtain rfl:=aqu ho;replace aC:dW=aj _ ρ [] _:=aC;have oV:ρ 8=none:=hcl.none (by simp) (show 7∈[6,7]by simp) vF
   have Hn:=aqo (h.var (by omega) (by omega) vF oV)
   simp only[aj]at aC;subst aC;clear hcl hd2 vF oV h;go_wp2
   exact⟨rfl,_,rfl,Hn.out⟩
  case e3B=>
   intro o ho ρ W2 h hcl oV hd2 dW aC;obtain rfl:=aqu ho;replace aC:dW=aj _ ρ [6,7] _:=aC;obtain⟨v6,Vj⟩:=aqr.1 (hd2 6 (by show _∈[6,7];simp))
   obtain⟨v7,vF⟩:=aqr.1 (hd2 7 (by show _∈[6,7];simp))
   obtain⟨bv,R',rfl,⟨C,ba,rfl,_⟩,hs,hnext⟩:=h.store (by omega) (by omega) Vj vF oV
   simp only[aj,Vj,vF,Option.getD_some,aL,Act.put,aqv]at aC;subst aC;have k0:=hs.k0;have f0:=hs.f0;have gh:Hid (St K _ (blk bv (.cells #[(.pointer (some ⟨ba,0,none⟩))] 175)::R')):=aqo (hs.aI 0 (.pointer (some ⟨ba,0,none⟩)));have Hn:=aqo hnext;clear hs hnext hcl hd2 h Vj vF oV;go_wp2
   exact⟨rfl,undef,rfl,Hn.out _ gh.out⟩
 case hQB=>
 intro ρ W2 h hall;obtain⟨bv,v,C,Vj,vF,⟨v8,oV⟩,hΦ,hs⟩:=h.last hall;simp only[aj,Vj,vF,oV,Option.getD_some,aL,Act.put,aqv];clear h hall Vj vF oV Hs;obtain⟨ba,rfl,rfl⟩:=hΦ;have hs:St K W2 (blk bv (.cells #[(.pointer (some ⟨ba,0,none⟩))] 175)::fT ba (d.node id 0) mF::blk (bk+1) (.cells #[.int .u64 id] 23)::blk bk (.cells #[(.pointer (some ⟨b,0,none⟩))] 37)::blk b (.cells (nx :: .bool true::ea d key h va).toArray 125)::F):=hs;have kv:=hs.k0;have Q:=aqo (fF (T2:=175) (xv:=(.pointer (some ⟨ba,0,none⟩))) (f:=117) (tx:= #[]) (ty:= #[(.pointer (some ⟨bk,0,none⟩)),(.pointer (some ⟨(bk+1),0,none⟩)),(.pointer (some ⟨bv,0,none⟩))]) hs);clear hs;go_wp2_with fail
 refine(Q.out).mono ?_
 clear Q kv;rintro e w3 ⟨b2,b3,b5,rfl,hs⟩;have Hs:=aqo (hs.re [5,0,4,3,1,2] rfl);clear hs;simp only[aA,aX];go_wp2
 go_ret;exact⟨b2,b3,b5,ba,bk,bk+1,bv,rfl,Hs.out⟩
theorem Gn {s:oO}{bk bi eT ba:Nat}{ii:Int}(h2:s.pc=2)(hs:St K w (blk b (.cells (nx :: .bool true::ea d key h va).toArray 125)::blk bk (.cells #[(.pointer (some ⟨b,0,none⟩))] 37)::blk bi (.cells #[.int .u64 id] 23)::blk eT (.cells #[(.pointer (some ⟨ba,0,none⟩))] 175)::fT ba ii s::F)) :
  Calls Tryz.prog 117 #[(.pointer (some ⟨bk,0,none⟩)),(.pointer (some ⟨bi,0,none⟩)),(.pointer (some ⟨eT,0,none⟩))] w fun e w' => ∃ b2 b3 b5 bo vE,e=.returned (aX (some (aA b2 b3 b5))) /\
  St K w' (blk b (.cells (nx :: .bool true::ea d key h va).toArray 125)::bD b2 b3 b5 (.iface 177 (.pointer (some ⟨bo,0,none⟩))) (Jt bk vE)::blk bk (.cells #[(.pointer (some ⟨b,0,none⟩))] 37)::blk vE (.cells #[(.pointer (some ⟨bo,0,none⟩))] 177)::kZ bo d id (.slice none 0 0) (xU s.word)::bq (.slice none 0 0) Fb::F):=by
 go_enter Tryz.func117,Tryz.ntmps117
 go_upto_region 1 with(fail)
 have Hs:=aqo hs;clear hs;refine aT [false,false,false,false,false,false,false,true,true,true] [7,8,9] (fun|9=>[7,8] | _=>[])
  (oA K (blk b (.cells (nx :: .bool true::ea d key h va).toArray 125)::blk bk (.cells #[(.pointer (some ⟨b,0,none⟩))] 37)::blk bi (.cells #[.int .u64 id] 23)::blk eT (.cells #[(.pointer (some ⟨ba,0,none⟩))] 175)::fT ba ii s::F) 177 (.pointer none) 7 8 9 (fun v C=>∃ bo,v=(.pointer (some ⟨bo,0,none⟩))/\C=[kZ bo d id (.slice none 0 0) (xU s.word),bq (.slice none 0 0) Fb]))
  (fun W=>St K W (blk b (.cells (nx :: .bool true::ea d key h va).toArray 125)::blk bk (.cells #[(.pointer (some ⟨b,0,none⟩))] 37)::blk bi (.cells #[.int .u64 id] 23)::blk eT (.cells #[(.pointer (some ⟨ba,0,none⟩))] 175)::fT ba ii s::F)) ?aSC (by kernel_rfl) ?hBC ?HC ?aa9 ?h0C ?hIC ?hRC ?hEC ?hQC
 case hBC=>as_aux_lemma=>kernel_rfl
 case HC=>
  intro W2 hs;have k0:=hs.k0;unfold ea at k0;have k1:=hs.k1;have k2:=hs.k2;have k3:=hs.b3.k0;have Qw:=aqo (fun wz (hy:∃ x:Ext,wz=over W2 x)=>oP h2 (hs.same (Pure.below hy)).b4)
  clear hs;simp only[bK];repeat (go_big_quiet_step ((go_at_call 119;exact dJ (Qw.out _ ⟨_,rfl⟩))))
  refine wpQuiet_nil ?_
  rfl
 case aa9=>rfl
 case h0C=>exact oA.start Hs.out
 case hIC=>exact fun ρ W2 h=>h.rest
 case hRC=>exact fun ρ W2 W3 h hb=>h.same hb
 case hEC=>
  refine⟨?e1C,?e2C,?e3C,trivial⟩;case e1C=>
   intro o ho ρ W2 h hcl vF hd2 dW aC;obtain rfl:=aqu ho;replace aC:dW=aj _ ρ [] _:=aC;have oW:ρ 9=none:=hcl.none (by simp) (show 7∈[7,8]by simp) vF
   obtain⟨X,hs,hnext⟩:=h.call (by omega) (by omega) vF oW
   simp only[aj]at aC;subst aC;have Hn:=aqo hnext;clear hnext hcl hd2 vF oW h;go_wp2_with fail
   refine(Ma (d:=d) (id:=id) (word:=s.word) hs).mono ?_
   rintro e W3 ⟨bo,rfl,hs'⟩;have dZ:=aqo hs';clear hs hs';go_wp2
   exact⟨rfl,_,rfl,Hn.out _ _ W3 ⟨bo,rfl,rfl⟩ dZ.out⟩
  case e2C=>
   intro o ho ρ W2 h hcl oV hd2 dW aC;obtain rfl:=aqu ho;replace aC:dW=aj _ ρ [] _:=aC;have oW:ρ 9=none:=hcl.none (by simp) (show 8∈[7,8]by simp) oV
   have Hn:=aqo (h.var (by omega) (by omega) oV oW)
   simp only[aj]at aC;subst aC;clear hcl hd2 oV oW h;go_wp2
   exact⟨rfl,_,rfl,Hn.out⟩
  case e3C=>
   intro o ho ρ W2 h hcl oW hd2 dW aC;obtain rfl:=aqu ho;replace aC:dW=aj _ ρ [7,8] _:=aC;obtain⟨v7,vF⟩:=aqr.1 (hd2 7 (by show _∈[7,8];simp))
   obtain⟨v8,oV⟩:=aqr.1 (hd2 8 (by show _∈[7,8];simp))
   obtain⟨bv,R',rfl,⟨C,bo,rfl,_⟩,hs,hnext⟩:=h.store (by omega) (by omega) vF oV oW
   simp only[aj,vF,oV,Option.getD_some,aL,Act.put,aqv]at aC;subst aC;have k0:=hs.k0;have f0:=hs.f0;have gh:Hid (St K _ (blk bv (.cells #[(.pointer (some ⟨bo,0,none⟩))] 177)::R')):=aqo (hs.aI 0 (.pointer (some ⟨bo,0,none⟩)));have Hn:=aqo hnext;clear hs hnext hcl hd2 h vF oV oW;go_wp2
   exact⟨rfl,undef,rfl,Hn.out _ gh.out⟩
 case hQC=>
 intro ρ W2 h hall;obtain⟨bv,v,C,vF,oV,⟨v9,oW⟩,hΦ,hs⟩:=h.last hall;simp only[aj,vF,oV,oW,Option.getD_some,aL,Act.put,aqv];clear h hall vF oV oW Hs;obtain⟨bo,rfl,rfl⟩:=hΦ;have hs:St K W2 (blk bv (.cells #[(.pointer (some ⟨bo,0,none⟩))] 177)::kZ bo d id (.slice none 0 0) (xU s.word)::bq (.slice none 0 0) Fb::blk b (.cells (nx :: .bool true::ea d key h va).toArray 125)::blk bk (.cells #[(.pointer (some ⟨b,0,none⟩))] 37)::blk bi (.cells #[.int .u64 id] 23)::blk eT (.cells #[(.pointer (some ⟨ba,0,none⟩))] 175)::fT ba ii s::F):=hs;have kv:=hs.k0;have Q:=aqo (fF (T2:=177) (xv:=(.pointer (some ⟨bo,0,none⟩))) (f:=120) (tx:= #[]) (ty:= #[(.pointer (some ⟨bk,0,none⟩)),(.pointer (some ⟨bv,0,none⟩))]) hs);clear hs;go_wp2_with fail
 refine(Q.out).mono ?_
 clear Q kv;rintro e w3 ⟨b2,b3,b5,rfl,hs⟩;have Hs:=aqo ((hs.re [6,7,8,4,0,5,1,2,3] rfl).tail.tail.tail);clear hs;simp only[aA,aX];go_wp2
 go_ret;exact⟨b2,b3,b5,bo,bv,rfl,Hs.out⟩
def Yw (i word:Int)(v:Value)(C:List aB):Prop:=∃ br bi bw,v=(.pointer (some ⟨br,0,none⟩))/\C=eZ br bi bw i word 0
def Yx (K:aK)(b:Nat)(d:aR)(key:ByteArray)(nx:Value)(h0:cB)(mI:Value)(h:cB)(a:Option Addr)(c:Nat)(F:List aB)(e:Ending)(w':World):Prop:=
 (qT key h.pg=true/\e=.returned .nilFunc/\St K w' (blk b (.cells (nx :: .bool true::ea d key h (.slice a h.pg.sl.length c)).toArray 125)::bq (.slice a h.pg.sl.length c) h.pg::F)) \/
 (qT key h.pg=false/\∃ b2 b3 b5 br bi bw bk bh,e=.returned (aX (some (aA b2 b3 b5)))/\St K w' (blk b (.cells (nx :: .bool true::ea d key h0 mI).toArray 125)::bD b2 b3 b5 (.iface 47 (.pointer (some ⟨br,0,none⟩))) (yu bk bh)::([blk bk (.cells #[(.pointer (some ⟨b,0,none⟩))] 37),blk bh (.cells #[.int .u64 (h).id,.int .u64 (h).word,.int .i64 (h).pg.az,(.slice a h.pg.sl.length c),.string (h).pg.hi,.bool (h).pg.la,.int .u64 (h).pg.ri] 45)]++(eZ br bi bw (d.node h.id 0) h.word 0++F))))
theorem yw {h0:cB}{mI:Value}{a:Option Addr}{c:Nat}(hd:d.Ok)(hid:0<=h.id/\h.id<18446744073709551616)(hs:St K w (blk b (.cells (nx :: .bool true::ea d key h0 mI).toArray 125)::bq (.slice a h.pg.sl.length c) h.pg::F)) :
  Calls Tryz.prog 121 #[(.pointer (some ⟨b,0,none⟩)),(.agg #[.int .u64 (h).id,.int .u64 (h).word,.int .i64 (h).pg.az,(.slice a h.pg.sl.length c),.string (h).pg.hi,.bool (h).pg.la,.int .u64 (h).pg.ri])] w (Yx K b d key nx h0 mI h a c F):=by
 have hs:=(hs.made (.cells #[(.pointer (some ⟨b,0,none⟩))] 37)).made (.cells #[.int .u64 (h).id,.int .u64 (h).word,.int .i64 (h).pg.az,(.slice a h.pg.sl.length c),.string (h).pg.hi,.bool (h).pg.la,.int .u64 (h).pg.ri] 45);simp only[World.size_alloc]at hs;obtain⟨id,word,pg⟩:=h;simp only at hid hs;have q:=fun w=>tQ key ⟨#[]⟩ pg.hi pg.la w
 rw[jK,Bool.not_false,Bool.true_and]at q;obtain⟨inb,aba⟩:∃ inb,inb=(pg.la || cE key pg.hi):=⟨_,rfl⟩;rw[← aba]at q;have ad2:=aqo aba;have Qw:=aqo q;clear q aba;go_enter Tryz.func121,Tryz.ntmps121
 go_upto_region 1 with(fail)
 obtain⟨bk,hbk⟩:∃ bk,bk=w.heap.size:=⟨_,rfl⟩;rw[← hbk]at hs ⊢;clear hbk;refine cR hs ?_
 clear hs;intro w1 hs;go_cut [15]from 999 to 0 (fun v15 wx=>v15=.bool inb/\St K wx (blk (bk+1) (.cells #[.int .u64 ((⟨id,word,pg⟩:cB)).id,.int .u64 ((⟨id,word,pg⟩:cB)).word,.int .i64 ((⟨id,word,pg⟩:cB)).pg.az,(.slice a pg.sl.length c),.string ((⟨id,word,pg⟩:cB)).pg.hi,.bool ((⟨id,word,pg⟩:cB)).pg.la,.int .u64 ((⟨id,word,pg⟩:cB)).pg.ri] 45)::blk bk (.cells #[(.pointer (some ⟨b,0,none⟩))] 37)::blk b (.cells (nx :: .bool true::ea d key h0 mI).toArray 125)::bq (.slice a pg.sl.length c) pg::F))
 case first=>
  have k0:=hs.k0;have k1:=hs.k1;have k2:=hs.k2;unfold ea at k2;refine bH (by kernel_rfl) (by as_aux_lemma=>kernel_rfl) ?_
  repeat (go_big_quiet_step ((go_at_call 138;exact dJ (Qw.out _))))
  refine wpQuiet_nil ?_
  intro w5 hb5;have Hs:=aqo (hs.same hb5);clear hb5 hs k0 k1 k2;go_wp2
  go_meet;exact⟨rfl,Hs.out⟩
 case rest=>
 clear hs;obtain⟨rfl,hs⟩:=hcut;apply_assumption
 rcases Bool.eq_false_or_eq_true inb with h|h
 ·rw[h]
  have Hin:Hid (qT key pg=true):=aqo (by rw[← h,ad2.out];rfl)
  clear h;have k0:=hs.k0;have k1:=hs.k1;have hs:=hs.b2;have kl:=hs.k0;have fl:=hs.f0;unfold ea at kl;have Hs:=aqo (((((((hs.aI 10 (.int .u64 id)).aI 11 (.int .u64 word)).aI 12 (.int .i64 pg.az)).aI 13 (.slice a pg.sl.length c)).aI 14 (.string pg.hi)).aI 15 (.bool pg.la)).aI 16 (.int .u64 pg.ri));clear hs;go_wp2
  go_ret;exact .inl ⟨Hin.out,rfl,((show St K _ (blk b (.cells (nx :: .bool true::ea d key (⟨id,word,pg⟩:cB) (.slice a pg.sl.length c)).toArray 125)::_::_::_::F)from Hs.out).re [1,2,0,3] rfl).tail.tail⟩
 ·rw[h]
  have Hin:Hid (qT key pg=false):=aqo (by rw[← h,ad2.out];rfl)
  clear h;go_upto_region 4 with(fail)
  have Hs:=aqo hs;clear hs;refine aT [false,false,false,false,false,false,false,false,false,true,true,false,true,true] [9,10,12,13] (fun|10=>[9] | 12=>[10] | 13=>[12] | _=>[])
   (GR K (blk (bk+1) (.cells #[.int .u64 ((⟨id,word,pg⟩:cB)).id,.int .u64 ((⟨id,word,pg⟩:cB)).word,.int .i64 ((⟨id,word,pg⟩:cB)).pg.az,(.slice a pg.sl.length c),.string ((⟨id,word,pg⟩:cB)).pg.hi,.bool ((⟨id,word,pg⟩:cB)).pg.la,.int .u64 ((⟨id,word,pg⟩:cB)).pg.ri] 45)::blk bk (.cells #[(.pointer (some ⟨b,0,none⟩))] 37)::blk b (.cells (nx :: .bool true::ea d key h0 mI).toArray 125)::bq (.slice a pg.sl.length c) pg::F) [9,10,12,13] (mG 47 (yu bk (bk+1)) (Yw (d.node id 0) word) 9 10 12 13))
   (fun W=>St K W (blk (bk+1) (.cells #[.int .u64 ((⟨id,word,pg⟩:cB)).id,.int .u64 ((⟨id,word,pg⟩:cB)).word,.int .i64 ((⟨id,word,pg⟩:cB)).pg.az,(.slice a pg.sl.length c),.string ((⟨id,word,pg⟩:cB)).pg.hi,.bool ((⟨id,word,pg⟩:cB)).pg.la,.int .u64 ((⟨id,word,pg⟩:cB)).pg.ri] 45)::blk bk (.cells #[(.pointer (some ⟨b,0,none⟩))] 37)::blk b (.cells (nx :: .bool true::ea d key h0 mI).toArray 125)::bq (.slice a pg.sl.length c) pg::F)) ?aSD (by kernel_rfl) ?hBD ?HD ?abb ?h0D ?hID ?hRD ?hED ?hQD
  case hBD=>as_aux_lemma=>kernel_rfl
  case HD=>
   intro W2 hs;have k0:=hs.k0;have k1:=hs.k1;have k2:=hs.k2;unfold ea at k2;have Ql:=aqo (fun w=>iq d hd id hid.1 hid.2 w)
   clear hs;simp only[bK];repeat (go_big_quiet_step ((go_at_call 69;exact aW (Ql.out _))))
   refine wpQuiet_nil ?_
   rfl
  case abb=>rfl
  case h0D=>exact GR.start Hs.out
  case hID=>exact fun ρ W2 h=>h.rest
  case hRD=>exact fun ρ W2 W3 h hb=>h.same hb
  case hED=>
   refine⟨?e1D,?e2D,?e3D,?e4D,trivial⟩;case e1D=>
    intro o ho ρ W2 h hcl oW hd2 dW aC;obtain rfl:=aqu ho;replace aC:dW=aj _ ρ [] _:=aC;obtain⟨C,R',hx1,hs,hnext⟩:=h.step mG.mono 9 [] (by decide) (by decide) (by decide) oW (by simp)
    simp only[aj]at aC;subst aC;have Hn:=aqo hnext;clear hnext hx1 h hcl hd2 oW;have Q:=aqo (kD (i:=d.node id 0) (word:=word) hs);clear hs;go_wp2_with fail
    refine(Q.out).mono ?_
    rintro e W3 ⟨br,bi,bw,rfl,hs'⟩;have dZ:=aqo hs';clear hs' Q;go_wp2
    exact⟨rfl,_,rfl,Hn.out _ _ W3 ⟨br,bi,bw,rfl,rfl⟩ dZ.out⟩
   case e2D=>
    intro o ho ρ W2 h hcl kH hd2 dW aC;obtain rfl:=aqu ho;replace aC:dW=aj _ ρ [9] _:=aC;obtain⟨v9,oW⟩:=aqr.1 (hd2 9 (by show _∈[9];simp))
    simp only[aj,oW,Option.getD_some,aL,Act.put,aqv]at aC;subst aC;have H:=aqo (h.jM mG.mono 10 (by decide) (by simp) kH (.iface 47 v9) ⟨⟨v9,iG kH oW,rfl⟩,rfl⟩)
    clear h hcl hd2 kH oW;go_wp2
    exact⟨rfl,_,rfl,H.out⟩
   case e3D=>
    intro o ho ρ W2 h hcl eC hd2 dW aC;obtain rfl:=aqu ho;replace aC:dW=aj _ ρ [10] _:=aC;obtain⟨v10,kH⟩:=aqr.1 (hd2 10 (by show _∈[10];simp))
    obtain⟨Vk,R8,⟨⟨u1,hu1,rfl⟩,_⟩,_⟩:=h.at 10 (by simp) kH
    obtain⟨C,R',hx1,hs,hnext⟩:=h.step mG.mono 12 [] (by decide) (by decide) (by decide) eC (by simp)
    simp only[aj,kH,Option.getD_some,aL,Act.put,aqv]at aC;subst aC;have hu2:∀ v,upd ρ 12 v 9=some u1:=fun v=>iG eC hu1
    have Hn:=aqo hnext;have Hu:=aqo hu2;clear hnext hx1 h hcl hd2 kH eC hu1 hu2;have Q:=aqo (fF (T2:=47) (xv:=u1) (f:=154) (tx:= #[]) (ty:= #[(.pointer (some ⟨bk,0,none⟩)),(.pointer (some ⟨(bk+1),0,none⟩))]) hs);clear hs;go_wp2_with fail
    refine(Q.out).mono ?_
    rintro e W3 ⟨b2,b3,b5,rfl,hs'⟩;have dZ:=aqo hs';clear hs' Q;simp only[aA,aX];go_wp2
    exact⟨rfl,_,rfl,Hn.out _ [_] W3 ⟨u1,b2,b3,b5,Hu.out _,rfl,rfl⟩ dZ.out⟩
   case e4D=>
    intro o ho ρ W2 h hcl eu hd2 dW aC;obtain rfl:=aqu ho;replace aC:dW=aj _ ρ [12] _:=aC;obtain⟨v12,eC⟩:=aqr.1 (hd2 12 (by show _∈[12];simp))
    obtain⟨Vk,R8,⟨u1,b2,b3,b5,hu1,rfl,_⟩,_⟩:=h.at 12 (by simp) eC
    simp only[aj,eC,Option.getD_some,aL,Act.put,aqv]at aC;subst aC;have H:=aqo (h.jM mG.mono 13 (by decide) (by simp) eu (aX (some (aA b2 b3 b5))) ⟨⟨b2,b3,b5,rfl,iG eu eC⟩,rfl⟩)
    clear h hcl hd2 eC eu hu1;simp only[aA,aX]at H ⊢;go_wp2
    exact⟨rfl,_,rfl,H.out⟩
  case hQD=>
  intro ρ W2 h hall;obtain⟨u1,b2,b3,b5,C,hΦ,oW,kH,eC,eu,hs⟩:=mG.last (by decide) h hall
  simp only[aj,oW,kH,eC,eu,Option.getD_some,aL,Act.put,aqv];clear h hall oW kH eC eu Hs;obtain⟨br,bi,bw,rfl,rfl⟩:=hΦ;have Hs:=aqo hs;clear hs;simp only[aA,aX];go_wp2
  go_ret;refine .inr ⟨Hin.out,b2,b3,b5,br,bi,bw,bk,bk+1,rfl,?_⟩;have hs:St K W2 (bD b2 b3 b5 _ _::blk br _::blk bi _::blk bw _::blk (bk+1) _::blk bk _::blk b (.cells (nx :: .bool true::ea d key h0 mI).toArray 125)::bq (.slice a pg.sl.length c) pg::F):=Hs.out;exact(hs.re [7,6,0,5,4,1,2,3] rfl).tail
theorem Yx.same {K:aK}{b:Nat}{d:aR}{key:ByteArray}{nx:Value}{h0:cB}{mI:Value}{h:cB}{a:Option Addr}{c:Nat}{F:List aB}{e:Ending}{W W':World}(hj:Yx K b d key nx h0 mI h a c F e W)(hb:Below W.heap.size W W'):Yx K b d key nx h0 mI h a c F e W' := by
 rcases hj with⟨h1,h2,hs⟩|⟨h1,b2,b3,b5,br,bi,bw,bk,bh,h2,hs⟩
 ·exact .inl ⟨h1,h2,hs.same hb⟩
 ·exact .inr ⟨h1,b2,b3,b5,br,bi,bw,bk,bh,h2,hs.same hb⟩
theorem Yx.rest {K:aK}{b:Nat}{d:aR}{key:ByteArray}{nx:Value}{h0:cB}{mI:Value}{h:cB}{a:Option Addr}{c:Nat}{F:List aB}{e:Ending}{W:World}(hj:Yx K b d key nx h0 mI h a c F e W):St K W F:=by
 rcases hj with⟨h1,h2,hs⟩|⟨h1,b2,b3,b5,br,bi,bw,bk,bh,h2,hs⟩
 ·exact hs.tail.tail
 ·exact(show St K W (_::_::_::_::_::_::_::F)from hs).tail.tail.tail.tail.tail.tail.tail
def HlM (K:aK)(b:Nat)(d:aR)(key:ByteArray)(nx:Value)(h0:cB)(mI:Value)(h:cB)(F:List aB)(v:Value)(W:World):Prop:=
 ∃ (a:Option Addr) (c:Nat),v=(.agg #[.int .u64 (h).id,.int .u64 (h).word,.int .i64 (h).pg.az,(.slice a h.pg.sl.length c),.string (h).pg.hi,.bool (h).pg.la,.int .u64 (h).pg.ri])/\St K W (blk b (.cells (nx :: .bool true::ea d key h0 mI).toArray 125)::bq (.slice a h.pg.sl.length c) h.pg::F)
def JdM (K:aK)(b:Nat)(d:aR)(key:ByteArray)(nx:Value)(h0:cB)(mI:Value)(h:cB)(F:List aB)(u:Value)(W:World):Prop:=
 ∃ (a:Option Addr) (c:Nat),Yx K b d key nx h0 mI h a c F (.returned u) W
theorem Bv {h0:cB}{mI:Value}{bk vE bo left:Nat}{word:Int}{pg:Pg}{av:Option Addr}{cv:Nat}(hd:d.Ok)(hid:0<=id/\id<18446744073709551616)(hn:pg.sl.length<=1000000)
  (hs:St K w (blk b (.cells (nx :: .bool true::ea d key h0 mI).toArray 125)::blk bk (.cells #[(.pointer (some ⟨b,0,none⟩))] 37)::blk vE (.cells #[(.pointer (some ⟨bo,0,none⟩))] 177)::kZ bo d id (.slice av pg.sl.length cv) ⟨6,pg,left,word,false⟩::bq (.slice av pg.sl.length cv) pg::F)) :
  Calls Tryz.prog 120 #[(.pointer (some ⟨bk,0,none⟩)),(.pointer (some ⟨vE,0,none⟩))] w fun e w' => ∃ (a:Option Addr) (c:Nat),Yx K b d key nx h0 mI ⟨id,word,pg⟩ a c (blk bk (.cells #[(.pointer (some ⟨b,0,none⟩))] 37)::blk vE (.cells #[(.pointer (some ⟨bo,0,none⟩))] 177)::kZ bo d id (.slice av pg.sl.length cv) ⟨6,pg,left,word,false⟩::bq (.slice av pg.sl.length cv) pg::F) e w' := by
 have Hs:=aqo hs;clear hs;go_enter Tryz.func120,Tryz.ntmps120
 go_upto_region 1 with(fail)
 refine jB [false,false,true,true,true] 2 3 4
  (fun W=>St K W (blk b (.cells (nx :: .bool true::ea d key h0 mI).toArray 125)::blk bk (.cells #[(.pointer (some ⟨b,0,none⟩))] 37)::blk vE (.cells #[(.pointer (some ⟨bo,0,none⟩))] 177)::kZ bo d id (.slice av pg.sl.length cv) ⟨6,pg,left,word,false⟩::bq (.slice av pg.sl.length cv) pg::F))
  (HlM K b d key nx h0 mI ⟨id,word,pg⟩ (blk bk (.cells #[(.pointer (some ⟨b,0,none⟩))] 37)::blk vE (.cells #[(.pointer (some ⟨bo,0,none⟩))] 177)::kZ bo d id (.slice av pg.sl.length cv) ⟨6,pg,left,word,false⟩::bq (.slice av pg.sl.length cv) pg::F))
  (fun _ u W=>JdM K b d key nx h0 mI ⟨id,word,pg⟩ (blk bk (.cells #[(.pointer (some ⟨b,0,none⟩))] 37)::blk vE (.cells #[(.pointer (some ⟨bo,0,none⟩))] 177)::kZ bo d id (.slice av pg.sl.length cv) ⟨6,pg,left,word,false⟩::bq (.slice av pg.sl.length cv) pg::F) u W)
  (fun _ u x W=>x=u/\JdM K b d key nx h0 mI ⟨id,word,pg⟩ (blk bk (.cells #[(.pointer (some ⟨b,0,none⟩))] 37)::blk vE (.cells #[(.pointer (some ⟨bo,0,none⟩))] 177)::kZ bo d id (.slice av pg.sl.length cv) ⟨6,pg,left,word,false⟩::bq (.slice av pg.sl.length cv) pg::F) u W)
  (fun W=>∃ cs,St K W (blk bk (.cells #[(.pointer (some ⟨b,0,none⟩))] 37)::blk vE (.cells #[(.pointer (some ⟨bo,0,none⟩))] 177)::cs)) ?aS (by decide) (by kernel_rfl) ?hB ?H ?iA Hs.out ?hI ?hR ?Ff ?vv ?hE3 ?hQ
 case hB=>as_aux_lemma=>kernel_rfl
 case H=>
  rintro W2 ⟨cs,hs⟩;have k0:=hs.k0;have k1:=hs.k1;clear hs;simp only[bK];repeat (go_big_quiet_step (fail))
  refine wpQuiet_nil ?_
  rfl
 case iA=>rfl
 case hI=>exact⟨fun W h=>⟨_,h.tail⟩,fun v W ⟨_,_,_,h⟩=>⟨_,h.tail.tail⟩,fun v u W ⟨_,_,h⟩=>⟨_,h.rest⟩,fun v u x W ⟨_,_,_,h⟩=>⟨_,h.rest⟩⟩
 case hR=>exact⟨fun W W' h hb=>h.same hb,fun v W W' ⟨a,c,e,h⟩ hb=>⟨a,c,e,h.same hb⟩,fun v u W W' ⟨a,c,h⟩ hb=>⟨a,c,h.same hb⟩,fun v u x W W' ⟨e,a,c,h⟩ hb=>⟨e,a,c,h.same hb⟩⟩
 case Ff=>
  intro qN o ho ρ W2 hs hk af aC;obtain rfl:=aqu ho;subst aC;have Hk:=aqo hk;clear hk;have Q:=aqo (Fz hn (hs.re [3,4,0,1,2] rfl));clear hs;go_wp2_with fail
  refine(Q.out).mono ?_
  rintro e w1 ⟨kW,rfl,hs⟩;obtain⟨a1,c1,rfl,_,_⟩:=hs.aF;have gh:=aqo (hs.re [3,0,4,5,1,2] rfl);clear hs Q;go_wp2
  exact⟨rfl,_,rfl,Hk.out _ _ ⟨a1,c1,rfl,gh.out⟩⟩
 case vv=>
  rintro qN o ho ρ v W2 ⟨a1,c1,rfl,hs⟩ hk af aC;obtain rfl:=aqu ho;have Hk:=aqo hk;clear hk;simp only[aL,List.getElem?_cons_succ,List.getElem?_cons_zero,Option.bind_some,Act.put,List.setIfInBounds_toArray,List.set_cons_zero,List.set_cons_succ]at aC;subst aC;have Q:=aqo (yw (h:=⟨id,word,pg⟩) hd hid hs);clear hs;go_wp2_with fail
  refine(Q.out).mono ?_
  rintro e w1 hj;clear Q;rcases hj with⟨h1,rfl,hs⟩|⟨h1,b2,b3,b5,br,bi,bw,bk',bh,rfl,hs⟩
  ·have Hj:=aqo (show JdM K b d key nx h0 mI ⟨id,word,pg⟩ _ .nilFunc w1 from⟨a1,c1,.inl ⟨h1,rfl,hs⟩⟩)
   clear hs h1;go_wp2
   exact⟨rfl,_,rfl,Hk.out _ _ Hj.out⟩
  ·have Hj:=aqo (show JdM K b d key nx h0 mI ⟨id,word,pg⟩ _ (aX (some (aA b2 b3 b5))) w1 from⟨a1,c1,.inr ⟨h1,b2,b3,b5,br,bi,bw,bk',bh,rfl,hs⟩⟩)
   clear hs h1;simp only[aA,aX]at Hj ⊢;go_wp2
   exact⟨rfl,_,rfl,Hk.out _ _ Hj.out⟩
 case hE3=>
  rintro qN o ho ρ v u W2 ⟨a1,c1,hj⟩ hk af aC;obtain rfl:=aqu ho;have Hk:=aqo hk;clear hk;simp only[aL,List.getElem?_cons_succ,List.getElem?_cons_zero,Option.bind_some,Act.put,List.setIfInBounds_toArray,List.set_cons_zero,List.set_cons_succ]at aC;subst aC;have hj0:=hj;rcases hj with⟨_,h1,_⟩|⟨_,b2,b3,b5,br,bi,bw,bk',bh,h1,_⟩
  ·obtain rfl:=Ending.returned.inj h1
   have Hj:=aqo (show JdM K b d key nx h0 mI ⟨id,word,pg⟩ _ .nilFunc W2 from⟨a1,c1,hj0⟩)
   clear hj0 h1;go_wp2
   exact⟨rfl,_,rfl,Hk.out _ _ ⟨rfl,Hj.out⟩⟩
  ·obtain rfl:=Ending.returned.inj h1
   have Hj:=aqo (show JdM K b d key nx h0 mI ⟨id,word,pg⟩ _ (aX (some (aA b2 b3 b5))) W2 from⟨a1,c1,hj0⟩)
   clear hj0 h1;simp only[aA,aX]at Hj Hk ⊢;go_wp2
   exact⟨rfl,_,rfl,Hk.out _ _ ⟨rfl,Hj.out⟩⟩
 case hQ=>
  rintro v u x W2 ⟨rfl,a1,c1,hj⟩;simp only[aL,List.getElem?_cons_succ,List.getElem?_cons_zero,Option.bind_some,Act.put,List.setIfInBounds_toArray,List.set_cons_zero,List.set_cons_succ];have hj0:=hj;rcases hj with⟨_,h1,_⟩|⟨_,b2,b3,b5,br,bi,bw,bk',bh,h1,_⟩
  ·obtain rfl:=Ending.returned.inj h1
   have Hj:=aqo hj0;clear hj0 h1;go_wp2
   go_ret;exact⟨a1,c1,Hj.out⟩
  ·obtain rfl:=Ending.returned.inj h1
   have Hj:=aqo hj0;clear hj0 h1;simp only[aA,aX]at Hj ⊢;go_wp2
   go_ret;exact⟨a1,c1,Hj.out⟩
theorem yx {h0:cB}{mI kW pz:Value}{jf iQ bf:Nat}{B:j6}{level:Int}{s:pZ}(hd:d.Ok)(h2:s.pc=2)(hid:0<=s.id/\s.id<18446744073709551616)(hn:s.pg.sl.length<=1000000)
  (hs:St K w (blk b (.cells (nx :: .bool true::ea d key h0 mI).toArray 125)::blk jf (.cells #[(.pointer (some ⟨bf,0,none⟩))] 84)::blk iQ (.cells #[(.pointer (some ⟨b,0,none⟩))] 37)::(sQ bf .nilFunc B kW pz d key level s++F))) :
  Calls Tryz.prog 75 #[(.pointer (some ⟨jf,0,none⟩)),(.pointer (some ⟨iQ,0,none⟩))] w fun e w' => (s.id=0/\e=.returned .nilFunc/\St K w' (blk b (.cells (nx :: .bool true::ea d key h0 mI).toArray 125)::F)) \/
   (s.id≠0/\∃ b2 b3 b5 ba bk bi eT,e=.returned (aX (some (aA b2 b3 b5))) /\
    St K w' (blk b (.cells (nx :: .bool true::ea d key h0 mI).toArray 125)::bD b2 b3 b5 (.iface 175 (.pointer (some ⟨ba,0,none⟩))) (sV bk bi eT)::blk bk (.cells #[(.pointer (some ⟨b,0,none⟩))] 37)::blk bi (.cells #[.int .u64 s.id] 23)::blk eT (.cells #[(.pointer (some ⟨ba,0,none⟩))] 175)::fT ba (d.node s.id 0) mF::F)):=by
 have kf:=hs.k1;have hs1:St K w (sQ bf .nilFunc B kW pz d key level s++(blk b (.cells (nx :: .bool true::ea d key h0 mI).toArray 125)::blk iQ (.cells #[(.pointer (some ⟨b,0,none⟩))] 37)::F)):=by
  have h1:St K w ([blk b (.cells (nx :: .bool true::ea d key h0 mI).toArray 125),blk iQ (.cells #[(.pointer (some ⟨b,0,none⟩))] 37)]++(sQ bf .nilFunc B kW pz d key level s++F)):=(hs.re [1,0,2] rfl).tail;exact h1.front
 have Q:=aqo (Ao h2 hn hs1);clear hs hs1;go_enter Tryz.func75,Tryz.ntmps75
 go_wp2_with fail
 refine(Q.out).mono ?_
 clear Q kf;rintro e w1 ⟨va3,rfl,hs⟩;obtain⟨a3,c3,rfl,_,_⟩:=(show St K w1 (ak va3 69 2 s.pg.sl.length (aD s.pg.sl)::_)from hs).aF
 have hs:=hs.tail.Au;have hs:=hs.pass (.cells #[.int .i64 s.pg.az,.slice a3 s.pg.sl.length c3,.string s.pg.hi,.bool s.pg.la,.int .u64 s.pg.ri] 43);by_cases h0:s.id=0
 ·have hb:(s.id == 0)=true:=beq_iff_eq.2 h0
  have H0:=aqo h0;clear h0;go_wp2
  go_ret;exact .inl ⟨H0.out,rfl,hs.bV⟩
 ·have hb:(s.id == 0)=false:=beq_eq_false_iff_ne.2 h0
  have H0:=aqo h0;clear h0;have kv:=hs.k1;have Q:=aqo (nH hd hid hs);clear hs;go_wp2_with fail
  refine(Q.out).mono ?_
  clear Q kv;rintro e w2 ⟨b2,b3,b5,ba,bk,bi,eT,rfl,hs⟩;have Hs:=aqo ((hs.re [6,0,1,2,3,4,5] rfl).tail);clear hs;simp only[aA,aX];go_wp2
  go_ret;exact .inr ⟨H0.out,b2,b3,b5,ba,bk,bi,eT,rfl,Hs.out⟩
theorem Bx {h0:cB}{mI kW:Value}{bk bh:Nat}(hd:d.Ok)(hid:0<=h.pg.ri/\h.pg.ri<18446744073709551616)
  (hs:St K w (blk b (.cells (nx :: .bool true::ea d key h0 mI).toArray 125)::blk bk (.cells #[(.pointer (some ⟨b,0,none⟩))] 37)::blk bh (.cells #[.int .u64 (h).id,.int .u64 (h).word,.int .i64 (h).pg.az,kW,.string (h).pg.hi,.bool (h).pg.la,.int .u64 (h).pg.ri] 45)::F)) :
  Calls Tryz.prog 154 #[(.pointer (some ⟨bk,0,none⟩)),(.pointer (some ⟨bh,0,none⟩))] w fun e w' => ∃ b2 b3 b5 ba bk bi eT,e=.returned (aX (some (aA b2 b3 b5))) /\
    St K w' (blk b (.cells (nx :: .bool true::ea d key h0 mI).toArray 125)::bD b2 b3 b5 (.iface 175 (.pointer (some ⟨ba,0,none⟩))) (sV bk bi eT)::blk bk (.cells #[(.pointer (some ⟨b,0,none⟩))] 37)::blk bi (.cells #[.int .u64 h.pg.ri] 23)::blk eT (.cells #[(.pointer (some ⟨ba,0,none⟩))] 175)::fT ba (d.node h.pg.ri 0) mF::F):=by
 have k1:=hs.k1;have k2:=hs.k2;have Q:=aqo (nH hd hid (hs.re [1,2,0] rfl).tail.tail);clear hs;go_enter Tryz.func154,Tryz.ntmps154
 go_wp2_with fail
 refine(Q.out).mono ?_
 clear Q k1 k2;rintro e w2 ⟨b2,b3,b5,ba,bk2,bi,eT,rfl,hs⟩;have Hs:=aqo hs;clear hs;simp only[aA,aX];go_wp2
 go_ret;exact⟨b2,b3,b5,ba,bk2,bi,eT,rfl,Hs.out⟩
end
theorem Ms {d:aR}{L:List aP}{key:ByteArray}{level:Int}{s:pZ}(h:s.pc<=2):(bX d L key level s).pc<=2:=by
 have hgo:∀ (x:pZ) (i:Int),(iF x i).pc<=2:=by
  intro x i;unfold iF;split <;> simp
 unfold bX;split
 ·exact hgo _ _
 ·split
  ·unfold jr
   split
   ·simp
   ·split
    ·split
     ·simp
     ·exact hgo _ _
    ·exact hgo _ _
  ·simp
 ·exact h
structure u6.Ok (d:aR)(key:ByteArray)(level:Int)(L:List aP)(s:u6):Prop where
 pc:s.pc<=3
 fd:s.pc=0->s.fd.Ok d/\s.fd.pc≠2/\(s.fd.pc=1->(rdStep d s.fd.id L s.fd.rd).pc=6->tV level (rdStep d s.fd.id L s.fd.rd).pg) /\
  ((bX d L key level s.fd).pc=2->(0<=(bX d L key level s.fd).id/\(bX d L key level s.fd).id<18446744073709551616)/\(bX d L key level s.fd).pg.sl.length<=1000000)
 id:1<=s.pc->0<=s.id/\s.id<18446744073709551616
 aq:s.pc=1->s.aq.Ok/\s.aq.pc≠2
 ow:s.pc=2->s.ow.OkO d/\s.ow.pc≠6
 rl:s.pc=3->(0<=s.ow.word/\s.ow.word<18446744073709551616)/\0<=s.ow.pg.ri/\s.ow.pg.ri<18446744073709551616
theorem ur (n : Nat) (a : Addr) (w : World) : (method (n + 1) 175 (.pointer (some a)) "Step").run Tryz.prog w = .ok (213, .pointer (some a)) w := by kernel_rfl
theorem Gp (n : Nat) (a : Addr) (w : World) : (method (n + 1) 177 (.pointer (some a)) "Step").run Tryz.prog w = .ok (214, .pointer (some a)) w := by kernel_rfl
theorem ic (n : Nat) (a : Addr) (w : World) : (method (n + 1) 47 (.pointer (some a)) "Step").run Tryz.prog w = .ok (22, .pointer (some a)) w := by kernel_rfl
section
variable {K:aK}{w:World}{F:List aB}{b bm bc:Nat}{d:aR}{key:ByteArray}{level:Int}{L:List aP}{acc:Nat}{s:u6}{C:List aB}
def uu (d:aR)(key:ByteArray)(level:Int)(b:Nat)(s:u6)(o:Option FV)(tl:List Value)(C2:List aB):Prop:=
 ∃ tl2,tl=.bool true::tl2/\o.isNone=decide (4<=s.pc)/\lr d key level b s (blk b (.cells (aX o::tl).toArray 125)::C2)
theorem uw {o:Option FV}{og:List Value}{C2:List aB}{L1:List aP}{w':World}{e:Ending}{s s':u6}(he:e=.returned (.bool o.isNone))(hs:St K w' (blk b (.cells (aX o::og).toArray 125)::(C2++aJ bm bc L1 (acc+1)::F)))(hn:uu d key level b s' o og C2)
  (heq:aM d key level L s=(s',L1)):∃ C',e=.returned (.bool (decide (4<=(aM d key level L s).1.pc)))/\lr d key level b (aM d key level L s).1 C' /\ St K w' (C' ++ aJ bm bc (aM d key level L s).2 (acc+1)::F):=by
 obtain⟨tl2,_,ho,hr⟩:=hn;rw[heq];exact⟨_,by rw[he,ho],hr,hs⟩
theorem Gq (hd:d.Ok)(hL:bI L)(ha:acc<=1000000000000)(hok:s.Ok d key level L)(hh:s.h=mA)(dm:lr d key level b s C)(hs:St K w (C++aJ bm bc L acc::F)) :
  Calls Tryz.prog 77 #[(.pointer (some ⟨b,0,none⟩)),(.pointer (some ⟨bm,0,none⟩))] w fun e w' => ∃ C',e=.returned (.bool (decide (4<=(aM d key level L s).1.pc)))/\lr d key level b (aM d key level L s).1 C' /\ St K w' (C' ++ aJ bm bc (aM d key level L s).2 (acc+1)::F):=by
 obtain⟨pc,fd,id,aq,ow,h⟩:=s;obtain⟨Ag,Vl,hid,Yy,how,hrl⟩:=hok;simp only at Ag Vl hid Yy how hrl hh;subst hh;match pc,Ag,dm,Vl,hid,Yy,how,hrl with
 | 0,_,dm,Vl,hid,Yy,how,hrl=>
  obtain⟨b2,b3,b5,bf,jf,iQ,B,kW,pz,rfl⟩:=dm;obtain⟨f1,f2,f3,f4⟩:=Vl rfl;have hf2:=Ms f1.pc (L:=L) (key:=key) (level:=level) (d:=d);refine(kg.nA (R:=fun fin C' => fin=decide (2<=(bX d L key level fd).pc)/\∃ B' Mt Mu,C'=sQ bf (aX (kY bf B' (bX d L key level fd).pc)) B' Mt Mu d key level (bX d L key level fd))
   (L' := L) (acc' := acc+1) (V:=[blk jf (.cells #[(.pointer (some ⟨bf,0,none⟩))] 84),blk iQ (.cells #[(.pointer (some ⟨b,0,none⟩))] 37)]) (C:=sQ bf (aX (kY bf B fd.pc)) B kW pz d key level fd)
   (R2:=fun o og C2=>(bX d L key level fd).pc=2/\uu d key level b (if (bX d L key level fd).id=0 then⟨4,bX d L key level fd,id,aq,ow,mA⟩else⟨1,bX d L key level fd,(bX d L key level fd).id,mF,ow,mA⟩) o og C2)
   (fun w F hs=>?_) (fun n w=>z8 n _ w) (fun _ _=>by kernel_rfl) (fun _ _=>by kernel_rfl) ?_ w F hs).mono ?_
  ·refine(Am hd hL ha f1 f3 hs).mono ?_
   rintro e w' ⟨rfl,⟨B',Mt,Mu⟩,hs⟩;rw[show Al fd.pc acc=acc+1 by unfold Al;rw[if_neg f2]]at hs
   exact⟨_,_,rfl,⟨rfl,B',Mt,Mu,rfl⟩,hs⟩
  ·rintro C' w1 F1 ⟨dG,B',Mt,Mu,rfl⟩ hs
   have hp:(bX d L key level fd).pc=2:=by
    have:=of_decide_eq_true dG.symm;omega
   obtain⟨g1,g2⟩:=f4 hp;generalize bX d L key level fd=f at *;rw[hp]at hs;refine(yx (level:=level) hd hp g1 g2 (F:=aJ bm bc L (acc+1)::F1) hs).mono ?_
   rintro e w2 (⟨h0,rfl,hs2⟩|⟨h0,x2,x3,x5,ba,bk,bi,eT,rfl,hs2⟩)
   ·rw[if_pos h0]
    exact⟨none,_,[bq (.slice none 0 0) mA.pg],rfl,⟨hp,_,rfl,rfl,_,rfl⟩,(hs2.cD (T:=69) (size:=2)).b1⟩
   ·rw[if_neg h0]
    exact⟨some (aA x2 x3 x5),_,[_,_,_,_,_],rfl,⟨hp,_,rfl,rfl,x2,x3,x5,ba,bk,bi,eT,rfl⟩,hs2⟩
  ·rintro e w' ⟨o,og,C2,he,hs,⟨rfl,rfl,C',⟨dG,B',Mt,Mu,rfl⟩,rfl⟩|⟨hp,hn⟩⟩
   ·have hp:(bX d L key level fd).pc≠2:=by
     intro h2;rw[h2]at dG;cases dG
    refine uw he hs (s' := ⟨0,bX d L key level fd,id,aq,ow,mA⟩) ⟨_,rfl,rfl,b2,b3,b5,bf,jf,iQ,B',Mt,Mu,rfl⟩ ?_
    show(if _ then _ else _)=_
    rw[if_neg hp]
   ·refine uw he hs hn ?_
    show(if _ then _ else _)=_
    rw[if_pos hp];split <;> rfl
 | 1,_,dm,Vl,hid,Yy,how,hrl=>
  obtain⟨b2,b3,b5,ba,bk,bi,eT,rfl⟩:=dm;obtain⟨a1,a2⟩:=Yy rfl;have hi:=hid (Nat.le_refl 1);have hst:=tY (i:=d.node id 0) hL a1;refine(kg.nA (R:=fun fin C' => fin=decide (2<=(bL (d.node id 0) L aq).1.pc)/\C' = [fT ba (d.node id 0) (bL (d.node id 0) L aq).1])
   (L' := (bL (d.node id 0) L aq).2) (acc' := acc+1) (V:=[blk bk (.cells #[(.pointer (some ⟨b,0,none⟩))] 37),blk bi (.cells #[.int .u64 id] 23),blk eT (.cells #[(.pointer (some ⟨ba,0,none⟩))] 175)]) (C:=[fT ba (d.node id 0) aq])
   (R2:=fun o og C2=>(bL (d.node id 0) L aq).1.pc=2/\uu d key level b ⟨2,fd,id,(bL (d.node id 0) L aq).1,xU (bL (d.node id 0) L aq).1.word,mA⟩ o og C2)
   (fun w F hs=>?_) (fun n w=>ur n _ w) (fun _ _=>by kernel_rfl) (fun _ _=>by kernel_rfl) ?_ w F hs).mono ?_
  ·refine(tZ hL ha a1 a2 hs).mono ?_
   rintro e w' ⟨rfl,hs⟩;exact⟨_,_,rfl,⟨rfl,rfl⟩,hs⟩
  ·rintro C' w1 F1 ⟨dG,rfl⟩ hs
   have hp:(bL (d.node id 0) L aq).1.pc=2:=by
    have:=of_decide_eq_true dG.symm;have:=hst.pc;omega
   refine(Gn hp hs).mono ?_
   rintro e w2 ⟨x2,x3,x5,bo,vE,rfl,hs2⟩;exact⟨some (aA x2 x3 x5),_,[_,_,_,_,_],rfl,⟨hp,_,rfl,rfl,x2,x3,x5,bo,bk,vE,_,rfl⟩,hs2⟩
  ·rintro e w' ⟨o,og,C2,he,hs,⟨rfl,rfl,C',⟨dG,rfl⟩,rfl⟩|⟨hp,hn⟩⟩
   ·have hp:(bL (d.node id 0) L aq).1.pc≠2:=by
     intro h2;rw[h2]at dG;cases dG
    refine uw he hs (s' := ⟨1,fd,id,(bL (d.node id 0) L aq).1,ow,mA⟩) ⟨_,rfl,rfl,b2,b3,b5,ba,bk,bi,eT,rfl⟩ ?_
    show(if _ then _ else _)=_
    rw[if_neg hp]
   ·refine uw he hs hn ?_
    show(if _ then _ else _)=_
    rw[if_pos hp]
 | 2,_,dm,Vl,hid,Yy,how,hrl=>
  obtain⟨b2,b3,b5,bo,bk,vE,kW,rfl⟩:=dm;obtain⟨a1,a2⟩:=how rfl;have hi:=hid (by omega)
  have hst:=ub hd (id:=id) hL a1;have sP:=hd.mV;refine(kg.nA (R:=fun fin C' => fin=decide ((bR d id L ow).pc=6)/\∃ (a:Option Addr) (c:Nat),C' = [kZ bo d id (.slice a (bR d id L ow).pg.sl.length c) (bR d id L ow),bq (.slice a (bR d id L ow).pg.sl.length c) (bR d id L ow).pg])
   (L' := L) (acc' := acc+1) (V:=[blk bk (.cells #[(.pointer (some ⟨b,0,none⟩))] 37),blk vE (.cells #[(.pointer (some ⟨bo,0,none⟩))] 177)]) (C:=[kZ bo d id kW ow,bq kW ow.pg])
   (R2:=fun o og C2=>(bR d id L ow).pc=6/\uu d key level b (if qT key (bR d id L ow).pg then⟨4,fd,id,aq,bR d id L ow,⟨id,(bR d id L ow).word,(bR d id L ow).pg⟩⟩else⟨3,fd,id,aq,bR d id L ow,mA⟩) o og C2)
   (fun w F hs=>?_) (fun n w=>Gp n _ w) (fun _ _=>by kernel_rfl) (fun _ _=>by kernel_rfl) ?_ w F hs).mono ?_
  ·refine(Fy hd hi hL ha a1 a2 hs).mono ?_
   rintro e w' ⟨eX,rfl,hs⟩;obtain⟨a,c,rfl,_,_⟩:=(show St K w' (ak eX 69 2 (bR d id L ow).pg.sl.length (aD (bR d id L ow).pg.sl)::_)from hs.b1).aF
   exact⟨_,[_,_],rfl,⟨rfl,a,c,rfl⟩,hs⟩
  ·rintro C' w1 F1 ⟨dG,a,c,rfl⟩ hs
   have hp:(bR d id L ow).pc=6:=of_decide_eq_true dG.symm;have hlen:(bR d id L ow).pg.sl.length<=1000000:=by
    rcases hst.len with h|h <;> omega
   generalize bR d id L ow=o at *;obtain⟨opc,opg,akK,akL,ot⟩:=o;simp only at hp hlen;subst hp;refine(Bv (F:=aJ bm bc L (acc+1)::F1) hd hi hlen hs).mono ?_
   rintro e w2 ⟨a3,c3,⟨h1,rfl,hs2⟩|⟨h1,x2,x3,x5,br,bi,bw,bk',bh,rfl,hs2⟩⟩
   ·rw[if_pos h1]
    exact⟨none,_,[_],rfl,⟨rfl,_,rfl,rfl,_,rfl⟩,(hs2.re [2,3,4,5,0,1] rfl).tail.tail.tail.tail⟩
   ·rw[h1,if_neg (by simp)]
    refine⟨some (aA x2 x3 x5),_,[_,_,_,_,_,_],rfl,⟨rfl,_,rfl,rfl,x2,x3,x5,br,bi,bw,bk',bh,.slice a3 opg.sl.length c3,rfl⟩,?_⟩;exact((show St K w2 (_::_::_::_::_::_::_::_::_::_::_::aJ bm bc L (acc+1)::F1)from hs2).re [7,8,9,10,0,1,2,3,4,5,6] rfl).tail.tail.tail.tail
  ·rintro e w' ⟨o,og,C2,he,hs,⟨rfl,rfl,C',⟨dG,a,c,rfl⟩,rfl⟩|⟨hp,hn⟩⟩
   ·have hp:(bR d id L ow).pc≠6:=of_decide_eq_false dG.symm
    refine uw he hs (s' := ⟨2,fd,id,aq,bR d id L ow,mA⟩) ⟨_,rfl,rfl,b2,b3,b5,bo,bk,vE,_,rfl⟩ ?_
    show(if _ then _ else _)=_
    rw[if_neg hp]
   ·refine uw he hs hn ?_
    show(if _ then _ else _)=_
    rw[if_pos hp];split <;> rfl
 | 3,_,dm,Vl,hid,Yy,how,hrl=>
  obtain⟨b2,b3,b5,br,bi,bw,bk,bh,kW,rfl⟩:=dm;obtain⟨a1,a2⟩:=hrl rfl;have hi:=hid (by omega)
  refine(kg.nA (R:=fun fin C' => fin=true/\C'=eZ br bi bw (d.node id 0) ow.word 1)
   (L' := aN L (d.node id 0) ⟨aH ow.word,⟨#[]⟩,0⟩) (acc' := acc+1) (V:=[blk bk (.cells #[(.pointer (some ⟨b,0,none⟩))] 37),blk bh (.cells #[.int .u64 ((⟨id,ow.word,ow.pg⟩:cB)).id,.int .u64 ((⟨id,ow.word,ow.pg⟩:cB)).word,.int .i64 ((⟨id,ow.word,ow.pg⟩:cB)).pg.az,kW,.string ((⟨id,ow.word,ow.pg⟩:cB)).pg.hi,.bool ((⟨id,ow.word,ow.pg⟩:cB)).pg.la,.int .u64 ((⟨id,ow.word,ow.pg⟩:cB)).pg.ri] 45)]) (C:=eZ br bi bw (d.node id 0) ow.word 0)
   (R2:=fun o og C2=>uu d key level b ⟨1,fd,ow.pg.ri,mF,ow,mA⟩ o og C2)
   (fun w F hs=>?_) (fun n w=>ic n _ w) (fun _ _=>by kernel_rfl) (fun _ _=>by kernel_rfl) ?_ w F hs).mono ?_
  ·refine(ia a1 ha hs).mono ?_
   rintro e w' ⟨rfl,hs⟩;exact⟨_,_,rfl,⟨rfl,rfl⟩,hs⟩
  ·rintro C' w1 F1 ⟨_,rfl⟩ hs
   refine(Bx (h:=⟨id,ow.word,ow.pg⟩) hd a2 hs).mono ?_
   rintro e w2 ⟨x2,x3,x5,ba,bk2,bi2,eT,rfl,hs2⟩;refine⟨some (aA x2 x3 x5),_,[_,_,_,_,_],rfl,⟨_,rfl,rfl,x2,x3,x5,ba,bk2,bi2,eT,rfl⟩,?_⟩;exact((show St K w2 (_::_::_::_::_::_::_::_::_::aJ bm bc _ (acc+1)::F1)from hs2).re [6,7,8,0,1,2,3,4,5] rfl).tail.tail.tail
  ·rintro e w' ⟨o,og,C2,he,hs,⟨rfl,rfl,C',⟨dG,_⟩,rfl⟩|hn⟩
   ·cases dG
   ·exact uw he hs hn rfl
 | n+4,Ag,dm,Vl,hid,Yy,how,hrl=>omega
theorem Bz (hd:d.Ok)(hL:bI L)(ha:acc<=1000000000000)(hok:s.Ok d key level L)(hh:s.h=mA)(dm:lr d key level b s C)(hs:St K w (C++aJ bm bc L acc::F)) :
  Calls Tryz.prog 18 #[(.pointer (some ⟨b,0,none⟩)),(.pointer (some ⟨bm,0,none⟩))] w fun e w' => ∃ C',e=.returned (.bool (decide (4<=(aM d key level L s).1.pc)))/\lr d key level b (aM d key level L s).1 C' /\ St K w' (C' ++ aJ bm bc (aM d key level L s).2 (acc+1)::F):=by
 have Q:=aqo (Gq hd hL ha hok hh dm hs);clear hs;go_enter Tryz.func18,Tryz.ntmps18
 go_wp2_with fail
 refine(Q.out).mono ?_
 clear Q;rintro e w1 ⟨C',rfl,hr,hs⟩;have Hr:=aqo hr;have Hs:=aqo hs;clear hr hs;go_wp2
 go_ret;exact⟨C',rfl,Hr.out,Hs.out⟩
theorem yz (tmps:Array Value)(w:World)(b:Nat)(v0 v1 v2 v3 v4 v5 v6:Value)(hp:tmps[2]?=some ((.pointer (some ⟨b,0,none⟩))))(hk:∀ k,w.cell? ⟨b,k,none⟩=(#[v0,v1,v2,v3,v4,v5,v6]:Array Value)[k]?) :
  (results Tryz.f19 tmps).run Tryz.prog w=.ok (.agg #[v0,v1,v2,v3,v4,v5,v6]) w:=by
 simp[results,Tryz.results19,go_sem,hp,hk]
theorem Ca {h:cB}{a:Option Addr}{c:Nat}{nx:Value}(hn:h.pg.sl.length<=1000000)(hs:St K w (blk b (.cells (nx :: .bool true::ea d key h (.slice a h.pg.sl.length c)).toArray 125)::bq (.slice a h.pg.sl.length c) h.pg::F)) :
  Calls Tryz.prog 19 #[(.pointer (some ⟨b,0,none⟩))] w fun e w' => ∃ va,e=.returned (.agg #[.int .u64 (h).id,.int .u64 (h).word,.int .i64 (h).pg.az,va,.string (h).pg.hi,.bool (h).pg.la,.int .u64 (h).pg.ri])/\St K w' (bq va h.pg::blk b (.cells (nx :: .bool true::ea d key h (.slice a h.pg.sl.length c)).toArray 125)::bq (.slice a h.pg.sl.length c) h.pg::F):=by
 have hs:=hs.made (.cells #[.int .u64 0,.int .u64 0,.int .i64 0,.slice none 0 0,.string ⟨#[]⟩,.bool false,.int .u64 0] 45);have kl:=hs.k1;unfold ea at kl;have hs:=hs.made (.cells #[.int .u64 (h).id,.int .u64 (h).word,.int .i64 (h).pg.az,(.slice a h.pg.sl.length c),.string (h).pg.hi,.bool (h).pg.la,.int .u64 (h).pg.ri] 45);rw[World.size_alloc]at hs;have Hs:=aqo hs;clear hs;go_enter Tryz.func19,Tryz.ntmps19
 go_upto_region 2 with(fail)
 obtain⟨b0,hb0⟩:∃ b0,b0=w.heap.size:=⟨_,rfl⟩;rw[← hb0]at Hs ⊢;have hs:=Hs.out;refine cR hs ?_
 clear hs Hs hb0 kl;intro W hs;have fj:=(show St K _ (ak (.slice a h.pg.sl.length c) 69 2 h.pg.sl.length (aD h.pg.sl)::_)from hs.b3).cN (by omega)
 have Hl:=aqo (show(aD h.pg.sl).length=h.pg.sl.length*2 by rw[fE])
 have H0:Hid (a=none->h.pg.sl.length=0):=aqo (fun e=>by subst e;rw[fj.no];rfl)
 have H1:=aqo (kU h.pg.sl);obtain⟨iv,cZ,dc,dg,dh⟩:=info_parts gR;have lC:=aqo cZ;have lD:=aqo dc;have lF:=aqo dg;have lG:=aqo dh;clear cZ dc dg dh;have Hn:=aqo fj.news;obtain⟨sl,tX⟩:∃ sl,sl=aD h.pg.sl:=⟨_,rfl⟩;rw[← tX]at Hl H1 Hn;have Rh:=aqo tX;have kp:=hs.k0;have fp:=hs.f0;have Hs:=aqo (hs.cD (T:=69) (size:=2));clear hs fj tX;go_wp2_with (at_builtin;refine cF _ _ 41 69 _ 0 h.pg.sl.length c 2 24 [] sl (.agg #[.string ⟨#[]⟩,.int .u64 0]) iv a Hs.out rfl rfl Tryz.underlying41 lC.out lD.out lF.out lG.out rfl (by decide) rfl rfl Hl.out H0.out Hn.out H1.out (by omega) (by decide) ?_)
 intro v' w' hs;obtain⟨ao,oK,hv,_,_⟩:=hs.aF;subst hv;clear Hs kp fp Hl H0 H1 Hn lC lD lF lG;have hs:=hs.b1;have kb:=hs.k0;have fb:=hs.f0;have hs:=hs.aI 3 (.slice ao h.pg.sl.length oK);simp only[List.set_cons_zero,List.set_cons_succ]at hs;go_upto_region 3 with(fail)
 refine cR hs ?_
 clear hs kb fb;intro W3 hs;have k1:=hs.k0;have hs:=hs.b2;have k0:=hs.k0;have f0:=hs.f0;have hs:=((((((hs.aI 0 (.int .u64 h.id)).aI 1 (.int .u64 h.word)).aI 2 (.int .i64 h.pg.az)).aI 3 (.slice ao h.pg.sl.length oK)).aI 4 (.string h.pg.hi)).aI 5 (.bool h.pg.la)).aI 6 (.int .u64 h.pg.ri);simp only[List.set_cons_zero,List.set_cons_succ]at hs;go_wp2
 rw[Rh.out]at hs;refine bodyPost_ret (yz _ _ b0 _ _ _ _ _ _ _ rfl hs.k0) rfl ⟨_,rfl,hs.tail.tail⟩
end
end Go.Proofs.YtlpdhhhgckpcfaaGreat
