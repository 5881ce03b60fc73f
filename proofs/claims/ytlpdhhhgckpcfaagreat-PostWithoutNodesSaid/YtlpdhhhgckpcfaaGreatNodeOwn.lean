
/- The reader of a locked node (package node: Own). -/
import Derived.Test.YtlpdhhhgckpcfaaGreatFindA
namespace Go.Proofs.YtlpdhhhgckpcfaaGreat
set_option maxHeartbeats 16000000
open Go.RowKit
set_option maxRecDepth 100000
def bR (d:aR)(id:Int)(L:List aP)(s:mN):mN:=
 match s.pc with
 | 1=>⟨2,⟨wrap64 (ah L (d.node id 1)).m,[],⟨#[]⟩,false,0⟩,leftOf d (ah L (d.node id 1)),s.word,false⟩
 | 2=>⟨3,s.pg.high (ah L (d.node id 2)),s.left,s.word,false⟩
 | 3=>⟨if s.left=0 then 6 else 4,s.pg.right (ah L (d.node id 3)),s.left,s.word,false⟩
 | 4=>⟨if s.left-1=0 then 6 else 4,s.pg.push (ah L (d.slot id s.pg.sl.length)),s.left-1,s.word,false⟩
 | _=>s
def nv (b:Nat):Nat->Option FV
 | 1=>Ez b
 | 2=>some ⟨189, #[.pointer (some ⟨b,2,none⟩)], #[]⟩
 | 3=>some ⟨192, #[.pointer (some ⟨b,2,none⟩)], #[]⟩
 | 4=>some ⟨195, #[.pointer (some ⟨b,2,none⟩)], #[]⟩
 | _=>none
def xU (word:Int):mN:=⟨1,Fb,0,word,false⟩
def kZ (b:Nat)(d:aR)(id:Int)(va:Value)(s:mN):aB:=blk b (.cells (aU (aX (nv b s.pc)) d id s.pg va s.left .nilFunc s.word).toArray 203)
theorem ua {b left:Nat}:kT b left none=nv b (if left=0 then 6 else 4):=by
 unfold kT;split <;> rfl
structure mN.OkO (d:aR)(s:mN):Prop where
 pc:s.pc=1\/s.pc=2\/s.pc=3\/s.pc=4\/s.pc=6
 len:s.pc=1\/(s.pg.sl.length+s.left:Int)<=d.fa
 left:s.pc=4->0<s.left
theorem Wm (d:aR)(word:Int):(xU word).OkO d:=⟨.inl rfl,.inl rfl,by intro h;cases h⟩
theorem ub {d:aR}(hd:d.Ok){id:Int}{L:List aP}(hL:bI L){s:mN}(h:s.OkO d):(bR d id L s).OkO d:=by
 obtain⟨pc,pg,left,word,t⟩:=s;have h1:=h.pc;have h2:=h.len;have h3:=h.left;simp only at h1 h2 h3;rcases h1 with rfl|rfl|rfl|rfl|rfl
 ·exact⟨.inr (.inl rfl),.inr (by simpa[bR] using nW hd (hL _)),by intro h;cases h⟩
 ·exact⟨.inr (.inr (.inl rfl)),.inr (by simpa[bR,Pg.high] using h2),by intro h;cases h⟩
 ·have h2':(pg.sl.length:Int)+left<=d.fa:=by simpa using h2
  simp only[bR];refine⟨?_,.inr (by simpa[Pg.right] using h2'),?_⟩
  ·simp only;split <;> simp
  ·simp only;split <;> omega
 ·have h2':(pg.sl.length:Int)+left<=d.fa:=by simpa using h2
  have hl:0<left:=h3 rfl;simp only[bR];refine⟨?_,.inr ?_,?_⟩
  ·simp only;split <;> simp
  ·simp only[Pg.push,List.length_append,List.length_singleton];omega
  ·simp only;split <;> omega
 ·exact h
section
variable {d:aR}{id:Int}{L:List aP}{pg:Pg}
end
section
variable {K:aK}{w:World}{F:List aB}{b bm bc:Nat}{L:List aP}{acc:Nat}{va:Value}{d:aR}{id:Int}{s:mN}
theorem lW {s':mN}{f:FV}{acc':Nat}(hf:Enters f.f)(Ag:nv b s.pc=some f)(hc:w.cell? ⟨b,0,none⟩=some (aX (nv b s.pc)))
  (hcall:Calls Tryz.prog f.f (f.x ++ #[.pointer (some ⟨bm,0,none⟩)]++f.y) w fun e w1=>∃ eX,e=.returned (aX (nv b s'.pc))/\St K w1 (blk b (.cells (aU (aX (nv b s.pc)) d id s'.pg eX s'.left .nilFunc s'.word).toArray 203)::bq eX s'.pg::aJ bm bc L acc' :: F)) :
  Calls Tryz.prog 77 #[.pointer (some ⟨b,0,none⟩),.pointer (some ⟨bm,0,none⟩)] w fun e w' => ∃ eX,e=.returned (.bool (nv b s'.pc).isNone)/\St K w' (kZ b d id eX s' :: bq eX s'.pg::aJ bm bc L acc' :: F):=by
 rw[Ag]at hc;exact lR (f:=f) (o:=nv b s'.pc) (tl:=fun eX=>(aU (aX (nv b s.pc)) d id s'.pg eX s'.left .nilFunc s'.word).tail) (F' := fun eX=>bq eX s'.pg::aJ bm bc L acc' :: F) hf hc hcall
theorem Lx (hd:d.Ok)(hid:0<=id/\id<18446744073709551616)(hL:bI L)(ha:acc<=1000000000000)(hok:s.OkO d)(h6:s.pc≠6)(hs:St K w (kZ b d id va s::bq va s.pg::aJ bm bc L acc::F)) :
  Calls Tryz.prog 77 #[.pointer (some ⟨b,0,none⟩),.pointer (some ⟨bm,0,none⟩)] w fun e w' => ∃ eX,e=.returned (.bool (decide ((bR d id L s).pc=6)))/\St K w' (kZ b d id eX (bR d id L s)::bq eX (bR d id L s).pg::aJ bm bc L (acc+1)::F):=by
 obtain⟨pc,pg,left,word,t⟩:=s;have h1:=hok.pc;have h2:=hok.len;have h3:=hok.left;simp only at h1 h2 h3 h6;have hs':St K w (blk b (.cells (aU (aX (nv b pc)) d id pg va left (aX none) word).toArray 203)::aJ bm bc L acc::bq va pg::F):=hs.b2.b1;have k0:w.cell? ⟨b,0,none⟩=some (aX (nv b pc)):=hs'.k0 0;have sP:=hd.mV;rcases h1 with rfl|rfl|rfl|rfl|rfl
 ·have q:=Jf (th:=none) hd hid ha (hL (d.node id 1)) hs'
  exact lW (s:=⟨1,pg,left,word,t⟩) (s' := ⟨2,⟨wrap64 (ah L (d.node id 1)).m,[],⟨#[]⟩,false,0⟩,leftOf d (ah L (d.node id 1)),word,false⟩) rB rfl k0 (q.mono fun e w1 ⟨he,h⟩=>⟨.slice none 0 0,he,h.b2.tail.cD.b1⟩)
 ·have q:=Jg (th:=none) hd hid ha hs'
  exact lW (s:=⟨2,pg,left,word,t⟩) (s' := ⟨3,pg.high (ah L (d.node id 2)),left,word,false⟩) rC rfl k0 (q.mono fun e w1 ⟨he,h⟩=>⟨va,he,h.b2.b1⟩)
 ·have q:=zW (th:=none) hd hid ha hs'
  rw[ua]at q;refine(lW (s:=⟨3,pg,left,word,t⟩) (s' := ⟨if left=0 then 6 else 4,pg.right (ah L (d.node id 3)),left,word,false⟩) pX rfl k0 (q.mono fun e w1 ⟨he,h⟩=>⟨va,he,h.b2.b1⟩)).mono ?_
  rintro e w' ⟨eX,rfl,h⟩;refine⟨eX,?_,h⟩;simp only[bR];split <;> rfl
 ·have h2':(pg.sl.length:Int)+left<=d.fa:=by simpa using h2
  have q:=Jh (pg:=pg) (th:=none) hd hid ha (by omega) ⟨h3 rfl,by omega⟩ hs
  rw[ua]at q;refine(lW (s:=⟨4,pg,left,word,t⟩) (s' := ⟨if left-1=0 then 6 else 4,pg.push (ah L (d.slot id pg.sl.length)),left-1,word,false⟩) rD rfl k0 (q.mono fun e w1 ⟨eX,he,h⟩=>⟨eX,he,h⟩)).mono ?_
  rintro e w' ⟨eX,rfl,h⟩;refine⟨eX,?_,h⟩;simp only[bR];split <;> rfl
 ·exact absurd rfl h6
theorem Fy (hd:d.Ok)(hid:0<=id/\id<18446744073709551616)(hL:bI L)(ha:acc<=1000000000000)(hok:s.OkO d)(h6:s.pc≠6)(hs:St K w (kZ b d id va s::bq va s.pg::aJ bm bc L acc::F)) :
  Calls Tryz.prog 214 #[.pointer (some ⟨b,0,none⟩),.pointer (some ⟨bm,0,none⟩)] w fun e w' => ∃ eX,e=.returned (.bool (decide ((bR d id L s).pc=6)))/\St K w' (kZ b d id eX (bR d id L s)::bq eX (bR d id L s).pg::aJ bm bc L (acc+1)::F):=by
 have Q:=aqo (Lx hd hid hL ha hok h6 hs);clear hs;go_enter Tryz.func214,Tryz.ntmps214
 go_wp2_with fail
 refine(Q.out).mono ?_
 rintro e w1 ⟨eX,rfl,hs⟩;go_wp2
 go_ret;exact⟨eX,rfl,hs⟩
theorem Lz {c0 c1 c2 c3 c4 c5 c6 c7 c8 c9 c10 c11 c12 c13 c14 c15 c17:Value}{T:TypeId}(hs:St K w (blk b (.cells #[c0,c1,c2,c3,c4,c5,c6,c7,c8,c9,c10,c11,c12,c13,c14,c15,.nilFunc,c17] T)::F)) :
  Calls Tryz.prog 153 #[.pointer (some ⟨b,2,none⟩),.nilFunc] w fun e w' => e=.returned (.func (.func 181) #[.pointer (some ⟨b,2,none⟩)] #[])/\St K w' (blk b (.cells #[c0,c1,c2,c3,c4,c5,c6,c7,c8,c9,c10,c11,c12,c13,c14,c15,.nilFunc,c17] T)::F):=by
 have k:=hs.k0;have kf:=hs.f0;have hs:=hs.aI 16 .nilFunc;simp only[List.set_cons_zero,List.set_cons_succ]at hs;go_enter Tryz.func153,Tryz.ntmps153
 go_wp2
 go_ret;exact⟨rfl,hs⟩
theorem Ma {word:Int}(hs:St K w F) :
  Calls Tryz.prog 118 #[.agg #[.int .i64 d.th,.int .i64 d.sn,.int .i64 d.no,.int .i64 d.ch,.int .i64 d.re,.int .i64 d.fa,.int .u64 d.cl],.int .u64 id,.int .u64 word] w fun e w' => ∃ b,e=.returned (.pointer (some ⟨b,0,none⟩))/\St K w' (kZ b d id (.slice none 0 0) (xU word)::bq (.slice none 0 0) Fb::F):=by
 have hs:=hs.pass (.cells #[.int .i64 d.th,.int .i64 d.sn,.int .i64 d.no,.int .i64 d.ch,.int .i64 d.re,.int .i64 d.fa,.int .u64 d.cl] 29);have hs:=hs.made (.cells #[.nilFunc,.bool false,.int .i64 d.th,.int .i64 d.sn,.int .i64 d.no,.int .i64 d.ch,.int .i64 d.re,.int .i64 d.fa,.int .u64 d.cl,.int .u64 id,.int .i64 0,.slice none 0 0,.string ⟨#[]⟩,.bool false,.int .u64 0,.int .i64 0,.nilFunc,.int .u64 word] 203);rw[World.size_alloc]at hs;go_enter Tryz.func118,Tryz.ntmps118
 go_wp2_with fail
 refine(Lz hs).mono ?_
 clear hs;rintro e w2 ⟨rfl,hs⟩;go_wp2_with fail
 refine(bE hs (fk _ _ _ _)).mono ?_
 clear hs;rintro e w3 ⟨rfl,hs⟩;have k:=hs.k0;have kf:=hs.f0;have hs:=(hs.aI 0 (.func (.func 181) #[.pointer (some ⟨(w.heap.size+1),2,none⟩)] #[])).aI 1 (.bool true);simp only[List.set_cons_zero,List.set_cons_succ]at hs;go_wp2
 go_ret;exact⟨_,rfl,hs.cD.b1⟩
theorem Mb (tmps:Array Value)(w:World)(b:Nat)(v0 v1 v2 v3 v4 v5 v6:Value)(hp:tmps[2]?=some (.pointer (some ⟨b,0,none⟩)))(hk:∀ k,w.cell? ⟨b,k,none⟩=(#[v0,v1,v2,v3,v4,v5,v6]:Array Value)[k]?) :
  (results Tryz.f122 tmps).run Tryz.prog w=.ok (.agg #[v0,v1,v2,v3,v4,v5,v6]) w:=by
 simp[results,Tryz.results122,go_sem,hp,hk]
def OhR (K:aK)(REST:List aB)(b0:Nat)(id word:Int)(pg:Pg)(ρ:Nat->Option Value)(W:World):Prop:=
 ∃ (a:Option Addr) (c:Nat),(∀ v,ρ 14=some v->v=.agg #[.int .i64 (pg).az,(.slice a pg.sl.length c),.string (pg).hi,.bool (pg).la,.int .u64 (pg).ri])/\(∀ v,ρ 15=some v->v=.agg #[.int .u64 id,.int .u64 word,.int .i64 (pg).az,(.slice a pg.sl.length c),.string (pg).hi,.bool (pg).la,.int .u64 (pg).ri]) /\
  St K W (dA (ρ 14) (ak (.slice a pg.sl.length c) 69 2 pg.sl.length (aD pg.sl))::blk b0 (.cells (match ρ 16 with|some _=> #[.int .u64 id,.int .u64 word,.int .i64 (pg).az,(.slice a pg.sl.length c),.string (pg).hi,.bool (pg).la,.int .u64 (pg).ri] | none=> #[.int .u64 0,.int .u64 0,.int .i64 0,.slice none 0 0,.string ⟨#[]⟩,.bool false,.int .u64 0]) 45)::REST)
theorem Fz {pg:Pg}{word:Int}{left:Nat}{av:Option Addr}{cv:Nat}(hn:pg.sl.length<=1000000)(hs:St K w (kZ b d id (.slice av pg.sl.length cv) ⟨6,pg,left,word,false⟩::bq (.slice av pg.sl.length cv) pg::F)) :
  Calls Tryz.prog 122 #[.pointer (some ⟨b,0,none⟩)] w fun e w' => ∃ va,e=.returned (.agg #[.int .u64 id,.int .u64 word,.int .i64 (pg).az,va,.string (pg).hi,.bool (pg).la,.int .u64 (pg).ri]) /\
   St K w' (ak va 69 2 pg.sl.length (aD pg.sl)::kZ b d id (.slice av pg.sl.length cv) ⟨6,pg,left,word,false⟩::bq (.slice av pg.sl.length cv) pg::F):=by
 have hs:St K w (blk b (.cells (aU .nilFunc d id pg (.slice av pg.sl.length cv) left .nilFunc word).toArray 203)::ak (.slice av pg.sl.length cv) 69 2 pg.sl.length (aD pg.sl)::F):=hs;have hs:=hs.made (.cells #[.int .u64 0,.int .u64 0,.int .i64 0,.slice none 0 0,.string ⟨#[]⟩,.bool false,.int .u64 0] 45);have Qd:=aqo (fY (w.alloc (.cells #[.int .u64 0,.int .u64 0,.int .i64 0,.slice none 0 0,.string ⟨#[]⟩,.bool false,.int .u64 0] 45)) b (hs.k1 0) (hs.k1 1));go_enter Tryz.func122,Tryz.ntmps122
 go_wp2_with fail
 refine(Qd.out).mono ?_
 clear Qd;rintro e w1 ⟨rfl,rfl⟩;go_upto_region 3 with(fail)
 refine cR hs ?_
 clear hs;generalize w.heap.size=b0;intro W hs;have Hs:=aqo hs;clear hs;refine aT [false,false,false,false,false,false,false,false,false,false,false,false,false,false,true,true,true] [14,15,16] (fun|15=>[14] | 16=>[15] | _=>[])
  (OhR K (blk b (.cells (aU .nilFunc d id pg (.slice av pg.sl.length cv) left .nilFunc word).toArray 203)::ak (.slice av pg.sl.length cv) 69 2 pg.sl.length (aD pg.sl)::F) b0 id word pg)
  (fun W=>∀ j,W.cell? ⟨b,j,none⟩=(aU .nilFunc d id pg (.slice av pg.sl.length cv) left .nilFunc word).toArray[j]?) ?aS (by kernel_rfl) ?hB ?H ?iA ?h0 ?hI ?hR ?hE ?hQ
 case hB=>as_aux_lemma=>kernel_rfl
 case H=>
  intro W2 k;unfold aU at k;simp only[bK];repeat (go_big_quiet_step (fail))
  refine wpQuiet_nil ?_
  rfl
 case iA=>rfl
 case h0=>exact⟨none,0,fun v h=>(by cases h),fun v h=>(by cases h),Hs.out.empty⟩
 case hI=>
  rintro ρ W2 ⟨a,c,e1,e2,hs⟩;exact hs.tail.k1
 case hR=>
  rintro ρ W2 W3 ⟨a,c,e1,e2,hs⟩ hb;exact⟨a,c,e1,e2,hs.same hb⟩
 case hE=>
  refine⟨?Ri,?Mc,?e16,trivial⟩;case Ri=>
   intro o ho ρ W2 h hcl iV hd2 af aC;obtain rfl:=aqu ho;replace aC:af=aj _ ρ [] _:=aC;have cX:ρ 15=none:=hcl.none (by simp) (show 14∈[14]by simp) iV
   have vo:ρ 16=none:=hcl.none (by simp) (show 15∈[15]by simp) cX
   obtain⟨a,c,e1,e2,hs⟩:=h;rw[iV,vo]at hs;simp only[aj]at aC;subst aC;go_wp2_with fail
   refine(nj (cap:=cv) hs.tail (hs.tail.b2.cN (by omega))).mono ?_
   rintro e W3 ⟨va,rfl,hs'⟩;obtain⟨a2,c2,rfl,_,_⟩:=hs'.aF;go_wp2
   refine⟨rfl,_,rfl,a2,c2,fun v hv=>(aqu hv).symm,fun v hv=>?_,?_⟩
   ·have:ρ 15=some v:=hv
    rw[cX]at this;cases this
   ·show St K W3 (ak _ _ _ _ _::blk b0 (.cells (match ρ 16 with|some _=>_|none=>_) _)::_)
    rw[vo];exact hs'
  case Mc=>
   intro o ho ρ W2 h hcl cX hd2 af aC;obtain rfl:=aqu ho;replace aC:af=aj _ ρ [14] _:=aC;obtain⟨v14,iV⟩:=aqr.1 (hd2 14 (by show _∈[14];simp))
   obtain⟨a,c,e1,e2,hs⟩:=h;obtain rfl:=e1 v14 iV;simp only[aj,iV,Option.getD_some,aL,Act.put,aqv]at aC;subst aC;go_wp2
   exact⟨rfl,_,rfl,a,c,e1,fun v hv=>(aqu hv).symm,hs⟩
  case e16=>
   intro o ho ρ W2 h hcl vo hd2 af aC;obtain rfl:=aqu ho;replace aC:af=aj _ ρ [15] _:=aC;obtain⟨v15,cX⟩:=aqr.1 (hd2 15 (by show _∈[15];simp))
   obtain⟨a,c,e1,e2,hs⟩:=h;obtain rfl:=e2 v15 cX;rw[vo]at hs;simp only[aj,cX,Option.getD_some,aL,Act.put,aqv]at aC;subst aC;have hs:=hs.b1;have k0:=hs.k0;have f0:=hs.f0;have hs:=((((((hs.aI 0 (.int .u64 id)).aI 1 (.int .u64 word)).aI 2 (.int .i64 pg.az)).aI 3 (.slice a pg.sl.length c)).aI 4 (.string pg.hi)).aI 5 (.bool pg.la)).aI 6 (.int .u64 pg.ri);simp only[List.set_cons_zero,List.set_cons_succ]at hs;go_wp2
   exact⟨rfl,undef,rfl,a,c,e1,e2,hs.b1⟩
 case hQ=>
  intro ρ W2 h hall;obtain⟨v14,iV⟩:=aqr.1 (hall 14 (by simp))
  obtain⟨v15,cX⟩:=aqr.1 (hall 15 (by simp))
  obtain⟨v16,vo⟩:=aqr.1 (hall 16 (by simp))
  obtain⟨a,c,e1,e2,hs⟩:=h;obtain rfl:=e1 v14 iV;obtain rfl:=e2 v15 cX;rw[iV,vo]at hs;have hs:=hs.b1;simp only[aj,iV,cX,vo,Option.getD_some,aL,Act.put,aqv];clear iV cX vo e1 e2 hall;go_wp2
  refine bodyPost_ret (Mb _ _ b0 _ _ _ _ _ _ _ rfl hs.k0) rfl ⟨_,rfl,hs.tail⟩
end
end Go.Proofs.YtlpdhhhgckpcfaaGreat
