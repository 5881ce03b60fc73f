/- The machine post.Post: what makes i. -/
import Derived.Test.YtlpdhhhgckpcfaaGreatLock
import Derived.Test.YtlpdhhhgckpcfaaGreatCelSame
namespace Go.Proofs.YtlpdhhhgckpcfaaGreat
set_option linter.unusedSimpArgs false
set_option linter.unusedVariables false
open Go.RowKit
set_option maxHeartbeats 16000000
set_option maxRecDepth 100000
structure j8 where
 ak:Int
 sep:ByteArray
 ch:Int
 po:Bool
def bg (d:aR)(p:j8):List Value:=
 [.int .i64 d.th,.int .i64 d.sn,.int .i64 d.no,.int .i64 d.ch,.int .i64 d.re,.int .i64 d.fa,.int .u64 d.cl,.int .i64 p.ak,.string p.sep,.int .u64 p.ch,.bool p.po]
def jo (iY bB:Nat):Value:= .func (.func 142) #[] #[(.pointer (some ⟨iY,0,none⟩)),(.pointer (some ⟨bB,0,none⟩))]
def mg (bB ee:Nat):Value:= .func (.func 175) #[] #[(.pointer (some ⟨bB,0,none⟩)),(.pointer (some ⟨ee,0,none⟩))]
def y7 (bB eU:Nat):Value:= .func (.func 170) #[] #[(.pointer (some ⟨bB,0,none⟩)),(.pointer (some ⟨eU,0,none⟩))]
def y8 (xA bB fj jO:Nat):Value:= .func (.func 184) #[] #[(.pointer (some ⟨xA,0,none⟩)),(.pointer (some ⟨bB,0,none⟩)),(.pointer (some ⟨fj,0,none⟩)),(.pointer (some ⟨jO,0,none⟩))]
def sK (K:aL)(P REST:List aC)(T:TypeId)(z:Value)(i j k:Nat)(Φ:Value->List aC->Prop)(ρ:Nat->Option Value)(W:World):Prop:=
 ∃(b:Nat) (C:List aC),(∀v,ρ i=some v->Φ v C)/\(∀v,ρ j=some v->v=(.pointer (some ⟨b,0,none⟩))) /\
  St K W ((if (ρ i).isSome then C else P)++(dH (ρ j) (blk b (.cells #[if (ρ k).isSome then(ρ i).getD z else z] T))::REST))
section
variable {K:aL}{P REST:List aC}{T:TypeId}{z:Value}{i j k:Nat}{Φ:Value->List aC->Prop}{ρ:Nat->Option Value}{W:World}{v u:Value}
theorem sK.start (hs:St K W (P++REST)):sK K P REST T z i j k Φ (fun _=>none) W:=by
 refine⟨0,[],fun v h=>(by cases h),fun v h=>(by cases h),?_⟩
 exact(hs.empty).perm (List.perm_middle.symm)
theorem sK.same {W':World}(h:sK K P REST T z i j k Φ ρ W)(hb:Below W.heap.size W W'):sK K P REST T z i j k Φ ρ W' := by
 obtain⟨b,C,e1,e2,hs⟩:=h;exact⟨b,C,e1,e2,hs.same hb⟩
theorem sK.rest (h:sK K P REST T z i j k Φ ρ W):St K W REST:=by
 obtain⟨b,C,e1,e2,hs⟩:=h;exact(hs.right).tail
theorem sK.call (h:sK K P REST T z i j k Φ ρ W)(hij:i≠j)(hik:i≠k)(hi:ρ i=none)(hk:ρ k=none):∃X:List aC,St K W (P++(REST++X))/\∀v C W',Φ v C->St K W' (C++(REST++X))->sK K P REST T z i j k Φ (upd ρ i v) W' := by
 obtain⟨b,C0,e1,e2,hs⟩:=h;rw[hi,hk]at hs;have hs:St K W (P++(dH (ρ j) (blk b (.cells #[z] T))::REST)):=hs;refine⟨[dH (ρ j) (blk b (.cells #[z] T))],hs.perm (List.Perm.append_left P (by simpa using (List.perm_append_comm (l₁:=[dH (ρ j) (blk b (.cells #[z] T))]) (l₂:=REST)))),fun v C W' hΦ hs' => ⟨b,C,fun v' hv' =>?_,fun v' hv' => e2 v' (by rwa [upd_ne (Ne.symm hij)]at hv'),?_⟩⟩
 ·rw[cC]at hv'
  rw[←aq9 hv'];exact hΦ
 ·rw[cC,upd_ne (Ne.symm hij),upd_ne (Ne.symm hik),hk]
  exact hs'.perm (List.Perm.append_left C (by simp))
theorem sK.var (h:sK K P REST T z i j k Φ ρ W)(hij:i≠j)(hjk:j≠k)(hj:ρ j=none)(hk:ρ k=none):sK K P REST T z i j k Φ (upd ρ j (.pointer (some ⟨W.heap.size,0,none⟩))) (W.alloc (.cells #[z] T)):=by
 obtain⟨b,C0,e1,e2,hs⟩:=h;rw[hj,hk]at hs;refine⟨W.heap.size,C0,fun v hv=>e1 v (by rwa [upd_ne hij]at hv),fun v hv=>by rw[cC]at hv;exact(aq9 hv).symm,?_⟩
 rw[upd_ne hij,cC,upd_ne (Ne.symm hjk),hk];have h1:St K W ((if (ρ i).isSome then C0 else P)++(gN::REST)):=hs
 have h2:St K W (gN::((if (ρ i).isSome then C0 else P)++REST)):=h1.perm List.perm_middle
 have h3:=h2.tail.made (.cells #[z] T);exact h3.perm (List.perm_middle.symm)
theorem sK.store (h:sK K P REST T z i j k Φ ρ W)(hik:i≠k)(hjk:j≠k)(hi:ρ i=some v)(hj:ρ j=some u)(hk:ρ k=none):∃(b:Nat)(R':List aC),u=(.pointer (some ⟨b,0,none⟩))/\(∃C,Φ v C)/\St K W (blk b (.cells #[z] T)::R') /\
  ∀W',St K W' (blk b (.cells #[v] T)::R')->sK K P REST T z i j k Φ (upd ρ k undef) W' := by
 obtain⟨b,C0,e1,e2,hs⟩:=h;rw[hi,hj,hk]at hs;have h1:St K W (C0++(blk b (.cells #[z] T)::REST)):=hs;refine⟨b,C0++REST,e2 u hj,⟨C0,e1 v hi⟩,h1.perm List.perm_middle,fun W' hs' => ⟨b,C0,fun v' hv=>e1 v' (by rwa [upd_ne hik]at hv),fun v' hv=>e2 v' (by rwa [upd_ne hjk]at hv),?_⟩⟩
 rw[upd_ne hik,upd_ne hjk,cC,hi,hj];exact hs'.perm (List.perm_middle.symm)
theorem sK.last (h:sK K P REST T z i j k Φ ρ W)(hall:∀e,e∈[i,j,k]->(ρ e).isSome=true):∃(b:Nat)(v:Value)(C:List aC),ρ i=some v/\ρ j=some (.pointer (some ⟨b,0,none⟩))/\(∃x,ρ k=some x)/\Φ v C/\St K W (blk b (.cells #[v] T)::(C++REST)):=by
 obtain⟨v,hi⟩:=aq6.1 (hall i (by simp))
 obtain⟨u,hj⟩:=aq6.1 (hall j (by simp))
 obtain⟨x,hk⟩:=aq6.1 (hall k (by simp))
 obtain⟨b,C0,e1,e2,hs⟩:=h;rw[hi,hj,hk]at hs;have h1:St K W (C0++(blk b (.cells #[v] T)::REST)):=hs;exact⟨b,v,C0,hi,by rw[hj,e2 u hj],⟨x,hk⟩,e1 v hi,h1.perm List.perm_middle⟩
theorem St.mid {A C B F:List aC}(h:St K W (A++(C++(B++F)))):St K W (B++(A++(C++F))):=by
 refine h.perm ?_
 have h1:(A++(C++(B++F))).Perm ((A++C)++(B++F)):=by rw[List.append_assoc]
 refine h1.trans ?_
 have h2:((A++C)++(B++F)).Perm (((A++C)++B)++F):=by rw[←List.append_assoc]
 refine h2.trans ((List.Perm.append_right F List.perm_append_comm).trans ?_);rw[List.append_assoc,List.append_assoc]
end
section
variable {K:aL}{w:World}{F:List aC}{b:Nat}{d:aR}{p:j8}{nx:Value}{on:Bool}
def ajl (d:aR)(p:j8)(v:Value)(C:List aC):Prop:=∃bk,v=(.pointer (some ⟨bk,0,none⟩))/\lC d p.sep p.ak bk oA C
theorem mh (hs:St K w (blk b (.cells (nx :: .bool on::bg d p).toArray 167)::F)):Calls Tryz.prog 107 #[(.pointer (some ⟨b,0,none⟩))] w fun e w' => ∃b2 b3 b5 bk iY bB C,e=.returned (aW (some (aA b2 b3 b5)))/\lC d p.sep p.ak bk oA C /\
  St K w' (blk b (.cells (nx :: .bool on::bg d p).toArray 167)::bG b2 b3 b5 (.iface 37 (.pointer (some ⟨bk,0,none⟩))) (jo iY bB)::([blk iY (.cells #[(.pointer (some ⟨bk,0,none⟩))] 37),blk bB (.cells #[(.pointer (some ⟨b,0,none⟩))] 100)]++(C++F))):=by
 have hs:=hs.made (.cells #[(.pointer (some ⟨b,0,none⟩))] 100);go_enter Tryz.func107,Tryz.ntmps107
 go_upto_region 1 with(fail)
 obtain⟨bp,mS⟩:∃bp,bp=w.heap.size:=⟨_,rfl⟩;rw[←mS]at hs ⊢;clear mS;refine cP hs ?_
 clear hs;intro w1 hs;have Hs:=aq3 hs;clear hs;refine aT [false,false,false,false,false,false,false,false,false,false,false,false,true,true,true] [12,13,14] (fun|14=>[12,13] | _=>[])
  (oK K (blk bp (.cells #[(.pointer (some ⟨b,0,none⟩))] 100)::blk b (.cells (nx :: .bool on::bg d p).toArray 167)::F) 37 (.pointer none) 12 13 14 (ajl d p))
  (fun W=>St K W (blk bp (.cells #[(.pointer (some ⟨b,0,none⟩))] 100)::blk b (.cells (nx :: .bool on::bg d p).toArray 167)::F)) ?aSA (by kernel_rfl) ?hBA ?HA ?Ig ?h0A ?hIA ?hRA ?hEA ?hQA
 case hBA=>as_aux_lemma=>kernel_rfl
 case HA=>
  intro W2 hs;have k0:=hs.k0;have k1:=hs.k1;unfold bg at k1;clear hs;simp only[bL];repeat (go_big_quiet_step (fail))
  refine wpQuiet_nil ?_
  rfl
 case Ig=>rfl
 case h0A=>exact oK.start Hs.out
 case hIA=>exact fun ρ W2 h=>h.rest
 case hRA=>exact fun ρ W2 W3 h hb=>h.same hb
 case hEA=>
  refine⟨?e1A,?e2A,?e3A,trivial⟩;case e1A=>
   intro o ho ρ W2 h hcl eD hd2 dX aB;obtain rfl:=aq9 ho;replace aB:dX=aj _ ρ [] _:=aB;have gJ:ρ 14=none:=hcl.none (by simp) (show 12∈[12,13]by simp) eD
   obtain⟨X,hs,hnext⟩:=h.call (by omega) (by omega) eD gJ
   simp only[aj]at aB;subst aB;have Hn:=aq3 hnext;clear hnext hcl hd2 eD gJ h;go_wp2_with fail
   refine(Ie (d:=d) (key:=p.sep) (level:=p.ak) hs).mono ?_
   rintro e W3 ⟨bk,C,rfl,hr,hs'⟩;have eG:=aq3 hs';clear hs hs';go_wp2
   exact⟨rfl,_,rfl,Hn.out _ _ W3 ⟨bk,rfl,hr⟩ eG.out⟩
  case e2A=>
   intro o ho ρ W2 h hcl eo hd2 dX aB;obtain rfl:=aq9 ho;replace aB:dX=aj _ ρ [] _:=aB;have gJ:ρ 14=none:=hcl.none (by simp) (show 13∈[12,13]by simp) eo
   have Hn:=aq3 (h.var (by omega) (by omega) eo gJ)
   simp only[aj]at aB;subst aB;clear hcl hd2 eo gJ h;go_wp2
   exact⟨rfl,_,rfl,Hn.out⟩
  case e3A=>
   intro o ho ρ W2 h hcl gJ hd2 dX aB;obtain rfl:=aq9 ho;replace aB:dX=aj _ ρ [12,13] _:=aB;obtain⟨v12,eD⟩:=aq6.1 (hd2 12 (by show _∈[12,13];simp))
   obtain⟨v13,eo⟩:=aq6.1 (hd2 13 (by show _∈[12,13];simp))
   obtain⟨bv,R',rfl,⟨C,bk,rfl,_⟩,hs,hnext⟩:=h.store (by omega) (by omega) eD eo gJ
   simp only[aj,eD,eo,Option.getD_some,aM,Act.put,ara]at aB;subst aB;have k0:=hs.k0;have f0:=hs.f0;have fZ:Hid (St K _ (blk bv (.cells #[(.pointer (some ⟨bk,0,none⟩))] 37)::R')):=aq3 (hs.aI 0 (.pointer (some ⟨bk,0,none⟩)));have Hn:=aq3 hnext;clear hs hnext hcl hd2 h eD eo gJ;go_wp2
   exact⟨rfl,undef,rfl,Hn.out _ fZ.out⟩
 case hQA=>
 intro ρ W2 h hall;obtain⟨bv,v,C,eD,eo,⟨v14,gJ⟩,hΦ,hs⟩:=h.last hall;simp only[aj,eD,eo,gJ,Option.getD_some,aM,Act.put,ara];clear h hall eD eo gJ Hs;obtain⟨bk,rfl,hr⟩:=hΦ;have kv:=hs.k0;have Q:=aq3 (fG (T2:=37) (xv:=(.pointer (some ⟨bk,0,none⟩))) (f:=142) (tx:= #[]) (ty:= #[(.pointer (some ⟨bv,0,none⟩)),(.pointer (some ⟨bp,0,none⟩))]) hs);have Hr:=aq3 hr;clear hs hr;go_wp2_with fail
 refine(Q.out).mono ?_
 clear Q kv;rintro e w3 ⟨b2,b3,b5,rfl,hs⟩;have h1:St K w3 ([bG b2 b3 b5 (.iface 37 (.pointer (some ⟨bk,0,none⟩))) (jo bv bp),blk bv (.cells #[(.pointer (some ⟨bk,0,none⟩))] 37)]++(C++([blk bp (.cells #[(.pointer (some ⟨b,0,none⟩))] 100),blk b (.cells (nx :: .bool on::bg d p).toArray 167)]++F))):=hs;have h2:=h1.mid;have h3:St K w3 (blk bp (.cells #[(.pointer (some ⟨b,0,none⟩))] 100)::blk b (.cells (nx :: .bool on::bg d p).toArray 167)::bG b2 b3 b5 (.iface 37 (.pointer (some ⟨bk,0,none⟩))) (jo bv bp)::blk bv (.cells #[(.pointer (some ⟨bk,0,none⟩))] 37)::(C++F)):=h2;have Hs:=aq3 (h3.re [1,2,3,0] rfl);clear hs h1 h2 h3;simp only[aA,aW];go_wp2
 go_ret;exact⟨b2,b3,b5,bk,bv,bp,C,rfl,Hr.out,Hs.out⟩
theorem iR {h:cm}{va:Value}{f:Nat}{tx ty:Array Value}(hd:d.Ok)(hid:0<=h.id/\h.id<18446744073709551616)(hs:St K w (blk b (.cells (nx :: .bool on::bg d p).toArray 167)::F)) :
  Calls Tryz.prog 144 #[(.pointer (some ⟨b,0,none⟩)),(.agg #[.int .u64 (h).id,.int .u64 (h).word,.int .i64 (h).pg.ak,va,.string (h).pg.hi,.bool (h).pg.la,.int .u64 (h).pg.ri]),.func (.func f) tx ty] w fun e w' => ∃b2 b3 b5,e=.returned (aW (some (aA b2 b3 b5)))/\∃br bi bw,
  St K w' (blk b (.cells (nx :: .bool on::bg d p).toArray 167)::bG b2 b3 b5 (.iface 47 (.pointer (some ⟨br,0,none⟩))) (.func (.func f) tx ty)::(fe br bi bw (d.node h.id 0) h.word 0++F)):=by
 have hs:=hs.made (.cells #[.int .u64 (h).id,.int .u64 (h).word,.int .i64 (h).pg.ak,va,.string (h).pg.hi,.bool (h).pg.la,.int .u64 (h).pg.ri] 45);obtain⟨id,word,pg⟩:=h;simp only at hid hs;go_enter Tryz.func144,Tryz.ntmps144
 go_upto_region 1 with(fail)
 obtain⟨bh,hbh⟩:∃bh,bh=w.heap.size:=⟨_,rfl⟩;rw[←hbh]at hs ⊢;clear hbh;refine cP hs ?_
 clear hs;intro w1 hs;have Hs:=aq3 hs;clear hs;refine aT [false,false,false,false,false,false,false,false,false,true,true,false,true,true] [9,10,12,13] (fun|10=>[9] | 12=>[10] | 13=>[12] | _=>[])
  (GR K (blk bh (.cells #[.int .u64 ((⟨id,word,pg⟩:cm)).id,.int .u64 ((⟨id,word,pg⟩:cm)).word,.int .i64 ((⟨id,word,pg⟩:cm)).pg.ak,va,.string ((⟨id,word,pg⟩:cm)).pg.hi,.bool ((⟨id,word,pg⟩:cm)).pg.la,.int .u64 ((⟨id,word,pg⟩:cm)).pg.ri] 45)::blk b (.cells (nx :: .bool on::bg d p).toArray 167)::F) [9,10,12,13] (mM 47 (.func (.func f) tx ty) (Zx (d.node id 0) word) 9 10 12 13))
  (fun W=>St K W (blk bh (.cells #[.int .u64 ((⟨id,word,pg⟩:cm)).id,.int .u64 ((⟨id,word,pg⟩:cm)).word,.int .i64 ((⟨id,word,pg⟩:cm)).pg.ak,va,.string ((⟨id,word,pg⟩:cm)).pg.hi,.bool ((⟨id,word,pg⟩:cm)).pg.la,.int .u64 ((⟨id,word,pg⟩:cm)).pg.ri] 45)::blk b (.cells (nx :: .bool on::bg d p).toArray 167)::F)) ?aSB (by kernel_rfl) ?hBB ?HB ?Tc ?h0B ?hIB ?hRB ?hEB ?hQB
 case hBB=>as_aux_lemma=>kernel_rfl
 case HB=>
  intro W2 hs;have k0:=hs.k0;have k1:=hs.k1;unfold bg at k1;have Ql:=aq3 (fun w=>iw d hd id hid.1 hid.2 w)
  clear hs;simp only[bL];repeat (go_big_quiet_step ((go_at_call 69;exact aX (Ql.out _))))
  refine wpQuiet_nil ?_
  rfl
 case Tc=>rfl
 case h0B=>exact GR.start Hs.out
 case hIB=>exact fun ρ W2 h=>h.rest
 case hRB=>exact fun ρ W2 W3 h hb=>h.same hb
 case hEB=>
  refine⟨?e1B,?e2B,?e3B,?e4B,trivial⟩;case e1B=>
   intro o ho ρ W2 h hcl pq hd2 dX aB;obtain rfl:=aq9 ho;replace aB:dX=aj _ ρ [] _:=aB;obtain⟨C,R',hx1,hs,hnext⟩:=h.step mM.mono 9 [] (by decide) (by decide) (by decide) pq (by simp)
   simp only[aj]at aB;subst aB;have Hn:=aq3 hnext;clear hnext hx1 h hcl hd2 pq;have Q:=aq3 (kJ (i:=d.node id 0) (word:=word) hs);clear hs;go_wp2_with fail
   refine(Q.out).mono ?_
   rintro e W3 ⟨br,bi,bw,rfl,hs'⟩;have eG:=aq3 hs';clear hs' Q;go_wp2
   exact⟨rfl,_,rfl,Hn.out _ _ W3 ⟨br,bi,bw,rfl,rfl⟩ eG.out⟩
  case e2B=>
   intro o ho ρ W2 h hcl kO hd2 dX aB;obtain rfl:=aq9 ho;replace aB:dX=aj _ ρ [9] _:=aB;obtain⟨v9,pq⟩:=aq6.1 (hd2 9 (by show _∈[9];simp))
   simp only[aj,pq,Option.getD_some,aM,Act.put,ara]at aB;subst aB;have H:=aq3 (h.jT mM.mono 10 (by decide) (by simp) kO (.iface 47 v9) ⟨⟨v9,iL kO pq,rfl⟩,rfl⟩)
   clear h hcl hd2 kO pq;go_wp2
   exact⟨rfl,_,rfl,H.out⟩
  case e3B=>
   intro o ho ρ W2 h hcl eD hd2 dX aB;obtain rfl:=aq9 ho;replace aB:dX=aj _ ρ [10] _:=aB;obtain⟨v10,kO⟩:=aq6.1 (hd2 10 (by show _∈[10];simp))
   obtain⟨Zz,R8,⟨⟨u1,hu1,rfl⟩,_⟩,_⟩:=h.at 10 (by simp) kO
   obtain⟨C,R',hx1,hs,hnext⟩:=h.step mM.mono 12 [] (by decide) (by decide) (by decide) eD (by simp)
   simp only[aj,kO,Option.getD_some,aM,Act.put,ara]at aB;subst aB;have hu2:∀v,upd ρ 12 v 9=some u1:=fun v=>iL eD hu1
   have Hn:=aq3 hnext;have Hu:=aq3 hu2;clear hnext hx1 h hcl hd2 kO eD hu1 hu2;have Q:=aq3 (fG (T2:=47) (xv:=u1) (f:=f) (tx:=tx) (ty:=ty) hs);clear hs;go_wp2_with fail
   refine(Q.out).mono ?_
   rintro e W3 ⟨b2,b3,b5,rfl,hs'⟩;have eG:=aq3 hs';clear hs' Q;simp only[aA,aW];go_wp2
   exact⟨rfl,_,rfl,Hn.out _ [_] W3 ⟨u1,b2,b3,b5,Hu.out _,rfl,rfl⟩ eG.out⟩
  case e4B=>
   intro o ho ρ W2 h hcl eo hd2 dX aB;obtain rfl:=aq9 ho;replace aB:dX=aj _ ρ [12] _:=aB;obtain⟨v12,eD⟩:=aq6.1 (hd2 12 (by show _∈[12];simp))
   obtain⟨Zz,R8,⟨u1,b2,b3,b5,hu1,rfl,_⟩,_⟩:=h.at 12 (by simp) eD
   simp only[aj,eD,Option.getD_some,aM,Act.put,ara]at aB;subst aB;have H:=aq3 (h.jT mM.mono 13 (by decide) (by simp) eo (aW (some (aA b2 b3 b5))) ⟨⟨b2,b3,b5,rfl,iL eo eD⟩,rfl⟩)
   clear h hcl hd2 eD eo hu1;simp only[aA,aW]at H ⊢;go_wp2
   exact⟨rfl,_,rfl,H.out⟩
 case hQB=>
 intro ρ W2 h hall;obtain⟨u1,b2,b3,b5,C,hΦ,pq,kO,eD,eo,hs⟩:=mM.last (by decide) h hall
 simp only[aj,pq,kO,eD,eo,Option.getD_some,aM,Act.put,ara];clear h hall pq kO eD eo Hs;obtain⟨br,bi,bw,rfl,rfl⟩:=hΦ;have Hs:=aq3 hs;clear hs;simp only[aA,aW];go_wp2
 go_ret;refine⟨b2,b3,b5,rfl,br,bi,bw,?_⟩;have hs:St K W2 (bG b2 b3 b5 _ _::blk br _::blk bi _::blk bw _::blk bh _::blk b (.cells (nx :: .bool on::bg d p).toArray 167)::F):=Hs.out;exact(hs.re [4,5,0,1,2,3] rfl).tail
theorem mi (x:Bool)(hs:St K w (blk b (.cells (nx :: .bool on::bg d p).toArray 167)::F)):Calls Tryz.prog 146 #[(.pointer (some ⟨b,0,none⟩)),.bool x] w fun e w' => e=.returned .nilFunc/\St K w' (blk b (.cells (nx :: .bool on::bg d (⟨p.ak,p.sep,p.ch,x⟩:j8)).toArray 167)::F):=by
 have k0:=hs.k0;have f0:=hs.f0;unfold bg at k0;have Hs:Hid (St K _ (blk b (.cells (nx :: .bool on::bg d (⟨p.ak,p.sep,p.ch,x⟩:j8)).toArray 167)::F)):=aq3 (hs.aI 12 (.bool x));clear hs;go_enter Tryz.func146,Tryz.ntmps146
 go_wp2
 go_ret;exact⟨rfl,Hs.out⟩
end
def ajm (d:aR)(fr:cm)(fu:Pg)(v:Value)(C:List aC):Prop:=∃(bi:Nat) (s:fT),v=(.pointer (some ⟨bi,0,none⟩))/\pz d fr fu s/\kP d fr fu bi s C
section
variable {K:aL}{w:World}{F:List aC}{b:Nat}{d:aR}{p:j8}{nx:Value}{on:Bool}
theorem vY {fr:cm}{fu:Pg}{af:Option Addr}{cf:Nat}(hd:d.Ok)(hfr:fr.Ok d)(he:fu=aZ fr.pg p.sep p.ch)(hno:decide (gD fr.pg.sl p.sep<iE fr.pg.sl p.sep)=false)(dJ:kV fr.pg.sl)(lA:lB d fr fu)(hs:St K w (blk b (.cells (nx :: .bool on::bg d p).toArray 167)::bu (.slice af fr.pg.sl.length cf) fr.pg::F)) :
  Calls Tryz.prog 147 #[(.pointer (some ⟨b,0,none⟩)),(.agg #[.int .u64 (fr).id,.int .u64 (fr).word,.int .i64 (fr).pg.ak,(.slice af fr.pg.sl.length cf),.string (fr).pg.hi,.bool (fr).pg.la,.int .u64 (fr).pg.ri])] w fun e w' => ∃b2 b3 b5 bi bB ee s C,e=.returned (aW (some (aA b2 b3 b5)))/\pz d fr fu s/\kP d fr fu bi s C /\
  St K w' (blk b (.cells (nx :: .bool on::bg d p).toArray 167)::bG b2 b3 b5 (.iface 82 (.pointer (some ⟨bi,0,none⟩))) (mg bB ee)::([blk bB (.cells #[(.pointer (some ⟨b,0,none⟩))] 100),blk ee (.cells #[(.pointer (some ⟨bi,0,none⟩))] 82)]++(C++F))):=by
 have hs:=(hs.made (.cells #[(.pointer (some ⟨b,0,none⟩))] 100)).made (.cells #[.int .u64 (fr).id,.int .u64 (fr).word,.int .i64 (fr).pg.ak,(.slice af fr.pg.sl.length cf),.string (fr).pg.hi,.bool (fr).pg.la,.int .u64 (fr).pg.ri] 45);simp only[World.size_alloc]at hs;have q:=fun(W:World) (R:List aC) (h:St K W (bu (.slice af fr.pg.sl.length cf) fr.pg::R))=>Cw (key:=p.sep) (ref:=p.ch) hd hfr he hno dJ lA h
 have Qi:=aq3 q;clear q he hno dJ lA;go_enter Tryz.func147,Tryz.ntmps147
 go_upto_region 1 with(fail)
 obtain⟨bp,mS⟩:∃bp,bp=w.heap.size:=⟨_,rfl⟩;rw[←mS]at hs ⊢;clear mS;refine cP hs ?_
 clear hs;intro w1 hs;have hs:St K w1 ([bu (.slice af fr.pg.sl.length cf) fr.pg]++(blk (bp+1) (.cells #[.int .u64 (fr).id,.int .u64 (fr).word,.int .i64 (fr).pg.ak,(.slice af fr.pg.sl.length cf),.string (fr).pg.hi,.bool (fr).pg.la,.int .u64 (fr).pg.ri] 45)::blk bp (.cells #[(.pointer (some ⟨b,0,none⟩))] 100)::blk b (.cells (nx :: .bool on::bg d p).toArray 167)::F)):=(show St K w1 (_::_::_::bu (.slice af fr.pg.sl.length cf) fr.pg::F)from hs).b3
 have Hs:=aq3 hs;clear hs;refine aT [false,false,false,false,false,false,false,false,false,false,false,false,false,true,true,true] [13,14,15] (fun|15=>[13,14] | _=>[])
  (sK K ([bu (.slice af fr.pg.sl.length cf) fr.pg]) (blk (bp+1) (.cells #[.int .u64 (fr).id,.int .u64 (fr).word,.int .i64 (fr).pg.ak,(.slice af fr.pg.sl.length cf),.string (fr).pg.hi,.bool (fr).pg.la,.int .u64 (fr).pg.ri] 45)::blk bp (.cells #[(.pointer (some ⟨b,0,none⟩))] 100)::blk b (.cells (nx :: .bool on::bg d p).toArray 167)::F) 82 (.pointer none) 13 14 15 (ajm d fr fu))
  (fun W=>St K W (blk (bp+1) (.cells #[.int .u64 (fr).id,.int .u64 (fr).word,.int .i64 (fr).pg.ak,(.slice af fr.pg.sl.length cf),.string (fr).pg.hi,.bool (fr).pg.la,.int .u64 (fr).pg.ri] 45)::blk bp (.cells #[(.pointer (some ⟨b,0,none⟩))] 100)::blk b (.cells (nx :: .bool on::bg d p).toArray 167)::F)) ?aSC (by kernel_rfl) ?hBC ?HC ?abD ?h0C ?hIC ?hRC ?hEC ?hQC
 case hBC=>as_aux_lemma=>kernel_rfl
 case HC=>
  intro W2 hs;have k0:=hs.k0;have k1:=hs.k1;have k2:=hs.k2;unfold bg at k2;clear hs;simp only[bL];repeat (go_big_quiet_step (fail))
  refine wpQuiet_nil ?_
  rfl
 case abD=>rfl
 case h0C=>exact sK.start Hs.out
 case hIC=>exact fun ρ W2 h=>h.rest
 case hRC=>exact fun ρ W2 W3 h hb=>h.same hb
 case hEC=>
  refine⟨?e1C,?e2C,?e3C,trivial⟩;case e1C=>
   intro o ho ρ W2 h hcl eo hd2 dX aB;obtain rfl:=aq9 ho;replace aB:dX=aj _ ρ [] _:=aB;have uR:ρ 15=none:=hcl.none (by simp) (show 13∈[13,14]by simp) eo
   obtain⟨X,hs,hnext⟩:=h.call (by omega) (by omega) eo uR
   simp only[aj]at aB;subst aB;have Hn:=aq3 hnext;clear hnext hcl hd2 eo uR h;go_wp2_with fail
   refine(Qi.out _ _ hs).mono ?_
   rintro e W3 ⟨bi,s,C,rfl,hb,hr,hs'⟩;have eG:=aq3 hs';clear hs hs';go_wp2
   exact⟨rfl,_,rfl,Hn.out _ _ W3 ⟨bi,s,rfl,hb,hr⟩ eG.out⟩
  case e2C=>
   intro o ho ρ W2 h hcl gJ hd2 dX aB;obtain rfl:=aq9 ho;replace aB:dX=aj _ ρ [] _:=aB;have uR:ρ 15=none:=hcl.none (by simp) (show 14∈[13,14]by simp) gJ
   have Hn:=aq3 (h.var (by omega) (by omega) gJ uR)
   simp only[aj]at aB;subst aB;clear hcl hd2 gJ uR h;go_wp2
   exact⟨rfl,_,rfl,Hn.out⟩
  case e3C=>
   intro o ho ρ W2 h hcl uR hd2 dX aB;obtain rfl:=aq9 ho;replace aB:dX=aj _ ρ [13,14] _:=aB;obtain⟨v13,eo⟩:=aq6.1 (hd2 13 (by show _∈[13,14];simp))
   obtain⟨v14,gJ⟩:=aq6.1 (hd2 14 (by show _∈[13,14];simp))
   obtain⟨bv,R',rfl,⟨C,bi,s,rfl,_⟩,hs,hnext⟩:=h.store (by omega) (by omega) eo gJ uR
   simp only[aj,eo,gJ,Option.getD_some,aM,Act.put,ara]at aB;subst aB;have k0:=hs.k0;have f0:=hs.f0;have fZ:Hid (St K _ (blk bv (.cells #[(.pointer (some ⟨bi,0,none⟩))] 82)::R')):=aq3 (hs.aI 0 (.pointer (some ⟨bi,0,none⟩)));have Hn:=aq3 hnext;clear hs hnext hcl hd2 h eo gJ uR;go_wp2
   exact⟨rfl,undef,rfl,Hn.out _ fZ.out⟩
 case hQC=>
 intro ρ W2 h hall;obtain⟨bv,v,C,eo,gJ,⟨v15,uR⟩,hΦ,hs⟩:=h.last hall;simp only[aj,eo,gJ,uR,Option.getD_some,aM,Act.put,ara];clear h hall eo gJ uR Hs;obtain⟨bi,s,rfl,hb,hr⟩:=hΦ;have kv:=hs.k0;have Q:=aq3 (fG (T2:=82) (xv:=(.pointer (some ⟨bi,0,none⟩))) (f:=175) (tx:= #[]) (ty:= #[(.pointer (some ⟨bp,0,none⟩)),(.pointer (some ⟨bv,0,none⟩))]) hs);have Hr:=aq3 hr;have Hb:=aq3 hb;clear hs hr hb Qi;go_wp2_with fail
 refine(Q.out).mono ?_
 clear Q kv;rintro e w3 ⟨b2,b3,b5,rfl,hs⟩;have h1:St K w3 ([bG b2 b3 b5 (.iface 82 (.pointer (some ⟨bi,0,none⟩))) (mg bp bv),blk bv (.cells #[(.pointer (some ⟨bi,0,none⟩))] 82)]++(C++([blk (bp+1) (.cells #[.int .u64 (fr).id,.int .u64 (fr).word,.int .i64 (fr).pg.ak,(.slice af fr.pg.sl.length cf),.string (fr).pg.hi,.bool (fr).pg.la,.int .u64 (fr).pg.ri] 45),blk bp (.cells #[(.pointer (some ⟨b,0,none⟩))] 100),blk b (.cells (nx :: .bool on::bg d p).toArray 167)]++F))):=hs;have h2:=h1.mid;have h3:St K w3 (blk (bp+1) (.cells #[.int .u64 (fr).id,.int .u64 (fr).word,.int .i64 (fr).pg.ak,(.slice af fr.pg.sl.length cf),.string (fr).pg.hi,.bool (fr).pg.la,.int .u64 (fr).pg.ri] 45)::blk bp (.cells #[(.pointer (some ⟨b,0,none⟩))] 100)::blk b (.cells (nx :: .bool on::bg d p).toArray 167)::bG b2 b3 b5 (.iface 82 (.pointer (some ⟨bi,0,none⟩))) (mg bp bv)::blk bv (.cells #[(.pointer (some ⟨bi,0,none⟩))] 82)::(C++F)):=h2;have Hs:=aq3 (h3.tail.re [1,2,0,3] rfl);clear hs h1 h2 h3;simp only[aA,aW];go_wp2
 go_ret;exact⟨b2,b3,b5,bi,bp,bv,s,C,rfl,Hb.out,Hr.out,Hs.out⟩
theorem Dg (hs:St K w (blk b (.cells (nx :: .bool on::bg d p).toArray 167)::F)):Calls Tryz.prog 143 #[(.pointer (some ⟨b,0,none⟩))] w fun e w' => ∃b2 b3 b5,e=.returned (aW (some (aA b2 b3 b5)))/\∃ba bB eU,
  St K w' (blk b (.cells (nx :: .bool on::bg d p).toArray 167)::bG b2 b3 b5 (.iface 175 (.pointer (some ⟨ba,0,none⟩))) (y7 bB eU)::([blk bB (.cells #[(.pointer (some ⟨b,0,none⟩))] 100),blk eU (.cells #[(.pointer (some ⟨ba,0,none⟩))] 175)]++(fS ba 7 mL::F))):=by
 have hs:=hs.made (.cells #[(.pointer (some ⟨b,0,none⟩))] 100);have Qg:=aq3 (fun w=>zQ d w)
 go_enter Tryz.func143,Tryz.ntmps143
 go_upto_region 1 with(fail)
 obtain⟨bp,mS⟩:∃bp,bp=w.heap.size:=⟨_,rfl⟩;rw[←mS]at hs ⊢;clear mS;refine cP hs ?_
 clear hs;intro w1 hs;have k0:=hs.k0;have k1:=hs.k1;unfold bg at k1;go_wp2_with fail
 refine(bH hs (Qg.out _)).mono ?_
 clear hs k0 k1;rintro e w2 ⟨rfl,hs⟩;have Q:=aq3 (oJ (i:=7) hs);clear hs;go_wp2_with fail
 refine(Q.out).mono ?_
 clear Q;rintro e w3 ⟨ba,rfl,hs⟩;have hs:=hs.made (.cells #[(.pointer (some ⟨ba,0,none⟩))] 175);obtain⟨bv,nS⟩:∃bv,bv=w3.heap.size:=⟨_,rfl⟩;rw[←nS]at hs;go_upto_region 2 with(fail)
 rw[←nS];clear nS;refine cP hs ?_
 clear hs;intro w4 hs;have kv:=hs.k0;have Q:=aq3 (fG (T2:=175) (xv:=(.pointer (some ⟨ba,0,none⟩))) (f:=170) (tx:= #[]) (ty:= #[(.pointer (some ⟨bp,0,none⟩)),(.pointer (some ⟨bv,0,none⟩))]) hs);clear hs;go_wp2_with fail
 refine(Q.out).mono ?_
 clear Q kv;rintro e w5 ⟨b2,b3,b5,rfl,hs⟩;have Hs:=aq3 (hs.re [4,0,3,1,2] rfl);clear hs;simp only[aA,aW];go_wp2
 go_ret;exact⟨b2,b3,b5,rfl,ba,bp,bv,Hs.out⟩
theorem mj {word:Int}{f:Nat}{tx ty:Array Value}(hs:St K w (blk b (.cells (nx :: .bool on::bg d p).toArray 167)::F)):Calls Tryz.prog 173 #[(.pointer (some ⟨b,0,none⟩)),.int .u64 word,.func (.func f) tx ty] w fun e w' => ∃b2 b3 b5,e=.returned (aW (some (aA b2 b3 b5)))/\∃br bi bw,
  St K w' (blk b (.cells (nx :: .bool on::bg d p).toArray 167)::bG b2 b3 b5 (.iface 47 (.pointer (some ⟨br,0,none⟩))) (.func (.func f) tx ty)::(fe br bi bw 7 word 0++F)):=by
 have Qg:=aq3 (fun w=>zQ d w)
 have k0:=hs.k0;unfold bg at k0;go_enter Tryz.func173,Tryz.ntmps173
 go_wp2_with fail
 refine(bH hs (Qg.out _)).mono ?_
 clear hs k0;rintro e w2 ⟨rfl,hs⟩;have Q:=aq3 (kJ (i:=7) (word:=word) hs);clear hs;go_wp2_with fail
 refine(Q.out).mono ?_
 clear Q;rintro e w3 ⟨br,bi,bw,rfl,hs⟩;have Q:=aq3 (fG (T2:=47) (xv:=(.pointer (some ⟨br,0,none⟩))) (f:=f) (tx:=tx) (ty:=ty) hs);clear hs;go_wp2_with fail
 refine(Q.out).mono ?_
 clear Q;rintro e w5 ⟨b2,b3,b5,rfl,hs⟩;have Hs:=aq3 ((show St K w5 (_::_::_::_::blk b (.cells (nx :: .bool on::bg d p).toArray 167)::F)from hs).re [4,0,1,2,3] rfl)
 clear hs;simp only[aA,aW];go_wp2
 go_ret;exact⟨b2,b3,b5,rfl,br,bi,bw,Hs.out⟩
end
section
variable {K:aL}{w:World}{F:List aC}{b:Nat}{d:aR}{p:j8}{nx:Value}{on:Bool}
def ajn (lim:Int)(v:Value)(C:List aC):Prop:=∃bt,v=(.pointer (some ⟨bt,0,none⟩))/\C=[gL bt 4 lim ⟨0,0,false⟩]
theorem y9 {root word:Int}(hd:d.Ok)(hs:St K w (blk b (.cells (nx :: .bool on::bg d p).toArray 167)::F)):Calls Tryz.prog 174 #[(.pointer (some ⟨b,0,none⟩)),.int .u64 root,.int .u64 word] w fun e w' => ∃b2 b3 b5,e=.returned (aW (some (aA b2 b3 b5)))/\∃bt xA bB fj jO,
  St K w' (blk b (.cells (nx :: .bool on::bg d p).toArray 167)::bG b2 b3 b5 (.iface 156 (.pointer (some ⟨bt,0,none⟩))) (y8 xA bB fj jO)::([blk xA (.cells #[(.pointer (some ⟨bt,0,none⟩))] 156),blk bB (.cells #[(.pointer (some ⟨b,0,none⟩))] 100),blk fj (.cells #[.int .u64 word] 23),blk jO (.cells #[.int .u64 root] 23)]++(gL bt 4 d.no ⟨0,0,false⟩::F))):=by
 have hs:=((hs.made (.cells #[(.pointer (some ⟨b,0,none⟩))] 100)).made (.cells #[.int .u64 root] 23)).made (.cells #[.int .u64 word] 23);simp only[World.size_alloc]at hs;have Xv:=hd.Jo;have iX:=hd.mJ;have Qn:=aq3 (fun w=>qW d w)
 have Qc:=aq3 (fun w=>lR d w)
 have hw:IntKind.u64.wrap d.no=d.no:=by rw[IntKind.wrap_u64];omega
 go_enter Tryz.func174,Tryz.ntmps174
 go_upto_region 1 with(fail)
 obtain⟨bp,mS⟩:∃bp,bp=w.heap.size:=⟨_,rfl⟩;rw[←mS]at hs ⊢;clear mS Xv iX;refine cP hs ?_
 clear hs;intro w1 hs;have Hs:=aq3 hs;clear hs;refine aT [false,false,false,false,false,false,false,false,false,false,false,false,true,true,true] [12,13,14] (fun|14=>[12,13] | _=>[])
  (oK K (blk (bp+1+1) (.cells #[.int .u64 word] 23)::blk (bp+1) (.cells #[.int .u64 root] 23)::blk bp (.cells #[(.pointer (some ⟨b,0,none⟩))] 100)::blk b (.cells (nx :: .bool on::bg d p).toArray 167)::F) 156 (.pointer none) 12 13 14 (ajn d.no))
  (fun W=>St K W (blk (bp+1+1) (.cells #[.int .u64 word] 23)::blk (bp+1) (.cells #[.int .u64 root] 23)::blk bp (.cells #[(.pointer (some ⟨b,0,none⟩))] 100)::blk b (.cells (nx :: .bool on::bg d p).toArray 167)::F)) ?aSD (by kernel_rfl) ?hBD ?HD ?abF ?h0D ?hID ?hRD ?hED ?hQD
 case hBD=>as_aux_lemma=>kernel_rfl
 case HD=>
  intro W2 hs;have k0:=hs.k0;have k1:=hs.k1;have k2:=hs.k2;have k3:=hs.b3.k0;unfold bg at k3;have aiB:=uD d;clear hs;simp only[bL];repeat (go_big_quiet_step (first|(go_at_call 99;exact aX (Qn.out _))|(go_at_call 96;exact aX (Qc.out _))))
  refine wpQuiet_nil ?_
  rfl
 case abF=>rfl
 case h0D=>exact oK.start Hs.out
 case hID=>exact fun ρ W2 h=>h.rest
 case hRD=>exact fun ρ W2 W3 h hb=>h.same hb
 case hED=>
  refine⟨?e1D,?e2D,?e3D,trivial⟩;case e1D=>
   intro o ho ρ W2 h hcl eD hd2 dX aB;obtain rfl:=aq9 ho;replace aB:dX=aj _ ρ [] _:=aB;have gJ:ρ 14=none:=hcl.none (by simp) (show 12∈[12,13]by simp) eD
   obtain⟨X,hs,hnext⟩:=h.call (by omega) (by omega) eD gJ
   simp only[aj]at aB;subst aB;have Hn:=aq3 hnext;clear hnext hcl hd2 eD gJ h;go_wp2_with fail
   refine(uz (i:=4) (lim:=d.no) hs).mono ?_
   rintro e W3 ⟨bt,rfl,hs'⟩;have eG:=aq3 hs';clear hs hs';go_wp2
   exact⟨rfl,_,rfl,Hn.out _ _ W3 ⟨bt,rfl,rfl⟩ eG.out⟩
  case e2D=>
   intro o ho ρ W2 h hcl eo hd2 dX aB;obtain rfl:=aq9 ho;replace aB:dX=aj _ ρ [] _:=aB;have gJ:ρ 14=none:=hcl.none (by simp) (show 13∈[12,13]by simp) eo
   have Hn:=aq3 (h.var (by omega) (by omega) eo gJ)
   simp only[aj]at aB;subst aB;clear hcl hd2 eo gJ h;go_wp2
   exact⟨rfl,_,rfl,Hn.out⟩
  case e3D=>
   intro o ho ρ W2 h hcl gJ hd2 dX aB;obtain rfl:=aq9 ho;replace aB:dX=aj _ ρ [12,13] _:=aB;obtain⟨v12,eD⟩:=aq6.1 (hd2 12 (by show _∈[12,13];simp))
   obtain⟨v13,eo⟩:=aq6.1 (hd2 13 (by show _∈[12,13];simp))
   obtain⟨bv,R',rfl,⟨C,bt,rfl,_⟩,hs,hnext⟩:=h.store (by omega) (by omega) eD eo gJ
   simp only[aj,eD,eo,Option.getD_some,aM,Act.put,ara]at aB;subst aB;have k0:=hs.k0;have f0:=hs.f0;have fZ:Hid (St K _ (blk bv (.cells #[(.pointer (some ⟨bt,0,none⟩))] 156)::R')):=aq3 (hs.aI 0 (.pointer (some ⟨bt,0,none⟩)));have Hn:=aq3 hnext;clear hs hnext hcl hd2 h eD eo gJ;go_wp2
   exact⟨rfl,undef,rfl,Hn.out _ fZ.out⟩
 case hQD=>
 intro ρ W2 h hall;obtain⟨bv,v,C,eD,eo,⟨v14,gJ⟩,hΦ,hs⟩:=h.last hall;simp only[aj,eD,eo,gJ,Option.getD_some,aM,Act.put,ara];clear h hall eD eo gJ Hs;obtain⟨bt,rfl,rfl⟩:=hΦ;have kv:=hs.k0;have Q:=aq3 (fG (T2:=156) (xv:=(.pointer (some ⟨bt,0,none⟩))) (f:=184) (tx:= #[]) (ty:= #[(.pointer (some ⟨bv,0,none⟩)),(.pointer (some ⟨bp,0,none⟩)),(.pointer (some ⟨(bp+1+1),0,none⟩)),(.pointer (some ⟨(bp+1),0,none⟩))]) hs);clear hs;go_wp2_with fail
 refine(Q.out).mono ?_
 clear Q kv;rintro e w3 ⟨b2,b3,b5,rfl,hs⟩;have Hs:=aq3 ((show St K w3 (_::_::_::_::_::_::blk b (.cells (nx :: .bool on::bg d p).toArray 167)::F)from hs).re [6,0,1,5,3,4,2] rfl)
 clear hs;simp only[aA,aW];go_wp2
 go_ret;exact⟨b2,b3,b5,rfl,bt,bv,bp,bp+1+1,bp+1,Hs.out⟩
theorem sM {bB:Nat}(hs:St K w (blk b (.cells (nx :: .bool on::bg d p).toArray 167)::blk bB (.cells #[(.pointer (some ⟨b,0,none⟩))] 100)::F)):Calls Tryz.prog 145 #[(.pointer (some ⟨bB,0,none⟩))] w fun e w' => e=.returned .nilFunc/\St K w' (blk b (.cells (nx :: .bool on::bg d (⟨p.ak,p.sep,p.ch,true⟩:j8)).toArray 167)::blk bB (.cells #[(.pointer (some ⟨b,0,none⟩))] 100)::F):=by
 have kv:=hs.k1;have Q:=aq3 (mi true hs);clear hs;go_enter Tryz.func145,Tryz.ntmps145
 go_wp2_with fail
 refine(Q.out).mono ?_
 clear Q kv;rintro e w1 ⟨rfl,hs⟩;have Hs:=aq3 hs;clear hs;go_wp2
 go_ret;exact⟨rfl,Hs.out⟩
theorem sN {bB:Nat}(hs:St K w (blk b (.cells (nx :: .bool on::bg d p).toArray 167)::blk bB (.cells #[(.pointer (some ⟨b,0,none⟩))] 100)::F)):Calls Tryz.prog 185 #[(.pointer (some ⟨bB,0,none⟩))] w fun e w' => e=.returned .nilFunc/\St K w' (blk b (.cells (nx :: .bool on::bg d (⟨p.ak,p.sep,p.ch,false⟩:j8)).toArray 167)::blk bB (.cells #[(.pointer (some ⟨b,0,none⟩))] 100)::F):=by
 have kv:=hs.k1;have Q:=aq3 (mi false hs);clear hs;go_enter Tryz.func185,Tryz.ntmps185
 go_wp2_with fail
 refine(Q.out).mono ?_
 clear Q kv;rintro e w1 ⟨rfl,hs⟩;have Hs:=aq3 hs;clear hs;go_wp2
 go_ret;exact⟨rfl,Hs.out⟩
def Kw (bB:Nat):Value:= .func (.func 145) #[] #[(.pointer (some ⟨bB,0,none⟩))]
def aeA (K:aL)(b:Nat)(nx:Value)(on:Bool)(d:aR)(p:j8)(h:cm)(F:List aC)(e:Ending)(w':World):Prop:=
 (h.id=0/\∃b2 b3 b5 ba bB eU,e=.returned (aW (some (aA b2 b3 b5))) /\
  St K w' (blk b (.cells (nx :: .bool on::bg d p).toArray 167)::bG b2 b3 b5 (.iface 175 (.pointer (some ⟨ba,0,none⟩))) (y7 bB eU)::([blk bB (.cells #[(.pointer (some ⟨b,0,none⟩))] 100),blk eU (.cells #[(.pointer (some ⟨ba,0,none⟩))] 175)]++(fS ba 7 mL::F)))) \/
 (h.id≠0/\gD h.pg.sl p.sep<iE h.pg.sl p.sep/\∃b2 b3 b5 br bi bw bB,e=.returned (aW (some (aA b2 b3 b5))) /\
  St K w' (blk b (.cells (nx :: .bool on::bg d p).toArray 167)::bG b2 b3 b5 (.iface 47 (.pointer (some ⟨br,0,none⟩))) (Kw bB)::([blk bB (.cells #[(.pointer (some ⟨b,0,none⟩))] 100)]++(fe br bi bw (d.node h.id 0) h.word 0++F)))) \/
 (h.id≠0/\¬ gD h.pg.sl p.sep<iE h.pg.sl p.sep/\∃b2 b3 b5 bi bB ee s C,e=.returned (aW (some (aA b2 b3 b5)))/\pz d h (aZ h.pg p.sep p.ch) s/\kP d h (aZ h.pg p.sep p.ch) bi s C /\
  St K w' (blk b (.cells (nx :: .bool on::bg d p).toArray 167)::bG b2 b3 b5 (.iface 82 (.pointer (some ⟨bi,0,none⟩))) (mg bB ee)::([blk bB (.cells #[(.pointer (some ⟨b,0,none⟩))] 100),blk ee (.cells #[(.pointer (some ⟨bi,0,none⟩))] 82)]++(C++F))))
theorem uS {bk iY bB:Nat}{nl:Value}{h:cm}{a:Option Addr}{c:Nat}(hd:d.Ok)(hn:h.pg.sl.length<=1000000)(hok:h.id≠0->h.Ok d/\kV h.pg.sl/\(¬ gD h.pg.sl p.sep<iE h.pg.sl p.sep->lB d h (aZ h.pg p.sep p.ch)))
  (hs:St K w (blk b (.cells (nx :: .bool on::bg d p).toArray 167)::blk iY (.cells #[(.pointer (some ⟨bk,0,none⟩))] 37)::blk bB (.cells #[(.pointer (some ⟨b,0,none⟩))] 100)::blk bk (.cells (nl :: .bool true::ea d p.sep h (.slice a h.pg.sl.length c)).toArray 125)::bu (.slice a h.pg.sl.length c) h.pg::F)) :
  Calls Tryz.prog 142 #[(.pointer (some ⟨iY,0,none⟩)),(.pointer (some ⟨bB,0,none⟩))] w (aeA K b nx on d p h F):=by
 have kk:=hs.k1;have Q:=aq3 (Cv hn (hs.re [3,4,0,1,2] rfl));have Hok:=aq3 hok;clear hs hok;go_enter Tryz.func142,Tryz.ntmps142
 go_wp2_with fail
 refine(Q.out).mono ?_
 clear Q kk;rintro e w1 ⟨va,rfl,hs⟩;obtain⟨a1,c1,rfl,_,_⟩:=(show St K w1 (az va 69 2 h.pg.sl.length (aD h.pg.sl)::_)from hs).aH
 have hs:St K w1 (bu (.slice a1 h.pg.sl.length c1) h.pg::blk b (.cells (nx :: .bool on::bg d p).toArray 167)::blk iY (.cells #[(.pointer (some ⟨bk,0,none⟩))] 37)::blk bB (.cells #[(.pointer (some ⟨b,0,none⟩))] 100)::F):=((show St K w1 (bu (.slice a1 h.pg.sl.length c1) h.pg::_::_::blk b (.cells (nx :: .bool on::bg d p).toArray 167)::_::_::F)from hs).re [1,2,0,3,4,5] rfl).tail.tail
 have hs:=hs.made (.cells #[.int .u64 (h).id,.int .u64 (h).word,.int .i64 (h).pg.ak,(.slice a1 h.pg.sl.length c1),.string (h).pg.hi,.bool (h).pg.la,.int .u64 (h).pg.ri] 45);obtain⟨bh,hbh⟩:∃bh,bh=w1.heap.size:=⟨_,rfl⟩;rw[←hbh]at hs;go_upto_region 2 with(fail)
 rw[←hbh];clear hbh;refine cP hs ?_
 clear hs;intro w2 hs;have k0:=hs.k0;have kp:=hs.b4.k0;obtain⟨id,word,pg⟩:=h;simp only at hn hs k0;by_cases h0:id=0
 ·subst h0
  have q:=Dg (F:=blk bh (.cells #[.int .u64 ((⟨0,word,pg⟩:cm)).id,.int .u64 ((⟨0,word,pg⟩:cm)).word,.int .i64 ((⟨0,word,pg⟩:cm)).pg.ak,(.slice a1 pg.sl.length c1),.string ((⟨0,word,pg⟩:cm)).pg.hi,.bool ((⟨0,word,pg⟩:cm)).pg.la,.int .u64 ((⟨0,word,pg⟩:cm)).pg.ri] 45)::bu (.slice a1 pg.sl.length c1) pg::blk iY (.cells #[(.pointer (some ⟨bk,0,none⟩))] 37)::blk bB (.cells #[(.pointer (some ⟨b,0,none⟩))] 100)::F) (hs.re [2,0,1,3,4] rfl);have Q:=aq3 q;clear q hs;go_wp2_with fail
  refine(Q.out).mono ?_
  clear Q k0 kp;rintro e w3 ⟨b2,b3,b5,rfl,ba,jv,eU,hs⟩;have Hs:=aq3 ((show St K w3 (_::_::_::_::_::_::_::_::_::F)from hs).re [5,6,7,8,0,1,2,3,4] rfl).tail.tail.tail.tail
  clear hs;simp only[aA,aW];go_wp2
  go_ret;exact .inl ⟨rfl,b2,b3,b5,ba,jv,eU,rfl,Hs.out⟩
 ·obtain⟨o1,o2,o3⟩:=Hok.out h0
  have eY:=(show St K w2 (az (.slice a1 pg.sl.length c1) 69 2 pg.sl.length (aD pg.sl)::_)from hs.b1).cO (by omega)
  have qf:=fun W (hb:Below w2.heap.size w2 W)=>nu (cap:=c1) (key:=p.sep) W (eY.same hb) o2
  have h0':(id == 0)=false:=by simpa using h0
  obtain⟨fnd,abQ⟩:∃fnd,fnd=decide (gD pg.sl p.sep<iE pg.sl p.sep):=⟨_,rfl⟩;rw[←abQ]at qf;have QF:=aq3 qf;have aeB:=aq3 abQ;have H0:=aq3 h0;have Ho:=aq3 (And.intro o1 (And.intro o2 o3));clear qf abQ eY o1 o2 o3 Hok;generalize gD pg.sl p.sep=lo at QF;go_upto_region 4 with(fail)
  clear k0 kp h0 h0';go_cut [4,5]from 999 to 0 (fun _ v5 wx=>v5=.bool fnd/\St K wx (blk bh (.cells #[.int .u64 ((⟨id,word,pg⟩:cm)).id,.int .u64 ((⟨id,word,pg⟩:cm)).word,.int .i64 ((⟨id,word,pg⟩:cm)).pg.ak,(.slice a1 pg.sl.length c1),.string ((⟨id,word,pg⟩:cm)).pg.hi,.bool ((⟨id,word,pg⟩:cm)).pg.la,.int .u64 ((⟨id,word,pg⟩:cm)).pg.ri] 45)::bu (.slice a1 pg.sl.length c1) pg::blk b (.cells (nx :: .bool on::bg d p).toArray 167)::blk iY (.cells #[(.pointer (some ⟨bk,0,none⟩))] 37)::blk bB (.cells #[(.pointer (some ⟨b,0,none⟩))] 100)::F))
  case first=>
   as_aux_lemma=>
   have k0:=hs.k0;have k2:=hs.k2;unfold bg at k2;have kp:=hs.b4.k0;have QF2:=aq3 (fun wz (hy:∃x:Ext,wz=over w2 x)=>QF.out wz (Pure.below hy))
   refine bI (by kernel_rfl) (by as_aux_lemma=>kernel_rfl) ?_
   repeat (go_big_quiet_step ((go_at_call 131;exact aX (QF2.out _ ⟨_,rfl⟩))))
   refine wpQuiet_nil ?_
   intro w5 hb5;have Hs:=aq3 (hs.same hb5);clear hb5 hs k0 k2 kp QF2;go_wp2
   go_meet;exact⟨rfl,Hs.out⟩
  case rest=>
  clear hs QF;obtain⟨rfl,hs⟩:=hcut;apply_assumption
  have k0:=hs.k0;have kp:=hs.b4.k0;cases fnd with
  | true=>
   have q:=iR (h:=⟨id,word,pg⟩) (va:= .slice a1 pg.sl.length c1) (f:=145) (tx:= #[]) (ty:= #[(.pointer (some ⟨bB,0,none⟩))]) (F:=blk bh (.cells #[.int .u64 ((⟨id,word,pg⟩:cm)).id,.int .u64 ((⟨id,word,pg⟩:cm)).word,.int .i64 ((⟨id,word,pg⟩:cm)).pg.ak,(.slice a1 pg.sl.length c1),.string ((⟨id,word,pg⟩:cm)).pg.hi,.bool ((⟨id,word,pg⟩:cm)).pg.la,.int .u64 ((⟨id,word,pg⟩:cm)).pg.ri] 45)::bu (.slice a1 pg.sl.length c1) pg::blk iY (.cells #[(.pointer (some ⟨bk,0,none⟩))] 37)::blk bB (.cells #[(.pointer (some ⟨b,0,none⟩))] 100)::F) hd (by have h1:=Ho.out.1.id;have:=hd.mJ;simp only at h1 ⊢;omega) (hs.re [2,0,1,3,4] rfl)
   have Q:=aq3 q;clear q hs;go_wp2_with fail
   refine(Q.out).mono ?_
   clear Q k0 kp;rintro e w3 ⟨b2,b3,b5,rfl,br,bi,bw,hs⟩;have Hs:=aq3 ((show St K w3 (_::_::_::_::_::_::_::_::_::F)from hs).re [5,6,7,0,1,8,2,3,4] rfl).tail.tail.tail
   clear hs;simp only[aA,aW];go_wp2
   go_ret;exact .inr (.inl ⟨H0.out,of_decide_eq_true aeB.out.symm,b2,b3,b5,br,bi,bw,bB,rfl,Hs.out⟩)
  | false=>
   have hnf:¬ gD pg.sl p.sep<iE pg.sl p.sep:=of_decide_eq_false aeB.out.symm;have q:=vY (fr:=⟨id,word,pg⟩) (fu:=aZ pg p.sep p.ch) (af:=a1) (cf:=c1) (F:=blk bh (.cells #[.int .u64 ((⟨id,word,pg⟩:cm)).id,.int .u64 ((⟨id,word,pg⟩:cm)).word,.int .i64 ((⟨id,word,pg⟩:cm)).pg.ak,(.slice a1 pg.sl.length c1),.string ((⟨id,word,pg⟩:cm)).pg.hi,.bool ((⟨id,word,pg⟩:cm)).pg.la,.int .u64 ((⟨id,word,pg⟩:cm)).pg.ri] 45)::blk iY (.cells #[(.pointer (some ⟨bk,0,none⟩))] 37)::blk bB (.cells #[(.pointer (some ⟨b,0,none⟩))] 100)::F) hd Ho.out.1 rfl (decide_eq_false hnf) Ho.out.2.1 (Ho.out.2.2 hnf) (hs.re [2,1,0,3,4] rfl);have Q:=aq3 q;have Hnf:=aq3 hnf;clear q hs hnf;go_wp2_with fail
   refine(Q.out).mono ?_
   clear Q k0 kp;rintro e w3 ⟨b2,b3,b5,bi,jv,ee,s,C,rfl,hb,hr,hs⟩;have Hr:=aq3 hr;have Hb:=aq3 hb;have h1:St K w3 ([blk b (.cells (nx :: .bool on::bg d p).toArray 167),bG b2 b3 b5 (.iface 82 (.pointer (some ⟨bi,0,none⟩))) (mg jv ee),blk jv (.cells #[(.pointer (some ⟨b,0,none⟩))] 100),blk ee (.cells #[(.pointer (some ⟨bi,0,none⟩))] 82)]++(C++([blk bh (.cells #[.int .u64 ((⟨id,word,pg⟩:cm)).id,.int .u64 ((⟨id,word,pg⟩:cm)).word,.int .i64 ((⟨id,word,pg⟩:cm)).pg.ak,(.slice a1 pg.sl.length c1),.string ((⟨id,word,pg⟩:cm)).pg.hi,.bool ((⟨id,word,pg⟩:cm)).pg.la,.int .u64 ((⟨id,word,pg⟩:cm)).pg.ri] 45),blk iY (.cells #[(.pointer (some ⟨bk,0,none⟩))] 37),blk bB (.cells #[(.pointer (some ⟨b,0,none⟩))] 100)]++F))):=hs;have h2:=h1.mid.Bo;have Hs:=aq3 h2;clear hs hr hb h1 h2;simp only[aA,aW];go_wp2
   go_ret;exact .inr (.inr ⟨H0.out,Hnf.out,b2,b3,b5,bi,jv,ee,s,C,rfl,Hb.out,Hr.out,Hs.out⟩)
end
def kE (ee bB:Nat):Value:= .func (.func 176) #[] #[(.pointer (some ⟨ee,0,none⟩)),(.pointer (some ⟨bB,0,none⟩))]
def jP (bB ee:Nat):Value:= .func (.func 177) #[] #[(.pointer (some ⟨bB,0,none⟩)),(.pointer (some ⟨ee,0,none⟩))]
section
variable {K:aL}{w:World}{F:List aC}{b:Nat}{d:aR}{p:j8}{nx:Value}{on:Bool}
def r7 (K:aL)(b:Nat)(d:aR)(p:j8)(nx:Value)(on:Bool)(h:cm)(t:Value)(F:List aC)(u:Value)(W:World):Prop:=
 ∃b2 b3 b5,u=aW (some (aA b2 b3 b5))/\∃br bi bw,St K W (blk b (.cells (nx :: .bool on::bg d p).toArray 167)::bG b2 b3 b5 (.iface 47 (.pointer (some ⟨br,0,none⟩))) t::(fe br bi bw (d.node h.id 0) h.word 0++F))
theorem r7.same {h:cm}{t u:Value}{W W':World}(hj:r7 K b d p nx on h t F u W)(hb:Below W.heap.size W W'):r7 K b d p nx on h t F u W' := by
 obtain⟨b2,b3,b5,e,br,bi,bw,hs⟩:=hj;exact⟨b2,b3,b5,e,br,bi,bw,hs.same hb⟩
theorem r7.rest {h:cm}{t u:Value}{W:World}(hj:r7 K b d p nx on h t F u W):St K W F:=by
 obtain⟨b2,b3,b5,e,br,bi,bw,hs⟩:=hj;exact(show St K W (_::_::_::_::_::F)from hs).tail.tail.tail.tail.tail
def PhM (K:aL)(h:cm)(F:List aC)(v:Value)(W:World):Prop:=∃(a:Option Addr) (c:Nat),v=(.agg #[.int .u64 (h).id,.int .u64 (h).word,.int .i64 (h).pg.ak,(.slice a h.pg.sl.length c),.string (h).pg.hi,.bool (h).pg.la,.int .u64 (h).pg.ri])/\St K W F
theorem Tm {X Y:aC}{R:List aC}{h:cm}{t:Value}:(∀W,St K W (blk b (.cells (nx :: .bool on::bg d p).toArray 167)::X::Y::R)->∃cs,St K W (X::Y::cs))/\(∀v W,PhM K h (blk b (.cells (nx :: .bool on::bg d p).toArray 167)::X::Y::R) v W->∃cs,St K W (X::Y::cs))/\(∀(_v u:Value) W,r7 K b d p nx on h t (X::Y::R) u W->∃cs,St K W (X::Y::cs))/\(∀(_v u y:Value) W,(y=u/\r7 K b d p nx on h t (X::Y::R) u W)->∃cs,St K W (X::Y::cs)):=
 ⟨fun _ h=>⟨_,h.tail⟩,fun _ _ ⟨_,_,_,h⟩=>⟨_,h.tail⟩,fun _ _ _ h=>⟨_,h.rest⟩,fun _ _ _ _ h=>⟨_,h.2.rest⟩⟩
theorem Tn {R:List aC}{h:cm}{t:Value}:(∀W W',St K W (blk b (.cells (nx :: .bool on::bg d p).toArray 167)::R)->Below W.heap.size W W' -> St K W' (blk b (.cells (nx :: .bool on::bg d p).toArray 167)::R))/\(∀v W W',PhM K h (blk b (.cells (nx :: .bool on::bg d p).toArray 167)::R) v W->Below W.heap.size W W' -> PhM K h (blk b (.cells (nx :: .bool on::bg d p).toArray 167)::R) v W')/\(∀(_v u:Value) W W',r7 K b d p nx on h t R u W->Below W.heap.size W W' -> r7 K b d p nx on h t R u W')/\(∀(_v u y:Value) W W',(y=u/\r7 K b d p nx on h t R u W)->Below W.heap.size W W' -> (y=u/\r7 K b d p nx on h t R u W')):=
 ⟨fun _ _ h hb=>h.same hb,fun _ _ _ ⟨a,c,e,h⟩ hb=>⟨a,c,e,h.same hb⟩,fun _ _ _ _ h hb=>h.same hb,fun _ _ _ _ _ h hb=>⟨h.1,h.2.same hb⟩⟩
theorem sO {bB ee bi:Nat}{x:o8}{a:Option Addr}{c:Nat}(hd:d.Ok)(hon:x.on=true)(hn:x.le.pg.sl.length<=1000000)(hv:x.vl=.slice a x.le.pg.sl.length c)(hid:0<=x.le.id/\x.le.id<18446744073709551616)
  (hs:St K w (blk b (.cells (nx :: .bool on::bg d p).toArray 167)::blk bB (.cells #[(.pointer (some ⟨b,0,none⟩))] 100)::blk ee (.cells #[(.pointer (some ⟨bi,0,none⟩))] 82)::bz bi .nilFunc d x::bu x.vl x.le.pg::F)) :
  Calls Tryz.prog 175 #[(.pointer (some ⟨bB,0,none⟩)),(.pointer (some ⟨ee,0,none⟩))] w fun e w' => ∃u,e=.returned u/\r7 K b d p nx on x.le (kE ee bB) (blk bB (.cells #[(.pointer (some ⟨b,0,none⟩))] 100)::blk ee (.cells #[(.pointer (some ⟨bi,0,none⟩))] 82)::bz bi .nilFunc d x::bu x.vl x.le.pg::F) u w' := by
 have Hv:=aq3 hv;clear hv;go_enter Tryz.func175,Tryz.ntmps175
 go_upto_region 1 with(fail)
 have Hs:=aq3 hs;clear hs;refine jL [false,false,true,false,true,true] 2 4 5
  (fun W=>St K W (blk b (.cells (nx :: .bool on::bg d p).toArray 167)::blk bB (.cells #[(.pointer (some ⟨b,0,none⟩))] 100)::blk ee (.cells #[(.pointer (some ⟨bi,0,none⟩))] 82)::bz bi .nilFunc d x::bu x.vl x.le.pg::F))
  (PhM K x.le (blk b (.cells (nx :: .bool on::bg d p).toArray 167)::blk bB (.cells #[(.pointer (some ⟨b,0,none⟩))] 100)::blk ee (.cells #[(.pointer (some ⟨bi,0,none⟩))] 82)::bz bi .nilFunc d x::bu x.vl x.le.pg::F))
  (fun _ u W=>r7 K b d p nx on x.le (kE ee bB) (blk bB (.cells #[(.pointer (some ⟨b,0,none⟩))] 100)::blk ee (.cells #[(.pointer (some ⟨bi,0,none⟩))] 82)::bz bi .nilFunc d x::bu x.vl x.le.pg::F) u W)
  (fun _ u y W=>y=u/\r7 K b d p nx on x.le (kE ee bB) (blk bB (.cells #[(.pointer (some ⟨b,0,none⟩))] 100)::blk ee (.cells #[(.pointer (some ⟨bi,0,none⟩))] 82)::bz bi .nilFunc d x::bu x.vl x.le.pg::F) u W)
  (fun W=>∃cs,St K W (blk bB (.cells #[(.pointer (some ⟨b,0,none⟩))] 100)::blk ee (.cells #[(.pointer (some ⟨bi,0,none⟩))] 82)::cs)) ?aSA (by decide) (by kernel_rfl) ?hBA ?HA ?Ig Hs.out ?hIA ?hRA ?abR ?abS ?abT ?hQA
 case hBA=>as_aux_lemma=>kernel_rfl
 case HA=>
  rintro W2 ⟨cs,hs⟩;have k0:=hs.k0;have k1:=hs.k1;clear hs;simp only[bL];repeat (go_big_quiet_step (fail))
  refine wpQuiet_nil ?_
  rfl
 case Ig=>rfl
 case hIA=>exact Tm
 case hRA=>exact Tn
 case abR=>
  intro rj o ho ρ W2 hs hk af aB;obtain rfl:=aq9 ho;subst aB;have Hk:=aq3 hk;clear hk;have Q:=aq3 (Ic hon hn Hv.out (hs.re [3,4,0,1,2] rfl));clear hs;go_wp2_with fail
  refine(Q.out).mono ?_
  rintro e w1 ⟨lj,rfl,hs⟩;obtain⟨a1,c1,rfl,_,_⟩:=hs.aH;have fZ:=aq3 ((show St K w1 (bu _ _::bz bi .nilFunc d x::bu x.vl x.le.pg::_::_::_::F)from hs).tail.re [2,3,4,0,1] rfl)
  clear hs Q;go_wp2
  exact⟨rfl,_,rfl,Hk.out _ _ ⟨a1,c1,rfl,fZ.out⟩⟩
 case abS=>
  rintro rj o ho ρ v W2 ⟨a1,c1,rfl,hs⟩ hk af aB;obtain rfl:=aq9 ho;have Hk:=aq3 hk;clear hk;simp only[aM,List.getElem?_cons_succ,List.getElem?_cons_zero,Option.bind_some,Act.put,List.setIfInBounds_toArray,List.set_cons_zero,List.set_cons_succ]at aB;subst aB;have Q:=aq3 (iR (h:=x.le) (va:= .slice a1 (x.le).pg.sl.length c1) (f:=176) (tx:= #[]) (ty:= #[(.pointer (some ⟨ee,0,none⟩)),(.pointer (some ⟨bB,0,none⟩))]) hd hid hs);clear hs;go_wp2_with fail
  refine(Q.out).mono ?_
  rintro e w1 ⟨b2,b3,b5,rfl,br,jf,jg,hs⟩;clear Q;have Hj:=aq3 (show r7 K b d p nx on x.le (kE ee bB) (blk bB (.cells #[(.pointer (some ⟨b,0,none⟩))] 100)::blk ee (.cells #[(.pointer (some ⟨bi,0,none⟩))] 82)::bz bi .nilFunc d x::bu x.vl x.le.pg::F) (aW (some (aA b2 b3 b5))) w1 from⟨b2,b3,b5,rfl,br,jf,jg,hs⟩)
  clear hs;simp only[aA,aW]at Hj ⊢;go_wp2
  exact⟨rfl,_,rfl,Hk.out _ _ Hj.out⟩
 case abT=>
  rintro rj o ho ρ v u W2 hj hk af aB;obtain rfl:=aq9 ho;have Hk:=aq3 hk;clear hk;simp only[aM,List.getElem?_cons_succ,List.getElem?_cons_zero,Option.bind_some,Act.put,List.setIfInBounds_toArray,List.set_cons_zero,List.set_cons_succ]at aB;subst aB;have hj0:=hj;obtain⟨b2,b3,b5,rfl,_⟩:=hj;have Hj:=aq3 (show r7 K b d p nx on x.le (kE ee bB) (blk bB (.cells #[(.pointer (some ⟨b,0,none⟩))] 100)::blk ee (.cells #[(.pointer (some ⟨bi,0,none⟩))] 82)::bz bi .nilFunc d x::bu x.vl x.le.pg::F) (aW (some (aA b2 b3 b5))) W2 from hj0)
  clear hj0;simp only[aA,aW]at Hj ⊢;go_wp2
  exact⟨rfl,_,rfl,Hk.out _ _ ⟨rfl,Hj.out⟩⟩
 case hQA=>
 rintro v u x W2 ⟨rfl,b2,b3,b5,rfl,br,jf,jg,hs⟩;have Hs:=aq3 hs;clear hs;simp only[aA,aW,aM,List.getElem?_cons_succ,List.getElem?_cons_zero,Option.bind_some,Act.put,List.setIfInBounds_toArray,List.set_cons_zero,List.set_cons_succ];go_wp2
 go_ret;exact⟨_,rfl,b2,b3,b5,rfl,br,jf,jg,Hs.out⟩
def aeC (K:aL)(b:Nat)(nx:Value)(on:Bool)(d:aR)(p:j8)(x:o8)(ee bB:Nat)(F:List aC)(e:Ending)(w':World):Prop:=
 (x.err≠0/\e=.returned .nilFunc/\St K w' (blk b (.cells (nx :: .bool on::bg d (⟨p.ak,p.sep,p.ch,false⟩:j8)).toArray 167)::F)) \/
 (x.err=0/\x.ri.id=0/\e=.returned .nilFunc/\St K w' (blk b (.cells (nx :: .bool on::bg d (⟨p.ak,p.sep,p.ch,true⟩:j8)).toArray 167)::F)) \/
 (x.err=0/\x.ri.id≠0/\∃u,e=.returned u/\r7 K b d p nx on x.ri (jP bB ee) F u w')
theorem Dh {bB ee bi:Nat}{x:o8}{a:Option Addr}{c:Nat}(hd:d.Ok)(hon:x.on=true)(hn:x.ri.pg.sl.length<=1000000)(hv:x.vr=.slice a x.ri.pg.sl.length c)(hid:0<=x.ri.id/\x.ri.id<18446744073709551616)
  (hs:St K w (blk b (.cells (nx :: .bool on::bg d p).toArray 167)::blk ee (.cells #[(.pointer (some ⟨bi,0,none⟩))] 82)::blk bB (.cells #[(.pointer (some ⟨b,0,none⟩))] 100)::bz bi .nilFunc d x::bu x.vr x.ri.pg::F)) :
  Calls Tryz.prog 176 #[(.pointer (some ⟨ee,0,none⟩)),(.pointer (some ⟨bB,0,none⟩))] w (aeC K b nx on d p x ee bB (blk ee (.cells #[(.pointer (some ⟨bi,0,none⟩))] 82)::blk bB (.cells #[(.pointer (some ⟨b,0,none⟩))] 100)::bz bi .nilFunc d x::bu x.vr x.ri.pg::F)):=by
 have Hv:=aq3 hv;have kv:=hs.k1;have Q:=aq3 (Tj (hs.re [3,0,1,2] rfl));clear hv;go_enter Tryz.func176,Tryz.ntmps176
 go_wp2_with fail
 refine(Q.out).mono ?_
 clear Q;rintro e w1 ⟨rfl,rfl⟩;by_cases he:x.err=0
 ·have he':(x.err != 0)=false:=by simp[he]
  have kv:=hs.k1;have Q:=aq3 (nJ hon hn Hv.out (hs.re [3,4,0,1,2] rfl));have He:=aq3 he;clear hs he;go_wp2_with fail
  refine(Q.out).mono ?_
  clear Q kv;rintro e w1 ⟨va,rfl,hs⟩;obtain⟨a1,c1,rfl,_,_⟩:=(show St K w1 (az va 69 2 x.ri.pg.sl.length (aD x.ri.pg.sl)::_)from hs).aH
  have hs:St K w1 (blk b (.cells (nx :: .bool on::bg d p).toArray 167)::blk ee (.cells #[(.pointer (some ⟨bi,0,none⟩))] 82)::blk bB (.cells #[(.pointer (some ⟨b,0,none⟩))] 100)::bz bi .nilFunc d x::bu x.vr x.ri.pg::F):=(show St K w1 (bu _ _::bz bi .nilFunc d x::bu x.vr x.ri.pg::_::_::_::F)from hs).tail.re [2,3,4,0,1] rfl
  by_cases hi:x.ri.id=0
  ·have hi':(x.ri.id == 0)=true:=by simp[hi]
   have kp:=hs.k2;have Q:=aq3 (mi true hs);have Hi:=aq3 hi;clear hs hi;go_wp2_with fail
   refine(Q.out).mono ?_
   clear Q kp hi' he';rintro e w2 ⟨rfl,hs⟩;have Hs:=aq3 hs;clear hs;go_wp2
   go_ret;exact .inr (.inl ⟨He.out,Hi.out,rfl,Hs.out⟩)
  ·have hi':(x.ri.id == 0)=false:=by simpa using hi
   have Hi:=aq3 hi;clear hi;go_upto_region 5 with(fail)
   clear hi' he';have Hs:=aq3 hs;clear hs;refine jL [false,false,true,false,true,true] 2 4 5
    (fun W=>St K W (blk b (.cells (nx :: .bool on::bg d p).toArray 167)::blk ee (.cells #[(.pointer (some ⟨bi,0,none⟩))] 82)::blk bB (.cells #[(.pointer (some ⟨b,0,none⟩))] 100)::bz bi .nilFunc d x::bu x.vr x.ri.pg::F))
    (PhM K x.ri (blk b (.cells (nx :: .bool on::bg d p).toArray 167)::blk ee (.cells #[(.pointer (some ⟨bi,0,none⟩))] 82)::blk bB (.cells #[(.pointer (some ⟨b,0,none⟩))] 100)::bz bi .nilFunc d x::bu x.vr x.ri.pg::F))
    (fun _ u W=>r7 K b d p nx on x.ri (jP bB ee) (blk ee (.cells #[(.pointer (some ⟨bi,0,none⟩))] 82)::blk bB (.cells #[(.pointer (some ⟨b,0,none⟩))] 100)::bz bi .nilFunc d x::bu x.vr x.ri.pg::F) u W)
    (fun _ u y W=>y=u/\r7 K b d p nx on x.ri (jP bB ee) (blk ee (.cells #[(.pointer (some ⟨bi,0,none⟩))] 82)::blk bB (.cells #[(.pointer (some ⟨b,0,none⟩))] 100)::bz bi .nilFunc d x::bu x.vr x.ri.pg::F) u W)
    (fun W=>∃cs,St K W (blk ee (.cells #[(.pointer (some ⟨bi,0,none⟩))] 82)::blk bB (.cells #[(.pointer (some ⟨b,0,none⟩))] 100)::cs)) ?aSB (by decide) (by kernel_rfl) ?hBB ?HB ?Tc Hs.out ?hIB ?hRB ?ajo ?ajp ?ajq ?hQB
   case hBB=>as_aux_lemma=>kernel_rfl
   case HB=>
    rintro W2 ⟨cs,hs⟩;have k0:=hs.k0;have k1:=hs.k1;clear hs;simp only[bL];repeat (go_big_quiet_step (fail))
    refine wpQuiet_nil ?_
    rfl
   case Tc=>rfl
   case hIB=>exact Tm
   case hRB=>exact Tn
   case ajo=>
    intro rj o ho ρ W2 hs hk af aB;obtain rfl:=aq9 ho;subst aB;have Hk:=aq3 hk;clear hk;have Q:=aq3 (nJ hon hn Hv.out (hs.re [3,4,0,1,2] rfl));clear hs;go_wp2_with fail
    refine(Q.out).mono ?_
    rintro e w1 ⟨lj,rfl,hs⟩;obtain⟨a1,c1,rfl,_,_⟩:=hs.aH;have fZ:=aq3 ((show St K w1 (bu _ _::bz bi .nilFunc d x::bu x.vr x.ri.pg::_::_::_::F)from hs).tail.re [2,3,4,0,1] rfl)
    clear hs Q;go_wp2
    exact⟨rfl,_,rfl,Hk.out _ _ ⟨a1,c1,rfl,fZ.out⟩⟩
   case ajp=>
    rintro rj o ho ρ v W2 ⟨a1,c1,rfl,hs⟩ hk af aB;obtain rfl:=aq9 ho;have Hk:=aq3 hk;clear hk;simp only[aM,List.getElem?_cons_succ,List.getElem?_cons_zero,Option.bind_some,Act.put,List.setIfInBounds_toArray,List.set_cons_zero,List.set_cons_succ]at aB;subst aB;have Q:=aq3 (iR (h:=x.ri) (va:= .slice a1 (x.ri).pg.sl.length c1) (f:=177) (tx:= #[]) (ty:= #[(.pointer (some ⟨bB,0,none⟩)),(.pointer (some ⟨ee,0,none⟩))]) hd hid hs);clear hs;go_wp2_with fail
    refine(Q.out).mono ?_
    rintro e w1 ⟨b2,b3,b5,rfl,br,jf,jg,hs⟩;clear Q;have Hj:=aq3 (show r7 K b d p nx on x.ri (jP bB ee) (blk ee (.cells #[(.pointer (some ⟨bi,0,none⟩))] 82)::blk bB (.cells #[(.pointer (some ⟨b,0,none⟩))] 100)::bz bi .nilFunc d x::bu x.vr x.ri.pg::F) (aW (some (aA b2 b3 b5))) w1 from⟨b2,b3,b5,rfl,br,jf,jg,hs⟩)
    clear hs;simp only[aA,aW]at Hj ⊢;go_wp2
    exact⟨rfl,_,rfl,Hk.out _ _ Hj.out⟩
   case ajq=>
    rintro rj o ho ρ v u W2 hj hk af aB;obtain rfl:=aq9 ho;have Hk:=aq3 hk;clear hk;simp only[aM,List.getElem?_cons_succ,List.getElem?_cons_zero,Option.bind_some,Act.put,List.setIfInBounds_toArray,List.set_cons_zero,List.set_cons_succ]at aB;subst aB;have hj0:=hj;obtain⟨b2,b3,b5,rfl,_⟩:=hj;have Hj:=aq3 (show r7 K b d p nx on x.ri (jP bB ee) (blk ee (.cells #[(.pointer (some ⟨bi,0,none⟩))] 82)::blk bB (.cells #[(.pointer (some ⟨b,0,none⟩))] 100)::bz bi .nilFunc d x::bu x.vr x.ri.pg::F) (aW (some (aA b2 b3 b5))) W2 from hj0)
    clear hj0;simp only[aA,aW]at Hj ⊢;go_wp2
    exact⟨rfl,_,rfl,Hk.out _ _ ⟨rfl,Hj.out⟩⟩
   case hQB=>
   rintro v u x W2 ⟨rfl,b2,b3,b5,rfl,br,jf,jg,hs⟩;have Hs:=aq3 hs;clear hs;simp only[aA,aW,aM,List.getElem?_cons_succ,List.getElem?_cons_zero,Option.bind_some,Act.put,List.setIfInBounds_toArray,List.set_cons_zero,List.set_cons_succ];go_wp2
   go_ret;exact .inr (.inr ⟨He.out,Hi.out,_,rfl,b2,b3,b5,rfl,br,jf,jg,Hs.out⟩)
 ·have he':(x.err != 0)=true:=by simpa using he
  have kp:=hs.k2;have Q:=aq3 (mi false hs);have He:=aq3 he;clear hs he;go_wp2_with fail
  refine(Q.out).mono ?_
  clear Q kp he';rintro e w2 ⟨rfl,hs⟩;have Hs:=aq3 hs;clear hs;go_wp2
  go_ret;exact .inl ⟨He.out,rfl,Hs.out⟩
def PuR (K:aL)(b:Nat)(nx:Value)(on:Bool)(d:aR)(p:j8)(x:o8)(REST:List aC)(ρ:Nat->Option Value)(W:World):Prop:=
 (∀v,ρ 6=some v->v=.int .i64 p.ak)/\(∀v,ρ 7=some v->v=.int .i64 (p.ak+1))/\(∀v,ρ 11=some v->∃a c,v=(.agg #[.int .u64 (x.ri).id,.int .u64 (x.ri).word,.int .i64 (x.ri).pg.ak,(.slice a x.ri.pg.sl.length c),.string (x.ri).pg.hi,.bool (x.ri).pg.la,.int .u64 (x.ri).pg.ri]))/\(∀v,ρ 12=some v->v=.int .u64 x.ri.id) /\
  St K W (blk b (.cells (nx :: .bool on::bg d (⟨if (ρ 15).isSome then p.ak+1 else p.ak,if (ρ 18).isSome then x.sep else p.sep,if (ρ 21).isSome then x.ri.id else p.ch,p.po⟩:j8)).toArray 167)::REST)
section
variable {x:o8}{REST:List aC}{ρ:Nat->Option Value}{W W':World}
theorem PuR.keep {e:Nat}{v:Value}(h:PuR K b nx on d p x REST ρ W)(he:e≠15/\e≠18/\e≠21)(h6:e=6->v=.int .i64 p.ak)(h7:e=7->v=.int .i64 (p.ak+1))(h11:e=11->∃a c,v=(.agg #[.int .u64 (x.ri).id,.int .u64 (x.ri).word,.int .i64 (x.ri).pg.ak,(.slice a x.ri.pg.sl.length c),.string (x.ri).pg.hi,.bool (x.ri).pg.la,.int .u64 (x.ri).pg.ri]))(dr:e=12->v=.int .u64 x.ri.id)
  (hs:∀q,St K W (blk b (.cells (nx :: .bool on::bg d q).toArray 167)::REST)->St K W' (blk b (.cells (nx :: .bool on::bg d q).toArray 167)::REST)):PuR K b nx on d p x REST (upd ρ e v) W' := by
 obtain⟨e6,e7,e11,xh,hS⟩:=h;have k:∀j u,(upd ρ e v) j=some u->(j=e/\u=v)\/(j≠e/\ρ j=some u):=fun j u hu=>by
  by_cases hj:j=e
  ·subst hj
   rw[cC]at hu;exact .inl ⟨rfl,(aq9 hu).symm⟩
  ·rw[upd_ne hj]at hu
   exact .inr ⟨hj,hu⟩
 refine⟨fun u hu=>?_,fun u hu=>?_,fun u hu=>?_,fun u hu=>?_,?_⟩
 ·rcases k 6 u hu with⟨h,rfl⟩|⟨_,h⟩
  ·exact h6 h.symm
  ·exact e6 u h
 ·rcases k 7 u hu with⟨h,rfl⟩|⟨_,h⟩
  ·exact h7 h.symm
  ·exact e7 u h
 ·rcases k 11 u hu with⟨h,rfl⟩|⟨_,h⟩
  ·exact h11 h.symm
  ·exact e11 u h
 ·rcases k 12 u hu with⟨h,rfl⟩|⟨_,h⟩
  ·exact dr h.symm
  ·exact xh u h
 ·rw[upd_ne (Ne.symm he.1),upd_ne (Ne.symm he.2.1),upd_ne (Ne.symm he.2.2)]
  exact hs _ hS
theorem PuR.put {e:Nat}(h:PuR K b nx on d p x REST ρ W)(he:e≠6/\e≠7/\e≠11/\e≠12)
  (hs:St K W' (blk b (.cells (nx :: .bool on::bg d (⟨if ((upd ρ e undef) 15).isSome then p.ak+1 else p.ak,if ((upd ρ e undef) 18).isSome then x.sep else p.sep,if ((upd ρ e undef) 21).isSome then x.ri.id else p.ch,p.po⟩:j8)).toArray 167)::REST)):PuR K b nx on d p x REST (upd ρ e undef) W' := by
 obtain⟨e6,e7,e11,xh,hS⟩:=h;exact⟨fun u hu=>e6 u (by rwa [upd_ne (Ne.symm he.1)]at hu),fun u hu=>e7 u (by rwa [upd_ne (Ne.symm he.2.1)]at hu),fun u hu=>e11 u (by rwa [upd_ne (Ne.symm he.2.2.1)]at hu),fun u hu=>xh u (by rwa [upd_ne (Ne.symm he.2.2.2)]at hu),hs⟩
end
theorem Di {bB ee bi:Nat}{x:o8}{a:Option Addr}{c:Nat}(hon:x.on=true)(hn:x.ri.pg.sl.length<=1000000)(hv:x.vr=.slice a x.ri.pg.sl.length c)(bZ:0<=p.ak/\p.ak<1000)
  (hs:St K w (blk b (.cells (nx :: .bool on::bg d p).toArray 167)::blk bB (.cells #[(.pointer (some ⟨b,0,none⟩))] 100)::blk ee (.cells #[(.pointer (some ⟨bi,0,none⟩))] 82)::bz bi .nilFunc d x::bu x.vr x.ri.pg::F)) :
  Calls Tryz.prog 177 #[(.pointer (some ⟨bB,0,none⟩)),(.pointer (some ⟨ee,0,none⟩))] w fun e w' => ∃b2 b3 b5 bk iY jv C,e=.returned (aW (some (aA b2 b3 b5)))/\lC d x.sep (p.ak+1) bk oA C /\
   St K w' (blk b (.cells (nx :: .bool on::bg d (⟨p.ak+1,x.sep,x.ri.id,p.po⟩:j8)).toArray 167)::bG b2 b3 b5 (.iface 37 (.pointer (some ⟨bk,0,none⟩))) (jo iY jv)::([blk iY (.cells #[(.pointer (some ⟨bk,0,none⟩))] 37),blk jv (.cells #[(.pointer (some ⟨b,0,none⟩))] 100)]++(C++(blk bB (.cells #[(.pointer (some ⟨b,0,none⟩))] 100)::blk ee (.cells #[(.pointer (some ⟨bi,0,none⟩))] 82)::bz bi .nilFunc d x::bu x.vr x.ri.pg::F)))):=by
 obtain⟨lv,hlv⟩:∃lv,lv=p.ak:=⟨_,rfl⟩;rw[←hlv]at bZ;obtain⟨mD,hl2⟩:=bZ;have hw:wrap64 (lv+1)=lv+1:=j6 (by omega) (by omega)
 rw[hlv]at hw;have Hw:=aq3 hw;have Hv:=aq3 hv;clear hv mD hl2 hlv hw;go_enter Tryz.func177,Tryz.ntmps177
 go_upto_region 1 with(fail)
 have Hs:=aq3 hs;clear hs;refine aT [false,false,false,false,false,false,true,true,false,false,false,true,true,false,false,true,false,false,true,false,false,true] [6,7,11,12,15,18,21] (fun|7=>[6] | 12=>[11] | 15=>[7] | 18=>[15] | 21=>[12,18] | _=>[])
  (PuR K b nx on d p x (blk bB (.cells #[(.pointer (some ⟨b,0,none⟩))] 100)::blk ee (.cells #[(.pointer (some ⟨bi,0,none⟩))] 82)::bz bi .nilFunc d x::bu x.vr x.ri.pg::F))
  (fun W=>St K W (blk bB (.cells #[(.pointer (some ⟨b,0,none⟩))] 100)::blk ee (.cells #[(.pointer (some ⟨bi,0,none⟩))] 82)::bz bi .nilFunc d x::bu x.vr x.ri.pg::F)) ?aS (by kernel_rfl) ?hB ?H ?iD ?h0 ?hI ?hR ?hE ?hQ
 case hB=>as_aux_lemma=>kernel_rfl
 case H=>
  intro W2 hs;have k0:=hs.k0;have k1:=hs.k1;have Qs:=aq3 (fun wz (hy:∃x:Ext,wz=over W2 x)=>Tl hon ((hs.same (Pure.below hy)).b2))
  clear hs;simp only[bL];repeat (go_big_quiet_step ((go_at_call 178;exact dz (Qs.out _ ⟨_,rfl⟩))))
  refine wpQuiet_nil ?_
  rfl
 case iD=>rfl
 case h0=>exact⟨fun v h=>(by cases h),fun v h=>(by cases h),fun v h=>(by cases h),fun v h=>(by cases h),Hs.out⟩
 case hI=>exact fun ρ W2 ⟨_,_,_,_,h⟩=>h.tail
 case hR=>exact fun ρ W2 W3 ⟨e1,e2,e3,e4,h⟩ hb=>⟨e1,e2,e3,e4,h.same hb⟩
 case hE=>
  refine⟨?e6,?e7,?e11,?xh,?Mw,?e18,?e21,trivial⟩;case e6=>
   intro o ho ρ W2 h hcl h6 hd2 af aB;obtain rfl:=aq9 ho;replace aB:af=aj _ ρ [] _:=aB;have h7:ρ 7=none:=hcl.none (by simp) (show 6∈[6]by simp) h6
   have cY:ρ 15=none:=hcl.none (by simp) (show 7∈[7]by simp) h7
   have hs:=h.2.2.2.2;rw[cY]at hs;have k0:=hs.k0;unfold bg at k0;simp only[Option.isSome_none,Bool.false_eq_true,if_false]at k0;have H:=aq3 (h.keep (e:=6) (v:= .int .i64 p.ak) (by decide) (fun _=>rfl) (fun e=>by cases e) (fun e=>by cases e) (fun e=>by cases e) (fun q hq=>hq))
   simp only[aj]at aB;subst aB;clear h hs h6 h7 cY hcl hd2;go_wp2
   exact⟨rfl,_,rfl,H.out⟩
  case e7=>
   intro o ho ρ W2 h hcl h7 hd2 af aB;obtain rfl:=aq9 ho;replace aB:af=aj _ ρ [6] _:=aB;obtain⟨v6,h6⟩:=aq6.1 (hd2 6 (by show _∈[6];simp))
   obtain rfl:=h.1 v6 h6;have H:=aq3 (h.keep (e:=7) (v:= .int .i64 (p.ak+1)) (by decide) (fun e=>by cases e) (fun _=>rfl) (fun e=>by cases e) (fun e=>by cases e) (fun q hq=>hq))
   simp only[aj,h6,Option.getD_some,aM,Act.put,ara]at aB;subst aB;clear h h6 h7 hcl hd2;go_wp2
   exact⟨rfl,_,rfl,by rw[Hw.out];exact H.out⟩
  case e11=>
   intro o ho ρ W2 h hcl h11 hd2 af aB;obtain rfl:=aq9 ho;replace aB:af=aj _ ρ [] _:=aB;simp only[aj]at aB;subst aB;have hs:=h.2.2.2.2;have Q:=aq3 (nJ hon hn Hv.out ((show St K W2 (_::_::_::bz bi .nilFunc d x::bu x.vr x.ri.pg::F)from hs).re [3,4,0,1,2] rfl))
   have H:=aq3 h;clear h hs h11 hcl hd2;go_wp2_with fail
   refine(Q.out).mono ?_
   clear Q;rintro e W3 ⟨va,rfl,hs⟩;obtain⟨a1,c1,rfl,_,_⟩:=hs.aH;have hs2:=(show St K W3 (bu _ _::bz bi .nilFunc d x::bu x.vr x.ri.pg::_::_::_::F)from hs).tail.re [2,3,4,0,1] rfl
   obtain⟨e6,e7,e11,xh,_⟩:=H.out;have H2:=aq3 ((show PuR K b nx on d p x (blk bB (.cells #[(.pointer (some ⟨b,0,none⟩))] 100)::blk ee (.cells #[(.pointer (some ⟨bi,0,none⟩))] 82)::bz bi .nilFunc d x::bu x.vr x.ri.pg::F) ρ W3 from⟨e6,e7,e11,xh,hs2⟩).keep (e:=11) (v:=(.agg #[.int .u64 (x.ri).id,.int .u64 (x.ri).word,.int .i64 (x.ri).pg.ak,(.slice a1 x.ri.pg.sl.length c1),.string (x.ri).pg.hi,.bool (x.ri).pg.la,.int .u64 (x.ri).pg.ri])) (by decide) (fun e=>by cases e) (fun e=>by cases e) (fun _=>⟨a1,c1,rfl⟩) (fun e=>by cases e) (fun q hq=>hq))
   clear hs hs2 H e6 e7 e11 xh;go_wp2
   exact⟨rfl,_,rfl,H2.out⟩
  case xh=>
   intro o ho ρ W2 h hcl dr hd2 af aB;obtain rfl:=aq9 ho;replace aB:af=aj _ ρ [11] _:=aB;obtain⟨v11,h11⟩:=aq6.1 (hd2 11 (by show _∈[11];simp))
   obtain⟨a1,c1,rfl⟩:=h.2.2.1 v11 h11;have H:=aq3 (h.keep (e:=12) (v:= .int .u64 x.ri.id) (by decide) (fun e=>by cases e) (fun e=>by cases e) (fun e=>by cases e) (fun _=>rfl) (fun q hq=>hq))
   simp only[aj,h11,Option.getD_some,aM,Act.put,ara]at aB;subst aB;clear h h11 dr hcl hd2;go_wp2
   exact⟨rfl,_,rfl,H.out⟩
  case Mw=>
   intro o ho ρ W2 h hcl cY hd2 af aB;obtain rfl:=aq9 ho;replace aB:af=aj _ ρ [7] _:=aB;obtain⟨v7,h7⟩:=aq6.1 (hd2 7 (by show _∈[7];simp))
   obtain rfl:=h.2.1 v7 h7;have wV:ρ 18=none:=hcl.none (by simp) (show 15∈[15]by simp) cY
   have Ky:ρ 21=none:=hcl.none (by simp) (show 18∈[12,18]by simp) wV
   have hs:=h.2.2.2.2;rw[cY,wV,Ky]at hs;have k0:=hs.k0;have f0:=hs.f0;unfold bg at k0;have H:=aq3 (h.put (e:=15) (by decide) (by rw[cC,upd_ne (by decide),upd_ne (by decide),wV,Ky];exact hs.aI 9 (.int .i64 (p.ak+1))))
   simp only[aj,h7,Option.getD_some,aM,Act.put,ara]at aB;subst aB;clear h hs h7 cY wV Ky hcl hd2;go_wp2
   exact⟨rfl,undef,rfl,H.out⟩
  case e18=>
   intro o ho ρ W2 h hcl wV hd2 af aB;obtain rfl:=aq9 ho;replace aB:af=aj _ ρ [15] _:=aB;obtain⟨v15,cY⟩:=aq6.1 (hd2 15 (by show _∈[15];simp))
   have Ky:ρ 21=none:=hcl.none (by simp) (show 18∈[12,18]by simp) wV
   have hs:=h.2.2.2.2;rw[cY,wV,Ky]at hs;have k0:=hs.k0;have f0:=hs.f0;unfold bg at k0;have H:=aq3 (h.put (e:=18) (by decide) (by rw[cC,upd_ne (by decide),upd_ne (by decide),cY,Ky];exact hs.aI 10 (.string x.sep)))
   simp only[aj,cY,Option.getD_some,aM,Act.put,ara]at aB;subst aB;clear h hs cY wV Ky hcl hd2;go_wp2
   exact⟨rfl,undef,rfl,H.out⟩
  case e21=>
   intro o ho ρ W2 h hcl Ky hd2 af aB;obtain rfl:=aq9 ho;replace aB:af=aj _ ρ [12,18] _:=aB;obtain⟨v12,dr⟩:=aq6.1 (hd2 12 (by show _∈[12,18];simp))
   obtain⟨v18,wV⟩:=aq6.1 (hd2 18 (by show _∈[12,18];simp))
   obtain rfl:=h.2.2.2.1 v12 dr;have cY:(ρ 15).isSome=true:=hcl 18 (by simp) (by rw[wV];rfl) 15 (by show 15∈[15];simp)
   obtain⟨v15,cY⟩:=aq6.1 cY;have hs:=h.2.2.2.2;rw[cY,wV,Ky]at hs;have k0:=hs.k0;have f0:=hs.f0;unfold bg at k0;have H:=aq3 (h.put (e:=21) (by decide) (by rw[cC,upd_ne (by decide),upd_ne (by decide),cY,wV];exact hs.aI 11 (.int .u64 x.ri.id)))
   simp only[aj,dr,wV,Option.getD_some,aM,Act.put,ara]at aB;subst aB;clear h hs dr cY wV Ky hcl hd2;go_wp2
   exact⟨rfl,undef,rfl,H.out⟩
 case hQ=>
  intro ρ W2 h hall;obtain⟨v6,h6⟩:=aq6.1 (hall 6 (by simp))
  obtain⟨v7,h7⟩:=aq6.1 (hall 7 (by simp))
  obtain⟨v11,h11⟩:=aq6.1 (hall 11 (by simp))
  obtain⟨v12,dr⟩:=aq6.1 (hall 12 (by simp))
  obtain⟨v15,cY⟩:=aq6.1 (hall 15 (by simp))
  obtain⟨v18,wV⟩:=aq6.1 (hall 18 (by simp))
  obtain⟨v21,Ky⟩:=aq6.1 (hall 21 (by simp))
  have hs:=h.2.2.2.2;rw[cY,wV,Ky]at hs;have hs:St K W2 (blk b (.cells (nx :: .bool on::bg d (⟨p.ak+1,x.sep,x.ri.id,p.po⟩:j8)).toArray 167)::blk bB (.cells #[(.pointer (some ⟨b,0,none⟩))] 100)::blk ee (.cells #[(.pointer (some ⟨bi,0,none⟩))] 82)::bz bi .nilFunc d x::bu x.vr x.ri.pg::F):=hs;simp only[aj,h6,h7,h11,dr,cY,wV,Ky,Option.getD_some,aM,Act.put,ara];clear h hall h6 h7 h11 dr cY wV Ky Hs Hw Hv;have kv:=hs.k1;have Q:=aq3 (mh hs);clear hs;go_wp2_with fail
  refine(Q.out).mono ?_
  clear Q kv;rintro e w3 ⟨b2,b3,b5,bk,iY,jv,C,rfl,hr,hs⟩;have Hr:=aq3 hr;have Hs:=aq3 hs;clear hs hr;simp only[aA,aW];go_wp2
  go_ret;exact⟨b2,b3,b5,bk,iY,jv,C,rfl,Hr.out,Hs.out⟩
end
def Dj (bB eU:Nat):FV:=⟨171, #[], #[(.pointer (some ⟨bB,0,none⟩)),(.pointer (some ⟨eU,0,none⟩))]⟩
def Dk (bB jO eU:Nat):FV:=⟨172, #[], #[(.pointer (some ⟨bB,0,none⟩)),(.pointer (some ⟨jO,0,none⟩)),(.pointer (some ⟨eU,0,none⟩))]⟩
def Tp (b:Nat):Value:= .func (.func 107) #[(.pointer (some ⟨b,0,none⟩))] #[]
section
variable {K:aL}{w:World}{F:List aC}{b bm bc acc:Nat}{d:aR}{p:j8}{nx:Value}{on:Bool}{L:List aO}
theorem za {bB eU:Nat}(hs:St K w F):Calls Tryz.prog 170 #[(.pointer (some ⟨bB,0,none⟩)),(.pointer (some ⟨eU,0,none⟩))] w fun e w' => e=.returned (aW (some (Dj bB eU)))/\St K w' F:=by
 go_enter Tryz.func170,Tryz.ntmps170
 go_wp2
 go_ret;exact⟨rfl,hs⟩
theorem zb {bB eU:Nat}(ha:acc<=1000000000000)(hs:St K w (blk b (.cells (nx :: .bool on::bg d p).toArray 167)::blk bB (.cells #[(.pointer (some ⟨b,0,none⟩))] 100)::aJ bm bc L acc::F)) :
  Calls Tryz.prog 171 #[(.pointer (some ⟨bm,0,none⟩)),(.pointer (some ⟨bB,0,none⟩)),(.pointer (some ⟨eU,0,none⟩))] w fun e w' => ∃jO,e=.returned (aW (some (Dk bB jO eU)))/\St K w' (blk b (.cells (nx :: .bool on::bg d p).toArray 167)::blk jO (.cells #[.int .u64 (ah L 0).n] 23)::blk bB (.cells #[(.pointer (some ⟨b,0,none⟩))] 100)::aJ bm bc L (acc+1)::F):=by
 have Qr:=aq3 (fun w=>pY d w)
 have k0:=hs.k0;unfold bg at k0;have k1:=hs.k1;go_enter Tryz.func171,Tryz.ntmps171
 go_wp2_with fail
 refine(bH hs (Qr.out _)).mono ?_
 clear hs k0 k1;rintro e w1 ⟨rfl,hs⟩;have Q:=aq3 (jl (i:=0) hs.b2 ha);obtain⟨⟨n,k,m⟩,hc⟩:∃c,c=ah L 0:=⟨_,rfl⟩;rw[←hc]at Q;have Hc:=aq3 hc;clear hs hc;go_wp2_with fail
 refine(Q.out).mono ?_
 clear Q;rintro e w2 ⟨rfl,hs⟩;have hs:=hs.made (.cells #[.int .u64 n] 23);obtain⟨bv,nS⟩:∃bv,bv=w2.heap.size:=⟨_,rfl⟩;rw[←nS]at hs;go_upto_region 2 with(fail)
 rw[←nS];clear nS;refine cP hs ?_
 clear hs;intro w3 hs;have Hs:=aq3 hs;clear hs;go_wp2
 go_ret;exact⟨bv,rfl,by rw[←Hc.out];exact Hs.out.re [2,0,3,1] rfl⟩
def aeD (K:aL)(b:Nat)(nx:Value)(on:Bool)(d:aR)(p:j8)(root word ak:Int)(G:List aC)(e:Ending)(w':World):Prop:=
 (p.ak<=ak/\∃b2 b3 b5,e=.returned (aW (some (aA b2 b3 b5)))/\∃br bi bw,St K w' (blk b (.cells (nx :: .bool on::bg d p).toArray 167)::bG b2 b3 b5 (.iface 47 (.pointer (some ⟨br,0,none⟩))) (Tp b)::(fe br bi bw 7 word 0++G))) \/
 (¬ p.ak<=ak/\∃b2 b3 b5,e=.returned (aW (some (aA b2 b3 b5)))/\∃bt xA bB fj jO,
  St K w' (blk b (.cells (nx :: .bool on::bg d p).toArray 167)::bG b2 b3 b5 (.iface 156 (.pointer (some ⟨bt,0,none⟩))) (y8 xA bB fj jO)::([blk xA (.cells #[(.pointer (some ⟨bt,0,none⟩))] 156),blk bB (.cells #[(.pointer (some ⟨b,0,none⟩))] 100),blk fj (.cells #[.int .u64 word] 23),blk jO (.cells #[.int .u64 root] 23)]++(gL bt 4 d.no ⟨0,0,false⟩::G))))
def LdR (K:aL)(bm bc:Nat)(L:List aO)(acc:Nat)(c:aO)(REST:List aC)(ρ:Nat->Option Value)(W:World):Prop:=
 (∀v,ρ 7=some v->v=(.agg #[.int .u64 (c).n,.string (c).k,.int .u64 (c).m]))/\St K W (aJ bm bc L (if (ρ 7).isSome then acc+1 else acc)::REST)
theorem ze {bB jO eU ba:Nat}{root:Int}{aq:oZ}(hd:d.Ok)(ha:acc<=1000000000000)(hroot:0<=root/\root<18446744073709551616)(h2:aq.pc=2)(hlv:0<=(ah L (d.node root 1)).m/\(ah L (d.node root 1)).m<1000000)
  (hs:St K w (blk b (.cells (nx :: .bool on::bg d p).toArray 167)::blk bB (.cells #[(.pointer (some ⟨b,0,none⟩))] 100)::blk jO (.cells #[.int .u64 root] 23)::blk eU (.cells #[(.pointer (some ⟨ba,0,none⟩))] 175)::fS ba 7 aq::aJ bm bc L acc::F)) :
  Calls Tryz.prog 172 #[(.pointer (some ⟨bm,0,none⟩)),(.pointer (some ⟨bB,0,none⟩)),(.pointer (some ⟨jO,0,none⟩)),(.pointer (some ⟨eU,0,none⟩))] w (aeD K b nx on d p root aq.word (ah L (d.node root 1)).m (blk bB (.cells #[(.pointer (some ⟨b,0,none⟩))] 100)::blk jO (.cells #[.int .u64 root] 23)::blk eU (.cells #[(.pointer (some ⟨ba,0,none⟩))] 175)::fS ba 7 aq::aJ bm bc L (acc+1)::F)):=by
 obtain⟨cc,hc⟩:∃c,c=ah L (d.node root 1):=⟨_,rfl⟩;rw[←hc]at hlv ⊢;have Hc:=aq3 hc;have Qh:=aq3 (fun w=>tM d hd root hroot.1 hroot.2 w)
 have hw:wrap64 cc.m=cc.m:=j6 hlv.1 hlv.2;have Hw:=aq3 hw;clear hlv hc hw;obtain⟨n,k,m⟩:=cc;simp only at Hw ⊢;have Hs:=aq3 (show St K w (aJ bm bc L acc::blk b (.cells (nx :: .bool on::bg d p).toArray 167)::blk bB (.cells #[(.pointer (some ⟨b,0,none⟩))] 100)::blk jO (.cells #[.int .u64 root] 23)::blk eU (.cells #[(.pointer (some ⟨ba,0,none⟩))] 175)::fS ba 7 aq::F)from hs.re [5,0,1,2,3,4] rfl)
 clear hs;go_enter Tryz.func172,Tryz.ntmps172
 go_upto_region 1 with(fail)
 go_cut [20]from 999 to 0 (fun v wx=>v=.bool (decide (p.ak<=m))/\St K wx (aJ bm bc L (acc+1)::blk b (.cells (nx :: .bool on::bg d p).toArray 167)::blk bB (.cells #[(.pointer (some ⟨b,0,none⟩))] 100)::blk jO (.cells #[.int .u64 root] 23)::blk eU (.cells #[(.pointer (some ⟨ba,0,none⟩))] 175)::fS ba 7 aq::F))
 case first=>
  refine dG [false,false,false,false,false,false,false,true,false,false,false,false,false,false,false] (fun|7=>some (.agg #[.int .u64 ((⟨n,k,m⟩:aO)).n,.string ((⟨n,k,m⟩:aO)).k,.int .u64 ((⟨n,k,m⟩:aO)).m])|_=>none) [7] (fun _=>[])
   (LdR K bm bc L acc ⟨n,k,m⟩ (blk b (.cells (nx :: .bool on::bg d p).toArray 167)::blk bB (.cells #[(.pointer (some ⟨b,0,none⟩))] 100)::blk jO (.cells #[.int .u64 root] 23)::blk eU (.cells #[(.pointer (some ⟨ba,0,none⟩))] 175)::fS ba 7 aq::F))
   (fun W=>St K W (blk b (.cells (nx :: .bool on::bg d p).toArray 167)::blk bB (.cells #[(.pointer (some ⟨b,0,none⟩))] 100)::blk jO (.cells #[.int .u64 root] 23)::blk eU (.cells #[(.pointer (some ⟨ba,0,none⟩))] 175)::fS ba 7 aq::F)) ?aS (by kernel_rfl) ?hB ?H ?iD ?h0 ?hI ?hR ?hE ?hQ
  case hB=>as_aux_lemma=>kernel_rfl
  case H=>
   intro W2 hs;have k0:=hs.k0;unfold bg at k0;have k1:=hs.k1;have k2:=hs.k2;have hw:=Hw.out;clear hs;simp only[cN];repeat (go_big_quiet_step ((go_at_call 129;exact aX (Qh.out _))))
   refine wpQuiet_nil ?_
   rfl
  case iD=>rfl
  case h0=>exact⟨fun v h=>(by cases h),Hs.out⟩
  case hI=>exact fun ρ W2 h=>h.2.tail
  case hR=>exact fun ρ W2 W3 h hb=>⟨h.1,h.2.same hb⟩
  case hE=>
   refine⟨?e7,trivial⟩;case e7=>
    intro o ho ρ W2 h hcl h7 hd2 act dD;obtain rfl:=aq9 ho;replace dD:act=aj _ ρ [] _:=dD;have hs:=h.2;rw[h7]at hs;have q:=jl (i:=d.node root 1) (show St K W2 (aJ bm bc L acc::_)from hs) ha
    rw[←Hc.out]at q;have Q:=aq3 q;simp only[aj]at dD;subst dD;clear h hs q hcl hd2 h7;go_wp2_with fail
    refine(Q.out).mono ?_
    clear Q;rintro e W3 ⟨rfl,hs⟩;have H:=aq3 (show LdR K bm bc L acc ⟨n,k,m⟩ (blk b (.cells (nx :: .bool on::bg d p).toArray 167)::blk bB (.cells #[(.pointer (some ⟨b,0,none⟩))] 100)::blk jO (.cells #[.int .u64 root] 23)::blk eU (.cells #[(.pointer (some ⟨ba,0,none⟩))] 175)::fS ba 7 aq::F) (upd ρ 7 (.agg #[.int .u64 ((⟨n,k,m⟩:aO)).n,.string ((⟨n,k,m⟩:aO)).k,.int .u64 ((⟨n,k,m⟩:aO)).m])) W3 from⟨fun v hv=>by rw[cC]at hv;exact(aq9 hv).symm,by rw[cC];exact hs⟩)
    clear hs;go_wp2
    exact⟨rfl,_,rfl,fun u hu=>aq9 hu,H.out⟩
  case hQ=>
   intro ρ W2 h hall;obtain⟨v7,h7⟩:=aq6.1 (hall 7 (by simp))
   have hs:=h.2;rw[h7]at hs;have Eo:=aq3 (show St K W2 (aJ bm bc L (acc+1)::blk b (.cells (nx :: .bool on::bg d p).toArray 167)::blk bB (.cells #[(.pointer (some ⟨b,0,none⟩))] 100)::blk jO (.cells #[.int .u64 root] 23)::blk eU (.cells #[(.pointer (some ⟨ba,0,none⟩))] 175)::fS ba 7 aq::F)from hs)
   simp only[aj,h7,Option.getD_some,aM,Act.put,ara];clear h hs hall h7;go_wp2
   go_meet;exact⟨rfl,Eo.out⟩
 case rest=>
 clear Hs;obtain⟨rfl,hs⟩:=hcut;apply_assumption
 have hs:St K wc (blk b (.cells (nx :: .bool on::bg d p).toArray 167)::blk bB (.cells #[(.pointer (some ⟨b,0,none⟩))] 100)::blk jO (.cells #[.int .u64 root] 23)::blk eU (.cells #[(.pointer (some ⟨ba,0,none⟩))] 175)::fS ba 7 aq::aJ bm bc L (acc+1)::F):=hs.re [1,2,3,4,5,0] rfl;by_cases hle:p.ak<=m
 ·have Ks:=aq3 hle
  clear hle;rw[decide_eq_true Ks.out];have kp:=hs.k1;have ka:=hs.b3.k0;have Qw:=aq3 (fun wz (hy:∃x:Ext,wz=over wc x)=>o5 h2 (hs.same (Pure.below hy)).b4)
  have Hs:=aq3 hs;clear hs;go_upto_region 2 with(fail)
  refine bQ 5 (by kernel_rfl) (by as_aux_lemma=>kernel_rfl) ?_
  simp only[List.take_succ_cons,List.take_zero,List.drop_succ_cons,List.drop_zero];repeat (go_big_quiet_step ((go_at_call 119;exact dz (Qw.out _ ⟨_,rfl⟩))))
  refine wpQuiet_nil ?_
  intro w5 hb5;have Q:=aq3 (mj (word:=aq.word) (f:=107) (tx:= #[(.pointer (some ⟨b,0,none⟩))]) (ty:= #[]) (Hs.out.same hb5));clear Hs kp ka Qw hb5;go_wp2_with fail
  refine(Q.out).mono ?_
  clear Q;rintro e w6 ⟨b2,b3,b5,rfl,br,bi,bw,hs⟩;have Hs:=aq3 hs;clear hs;simp only[aA,aW];go_wp2
  go_ret;exact .inl ⟨Ks.out,b2,b3,b5,rfl,br,bi,bw,Hs.out⟩
 ·have Ks:=aq3 hle
  clear hle;rw[decide_eq_false Ks.out];have kp:=hs.k1;have kr:=hs.k2;have ka:=hs.b3.k0;have Qw:=aq3 (fun wz (hy:∃x:Ext,wz=over wc x)=>o5 h2 (hs.same (Pure.below hy)).b4)
  have Hs:=aq3 hs;clear hs;go_upto_region 3 with(fail)
  refine bQ 4 (by kernel_rfl) (by as_aux_lemma=>kernel_rfl) ?_
  simp only[List.take_succ_cons,List.take_zero,List.drop_succ_cons,List.drop_zero];repeat (go_big_quiet_step ((go_at_call 119;exact dz (Qw.out _ ⟨_,rfl⟩))))
  refine wpQuiet_nil ?_
  intro w5 hb5;have Q:=aq3 (y9 (root:=root) (word:=aq.word) hd (Hs.out.same hb5));clear Hs kp kr ka Qw hb5;go_wp2_with fail
  refine(Q.out).mono ?_
  clear Q;rintro e w6 ⟨b2,b3,b5,rfl,bt,xA,jv,fj,abU,hs⟩;have Hs:=aq3 hs;clear hs;simp only[aA,aW];go_wp2
  go_ret;exact .inr ⟨by have:=Ks.out;omega,b2,b3,b5,rfl,bt,xA,jv,fj,abU,Hs.out⟩
end
def fk (ak root:Int):Pg:=⟨ak,[⟨⟨#[]⟩,root⟩],⟨#[]⟩,true,0⟩
def Kz (bB:Nat):Value:= .func (.func 185) #[] #[(.pointer (some ⟨bB,0,none⟩))]
def tu (bB jn gR fj:Nat):Value:= .func (.func 186) #[] #[(.pointer (some ⟨bB,0,none⟩)),(.pointer (some ⟨jn,0,none⟩)),(.pointer (some ⟨gR,0,none⟩)),(.pointer (some ⟨fj,0,none⟩))]
def mm (bB gR fj:Nat):Value:= .func (.func 187) #[] #[(.pointer (some ⟨bB,0,none⟩)),(.pointer (some ⟨gR,0,none⟩)),(.pointer (some ⟨fj,0,none⟩))]
def Tq (bB gR fj:Nat):FV:=⟨188, #[], #[(.pointer (some ⟨bB,0,none⟩)),(.pointer (some ⟨gR,0,none⟩)),(.pointer (some ⟨fj,0,none⟩))]⟩
def Ip (bf bF:Nat)(id:Int)(pg:Pg)(va:Value)(g cap:Nat)(ps:List Pt)(k:Nat):List aC:=[mH bF id (aN 0) pg va g cap ps k,az (.slice (some ⟨g,0,none⟩) ps.length cap) 139 4 ps.length (cj ps),blk bf (.cells #[(.pointer (some ⟨bF,0,none⟩))] 145),bu va pg]
def Yj (d:aR)(id:Int)(pg:Pg)(v:Value)(C:List aC):Prop:=∃(bf bF g cap:Nat) (va:Value),v=(.pointer (some ⟨bf,0,none⟩))/\C=Ip bf bF id pg va g cap (⟨d.node id 0,⟨aN 0,⟨#[]⟩,0⟩⟩::bP d id pg) 0
def r8 (K:aL)(d:aR)(id ak root:Int)(REST:List aC)(ρ:Nat->Option Value)(W:World):Prop:=
 ∃bs:Nat,(∀v,ρ 11=some v->v=.slice (some ⟨bs,0,none⟩) 1 1)/\(∀v,ρ 12=some v->v=.agg #[.int .i64 ((fk ak root)).ak,(.slice (some ⟨bs,0,none⟩) 1 1),.string ((fk ak root)).hi,.bool ((fk ak root)).la,.int .u64 ((fk ak root)).ri]) /\
  sK K [dH (ρ 11) (blk bs (.cells [.string ⟨#[]⟩,.int .u64 root].toArray 69))] REST 74 (.pointer none) 13 14 15 (Yj d id (fk ak root)) ρ W
section
variable {K:aL}{d:aR}{id ak root:Int}{REST:List aC}{ρ:Nat->Option Value}{W W':World}
theorem sK.other {P REST:List aC}{T:TypeId}{z:Value}{i j k e:Nat}{Φ:Value->List aC->Prop}{v:Value}(h:sK K P REST T z i j k Φ ρ W)(hi:e≠i)(hj:e≠j)(hk:e≠k):sK K P REST T z i j k Φ (upd ρ e v) W:=by
 obtain⟨b,C,e1,e2,hs⟩:=h;refine⟨b,C,fun u hu=>e1 u (by rwa [upd_ne (Ne.symm hi)]at hu),fun u hu=>e2 u (by rwa [upd_ne (Ne.symm hj)]at hu),?_⟩
 rw[upd_ne (Ne.symm hi),upd_ne (Ne.symm hj),upd_ne (Ne.symm hk)];exact hs
theorem r8.start (hs:St K W REST):r8 K d id ak root REST (fun _=>none) W:=
 ⟨0,fun v h=>(by cases h),fun v h=>(by cases h),sK.start hs.empty⟩
theorem r8.same (h:r8 K d id ak root REST ρ W)(hb:Below W.heap.size W W'):r8 K d id ak root REST ρ W' := by
 obtain⟨bs,e1,e2,h⟩:=h;exact⟨bs,e1,e2,h.same hb⟩
theorem r8.rest (h:r8 K d id ak root REST ρ W):St K W REST:=by
 obtain⟨bs,e1,e2,h⟩:=h;exact h.rest
theorem r8.slot (h:r8 K d id ak root REST ρ W)(h11:ρ 11=none)(dr:ρ 12=none)(dS:ρ 13=none):r8 K d id ak root REST (upd ρ 11 (.slice (some ⟨W.heap.size,0,none⟩) 1 1)) (W.alloc (.cells [.string ⟨#[]⟩,.int .u64 root].toArray 69)):=by
 obtain⟨bs,e1,e2,b,C,f1,f2,hs⟩:=h;rw[h11,dS]at hs;refine⟨W.heap.size,fun v hv=>by rw[cC]at hv;exact(aq9 hv).symm,fun v hv=>(by rw[upd_ne (by decide),dr]at hv;cases hv),b,C,fun v hv=>(by rw[upd_ne (by decide),dS]at hv;cases hv),fun v hv=>f2 v (by rwa [upd_ne (by decide)]at hv),?_⟩
 rw[cC,upd_ne (by decide),upd_ne (by decide),upd_ne (by decide),dS]
 exact(show St K W (gN::_)from hs).tail.made (.cells [.string ⟨#[]⟩,.int .u64 root].toArray 69)
theorem r8.page (h:r8 K d id ak root REST ρ W){v11:Value}(h11:ρ 11=some v11):∃bs:Nat,v11=.slice (some ⟨bs,0,none⟩) 1 1/\r8 K d id ak root REST (upd ρ 12 (.agg #[.int .i64 ((fk ak root)).ak,(.slice (some ⟨bs,0,none⟩) 1 1),.string ((fk ak root)).hi,.bool ((fk ak root)).la,.int .u64 ((fk ak root)).ri])) W:=by
 obtain⟨bs,e1,e2,h⟩:=h;refine⟨bs,e1 v11 h11,bs,fun v hv=>e1 v (by rwa [upd_ne (by decide)]at hv),fun v hv=>by rw[cC]at hv;exact(aq9 hv).symm,?_⟩
 rw[upd_ne (by decide)]
 exact h.other (by decide) (by decide) (by decide)
theorem r8.call (h:r8 K d id ak root REST ρ W){v11 v12:Value}(h11:ρ 11=some v11)(dr:ρ 12=some v12)(dS:ρ 13=none)(cY:ρ 15=none):∃(bs:Nat)(X:List aC),v12=.agg #[.int .i64 ((fk ak root)).ak,(.slice (some ⟨bs,0,none⟩) 1 1),.string ((fk ak root)).hi,.bool ((fk ak root)).la,.int .u64 ((fk ak root)).ri]/\St K W (blk bs (.cells [.string ⟨#[]⟩,.int .u64 root].toArray 69)::(REST++X)) /\
  ∀v C W',Yj d id (fk ak root) v C->St K W' (C++(REST++X))->r8 K d id ak root REST (upd ρ 13 v) W' := by
 obtain⟨bs,e1,e2,h⟩:=h;obtain⟨X,hs,hn⟩:=h.call (by decide) (by decide) dS cY
 rw[h11]at hs hn;refine⟨bs,X,e2 v12 dr,hs,fun v C W' hΦ hs' => ⟨bs,fun u hu=>e1 u (by rwa [upd_ne (by decide)]at hu),fun u hu=>e2 u (by rwa [upd_ne (by decide)]at hu),?_⟩⟩
 rw[upd_ne (by decide),h11]
 exact hn v C W' hΦ hs'
theorem r8.var (h:r8 K d id ak root REST ρ W)(iH:ρ 14=none)(cY:ρ 15=none):r8 K d id ak root REST (upd ρ 14 (.pointer (some ⟨W.heap.size,0,none⟩))) (W.alloc (.cells #[.pointer none] 74)):=by
 obtain⟨bs,e1,e2,h⟩:=h;refine⟨bs,fun u hu=>e1 u (by rwa [upd_ne (by decide)]at hu),fun u hu=>e2 u (by rwa [upd_ne (by decide)]at hu),?_⟩
 rw[upd_ne (by decide)]
 exact h.var (by decide) (by decide) iH cY
theorem r8.store (h:r8 K d id ak root REST ρ W){v u:Value}(dS:ρ 13=some v)(iH:ρ 14=some u)(cY:ρ 15=none):∃(b:Nat)(R':List aC),u=(.pointer (some ⟨b,0,none⟩))/\(∃C,Yj d id (fk ak root) v C)/\St K W (blk b (.cells #[.pointer none] 74)::R') /\
  ∀W',St K W' (blk b (.cells #[v] 74)::R')->r8 K d id ak root REST (upd ρ 15 undef) W' := by
 obtain⟨bs,e1,e2,h⟩:=h;obtain⟨b,R',e,hC,hs,hn⟩:=h.store (by decide) (by decide) dS iH cY
 refine⟨b,R',e,hC,hs,fun W' hs' => ⟨bs,fun u hu=>e1 u (by rwa [upd_ne (by decide)]at hu),fun u hu=>e2 u (by rwa [upd_ne (by decide)]at hu),?_⟩⟩
 rw[upd_ne (by decide)]
 exact hn W' hs'
theorem r8.last (h:r8 K d id ak root REST ρ W)(hall:∀e,e∈[11,12,13,14,15]->(ρ e).isSome=true):∃(b:Nat)(v:Value)(C:List aC),ρ 13=some v/\ρ 14=some (.pointer (some ⟨b,0,none⟩))/\(∃x,ρ 15=some x)/\Yj d id (fk ak root) v C/\St K W (blk b (.cells #[v] 74)::(C++REST)):=by
 obtain⟨bs,e1,e2,h⟩:=h;exact h.last (fun e he=>hall e (by simp only[List.mem_cons,List.not_mem_nil,or_false]at he ⊢;rcases he with h|h|h <;> simp[h]))
end
section
variable {K:aL}{w:World}{F:List aC}{b bm bc acc:Nat}{d:aR}{p:j8}{nx:Value}{on:Bool}{L:List aO}
def aeE (K:aL)(b:Nat)(nx:Value)(on:Bool)(d:aR)(p:j8)(root word:Int)(s:iB)(bB fj:Nat)(G:List aC)(e:Ending)(w':World):Prop:=
 (s.ok=false/\∃b2 b3 b5,e=.returned (aW (some (aA b2 b3 b5)))/\∃br bi bw,St K w' (blk b (.cells (nx :: .bool on::bg d p).toArray 167)::bG b2 b3 b5 (.iface 47 (.pointer (some ⟨br,0,none⟩))) (Kz bB)::(fe br bi bw 7 word 0++G))) \/
 (s.ok=true/\∃b2 b3 b5,e=.returned (aW (some (aA b2 b3 b5)))/\∃bf bF g cap va jn gR,
  St K w' (blk b (.cells (nx :: .bool on::bg d p).toArray 167)::bG b2 b3 b5 (.iface 74 (.pointer (some ⟨bf,0,none⟩))) (tu bB jn gR fj)::([blk jn (.cells #[(.pointer (some ⟨bf,0,none⟩))] 74),blk gR (.cells #[.int .u64 (s.seen+1)] 23)]++(Ip bf bF (s.seen+1) (fk p.ak root) va g cap (⟨d.node (s.seen+1) 0,⟨aN 0,⟨#[]⟩,0⟩⟩::bP d (s.seen+1) (fk p.ak root)) 0++G))))
theorem vZ {xA bB fj jO bt:Nat}{root word lim:Int}{s:iB}(hd:d.Ok)(bZ:0<=p.ak/\p.ak<1000000)(hseen:s.ok=true->0<=s.seen/\s.seen<18446744073709551615)
  (hs:St K w (blk b (.cells (nx :: .bool on::bg d p).toArray 167)::blk xA (.cells #[(.pointer (some ⟨bt,0,none⟩))] 156)::blk bB (.cells #[(.pointer (some ⟨b,0,none⟩))] 100)::blk fj (.cells #[.int .u64 word] 23)::blk jO (.cells #[.int .u64 root] 23)::gL bt 4 lim s::F)) :
  Calls Tryz.prog 184 #[(.pointer (some ⟨xA,0,none⟩)),(.pointer (some ⟨bB,0,none⟩)),(.pointer (some ⟨fj,0,none⟩)),(.pointer (some ⟨jO,0,none⟩))] w (aeE K b nx on d p root word s bB fj (blk bB (.cells #[(.pointer (some ⟨b,0,none⟩))] 100)::blk fj (.cells #[.int .u64 word] 23)::F)):=by
 have kt:=hs.k1;have Q:=aq3 (kK (i:=4) (lim:=lim) (s:=s) hs.b5.head hseen);have hs:St K w (blk b (.cells (nx :: .bool on::bg d p).toArray 167)::blk bB (.cells #[(.pointer (some ⟨b,0,none⟩))] 100)::blk fj (.cells #[.int .u64 word] 23)::blk jO (.cells #[.int .u64 root] 23)::F):=(hs.re [1,5,0,2,3,4] rfl).tail.tail;obtain⟨ok,hok⟩:∃ok,ok=s.ok:=⟨_,rfl⟩;obtain⟨id,hid⟩:∃id:Int,id=if s.ok then s.seen+1 else 0:=⟨_,rfl⟩
 rw[←hid,←hok]at Q;have Hok:=aq3 hok;have Yk:=aq3 hid;have aae:=aq3 hseen;clear hok hid hseen;go_enter Tryz.func184,Tryz.ntmps184
 go_wp2_with fail
 refine(Q.out).mono ?_
 clear Q kt;rintro e w1 ⟨rfl,rfl⟩;have hs:=hs.made (.cells #[.int .u64 id] 23);obtain⟨gR,abV⟩:∃gR,gR=w.heap.size:=⟨_,rfl⟩;rw[←abV]at hs;go_upto_region 2 with(fail)
 rw[←abV];clear abV;refine cP hs ?_
 clear hs;intro w2 hs;cases ok with
 | false=>
  have kp:=hs.k2;have kw:=hs.b3.k0;have Q:=aq3 (mj (word:=word) (f:=185) (tx:= #[]) (ty:= #[(.pointer (some ⟨bB,0,none⟩))]) hs.b1);clear hs;go_wp2_with fail
  refine(Q.out).mono ?_
  clear Q kp kw;rintro e w3 ⟨b2,b3,b5,rfl,br,bi,bw,hs⟩;have Hs:=aq3 ((show St K w3 (blk b (.cells (nx :: .bool on::bg d p).toArray 167)::_::_::_::_::blk gR (.cells #[.int .u64 id] 23)::blk bB (.cells #[(.pointer (some ⟨b,0,none⟩))] 100)::blk fj (.cells #[.int .u64 word] 23)::blk jO (.cells #[.int .u64 root] 23)::F)from hs).re [5,8,0,1,2,3,4,6,7] rfl).tail.tail
  clear hs;simp only[aA,aW];go_wp2
  go_ret;exact .inl ⟨Hok.out.symm,b2,b3,b5,rfl,br,bi,bw,Hs.out⟩
 | true=>
  obtain⟨se1,se2⟩:=aae.out Hok.out.symm;have oY:id=s.seen+1:=by rw[Yk.out,←Hok.out,if_pos rfl]
  have ajr:=aq3 (show 0<=id/\id<18446744073709551616 by omega)
  have ajs:=aq3 oY;clear se1 se2 aae Yk oY;have hs:St K w2 (blk gR (.cells #[.int .u64 id] 23)::blk b (.cells (nx :: .bool on::bg d p).toArray 167)::blk bB (.cells #[(.pointer (some ⟨b,0,none⟩))] 100)::blk fj (.cells #[.int .u64 word] 23)::blk jO (.cells #[.int .u64 root] 23)::F):=hs;go_upto_region 4 with(fail)
  have Hs:=aq3 hs;clear hs;refine aT [false,false,false,false,false,false,false,false,false,false,false,true,true,true,true,true] [11,12,13,14,15] (fun|12=>[11] | 13=>[12] | 15=>[13,14] | _=>[])
   (r8 K d id p.ak root (blk gR (.cells #[.int .u64 id] 23)::blk b (.cells (nx :: .bool on::bg d p).toArray 167)::blk bB (.cells #[(.pointer (some ⟨b,0,none⟩))] 100)::blk fj (.cells #[.int .u64 word] 23)::blk jO (.cells #[.int .u64 root] 23)::F))
   (fun W=>St K W (blk gR (.cells #[.int .u64 id] 23)::blk b (.cells (nx :: .bool on::bg d p).toArray 167)::blk bB (.cells #[(.pointer (some ⟨b,0,none⟩))] 100)::blk fj (.cells #[.int .u64 word] 23)::blk jO (.cells #[.int .u64 root] 23)::F)) ?aS (by kernel_rfl) ?hB ?H ?iD ?h0 ?hI ?hR ?hE ?hQ
  case hB=>as_aux_lemma=>kernel_rfl
  case H=>
   intro W2 hs;have k0:=hs.k0;have k1:=hs.k1;unfold bg at k1;have k2:=hs.k2;have k4:=hs.b4.k0;clear hs;simp only[bL];repeat (go_big_quiet_step (fail))
   refine wpQuiet_nil ?_
   rfl
  case iD=>rfl
  case h0=>exact r8.start Hs.out
  case hI=>exact fun ρ W2 h=>h.rest
  case hR=>exact fun ρ W2 W3 h hb=>h.same hb
  case hE=>
   refine⟨?e11,?xh,?Xo,?Sn,?Mw,trivial⟩;case e11=>
    intro o ho ρ W2 h hcl h11 hd2 af aB;obtain rfl:=aq9 ho;replace aB:af=aj _ ρ [] _:=aB;have dr:ρ 12=none:=hcl.none (by simp) (show 11∈[11]by simp) h11
    have dS:ρ 13=none:=hcl.none (by simp) (show 12∈[12]by simp) dr
    have H:=aq3 (h.slot h11 dr dS);simp only[aj]at aB;subst aB;clear h h11 dr dS hcl hd2;go_wp2
    exact⟨rfl,_,rfl,H.out⟩
   case xh=>
    intro o ho ρ W2 h hcl dr hd2 af aB;obtain rfl:=aq9 ho;replace aB:af=aj _ ρ [11] _:=aB;obtain⟨v11,h11⟩:=aq6.1 (hd2 11 (by show _∈[11];simp))
    obtain⟨bs,rfl,hn⟩:=h.page h11;have H:=aq3 hn;simp only[aj,h11,Option.getD_some,aM,Act.put,ara]at aB;subst aB;clear h h11 dr hcl hd2 hn;go_wp2
    exact⟨rfl,_,rfl,H.out⟩
   case Xo=>
    intro o ho ρ W2 h hcl dS hd2 af aB;obtain rfl:=aq9 ho;replace aB:af=aj _ ρ [12] _:=aB;obtain⟨v12,dr⟩:=aq6.1 (hd2 12 (by show _∈[12];simp))
    have cY:ρ 15=none:=hcl.none (by simp) (show 13∈[13,14]by simp) dS
    have h11:(ρ 11).isSome=true:=hcl 12 (by simp) (by rw[dr];rfl) 11 (by show 11∈[11];simp)
    obtain⟨v11,h11⟩:=aq6.1 h11;obtain⟨bs,X,rfl,hs,hnext⟩:=h.call h11 dr dS cY;have hs:=hs.lS (n:=1) (size:=2) rfl (by simp[maxLen])
    have Xf:=hd.fo;have q:=rU (x:=fk p.ak root) (ax:=some ⟨bs,0,none⟩) (cx:=1) (id:=id) hd ajr.out bZ (by show((1:Nat):Int)<=d.fa;omega) hs
    have Q:=aq3 q;have Hn:=aq3 hnext;simp only[aj,dr,Option.getD_some,aM,Act.put,ara]at aB;subst aB;clear h h11 dr dS cY hcl hd2 hnext hs q Xf;go_wp2_with fail
    refine(Q.out).mono ?_
    clear Q;rintro e W3 ⟨bf,bF,g,cap,va,ps,rfl,rfl,hs'⟩;have eG:=aq3 (show St K W3 (Ip bf bF id (fk p.ak root) va g cap (⟨d.node id 0,⟨aN 0,⟨#[]⟩,0⟩⟩::bP d id (fk p.ak root)) 0++_)from(hs'.sub (.cons_cons _ (.cons_cons _ (.cons_cons _ (.cons_cons _ (.cons _ (List.Sublist.refl _))))))))
    clear hs';go_wp2
    exact⟨rfl,_,rfl,Hn.out _ _ W3 ⟨bf,bF,g,cap,va,rfl,rfl⟩ eG.out⟩
   case Sn=>
    intro o ho ρ W2 h hcl iH hd2 af aB;obtain rfl:=aq9 ho;replace aB:af=aj _ ρ [] _:=aB;have cY:ρ 15=none:=hcl.none (by simp) (show 14∈[13,14]by simp) iH
    have H:=aq3 (h.var iH cY);simp only[aj]at aB;subst aB;clear h iH cY hcl hd2;go_wp2
    exact⟨rfl,_,rfl,H.out⟩
   case Mw=>
    intro o ho ρ W2 h hcl cY hd2 af aB;obtain rfl:=aq9 ho;replace aB:af=aj _ ρ [13,14] _:=aB;obtain⟨v13,dS⟩:=aq6.1 (hd2 13 (by show _∈[13,14];simp))
    obtain⟨v14,iH⟩:=aq6.1 (hd2 14 (by show _∈[13,14];simp))
    obtain⟨bv,R',rfl,⟨C,bf,bF,g,cap,va,rfl,_⟩,hs,hnext⟩:=h.store dS iH cY;simp only[aj,dS,iH,Option.getD_some,aM,Act.put,ara]at aB;subst aB;have k0:=hs.k0;have f0:=hs.f0;have fZ:Hid (St K _ (blk bv (.cells #[(.pointer (some ⟨bf,0,none⟩))] 74)::R')):=aq3 (hs.aI 0 (.pointer (some ⟨bf,0,none⟩)));have Hn:=aq3 hnext;clear hs hnext hcl hd2 h dS iH cY;go_wp2
    exact⟨rfl,undef,rfl,Hn.out _ fZ.out⟩
  case hQ=>
   intro ρ W2 h hall;obtain⟨v11,h11⟩:=aq6.1 (hall 11 (by simp))
   obtain⟨v12,dr⟩:=aq6.1 (hall 12 (by simp))
   obtain⟨jn,v,C,dS,iH,⟨v15,cY⟩,⟨bf,bF,g,cap,va,rfl,rfl⟩,hs⟩:=h.last hall;simp only[aj,h11,dr,dS,iH,cY,Option.getD_some,aM,Act.put,ara];clear h hall h11 dr dS iH cY Hs;have kv:=hs.k0;have Q:=aq3 (fG (T2:=74) (xv:=(.pointer (some ⟨bf,0,none⟩))) (f:=186) (tx:= #[]) (ty:= #[(.pointer (some ⟨bB,0,none⟩)),(.pointer (some ⟨jn,0,none⟩)),(.pointer (some ⟨gR,0,none⟩)),(.pointer (some ⟨fj,0,none⟩))]) hs);clear hs;go_wp2_with fail
   refine(Q.out).mono ?_
   clear Q kv;rintro e w3 ⟨b2,b3,b5,rfl,hs⟩;have Hs:=aq3 ((show St K w3 (_::_::_::_::_::_::blk gR (.cells #[.int .u64 id] 23)::blk b (.cells (nx :: .bool on::bg d p).toArray 167)::blk bB (.cells #[(.pointer (some ⟨b,0,none⟩))] 100)::blk fj (.cells #[.int .u64 word] 23)::blk jO (.cells #[.int .u64 root] 23)::F)from hs).re [10,7,0,1,6,2,3,4,5,8,9] rfl).tail
   clear hs;simp only[aA,aW];go_wp2
   go_ret;exact .inr ⟨Hok.out.symm,b2,b3,b5,rfl,bf,bF,g,cap,va,jn,gR,by rw[←ajs.out];exact Hs.out⟩
end
section
variable {K:aL}{w:World}{F:List aC}{b bm bc acc:Nat}{d:aR}{p:j8}{nx:Value}{on:Bool}{L:List aO}
theorem wh {bB jn gR fj bf bF g cap:Nat}{id:Int}{pg:Pg}{av:Option Addr}{cv:Nat}{ps:List Pt}(hd:d.Ok)(hn:pg.sl.length<=1000000)(hid:0<=id/\id<18446744073709551616)
  (hs:St K w (blk b (.cells (nx :: .bool on::bg d p).toArray 167)::blk bB (.cells #[(.pointer (some ⟨b,0,none⟩))] 100)::blk jn (.cells #[(.pointer (some ⟨bf,0,none⟩))] 74)::(Ip bf bF id pg (.slice av pg.sl.length cv) g cap ps ps.length++F))) :
  Calls Tryz.prog 186 #[(.pointer (some ⟨bB,0,none⟩)),(.pointer (some ⟨jn,0,none⟩)),(.pointer (some ⟨gR,0,none⟩)),(.pointer (some ⟨fj,0,none⟩))] w fun e w' => ∃u,e=.returned u/\r7 K b d p nx on ⟨id,aN 0,pg⟩ (mm bB gR fj) (blk bB (.cells #[(.pointer (some ⟨b,0,none⟩))] 100)::blk jn (.cells #[(.pointer (some ⟨bf,0,none⟩))] 74)::(Ip bf bF id pg (.slice av pg.sl.length cv) g cap ps ps.length++F)) u w' := by
 go_enter Tryz.func186,Tryz.ntmps186
 go_upto_region 1 with(fail)
 have Hs:=aq3 hs;clear hs;refine jL [false,false,true,false,true,true] 2 4 5
  (fun W=>St K W (blk b (.cells (nx :: .bool on::bg d p).toArray 167)::blk bB (.cells #[(.pointer (some ⟨b,0,none⟩))] 100)::blk jn (.cells #[(.pointer (some ⟨bf,0,none⟩))] 74)::(Ip bf bF id pg (.slice av pg.sl.length cv) g cap ps ps.length++F)))
  (PhM K ⟨id,aN 0,pg⟩ (blk b (.cells (nx :: .bool on::bg d p).toArray 167)::blk bB (.cells #[(.pointer (some ⟨b,0,none⟩))] 100)::blk jn (.cells #[(.pointer (some ⟨bf,0,none⟩))] 74)::(Ip bf bF id pg (.slice av pg.sl.length cv) g cap ps ps.length++F)))
  (fun _ u W=>r7 K b d p nx on ⟨id,aN 0,pg⟩ (mm bB gR fj) (blk bB (.cells #[(.pointer (some ⟨b,0,none⟩))] 100)::blk jn (.cells #[(.pointer (some ⟨bf,0,none⟩))] 74)::(Ip bf bF id pg (.slice av pg.sl.length cv) g cap ps ps.length++F)) u W)
  (fun _ u y W=>y=u/\r7 K b d p nx on ⟨id,aN 0,pg⟩ (mm bB gR fj) (blk bB (.cells #[(.pointer (some ⟨b,0,none⟩))] 100)::blk jn (.cells #[(.pointer (some ⟨bf,0,none⟩))] 74)::(Ip bf bF id pg (.slice av pg.sl.length cv) g cap ps ps.length++F)) u W)
  (fun W=>∃cs,St K W (blk bB (.cells #[(.pointer (some ⟨b,0,none⟩))] 100)::blk jn (.cells #[(.pointer (some ⟨bf,0,none⟩))] 74)::cs)) ?aSA (by decide) (by kernel_rfl) ?hBA ?HA ?Ig Hs.out ?hIA ?hRA ?abR ?abS ?abT ?hQA
 case hBA=>as_aux_lemma=>kernel_rfl
 case HA=>
  rintro W2 ⟨cs,hs⟩;have k0:=hs.k0;have k1:=hs.k1;clear hs;simp only[bL];repeat (go_big_quiet_step (fail))
  refine wpQuiet_nil ?_
  rfl
 case Ig=>rfl
 case hIA=>exact Tm
 case hRA=>exact Tn
 case abR=>
  intro rj o ho ρ W2 hs hk af aB;obtain rfl:=aq9 ho;subst aB;have Hk:=aq3 hk;clear hk;have Q:=aq3 (qB hn ((show St K W2 (blk b (.cells (nx :: .bool on::bg d p).toArray 167)::blk bB (.cells #[(.pointer (some ⟨b,0,none⟩))] 100)::blk jn (.cells #[(.pointer (some ⟨bf,0,none⟩))] 74)::mH _ _ _ _ _ _ _ _ _::az _ _ _ _ _::blk bf _::bu (.slice av pg.sl.length cv) pg::F)from hs).re [3,6,5,0,1,2,4] rfl))
  clear hs;go_wp2_with fail
  refine(Q.out).mono ?_
  rintro e w1 ⟨lj,rfl,hs⟩;obtain⟨a1,c1,rfl,_,_⟩:=hs.aH;have fZ:=aq3 ((show St K w1 (_::mH _ _ _ _ _ _ _ _ _::az _ _ _ _ _::blk bf _::blk b (.cells (nx :: .bool on::bg d p).toArray 167)::blk bB (.cells #[(.pointer (some ⟨b,0,none⟩))] 100)::blk jn (.cells #[(.pointer (some ⟨bf,0,none⟩))] 74)::az _ _ _ _ _::F)from hs).tail.re [3,4,5,0,6,2,1] rfl)
  clear hs Q;go_wp2
  exact⟨rfl,_,rfl,Hk.out _ _ ⟨a1,c1,rfl,fZ.out⟩⟩
 case abS=>
  rintro rj o ho ρ v W2 ⟨a1,c1,rfl,hs⟩ hk af aB;obtain rfl:=aq9 ho;have Hk:=aq3 hk;clear hk;simp only[aM,List.getElem?_cons_succ,List.getElem?_cons_zero,Option.bind_some,Act.put,List.setIfInBounds_toArray,List.set_cons_zero,List.set_cons_succ]at aB;subst aB;have Q:=aq3 (iR (h:=(⟨id,aN 0,pg⟩:cm)) (va:= .slice a1 ((⟨id,aN 0,pg⟩:cm)).pg.sl.length c1) (f:=187) (tx:= #[]) (ty:= #[(.pointer (some ⟨bB,0,none⟩)),(.pointer (some ⟨gR,0,none⟩)),(.pointer (some ⟨fj,0,none⟩))]) hd hid hs);clear hs;go_wp2_with fail
  refine(Q.out).mono ?_
  rintro e w1 ⟨b2,b3,b5,rfl,br,jf,jg,hs⟩;clear Q;have Hj:=aq3 (show r7 K b d p nx on ⟨id,aN 0,pg⟩ (mm bB gR fj) (blk bB (.cells #[(.pointer (some ⟨b,0,none⟩))] 100)::blk jn (.cells #[(.pointer (some ⟨bf,0,none⟩))] 74)::(Ip bf bF id pg (.slice av pg.sl.length cv) g cap ps ps.length++F)) (aW (some (aA b2 b3 b5))) w1 from⟨b2,b3,b5,rfl,br,jf,jg,hs⟩)
  clear hs;simp only[aA,aW]at Hj ⊢;go_wp2
  exact⟨rfl,_,rfl,Hk.out _ _ Hj.out⟩
 case abT=>
  rintro rj o ho ρ v u W2 hj hk af aB;obtain rfl:=aq9 ho;have Hk:=aq3 hk;clear hk;simp only[aM,List.getElem?_cons_succ,List.getElem?_cons_zero,Option.bind_some,Act.put,List.setIfInBounds_toArray,List.set_cons_zero,List.set_cons_succ]at aB;subst aB;have hj0:=hj;obtain⟨b2,b3,b5,rfl,_⟩:=hj;have Hj:=aq3 (show r7 K b d p nx on ⟨id,aN 0,pg⟩ (mm bB gR fj) (blk bB (.cells #[(.pointer (some ⟨b,0,none⟩))] 100)::blk jn (.cells #[(.pointer (some ⟨bf,0,none⟩))] 74)::(Ip bf bF id pg (.slice av pg.sl.length cv) g cap ps ps.length++F)) (aW (some (aA b2 b3 b5))) W2 from hj0)
  clear hj0;simp only[aA,aW]at Hj ⊢;go_wp2
  exact⟨rfl,_,rfl,Hk.out _ _ ⟨rfl,Hj.out⟩⟩
 case hQA=>
 rintro v u x W2 ⟨rfl,b2,b3,b5,rfl,br,jf,jg,hs⟩;have Hs:=aq3 hs;clear hs;simp only[aA,aW,aM,List.getElem?_cons_succ,List.getElem?_cons_zero,Option.bind_some,Act.put,List.setIfInBounds_toArray,List.set_cons_zero,List.set_cons_succ];go_wp2
 go_ret;exact⟨_,rfl,b2,b3,b5,rfl,br,jf,jg,Hs.out⟩
theorem wj {bB gR fj:Nat}(hs:St K w F):Calls Tryz.prog 187 #[(.pointer (some ⟨bB,0,none⟩)),(.pointer (some ⟨gR,0,none⟩)),(.pointer (some ⟨fj,0,none⟩))] w fun e w' => e=.returned (aW (some (Tq bB gR fj)))/\St K w' F:=by
 go_enter Tryz.func187,Tryz.ntmps187
 go_wp2
 go_ret;exact⟨rfl,hs⟩
theorem wk {bB gR fj:Nat}{id word:Int}(ha:acc<=1000000000000)(hs:St K w (blk b (.cells (nx :: .bool on::bg d p).toArray 167)::blk bB (.cells #[(.pointer (some ⟨b,0,none⟩))] 100)::blk gR (.cells #[.int .u64 id] 23)::blk fj (.cells #[.int .u64 word] 23)::aJ bm bc L acc::F)) :
  Calls Tryz.prog 188 #[(.pointer (some ⟨bm,0,none⟩)),(.pointer (some ⟨bB,0,none⟩)),(.pointer (some ⟨gR,0,none⟩)),(.pointer (some ⟨fj,0,none⟩))] w fun e w' => ∃b2 b3 b5,e=.returned (aW (some (aA b2 b3 b5)))/\∃br bi bw,
   St K w' (blk b (.cells (nx :: .bool on::bg d p).toArray 167)::bG b2 b3 b5 (.iface 47 (.pointer (some ⟨br,0,none⟩))) (Tp b)::(fe br bi bw 7 word 0++(blk bB (.cells #[(.pointer (some ⟨b,0,none⟩))] 100)::blk gR (.cells #[.int .u64 id] 23)::blk fj (.cells #[.int .u64 word] 23)::aJ bm bc (aP L 0 ⟨id,⟨#[]⟩,0⟩) (acc+1)::F))):=by
 have Qr:=aq3 (fun w=>pY d w)
 have k0:=hs.k0;unfold bg at k0;have k1:=hs.k1;have k2:=hs.k2;have Hs:=aq3 hs;clear hs;go_enter Tryz.func188,Tryz.ntmps188
 go_upto_region 1 with(fail)
 refine bQ 8 (by kernel_rfl) (by as_aux_lemma=>kernel_rfl) ?_
 simp only[List.take_succ_cons,List.take_zero,List.drop_succ_cons,List.drop_zero];repeat (go_big_quiet_step ((go_at_call 111;exact aX (Qr.out _))))
 refine wpQuiet_nil ?_
 intro w5 hb5;have Q:=aq3 (m7 (i:=0) (c:=⟨id,⟨#[]⟩,0⟩) ((Hs.out.same hb5).re [4,0,1,2,3] rfl) ha);clear Hs k0 k1 k2 hb5;go_wp2_with fail
 refine(Q.out).mono ?_
 clear Q;rintro e w6 ⟨rfl,hs⟩;have hs:St K w6 (blk b (.cells (nx :: .bool on::bg d p).toArray 167)::blk bB (.cells #[(.pointer (some ⟨b,0,none⟩))] 100)::blk gR (.cells #[.int .u64 id] 23)::blk fj (.cells #[.int .u64 word] 23)::aJ bm bc (aP L 0 ⟨id,⟨#[]⟩,0⟩) (acc+1)::F):=hs.re [1,2,3,4,0] rfl;have k1:=hs.k1;have k3:=hs.b3.k0;have Q:=aq3 (mj (word:=word) (f:=107) (tx:= #[(.pointer (some ⟨b,0,none⟩))]) (ty:= #[]) hs);clear hs;go_wp2_with fail
 refine(Q.out).mono ?_
 clear Q k1 k3;rintro e w7 ⟨b2,b3,b5,rfl,br,bi,bw,hs⟩;have Hs:=aq3 hs;clear hs;simp only[aA,aW];go_wp2
 go_ret;exact⟨b2,b3,b5,rfl,br,bi,bw,Hs.out⟩
theorem Iq {ak ch:Int}{sep:ByteArray}(hs:St K w F):Calls Tryz.prog 59 #[.agg #[.int .i64 d.th,.int .i64 d.sn,.int .i64 d.no,.int .i64 d.ch,.int .i64 d.re,.int .i64 d.fa,.int .u64 d.cl],.int .i64 ak,.string sep,.int .u64 ch] w fun e w' => ∃b b2 b3 b5 bk iY bB C,e=.returned (.pointer (some ⟨b,0,none⟩))/\lC d sep ak bk oA C /\
  St K w' (blk b (.cells ((aW (some (aA b2 b3 b5))) :: .bool true::bg d (⟨ak,sep,ch,false⟩:j8)).toArray 167)::bG b2 b3 b5 (.iface 37 (.pointer (some ⟨bk,0,none⟩))) (jo iY bB)::([blk iY (.cells #[(.pointer (some ⟨bk,0,none⟩))] 37),blk bB (.cells #[(.pointer (some ⟨b,0,none⟩))] 100)]++(C++F))):=by
 have hs:=hs.pass (.cells #[.int .i64 d.th,.int .i64 d.sn,.int .i64 d.no,.int .i64 d.ch,.int .i64 d.re,.int .i64 d.fa,.int .u64 d.cl] 29);have hs:=hs.made (.cells (.nilFunc :: .bool false::bg d ⟨ak,sep,ch,false⟩).toArray 167);rw[World.size_alloc]at hs;go_enter Tryz.func59,Tryz.ntmps59
 go_upto_region 2 with(fail)
 obtain⟨bp,mS⟩:∃bp,bp=w.heap.size+1:=⟨_,rfl⟩;rw[←mS]at hs ⊢;clear mS;refine cP hs ?_
 clear hs;intro w1 hs;have Q:=aq3 (mh hs);clear hs;go_wp2_with fail
 refine(Q.out).mono ?_
 clear Q;rintro e w2 ⟨b2,b3,b5,bk,iY,bB,C,rfl,hr,hs⟩;have Hr:=aq3 hr;have Hs:=aq3 hs;clear hs hr;simp only[aA,aW];go_wp2_with fail
 refine(fq _ _ _ _).mono ?_
 rintro e w3 ⟨rfl,hb3⟩;have hs:=Hs.out.same hb3;have k0:=hs.k0;have f0:=hs.f0;have hs2:=(hs.aI 0 (aW (some (aA b2 b3 b5)))).aI 1 (.bool true);have Eo:Hid (St K _ (blk bp (.cells ((aW (some (aA b2 b3 b5))) :: .bool true::bg d (⟨ak,sep,ch,false⟩:j8)).toArray 167)::_)):=aq3 hs2;clear hs Hs hs2 hb3;simp only[aA,aW]at Eo;go_wp2
 go_ret;exact⟨bp,b2,b3,b5,bk,iY,bB,C,rfl,Hr.out,Eo.out⟩
end
end Go.Proofs.YtlpdhhhgckpcfaaGreat
