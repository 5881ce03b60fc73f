
/- The machine post.Post: what makes its states (enter, release, end, insert, grow, grown, raise). The machine post.Post: raise, and what follows each of its zV. The machine post.Post: what follows Insert, what follows the zu of the ai3 abj. The machine post.Post: the abj of the root. The machine post.Post: the new root. The machine post.Post: the new root is released and stored; agj, Step, abk. -/
import Derived.Test.YtlpdhhhgckpcfaaGreatLock
import Derived.Test.YtlpdhhhgckpcfaaGreatInsM
import Derived.Test.YtlpdhhhgckpcfaaGreatInsOut
namespace Go.Proofs.YtlpdhhhgckpcfaaGreat
set_option maxHeartbeats 16000000
open Go.RowKit
set_option maxRecDepth 100000
structure j4 where
 az:Int
 sep:ByteArray
 ch:Int
 po:Bool
def bj (d:aR)(p:j4):List Value:=
 [.int .i64 d.th,.int .i64 d.sn,.int .i64 d.no,.int .i64 d.ch,.int .i64 d.re,.int .i64 d.fa,.int .u64 d.cl,.int .i64 p.az,.string p.sep,.int .u64 p.ch,.bool p.po]
def jg (iQ bA:Nat):Value:= .func (.func 142) #[] #[(.pointer (some ⟨iQ,0,none⟩)),(.pointer (some ⟨bA,0,none⟩))]
def l4 (bA ei:Nat):Value:= .func (.func 175) #[] #[(.pointer (some ⟨bA,0,none⟩)),(.pointer (some ⟨ei,0,none⟩))]
def yI (bA eT:Nat):Value:= .func (.func 170) #[] #[(.pointer (some ⟨bA,0,none⟩)),(.pointer (some ⟨eT,0,none⟩))]
def yJ (wZ bA fc jE:Nat):Value:= .func (.func 184) #[] #[(.pointer (some ⟨wZ,0,none⟩)),(.pointer (some ⟨bA,0,none⟩)),(.pointer (some ⟨fc,0,none⟩)),(.pointer (some ⟨jE,0,none⟩))]
def su (K:aK)(P REST:List aB)(T:TypeId)(z:Value)(i j k:Nat)(Φ:Value->List aB->Prop)(ρ:Nat->Option Value)(W:World):Prop:=
 ∃ (b:Nat) (C:List aB),(∀ v,ρ i=some v->Φ v C)/\(∀ v,ρ j=some v->v=(.pointer (some ⟨b,0,none⟩))) /\
  St K W ((if (ρ i).isSome then C else P)++(dA (ρ j) (blk b (.cells #[if (ρ k).isSome then(ρ i).getD z else z] T))::REST))
section
variable {K:aK}{P REST:List aB}{T:TypeId}{z:Value}{i j k:Nat}{Φ:Value->List aB->Prop}{ρ:Nat->Option Value}{W:World}{v u:Value}
theorem su.start (hs:St K W (P++REST)):su K P REST T z i j k Φ (fun _=>none) W:=by
 refine⟨0,[],fun v h=>(by cases h),fun v h=>(by cases h),?_⟩
 exact(hs.empty).perm (List.perm_middle.symm)
theorem su.same {W':World}(h:su K P REST T z i j k Φ ρ W)(hb:Below W.heap.size W W'):su K P REST T z i j k Φ ρ W' := by
 obtain⟨b,C,e1,e2,hs⟩:=h;exact⟨b,C,e1,e2,hs.same hb⟩
theorem su.rest (h:su K P REST T z i j k Φ ρ W):St K W REST:=by
 obtain⟨b,C,e1,e2,hs⟩:=h;exact(hs.right).tail
theorem su.call (h:su K P REST T z i j k Φ ρ W)(hij:i≠j)(hik:i≠k)(hi:ρ i=none)(hk:ρ k=none):∃ X:List aB,St K W (P++(REST++X))/\∀ v C W',Φ v C->St K W' (C++(REST++X))->su K P REST T z i j k Φ (upd ρ i v) W' := by
 obtain⟨b,C0,e1,e2,hs⟩:=h;rw[hi,hk]at hs;have hs:St K W (P++(dA (ρ j) (blk b (.cells #[z] T))::REST)):=hs;refine⟨[dA (ρ j) (blk b (.cells #[z] T))],hs.perm (List.Perm.append_left P (by simpa using (List.perm_append_comm (l₁:=[dA (ρ j) (blk b (.cells #[z] T))]) (l₂:=REST)))),fun v C W' hΦ hs' => ⟨b,C,fun v' hv' =>?_,fun v' hv' => e2 v' (by rwa [upd_ne (Ne.symm hij)]at hv'),?_⟩⟩
 ·rw[cC]at hv'
  rw[← aqu hv'];exact hΦ
 ·rw[cC,upd_ne (Ne.symm hij),upd_ne (Ne.symm hik),hk]
  exact hs'.perm (List.Perm.append_left C (by simp))
theorem su.var (h:su K P REST T z i j k Φ ρ W)(hij:i≠j)(hjk:j≠k)(hj:ρ j=none)(hk:ρ k=none):su K P REST T z i j k Φ (upd ρ j (.pointer (some ⟨W.heap.size,0,none⟩))) (W.alloc (.cells #[z] T)):=by
 obtain⟨b,C0,e1,e2,hs⟩:=h;rw[hj,hk]at hs;refine⟨W.heap.size,C0,fun v hv=>e1 v (by rwa [upd_ne hij]at hv),fun v hv=>by rw[cC]at hv;exact(aqu hv).symm,?_⟩
 rw[upd_ne hij,cC,upd_ne (Ne.symm hjk),hk];have h1:St K W ((if (ρ i).isSome then C0 else P)++(gK::REST)):=hs
 have h2:St K W (gK::((if (ρ i).isSome then C0 else P)++REST)):=h1.perm List.perm_middle
 have h3:=h2.tail.made (.cells #[z] T);exact h3.perm (List.perm_middle.symm)
theorem su.store (h:su K P REST T z i j k Φ ρ W)(hik:i≠k)(hjk:j≠k)(hi:ρ i=some v)(hj:ρ j=some u)(hk:ρ k=none):∃ (b:Nat)(R':List aB),u=(.pointer (some ⟨b,0,none⟩))/\(∃ C,Φ v C)/\St K W (blk b (.cells #[z] T)::R') /\
  ∀ W',St K W' (blk b (.cells #[v] T)::R')->su K P REST T z i j k Φ (upd ρ k undef) W' := by
 obtain⟨b,C0,e1,e2,hs⟩:=h;rw[hi,hj,hk]at hs;have h1:St K W (C0++(blk b (.cells #[z] T)::REST)):=hs;refine⟨b,C0++REST,e2 u hj,⟨C0,e1 v hi⟩,h1.perm List.perm_middle,fun W' hs' => ⟨b,C0,fun v' hv=>e1 v' (by rwa [upd_ne hik]at hv),fun v' hv=>e2 v' (by rwa [upd_ne hjk]at hv),?_⟩⟩
 rw[upd_ne hik,upd_ne hjk,cC,hi,hj];exact hs'.perm (List.perm_middle.symm)
theorem su.last (h:su K P REST T z i j k Φ ρ W)(hall:∀ e,e∈[i,j,k]->(ρ e).isSome=true):∃ (b:Nat)(v:Value)(C:List aB),ρ i=some v/\ρ j=some (.pointer (some ⟨b,0,none⟩))/\(∃ x,ρ k=some x)/\Φ v C/\St K W (blk b (.cells #[v] T)::(C++REST)):=by
 obtain⟨v,hi⟩:=aqr.1 (hall i (by simp))
 obtain⟨u,hj⟩:=aqr.1 (hall j (by simp))
 obtain⟨x,hk⟩:=aqr.1 (hall k (by simp))
 obtain⟨b,C0,e1,e2,hs⟩:=h;rw[hi,hj,hk]at hs;have h1:St K W (C0++(blk b (.cells #[v] T)::REST)):=hs;exact⟨b,v,C0,hi,by rw[hj,e2 u hj],⟨x,hk⟩,e1 v hi,h1.perm List.perm_middle⟩
theorem St.mid {A C B F:List aB}(h:St K W (A++(C++(B++F)))):St K W (B++(A++(C++F))):=by
 refine h.perm ?_
 have h1:(A++(C++(B++F))).Perm ((A++C)++(B++F)):=by rw[List.append_assoc]
 refine h1.trans ?_
 have h2:((A++C)++(B++F)).Perm (((A++C)++B)++F):=by rw[← List.append_assoc]
 refine h2.trans ((List.Perm.append_right F List.perm_append_comm).trans ?_);rw[List.append_assoc,List.append_assoc]
end
section
variable {K:aK}{w:World}{F:List aB}{b:Nat}{d:aR}{p:j4}{nx:Value}{on:Bool}
def ai4 (d:aR)(p:j4)(v:Value)(C:List aB):Prop:=∃ bk,v=(.pointer (some ⟨bk,0,none⟩))/\lr d p.sep p.az bk oU C
theorem l5 (hs:St K w (blk b (.cells (nx :: .bool on::bj d p).toArray 167)::F)):Calls Tryz.prog 107 #[(.pointer (some ⟨b,0,none⟩))] w fun e w' => ∃ b2 b3 b5 bk iQ bA C,e=.returned (aX (some (aA b2 b3 b5)))/\lr d p.sep p.az bk oU C /\
  St K w' (blk b (.cells (nx :: .bool on::bj d p).toArray 167)::bD b2 b3 b5 (.iface 37 (.pointer (some ⟨bk,0,none⟩))) (jg iQ bA)::([blk iQ (.cells #[(.pointer (some ⟨bk,0,none⟩))] 37),blk bA (.cells #[(.pointer (some ⟨b,0,none⟩))] 100)]++(C++F))):=by
 have hs:=hs.made (.cells #[(.pointer (some ⟨b,0,none⟩))] 100);go_enter Tryz.func107,Tryz.ntmps107
 go_upto_region 1 with(fail)
 obtain⟨bp,mP⟩:∃ bp,bp=w.heap.size:=⟨_,rfl⟩;rw[← mP]at hs ⊢;clear mP;refine cR hs ?_
 clear hs;intro w1 hs;have Hs:=aqo hs;clear hs;refine aT [false,false,false,false,false,false,false,false,false,false,false,false,true,true,true] [12,13,14] (fun|14=>[12,13] | _=>[])
  (oA K (blk bp (.cells #[(.pointer (some ⟨b,0,none⟩))] 100)::blk b (.cells (nx :: .bool on::bj d p).toArray 167)::F) 37 (.pointer none) 12 13 14 (ai4 d p))
  (fun W=>St K W (blk bp (.cells #[(.pointer (some ⟨b,0,none⟩))] 100)::blk b (.cells (nx :: .bool on::bj d p).toArray 167)::F)) ?aSA (by kernel_rfl) ?hBA ?HA ?Gm ?h0A ?hIA ?hRA ?hEA ?hQA
 case hBA=>as_aux_lemma=>kernel_rfl
 case HA=>
  intro W2 hs;have k0:=hs.k0;have k1:=hs.k1;unfold bj at k1;clear hs;simp only[bK];repeat (go_big_quiet_step (fail))
  refine wpQuiet_nil ?_
  rfl
 case Gm=>rfl
 case h0A=>exact oA.start Hs.out
 case hIA=>exact fun ρ W2 h=>h.rest
 case hRA=>exact fun ρ W2 W3 h hb=>h.same hb
 case hEA=>
  refine⟨?e1A,?e2A,?e3A,trivial⟩;case e1A=>
   intro o ho ρ W2 h hcl eC hd2 dW aC;obtain rfl:=aqu ho;replace aC:dW=aj _ ρ [] _:=aC;have gG:ρ 14=none:=hcl.none (by simp) (show 12∈[12,13]by simp) eC
   obtain⟨X,hs,hnext⟩:=h.call (by omega) (by omega) eC gG
   simp only[aj]at aC;subst aC;have Hn:=aqo hnext;clear hnext hcl hd2 eC gG h;go_wp2_with fail
   refine(Gl (d:=d) (key:=p.sep) (level:=p.az) hs).mono ?_
   rintro e W3 ⟨bk,C,rfl,hr,hs'⟩;have dZ:=aqo hs';clear hs hs';go_wp2
   exact⟨rfl,_,rfl,Hn.out _ _ W3 ⟨bk,rfl,hr⟩ dZ.out⟩
  case e2A=>
   intro o ho ρ W2 h hcl eu hd2 dW aC;obtain rfl:=aqu ho;replace aC:dW=aj _ ρ [] _:=aC;have gG:ρ 14=none:=hcl.none (by simp) (show 13∈[12,13]by simp) eu
   have Hn:=aqo (h.var (by omega) (by omega) eu gG)
   simp only[aj]at aC;subst aC;clear hcl hd2 eu gG h;go_wp2
   exact⟨rfl,_,rfl,Hn.out⟩
  case e3A=>
   intro o ho ρ W2 h hcl gG hd2 dW aC;obtain rfl:=aqu ho;replace aC:dW=aj _ ρ [12,13] _:=aC;obtain⟨v12,eC⟩:=aqr.1 (hd2 12 (by show _∈[12,13];simp))
   obtain⟨v13,eu⟩:=aqr.1 (hd2 13 (by show _∈[12,13];simp))
   obtain⟨bv,R',rfl,⟨C,bk,rfl,_⟩,hs,hnext⟩:=h.store (by omega) (by omega) eC eu gG
   simp only[aj,eC,eu,Option.getD_some,aL,Act.put,aqv]at aC;subst aC;have k0:=hs.k0;have f0:=hs.f0;have gh:Hid (St K _ (blk bv (.cells #[(.pointer (some ⟨bk,0,none⟩))] 37)::R')):=aqo (hs.aI 0 (.pointer (some ⟨bk,0,none⟩)));have Hn:=aqo hnext;clear hs hnext hcl hd2 h eC eu gG;go_wp2
   exact⟨rfl,undef,rfl,Hn.out _ gh.out⟩
 case hQA=>
 intro ρ W2 h hall;obtain⟨bv,v,C,eC,eu,⟨v14,gG⟩,hΦ,hs⟩:=h.last hall;simp only[aj,eC,eu,gG,Option.getD_some,aL,Act.put,aqv];clear h hall eC eu gG Hs;obtain⟨bk,rfl,hr⟩:=hΦ;have kv:=hs.k0;have Q:=aqo (fF (T2:=37) (xv:=(.pointer (some ⟨bk,0,none⟩))) (f:=142) (tx:= #[]) (ty:= #[(.pointer (some ⟨bv,0,none⟩)),(.pointer (some ⟨bp,0,none⟩))]) hs);have Hr:=aqo hr;clear hs hr;go_wp2_with fail
 refine(Q.out).mono ?_
 clear Q kv;rintro e w3 ⟨b2,b3,b5,rfl,hs⟩;have h1:St K w3 ([bD b2 b3 b5 (.iface 37 (.pointer (some ⟨bk,0,none⟩))) (jg bv bp),blk bv (.cells #[(.pointer (some ⟨bk,0,none⟩))] 37)]++(C++([blk bp (.cells #[(.pointer (some ⟨b,0,none⟩))] 100),blk b (.cells (nx :: .bool on::bj d p).toArray 167)]++F))):=hs;have h2:=h1.mid;have h3:St K w3 (blk bp (.cells #[(.pointer (some ⟨b,0,none⟩))] 100)::blk b (.cells (nx :: .bool on::bj d p).toArray 167)::bD b2 b3 b5 (.iface 37 (.pointer (some ⟨bk,0,none⟩))) (jg bv bp)::blk bv (.cells #[(.pointer (some ⟨bk,0,none⟩))] 37)::(C++F)):=h2;have Hs:=aqo (h3.re [1,2,3,0] rfl);clear hs h1 h2 h3;simp only[aA,aX];go_wp2
 go_ret;exact⟨b2,b3,b5,bk,bv,bp,C,rfl,Hr.out,Hs.out⟩
theorem iL {h:cB}{va:Value}{f:Nat}{tx ty:Array Value}(hd:d.Ok)(hid:0<=h.id/\h.id<18446744073709551616)(hs:St K w (blk b (.cells (nx :: .bool on::bj d p).toArray 167)::F)) :
  Calls Tryz.prog 144 #[(.pointer (some ⟨b,0,none⟩)),(.agg #[.int .u64 (h).id,.int .u64 (h).word,.int .i64 (h).pg.az,va,.string (h).pg.hi,.bool (h).pg.la,.int .u64 (h).pg.ri]),.func (.func f) tx ty] w fun e w' => ∃ b2 b3 b5,e=.returned (aX (some (aA b2 b3 b5)))/\∃ br bi bw,
  St K w' (blk b (.cells (nx :: .bool on::bj d p).toArray 167)::bD b2 b3 b5 (.iface 47 (.pointer (some ⟨br,0,none⟩))) (.func (.func f) tx ty)::(eZ br bi bw (d.node h.id 0) h.word 0++F)):=by
 have hs:=hs.made (.cells #[.int .u64 (h).id,.int .u64 (h).word,.int .i64 (h).pg.az,va,.string (h).pg.hi,.bool (h).pg.la,.int .u64 (h).pg.ri] 45);obtain⟨id,word,pg⟩:=h;simp only at hid hs;go_enter Tryz.func144,Tryz.ntmps144
 go_upto_region 1 with(fail)
 obtain⟨bh,hbh⟩:∃ bh,bh=w.heap.size:=⟨_,rfl⟩;rw[← hbh]at hs ⊢;clear hbh;refine cR hs ?_
 clear hs;intro w1 hs;have Hs:=aqo hs;clear hs;refine aT [false,false,false,false,false,false,false,false,false,true,true,false,true,true] [9,10,12,13] (fun|10=>[9] | 12=>[10] | 13=>[12] | _=>[])
  (GR K (blk bh (.cells #[.int .u64 ((⟨id,word,pg⟩:cB)).id,.int .u64 ((⟨id,word,pg⟩:cB)).word,.int .i64 ((⟨id,word,pg⟩:cB)).pg.az,va,.string ((⟨id,word,pg⟩:cB)).pg.hi,.bool ((⟨id,word,pg⟩:cB)).pg.la,.int .u64 ((⟨id,word,pg⟩:cB)).pg.ri] 45)::blk b (.cells (nx :: .bool on::bj d p).toArray 167)::F) [9,10,12,13] (mG 47 (.func (.func f) tx ty) (Yw (d.node id 0) word) 9 10 12 13))
  (fun W=>St K W (blk bh (.cells #[.int .u64 ((⟨id,word,pg⟩:cB)).id,.int .u64 ((⟨id,word,pg⟩:cB)).word,.int .i64 ((⟨id,word,pg⟩:cB)).pg.az,va,.string ((⟨id,word,pg⟩:cB)).pg.hi,.bool ((⟨id,word,pg⟩:cB)).pg.la,.int .u64 ((⟨id,word,pg⟩:cB)).pg.ri] 45)::blk b (.cells (nx :: .bool on::bj d p).toArray 167)::F)) ?aSB (by kernel_rfl) ?hBB ?HB ?Rv ?h0B ?hIB ?hRB ?hEB ?hQB
 case hBB=>as_aux_lemma=>kernel_rfl
 case HB=>
  intro W2 hs;have k0:=hs.k0;have k1:=hs.k1;unfold bj at k1;have Ql:=aqo (fun w=>iq d hd id hid.1 hid.2 w)
  clear hs;simp only[bK];repeat (go_big_quiet_step ((go_at_call 69;exact aW (Ql.out _))))
  refine wpQuiet_nil ?_
  rfl
 case Rv=>rfl
 case h0B=>exact GR.start Hs.out
 case hIB=>exact fun ρ W2 h=>h.rest
 case hRB=>exact fun ρ W2 W3 h hb=>h.same hb
 case hEB=>
  refine⟨?e1B,?e2B,?e3B,?e4B,trivial⟩;case e1B=>
   intro o ho ρ W2 h hcl oW hd2 dW aC;obtain rfl:=aqu ho;replace aC:dW=aj _ ρ [] _:=aC;obtain⟨C,R',hx1,hs,hnext⟩:=h.step mG.mono 9 [] (by decide) (by decide) (by decide) oW (by simp)
   simp only[aj]at aC;subst aC;have Hn:=aqo hnext;clear hnext hx1 h hcl hd2 oW;have Q:=aqo (kD (i:=d.node id 0) (word:=word) hs);clear hs;go_wp2_with fail
   refine(Q.out).mono ?_
   rintro e W3 ⟨br,bi,bw,rfl,hs'⟩;have dZ:=aqo hs';clear hs' Q;go_wp2
   exact⟨rfl,_,rfl,Hn.out _ _ W3 ⟨br,bi,bw,rfl,rfl⟩ dZ.out⟩
  case e2B=>
   intro o ho ρ W2 h hcl kH hd2 dW aC;obtain rfl:=aqu ho;replace aC:dW=aj _ ρ [9] _:=aC;obtain⟨v9,oW⟩:=aqr.1 (hd2 9 (by show _∈[9];simp))
   simp only[aj,oW,Option.getD_some,aL,Act.put,aqv]at aC;subst aC;have H:=aqo (h.jM mG.mono 10 (by decide) (by simp) kH (.iface 47 v9) ⟨⟨v9,iG kH oW,rfl⟩,rfl⟩)
   clear h hcl hd2 kH oW;go_wp2
   exact⟨rfl,_,rfl,H.out⟩
  case e3B=>
   intro o ho ρ W2 h hcl eC hd2 dW aC;obtain rfl:=aqu ho;replace aC:dW=aj _ ρ [10] _:=aC;obtain⟨v10,kH⟩:=aqr.1 (hd2 10 (by show _∈[10];simp))
   obtain⟨Vk,R8,⟨⟨u1,hu1,rfl⟩,_⟩,_⟩:=h.at 10 (by simp) kH
   obtain⟨C,R',hx1,hs,hnext⟩:=h.step mG.mono 12 [] (by decide) (by decide) (by decide) eC (by simp)
   simp only[aj,kH,Option.getD_some,aL,Act.put,aqv]at aC;subst aC;have hu2:∀ v,upd ρ 12 v 9=some u1:=fun v=>iG eC hu1
   have Hn:=aqo hnext;have Hu:=aqo hu2;clear hnext hx1 h hcl hd2 kH eC hu1 hu2;have Q:=aqo (fF (T2:=47) (xv:=u1) (f:=f) (tx:=tx) (ty:=ty) hs);clear hs;go_wp2_with fail
   refine(Q.out).mono ?_
   rintro e W3 ⟨b2,b3,b5,rfl,hs'⟩;have dZ:=aqo hs';clear hs' Q;simp only[aA,aX];go_wp2
   exact⟨rfl,_,rfl,Hn.out _ [_] W3 ⟨u1,b2,b3,b5,Hu.out _,rfl,rfl⟩ dZ.out⟩
  case e4B=>
   intro o ho ρ W2 h hcl eu hd2 dW aC;obtain rfl:=aqu ho;replace aC:dW=aj _ ρ [12] _:=aC;obtain⟨v12,eC⟩:=aqr.1 (hd2 12 (by show _∈[12];simp))
   obtain⟨Vk,R8,⟨u1,b2,b3,b5,hu1,rfl,_⟩,_⟩:=h.at 12 (by simp) eC
   simp only[aj,eC,Option.getD_some,aL,Act.put,aqv]at aC;subst aC;have H:=aqo (h.jM mG.mono 13 (by decide) (by simp) eu (aX (some (aA b2 b3 b5))) ⟨⟨b2,b3,b5,rfl,iG eu eC⟩,rfl⟩)
   clear h hcl hd2 eC eu hu1;simp only[aA,aX]at H ⊢;go_wp2
   exact⟨rfl,_,rfl,H.out⟩
 case hQB=>
 intro ρ W2 h hall;obtain⟨u1,b2,b3,b5,C,hΦ,oW,kH,eC,eu,hs⟩:=mG.last (by decide) h hall
 simp only[aj,oW,kH,eC,eu,Option.getD_some,aL,Act.put,aqv];clear h hall oW kH eC eu Hs;obtain⟨br,bi,bw,rfl,rfl⟩:=hΦ;have Hs:=aqo hs;clear hs;simp only[aA,aX];go_wp2
 go_ret;refine⟨b2,b3,b5,rfl,br,bi,bw,?_⟩;have hs:St K W2 (bD b2 b3 b5 _ _::blk br _::blk bi _::blk bw _::blk bh _::blk b (.cells (nx :: .bool on::bj d p).toArray 167)::F):=Hs.out;exact(hs.re [4,5,0,1,2,3] rfl).tail
theorem l6 (x:Bool)(hs:St K w (blk b (.cells (nx :: .bool on::bj d p).toArray 167)::F)):Calls Tryz.prog 146 #[(.pointer (some ⟨b,0,none⟩)),.bool x] w fun e w' => e=.returned .nilFunc/\St K w' (blk b (.cells (nx :: .bool on::bj d (⟨p.az,p.sep,p.ch,x⟩:j4)).toArray 167)::F):=by
 have k0:=hs.k0;have f0:=hs.f0;unfold bj at k0;have Hs:Hid (St K _ (blk b (.cells (nx :: .bool on::bj d (⟨p.az,p.sep,p.ch,x⟩:j4)).toArray 167)::F)):=aqo (hs.aI 12 (.bool x));clear hs;go_enter Tryz.func146,Tryz.ntmps146
 go_wp2
 go_ret;exact⟨rfl,Hs.out⟩
end
def ai5 (d:aR)(fr:cB)(fu:Pg)(v:Value)(C:List aB):Prop:=∃ (bi:Nat) (s:fU),v=(.pointer (some ⟨bi,0,none⟩))/\oX d fr fu s/\kI d fr fu bi s C
section
variable {K:aK}{w:World}{F:List aB}{b:Nat}{d:aR}{p:j4}{nx:Value}{on:Bool}
theorem vK {fr:cB}{fu:Pg}{af:Option Addr}{cf:Nat}(hd:d.Ok)(hfr:fr.Ok d)(he:fu=aZ fr.pg p.sep p.ch)(hno:decide (gM fr.pg.sl p.sep<je fr.pg.sl p.sep)=false)(dF:kV fr.pg.sl)(lp:lq d fr fu)(hs:St K w (blk b (.cells (nx :: .bool on::bj d p).toArray 167)::bq (.slice af fr.pg.sl.length cf) fr.pg::F)) :
  Calls Tryz.prog 147 #[(.pointer (some ⟨b,0,none⟩)),(.agg #[.int .u64 (fr).id,.int .u64 (fr).word,.int .i64 (fr).pg.az,(.slice af fr.pg.sl.length cf),.string (fr).pg.hi,.bool (fr).pg.la,.int .u64 (fr).pg.ri])] w fun e w' => ∃ b2 b3 b5 bi bA ei s C,e=.returned (aX (some (aA b2 b3 b5)))/\oX d fr fu s/\kI d fr fu bi s C /\
  St K w' (blk b (.cells (nx :: .bool on::bj d p).toArray 167)::bD b2 b3 b5 (.iface 82 (.pointer (some ⟨bi,0,none⟩))) (l4 bA ei)::([blk bA (.cells #[(.pointer (some ⟨b,0,none⟩))] 100),blk ei (.cells #[(.pointer (some ⟨bi,0,none⟩))] 82)]++(C++F))):=by
 have hs:=(hs.made (.cells #[(.pointer (some ⟨b,0,none⟩))] 100)).made (.cells #[.int .u64 (fr).id,.int .u64 (fr).word,.int .i64 (fr).pg.az,(.slice af fr.pg.sl.length cf),.string (fr).pg.hi,.bool (fr).pg.la,.int .u64 (fr).pg.ri] 45);simp only[World.size_alloc]at hs;have q:=fun(W:World) (R:List aB) (h:St K W (bq (.slice af fr.pg.sl.length cf) fr.pg::R))=>Cb (key:=p.sep) (ref:=p.ch) hd hfr he hno dF lp h
 have Qi:=aqo q;clear q he hno dF lp;go_enter Tryz.func147,Tryz.ntmps147
 go_upto_region 1 with(fail)
 obtain⟨bp,mP⟩:∃ bp,bp=w.heap.size:=⟨_,rfl⟩;rw[← mP]at hs ⊢;clear mP;refine cR hs ?_
 clear hs;intro w1 hs;have hs:St K w1 ([bq (.slice af fr.pg.sl.length cf) fr.pg]++(blk (bp+1) (.cells #[.int .u64 (fr).id,.int .u64 (fr).word,.int .i64 (fr).pg.az,(.slice af fr.pg.sl.length cf),.string (fr).pg.hi,.bool (fr).pg.la,.int .u64 (fr).pg.ri] 45)::blk bp (.cells #[(.pointer (some ⟨b,0,none⟩))] 100)::blk b (.cells (nx :: .bool on::bj d p).toArray 167)::F)):=(show St K w1 (_::_::_::bq (.slice af fr.pg.sl.length cf) fr.pg::F)from hs).b3
 have Hs:=aqo hs;clear hs;refine aT [false,false,false,false,false,false,false,false,false,false,false,false,false,true,true,true] [13,14,15] (fun|15=>[13,14] | _=>[])
  (su K ([bq (.slice af fr.pg.sl.length cf) fr.pg]) (blk (bp+1) (.cells #[.int .u64 (fr).id,.int .u64 (fr).word,.int .i64 (fr).pg.az,(.slice af fr.pg.sl.length cf),.string (fr).pg.hi,.bool (fr).pg.la,.int .u64 (fr).pg.ri] 45)::blk bp (.cells #[(.pointer (some ⟨b,0,none⟩))] 100)::blk b (.cells (nx :: .bool on::bj d p).toArray 167)::F) 82 (.pointer none) 13 14 15 (ai5 d fr fu))
  (fun W=>St K W (blk (bp+1) (.cells #[.int .u64 (fr).id,.int .u64 (fr).word,.int .i64 (fr).pg.az,(.slice af fr.pg.sl.length cf),.string (fr).pg.hi,.bool (fr).pg.la,.int .u64 (fr).pg.ri] 45)::blk bp (.cells #[(.pointer (some ⟨b,0,none⟩))] 100)::blk b (.cells (nx :: .bool on::bj d p).toArray 167)::F)) ?aSC (by kernel_rfl) ?hBC ?HC ?aa9 ?h0C ?hIC ?hRC ?hEC ?hQC
 case hBC=>as_aux_lemma=>kernel_rfl
 case HC=>
  intro W2 hs;have k0:=hs.k0;have k1:=hs.k1;have k2:=hs.k2;unfold bj at k2;clear hs;simp only[bK];repeat (go_big_quiet_step (fail))
  refine wpQuiet_nil ?_
  rfl
 case aa9=>rfl
 case h0C=>exact su.start Hs.out
 case hIC=>exact fun ρ W2 h=>h.rest
 case hRC=>exact fun ρ W2 W3 h hb=>h.same hb
 case hEC=>
  refine⟨?e1C,?e2C,?e3C,trivial⟩;case e1C=>
   intro o ho ρ W2 h hcl eu hd2 dW aC;obtain rfl:=aqu ho;replace aC:dW=aj _ ρ [] _:=aC;have uF:ρ 15=none:=hcl.none (by simp) (show 13∈[13,14]by simp) eu
   obtain⟨X,hs,hnext⟩:=h.call (by omega) (by omega) eu uF
   simp only[aj]at aC;subst aC;have Hn:=aqo hnext;clear hnext hcl hd2 eu uF h;go_wp2_with fail
   refine(Qi.out _ _ hs).mono ?_
   rintro e W3 ⟨bi,s,C,rfl,hb,hr,hs'⟩;have dZ:=aqo hs';clear hs hs';go_wp2
   exact⟨rfl,_,rfl,Hn.out _ _ W3 ⟨bi,s,rfl,hb,hr⟩ dZ.out⟩
  case e2C=>
   intro o ho ρ W2 h hcl gG hd2 dW aC;obtain rfl:=aqu ho;replace aC:dW=aj _ ρ [] _:=aC;have uF:ρ 15=none:=hcl.none (by simp) (show 14∈[13,14]by simp) gG
   have Hn:=aqo (h.var (by omega) (by omega) gG uF)
   simp only[aj]at aC;subst aC;clear hcl hd2 gG uF h;go_wp2
   exact⟨rfl,_,rfl,Hn.out⟩
  case e3C=>
   intro o ho ρ W2 h hcl uF hd2 dW aC;obtain rfl:=aqu ho;replace aC:dW=aj _ ρ [13,14] _:=aC;obtain⟨v13,eu⟩:=aqr.1 (hd2 13 (by show _∈[13,14];simp))
   obtain⟨v14,gG⟩:=aqr.1 (hd2 14 (by show _∈[13,14];simp))
   obtain⟨bv,R',rfl,⟨C,bi,s,rfl,_⟩,hs,hnext⟩:=h.store (by omega) (by omega) eu gG uF
   simp only[aj,eu,gG,Option.getD_some,aL,Act.put,aqv]at aC;subst aC;have k0:=hs.k0;have f0:=hs.f0;have gh:Hid (St K _ (blk bv (.cells #[(.pointer (some ⟨bi,0,none⟩))] 82)::R')):=aqo (hs.aI 0 (.pointer (some ⟨bi,0,none⟩)));have Hn:=aqo hnext;clear hs hnext hcl hd2 h eu gG uF;go_wp2
   exact⟨rfl,undef,rfl,Hn.out _ gh.out⟩
 case hQC=>
 intro ρ W2 h hall;obtain⟨bv,v,C,eu,gG,⟨v15,uF⟩,hΦ,hs⟩:=h.last hall;simp only[aj,eu,gG,uF,Option.getD_some,aL,Act.put,aqv];clear h hall eu gG uF Hs;obtain⟨bi,s,rfl,hb,hr⟩:=hΦ;have kv:=hs.k0;have Q:=aqo (fF (T2:=82) (xv:=(.pointer (some ⟨bi,0,none⟩))) (f:=175) (tx:= #[]) (ty:= #[(.pointer (some ⟨bp,0,none⟩)),(.pointer (some ⟨bv,0,none⟩))]) hs);have Hr:=aqo hr;have Hb:=aqo hb;clear hs hr hb Qi;go_wp2_with fail
 refine(Q.out).mono ?_
 clear Q kv;rintro e w3 ⟨b2,b3,b5,rfl,hs⟩;have h1:St K w3 ([bD b2 b3 b5 (.iface 82 (.pointer (some ⟨bi,0,none⟩))) (l4 bp bv),blk bv (.cells #[(.pointer (some ⟨bi,0,none⟩))] 82)]++(C++([blk (bp+1) (.cells #[.int .u64 (fr).id,.int .u64 (fr).word,.int .i64 (fr).pg.az,(.slice af fr.pg.sl.length cf),.string (fr).pg.hi,.bool (fr).pg.la,.int .u64 (fr).pg.ri] 45),blk bp (.cells #[(.pointer (some ⟨b,0,none⟩))] 100),blk b (.cells (nx :: .bool on::bj d p).toArray 167)]++F))):=hs;have h2:=h1.mid;have h3:St K w3 (blk (bp+1) (.cells #[.int .u64 (fr).id,.int .u64 (fr).word,.int .i64 (fr).pg.az,(.slice af fr.pg.sl.length cf),.string (fr).pg.hi,.bool (fr).pg.la,.int .u64 (fr).pg.ri] 45)::blk bp (.cells #[(.pointer (some ⟨b,0,none⟩))] 100)::blk b (.cells (nx :: .bool on::bj d p).toArray 167)::bD b2 b3 b5 (.iface 82 (.pointer (some ⟨bi,0,none⟩))) (l4 bp bv)::blk bv (.cells #[(.pointer (some ⟨bi,0,none⟩))] 82)::(C++F)):=h2;have Hs:=aqo (h3.tail.re [1,2,0,3] rfl);clear hs h1 h2 h3;simp only[aA,aX];go_wp2
 go_ret;exact⟨b2,b3,b5,bi,bp,bv,s,C,rfl,Hb.out,Hr.out,Hs.out⟩
theorem Cp (hs:St K w (blk b (.cells (nx :: .bool on::bj d p).toArray 167)::F)):Calls Tryz.prog 143 #[(.pointer (some ⟨b,0,none⟩))] w fun e w' => ∃ b2 b3 b5,e=.returned (aX (some (aA b2 b3 b5)))/\∃ ba bA eT,
  St K w' (blk b (.cells (nx :: .bool on::bj d p).toArray 167)::bD b2 b3 b5 (.iface 175 (.pointer (some ⟨ba,0,none⟩))) (yI bA eT)::([blk bA (.cells #[(.pointer (some ⟨b,0,none⟩))] 100),blk eT (.cells #[(.pointer (some ⟨ba,0,none⟩))] 175)]++(fT ba 7 mF::F))):=by
 have hs:=hs.made (.cells #[(.pointer (some ⟨b,0,none⟩))] 100);have Qg:=aqo (fun w=>zy d w)
 go_enter Tryz.func143,Tryz.ntmps143
 go_upto_region 1 with(fail)
 obtain⟨bp,mP⟩:∃ bp,bp=w.heap.size:=⟨_,rfl⟩;rw[← mP]at hs ⊢;clear mP;refine cR hs ?_
 clear hs;intro w1 hs;have k0:=hs.k0;have k1:=hs.k1;unfold bj at k1;go_wp2_with fail
 refine(bE hs (Qg.out _)).mono ?_
 clear hs k0 k1;rintro e w2 ⟨rfl,hs⟩;have Q:=aqo (oz (i:=7) hs);clear hs;go_wp2_with fail
 refine(Q.out).mono ?_
 clear Q;rintro e w3 ⟨ba,rfl,hs⟩;have hs:=hs.made (.cells #[(.pointer (some ⟨ba,0,none⟩))] 175);obtain⟨bv,nN⟩:∃ bv,bv=w3.heap.size:=⟨_,rfl⟩;rw[← nN]at hs;go_upto_region 2 with(fail)
 rw[← nN];clear nN;refine cR hs ?_
 clear hs;intro w4 hs;have kv:=hs.k0;have Q:=aqo (fF (T2:=175) (xv:=(.pointer (some ⟨ba,0,none⟩))) (f:=170) (tx:= #[]) (ty:= #[(.pointer (some ⟨bp,0,none⟩)),(.pointer (some ⟨bv,0,none⟩))]) hs);clear hs;go_wp2_with fail
 refine(Q.out).mono ?_
 clear Q kv;rintro e w5 ⟨b2,b3,b5,rfl,hs⟩;have Hs:=aqo (hs.re [4,0,3,1,2] rfl);clear hs;simp only[aA,aX];go_wp2
 go_ret;exact⟨b2,b3,b5,rfl,ba,bp,bv,Hs.out⟩
theorem l7 {word:Int}{f:Nat}{tx ty:Array Value}(hs:St K w (blk b (.cells (nx :: .bool on::bj d p).toArray 167)::F)):Calls Tryz.prog 173 #[(.pointer (some ⟨b,0,none⟩)),.int .u64 word,.func (.func f) tx ty] w fun e w' => ∃ b2 b3 b5,e=.returned (aX (some (aA b2 b3 b5)))/\∃ br bi bw,
  St K w' (blk b (.cells (nx :: .bool on::bj d p).toArray 167)::bD b2 b3 b5 (.iface 47 (.pointer (some ⟨br,0,none⟩))) (.func (.func f) tx ty)::(eZ br bi bw 7 word 0++F)):=by
 have Qg:=aqo (fun w=>zy d w)
 have k0:=hs.k0;unfold bj at k0;go_enter Tryz.func173,Tryz.ntmps173
 go_wp2_with fail
 refine(bE hs (Qg.out _)).mono ?_
 clear hs k0;rintro e w2 ⟨rfl,hs⟩;have Q:=aqo (kD (i:=7) (word:=word) hs);clear hs;go_wp2_with fail
 refine(Q.out).mono ?_
 clear Q;rintro e w3 ⟨br,bi,bw,rfl,hs⟩;have Q:=aqo (fF (T2:=47) (xv:=(.pointer (some ⟨br,0,none⟩))) (f:=f) (tx:=tx) (ty:=ty) hs);clear hs;go_wp2_with fail
 refine(Q.out).mono ?_
 clear Q;rintro e w5 ⟨b2,b3,b5,rfl,hs⟩;have Hs:=aqo ((show St K w5 (_::_::_::_::blk b (.cells (nx :: .bool on::bj d p).toArray 167)::F)from hs).re [4,0,1,2,3] rfl)
 clear hs;simp only[aA,aX];go_wp2
 go_ret;exact⟨b2,b3,b5,rfl,br,bi,bw,Hs.out⟩
end
section
variable {K:aK}{w:World}{F:List aB}{b:Nat}{d:aR}{p:j4}{nx:Value}{on:Bool}
def ai6 (lim:Int)(v:Value)(C:List aB):Prop:=∃ bt,v=(.pointer (some ⟨bt,0,none⟩))/\C=[gH bt 4 lim ⟨0,0,false⟩]
theorem yK {root word:Int}(hd:d.Ok)(hs:St K w (blk b (.cells (nx :: .bool on::bj d p).toArray 167)::F)):Calls Tryz.prog 174 #[(.pointer (some ⟨b,0,none⟩)),.int .u64 root,.int .u64 word] w fun e w' => ∃ b2 b3 b5,e=.returned (aX (some (aA b2 b3 b5)))/\∃ bt wZ bA fc jE,
  St K w' (blk b (.cells (nx :: .bool on::bj d p).toArray 167)::bD b2 b3 b5 (.iface 156 (.pointer (some ⟨bt,0,none⟩))) (yJ wZ bA fc jE)::([blk wZ (.cells #[(.pointer (some ⟨bt,0,none⟩))] 156),blk bA (.cells #[(.pointer (some ⟨b,0,none⟩))] 100),blk fc (.cells #[.int .u64 word] 23),blk jE (.cells #[.int .u64 root] 23)]++(gH bt 4 d.no ⟨0,0,false⟩::F))):=by
 have hs:=((hs.made (.cells #[(.pointer (some ⟨b,0,none⟩))] 100)).made (.cells #[.int .u64 root] 23)).made (.cells #[.int .u64 word] 23);simp only[World.size_alloc]at hs;have Wv:=hd.Iw;have iY:=hd.mM;have Qn:=aqo (fun w=>qI d w)
 have Qc:=aqo (fun w=>lK d w)
 have hw:IntKind.u64.wrap d.no=d.no:=by rw[IntKind.wrap_u64];omega
 go_enter Tryz.func174,Tryz.ntmps174
 go_upto_region 1 with(fail)
 obtain⟨bp,mP⟩:∃ bp,bp=w.heap.size:=⟨_,rfl⟩;rw[← mP]at hs ⊢;clear mP Wv iY;refine cR hs ?_
 clear hs;intro w1 hs;have Hs:=aqo hs;clear hs;refine aT [false,false,false,false,false,false,false,false,false,false,false,false,true,true,true] [12,13,14] (fun|14=>[12,13] | _=>[])
  (oA K (blk (bp+1+1) (.cells #[.int .u64 word] 23)::blk (bp+1) (.cells #[.int .u64 root] 23)::blk bp (.cells #[(.pointer (some ⟨b,0,none⟩))] 100)::blk b (.cells (nx :: .bool on::bj d p).toArray 167)::F) 156 (.pointer none) 12 13 14 (ai6 d.no))
  (fun W=>St K W (blk (bp+1+1) (.cells #[.int .u64 word] 23)::blk (bp+1) (.cells #[.int .u64 root] 23)::blk bp (.cells #[(.pointer (some ⟨b,0,none⟩))] 100)::blk b (.cells (nx :: .bool on::bj d p).toArray 167)::F)) ?aSD (by kernel_rfl) ?hBD ?HD ?abb ?h0D ?hID ?hRD ?hED ?hQD
 case hBD=>as_aux_lemma=>kernel_rfl
 case HD=>
  intro W2 hs;have k0:=hs.k0;have k1:=hs.k1;have k2:=hs.k2;have k3:=hs.b3.k0;unfold bj at k3;have aik:=uo d;clear hs;simp only[bK];repeat (go_big_quiet_step (first|(go_at_call 99;exact aW (Qn.out _))|(go_at_call 96;exact aW (Qc.out _))))
  refine wpQuiet_nil ?_
  rfl
 case abb=>rfl
 case h0D=>exact oA.start Hs.out
 case hID=>exact fun ρ W2 h=>h.rest
 case hRD=>exact fun ρ W2 W3 h hb=>h.same hb
 case hED=>
  refine⟨?e1D,?e2D,?e3D,trivial⟩;case e1D=>
   intro o ho ρ W2 h hcl eC hd2 dW aC;obtain rfl:=aqu ho;replace aC:dW=aj _ ρ [] _:=aC;have gG:ρ 14=none:=hcl.none (by simp) (show 12∈[12,13]by simp) eC
   obtain⟨X,hs,hnext⟩:=h.call (by omega) (by omega) eC gG
   simp only[aj]at aC;subst aC;have Hn:=aqo hnext;clear hnext hcl hd2 eC gG h;go_wp2_with fail
   refine(ui (i:=4) (lim:=d.no) hs).mono ?_
   rintro e W3 ⟨bt,rfl,hs'⟩;have dZ:=aqo hs';clear hs hs';go_wp2
   exact⟨rfl,_,rfl,Hn.out _ _ W3 ⟨bt,rfl,rfl⟩ dZ.out⟩
  case e2D=>
   intro o ho ρ W2 h hcl eu hd2 dW aC;obtain rfl:=aqu ho;replace aC:dW=aj _ ρ [] _:=aC;have gG:ρ 14=none:=hcl.none (by simp) (show 13∈[12,13]by simp) eu
   have Hn:=aqo (h.var (by omega) (by omega) eu gG)
   simp only[aj]at aC;subst aC;clear hcl hd2 eu gG h;go_wp2
   exact⟨rfl,_,rfl,Hn.out⟩
  case e3D=>
   intro o ho ρ W2 h hcl gG hd2 dW aC;obtain rfl:=aqu ho;replace aC:dW=aj _ ρ [12,13] _:=aC;obtain⟨v12,eC⟩:=aqr.1 (hd2 12 (by show _∈[12,13];simp))
   obtain⟨v13,eu⟩:=aqr.1 (hd2 13 (by show _∈[12,13];simp))
   obtain⟨bv,R',rfl,⟨C,bt,rfl,_⟩,hs,hnext⟩:=h.store (by omega) (by omega) eC eu gG
   simp only[aj,eC,eu,Option.getD_some,aL,Act.put,aqv]at aC;subst aC;have k0:=hs.k0;have f0:=hs.f0;have gh:Hid (St K _ (blk bv (.cells #[(.pointer (some ⟨bt,0,none⟩))] 156)::R')):=aqo (hs.aI 0 (.pointer (some ⟨bt,0,none⟩)));have Hn:=aqo hnext;clear hs hnext hcl hd2 h eC eu gG;go_wp2
   exact⟨rfl,undef,rfl,Hn.out _ gh.out⟩
 case hQD=>
 intro ρ W2 h hall;obtain⟨bv,v,C,eC,eu,⟨v14,gG⟩,hΦ,hs⟩:=h.last hall;simp only[aj,eC,eu,gG,Option.getD_some,aL,Act.put,aqv];clear h hall eC eu gG Hs;obtain⟨bt,rfl,rfl⟩:=hΦ;have kv:=hs.k0;have Q:=aqo (fF (T2:=156) (xv:=(.pointer (some ⟨bt,0,none⟩))) (f:=184) (tx:= #[]) (ty:= #[(.pointer (some ⟨bv,0,none⟩)),(.pointer (some ⟨bp,0,none⟩)),(.pointer (some ⟨(bp+1+1),0,none⟩)),(.pointer (some ⟨(bp+1),0,none⟩))]) hs);clear hs;go_wp2_with fail
 refine(Q.out).mono ?_
 clear Q kv;rintro e w3 ⟨b2,b3,b5,rfl,hs⟩;have Hs:=aqo ((show St K w3 (_::_::_::_::_::_::blk b (.cells (nx :: .bool on::bj d p).toArray 167)::F)from hs).re [6,0,1,5,3,4,2] rfl)
 clear hs;simp only[aA,aX];go_wp2
 go_ret;exact⟨b2,b3,b5,rfl,bt,bv,bp,bp+1+1,bp+1,Hs.out⟩
theorem sw {bA:Nat}(hs:St K w (blk b (.cells (nx :: .bool on::bj d p).toArray 167)::blk bA (.cells #[(.pointer (some ⟨b,0,none⟩))] 100)::F)):Calls Tryz.prog 145 #[(.pointer (some ⟨bA,0,none⟩))] w fun e w' => e=.returned .nilFunc/\St K w' (blk b (.cells (nx :: .bool on::bj d (⟨p.az,p.sep,p.ch,true⟩:j4)).toArray 167)::blk bA (.cells #[(.pointer (some ⟨b,0,none⟩))] 100)::F):=by
 have kv:=hs.k1;have Q:=aqo (l6 true hs);clear hs;go_enter Tryz.func145,Tryz.ntmps145
 go_wp2_with fail
 refine(Q.out).mono ?_
 clear Q kv;rintro e w1 ⟨rfl,hs⟩;have Hs:=aqo hs;clear hs;go_wp2
 go_ret;exact⟨rfl,Hs.out⟩
theorem sx {bA:Nat}(hs:St K w (blk b (.cells (nx :: .bool on::bj d p).toArray 167)::blk bA (.cells #[(.pointer (some ⟨b,0,none⟩))] 100)::F)):Calls Tryz.prog 185 #[(.pointer (some ⟨bA,0,none⟩))] w fun e w' => e=.returned .nilFunc/\St K w' (blk b (.cells (nx :: .bool on::bj d (⟨p.az,p.sep,p.ch,false⟩:j4)).toArray 167)::blk bA (.cells #[(.pointer (some ⟨b,0,none⟩))] 100)::F):=by
 have kv:=hs.k1;have Q:=aqo (l6 false hs);clear hs;go_enter Tryz.func185,Tryz.ntmps185
 go_wp2_with fail
 refine(Q.out).mono ?_
 clear Q kv;rintro e w1 ⟨rfl,hs⟩;have Hs:=aqo hs;clear hs;go_wp2
 go_ret;exact⟨rfl,Hs.out⟩
def Ka (bA:Nat):Value:= .func (.func 145) #[] #[(.pointer (some ⟨bA,0,none⟩))]
def ad8 (K:aK)(b:Nat)(nx:Value)(on:Bool)(d:aR)(p:j4)(h:cB)(F:List aB)(e:Ending)(w':World):Prop:=
 (h.id=0/\∃ b2 b3 b5 ba bA eT,e=.returned (aX (some (aA b2 b3 b5))) /\
  St K w' (blk b (.cells (nx :: .bool on::bj d p).toArray 167)::bD b2 b3 b5 (.iface 175 (.pointer (some ⟨ba,0,none⟩))) (yI bA eT)::([blk bA (.cells #[(.pointer (some ⟨b,0,none⟩))] 100),blk eT (.cells #[(.pointer (some ⟨ba,0,none⟩))] 175)]++(fT ba 7 mF::F)))) \/
 (h.id≠0/\gM h.pg.sl p.sep<je h.pg.sl p.sep/\∃ b2 b3 b5 br bi bw bA,e=.returned (aX (some (aA b2 b3 b5))) /\
  St K w' (blk b (.cells (nx :: .bool on::bj d p).toArray 167)::bD b2 b3 b5 (.iface 47 (.pointer (some ⟨br,0,none⟩))) (Ka bA)::([blk bA (.cells #[(.pointer (some ⟨b,0,none⟩))] 100)]++(eZ br bi bw (d.node h.id 0) h.word 0++F)))) \/
 (h.id≠0/\¬ gM h.pg.sl p.sep<je h.pg.sl p.sep/\∃ b2 b3 b5 bi bA ei s C,e=.returned (aX (some (aA b2 b3 b5)))/\oX d h (aZ h.pg p.sep p.ch) s/\kI d h (aZ h.pg p.sep p.ch) bi s C /\
  St K w' (blk b (.cells (nx :: .bool on::bj d p).toArray 167)::bD b2 b3 b5 (.iface 82 (.pointer (some ⟨bi,0,none⟩))) (l4 bA ei)::([blk bA (.cells #[(.pointer (some ⟨b,0,none⟩))] 100),blk ei (.cells #[(.pointer (some ⟨bi,0,none⟩))] 82)]++(C++F))))
theorem uG {bk iQ bA:Nat}{nl:Value}{h:cB}{a:Option Addr}{c:Nat}(hd:d.Ok)(hn:h.pg.sl.length<=1000000)(hok:h.id≠0->h.Ok d/\kV h.pg.sl/\(¬ gM h.pg.sl p.sep<je h.pg.sl p.sep->lq d h (aZ h.pg p.sep p.ch)))
  (hs:St K w (blk b (.cells (nx :: .bool on::bj d p).toArray 167)::blk iQ (.cells #[(.pointer (some ⟨bk,0,none⟩))] 37)::blk bA (.cells #[(.pointer (some ⟨b,0,none⟩))] 100)::blk bk (.cells (nl :: .bool true::ea d p.sep h (.slice a h.pg.sl.length c)).toArray 125)::bq (.slice a h.pg.sl.length c) h.pg::F)) :
  Calls Tryz.prog 142 #[(.pointer (some ⟨iQ,0,none⟩)),(.pointer (some ⟨bA,0,none⟩))] w (ad8 K b nx on d p h F):=by
 have kk:=hs.k1;have Q:=aqo (Ca hn (hs.re [3,4,0,1,2] rfl));have Hok:=aqo hok;clear hs hok;go_enter Tryz.func142,Tryz.ntmps142
 go_wp2_with fail
 refine(Q.out).mono ?_
 clear Q kk;rintro e w1 ⟨va,rfl,hs⟩;obtain⟨a1,c1,rfl,_,_⟩:=(show St K w1 (ak va 69 2 h.pg.sl.length (aD h.pg.sl)::_)from hs).aF
 have hs:St K w1 (bq (.slice a1 h.pg.sl.length c1) h.pg::blk b (.cells (nx :: .bool on::bj d p).toArray 167)::blk iQ (.cells #[(.pointer (some ⟨bk,0,none⟩))] 37)::blk bA (.cells #[(.pointer (some ⟨b,0,none⟩))] 100)::F):=((show St K w1 (bq (.slice a1 h.pg.sl.length c1) h.pg::_::_::blk b (.cells (nx :: .bool on::bj d p).toArray 167)::_::_::F)from hs).re [1,2,0,3,4,5] rfl).tail.tail
 have hs:=hs.made (.cells #[.int .u64 (h).id,.int .u64 (h).word,.int .i64 (h).pg.az,(.slice a1 h.pg.sl.length c1),.string (h).pg.hi,.bool (h).pg.la,.int .u64 (h).pg.ri] 45);obtain⟨bh,hbh⟩:∃ bh,bh=w1.heap.size:=⟨_,rfl⟩;rw[← hbh]at hs;go_upto_region 2 with(fail)
 rw[← hbh];clear hbh;refine cR hs ?_
 clear hs;intro w2 hs;have k0:=hs.k0;have kp:=hs.b4.k0;obtain⟨id,word,pg⟩:=h;simp only at hn hs k0;by_cases h0:id=0
 ·subst h0
  have q:=Cp (F:=blk bh (.cells #[.int .u64 ((⟨0,word,pg⟩:cB)).id,.int .u64 ((⟨0,word,pg⟩:cB)).word,.int .i64 ((⟨0,word,pg⟩:cB)).pg.az,(.slice a1 pg.sl.length c1),.string ((⟨0,word,pg⟩:cB)).pg.hi,.bool ((⟨0,word,pg⟩:cB)).pg.la,.int .u64 ((⟨0,word,pg⟩:cB)).pg.ri] 45)::bq (.slice a1 pg.sl.length c1) pg::blk iQ (.cells #[(.pointer (some ⟨bk,0,none⟩))] 37)::blk bA (.cells #[(.pointer (some ⟨b,0,none⟩))] 100)::F) (hs.re [2,0,1,3,4] rfl);have Q:=aqo q;clear q hs;go_wp2_with fail
  refine(Q.out).mono ?_
  clear Q k0 kp;rintro e w3 ⟨b2,b3,b5,rfl,ba,jl,eT,hs⟩;have Hs:=aqo ((show St K w3 (_::_::_::_::_::_::_::_::_::F)from hs).re [5,6,7,8,0,1,2,3,4] rfl).tail.tail.tail.tail
  clear hs;simp only[aA,aX];go_wp2
  go_ret;exact .inl ⟨rfl,b2,b3,b5,ba,jl,eT,rfl,Hs.out⟩
 ·obtain⟨o1,o2,o3⟩:=Hok.out h0
  have fj:=(show St K w2 (ak (.slice a1 pg.sl.length c1) 69 2 pg.sl.length (aD pg.sl)::_)from hs.b1).cN (by omega)
  have qf:=fun W (hb:Below w2.heap.size w2 W)=>nk (cap:=c1) (key:=p.sep) W (fj.same hb) o2
  have h0':(id == 0)=false:=by simpa using h0
  obtain⟨fnd,abm⟩:∃ fnd,fnd=decide (gM pg.sl p.sep<je pg.sl p.sep):=⟨_,rfl⟩;rw[← abm]at qf;have QF:=aqo qf;have ad9:=aqo abm;have H0:=aqo h0;have Ho:=aqo (And.intro o1 (And.intro o2 o3));clear qf abm fj o1 o2 o3 Hok;generalize gM pg.sl p.sep=lo at QF;go_upto_region 4 with(fail)
  clear k0 kp h0 h0';go_cut [4,5]from 999 to 0 (fun _ v5 wx=>v5=.bool fnd/\St K wx (blk bh (.cells #[.int .u64 ((⟨id,word,pg⟩:cB)).id,.int .u64 ((⟨id,word,pg⟩:cB)).word,.int .i64 ((⟨id,word,pg⟩:cB)).pg.az,(.slice a1 pg.sl.length c1),.string ((⟨id,word,pg⟩:cB)).pg.hi,.bool ((⟨id,word,pg⟩:cB)).pg.la,.int .u64 ((⟨id,word,pg⟩:cB)).pg.ri] 45)::bq (.slice a1 pg.sl.length c1) pg::blk b (.cells (nx :: .bool on::bj d p).toArray 167)::blk iQ (.cells #[(.pointer (some ⟨bk,0,none⟩))] 37)::blk bA (.cells #[(.pointer (some ⟨b,0,none⟩))] 100)::F))
  case first=>
   as_aux_lemma=>
   have k0:=hs.k0;have k2:=hs.k2;unfold bj at k2;have kp:=hs.b4.k0;have QF2:=aqo (fun wz (hy:∃ x:Ext,wz=over w2 x)=>QF.out wz (Pure.below hy))
   refine bH (by kernel_rfl) (by as_aux_lemma=>kernel_rfl) ?_
   repeat (go_big_quiet_step ((go_at_call 131;exact aW (QF2.out _ ⟨_,rfl⟩))))
   refine wpQuiet_nil ?_
   intro w5 hb5;have Hs:=aqo (hs.same hb5);clear hb5 hs k0 k2 kp QF2;go_wp2
   go_meet;exact⟨rfl,Hs.out⟩
  case rest=>
  clear hs QF;obtain⟨rfl,hs⟩:=hcut;apply_assumption
  have k0:=hs.k0;have kp:=hs.b4.k0;cases fnd with
  | true=>
   have q:=iL (h:=⟨id,word,pg⟩) (va:= .slice a1 pg.sl.length c1) (f:=145) (tx:= #[]) (ty:= #[(.pointer (some ⟨bA,0,none⟩))]) (F:=blk bh (.cells #[.int .u64 ((⟨id,word,pg⟩:cB)).id,.int .u64 ((⟨id,word,pg⟩:cB)).word,.int .i64 ((⟨id,word,pg⟩:cB)).pg.az,(.slice a1 pg.sl.length c1),.string ((⟨id,word,pg⟩:cB)).pg.hi,.bool ((⟨id,word,pg⟩:cB)).pg.la,.int .u64 ((⟨id,word,pg⟩:cB)).pg.ri] 45)::bq (.slice a1 pg.sl.length c1) pg::blk iQ (.cells #[(.pointer (some ⟨bk,0,none⟩))] 37)::blk bA (.cells #[(.pointer (some ⟨b,0,none⟩))] 100)::F) hd (by have h1:=Ho.out.1.id;have:=hd.mM;simp only at h1 ⊢;omega) (hs.re [2,0,1,3,4] rfl)
   have Q:=aqo q;clear q hs;go_wp2_with fail
   refine(Q.out).mono ?_
   clear Q k0 kp;rintro e w3 ⟨b2,b3,b5,rfl,br,bi,bw,hs⟩;have Hs:=aqo ((show St K w3 (_::_::_::_::_::_::_::_::_::F)from hs).re [5,6,7,0,1,8,2,3,4] rfl).tail.tail.tail
   clear hs;simp only[aA,aX];go_wp2
   go_ret;exact .inr (.inl ⟨H0.out,of_decide_eq_true ad9.out.symm,b2,b3,b5,br,bi,bw,bA,rfl,Hs.out⟩)
  | false=>
   have hnf:¬ gM pg.sl p.sep<je pg.sl p.sep:=of_decide_eq_false ad9.out.symm;have q:=vK (fr:=⟨id,word,pg⟩) (fu:=aZ pg p.sep p.ch) (af:=a1) (cf:=c1) (F:=blk bh (.cells #[.int .u64 ((⟨id,word,pg⟩:cB)).id,.int .u64 ((⟨id,word,pg⟩:cB)).word,.int .i64 ((⟨id,word,pg⟩:cB)).pg.az,(.slice a1 pg.sl.length c1),.string ((⟨id,word,pg⟩:cB)).pg.hi,.bool ((⟨id,word,pg⟩:cB)).pg.la,.int .u64 ((⟨id,word,pg⟩:cB)).pg.ri] 45)::blk iQ (.cells #[(.pointer (some ⟨bk,0,none⟩))] 37)::blk bA (.cells #[(.pointer (some ⟨b,0,none⟩))] 100)::F) hd Ho.out.1 rfl (decide_eq_false hnf) Ho.out.2.1 (Ho.out.2.2 hnf) (hs.re [2,1,0,3,4] rfl);have Q:=aqo q;have Hnf:=aqo hnf;clear q hs hnf;go_wp2_with fail
   refine(Q.out).mono ?_
   clear Q k0 kp;rintro e w3 ⟨b2,b3,b5,bi,jl,ei,s,C,rfl,hb,hr,hs⟩;have Hr:=aqo hr;have Hb:=aqo hb;have h1:St K w3 ([blk b (.cells (nx :: .bool on::bj d p).toArray 167),bD b2 b3 b5 (.iface 82 (.pointer (some ⟨bi,0,none⟩))) (l4 jl ei),blk jl (.cells #[(.pointer (some ⟨b,0,none⟩))] 100),blk ei (.cells #[(.pointer (some ⟨bi,0,none⟩))] 82)]++(C++([blk bh (.cells #[.int .u64 ((⟨id,word,pg⟩:cB)).id,.int .u64 ((⟨id,word,pg⟩:cB)).word,.int .i64 ((⟨id,word,pg⟩:cB)).pg.az,(.slice a1 pg.sl.length c1),.string ((⟨id,word,pg⟩:cB)).pg.hi,.bool ((⟨id,word,pg⟩:cB)).pg.la,.int .u64 ((⟨id,word,pg⟩:cB)).pg.ri] 45),blk iQ (.cells #[(.pointer (some ⟨bk,0,none⟩))] 37),blk bA (.cells #[(.pointer (some ⟨b,0,none⟩))] 100)]++F))):=hs;have h2:=h1.mid.Au;have Hs:=aqo h2;clear hs hr hb h1 h2;simp only[aA,aX];go_wp2
   go_ret;exact .inr (.inr ⟨H0.out,Hnf.out,b2,b3,b5,bi,jl,ei,s,C,rfl,Hb.out,Hr.out,Hs.out⟩)
end
def ko (ei bA:Nat):Value:= .func (.func 176) #[] #[(.pointer (some ⟨ei,0,none⟩)),(.pointer (some ⟨bA,0,none⟩))]
def jF (bA ei:Nat):Value:= .func (.func 177) #[] #[(.pointer (some ⟨bA,0,none⟩)),(.pointer (some ⟨ei,0,none⟩))]
section
variable {K:aK}{w:World}{F:List aB}{b:Nat}{d:aR}{p:j4}{nx:Value}{on:Bool}
def rP (K:aK)(b:Nat)(d:aR)(p:j4)(nx:Value)(on:Bool)(h:cB)(t:Value)(F:List aB)(u:Value)(W:World):Prop:=
 ∃ b2 b3 b5,u=aX (some (aA b2 b3 b5))/\∃ br bi bw,St K W (blk b (.cells (nx :: .bool on::bj d p).toArray 167)::bD b2 b3 b5 (.iface 47 (.pointer (some ⟨br,0,none⟩))) t::(eZ br bi bw (d.node h.id 0) h.word 0++F))
theorem rP.same {h:cB}{t u:Value}{W W':World}(hj:rP K b d p nx on h t F u W)(hb:Below W.heap.size W W'):rP K b d p nx on h t F u W' := by
 obtain⟨b2,b3,b5,e,br,bi,bw,hs⟩:=hj;exact⟨b2,b3,b5,e,br,bi,bw,hs.same hb⟩
theorem rP.rest {h:cB}{t u:Value}{W:World}(hj:rP K b d p nx on h t F u W):St K W F:=by
 obtain⟨b2,b3,b5,e,br,bi,bw,hs⟩:=hj;exact(show St K W (_::_::_::_::_::F)from hs).tail.tail.tail.tail.tail
def PhM (K:aK)(h:cB)(F:List aB)(v:Value)(W:World):Prop:=∃ (a:Option Addr) (c:Nat),v=(.agg #[.int .u64 (h).id,.int .u64 (h).word,.int .i64 (h).pg.az,(.slice a h.pg.sl.length c),.string (h).pg.hi,.bool (h).pg.la,.int .u64 (h).pg.ri])/\St K W F
theorem Sg {X Y:aB}{R:List aB}{h:cB}{t:Value}:(∀ W,St K W (blk b (.cells (nx :: .bool on::bj d p).toArray 167)::X::Y::R)->∃ cs,St K W (X::Y::cs))/\(∀ v W,PhM K h (blk b (.cells (nx :: .bool on::bj d p).toArray 167)::X::Y::R) v W->∃ cs,St K W (X::Y::cs))/\(∀ (_v u:Value) W,rP K b d p nx on h t (X::Y::R) u W->∃ cs,St K W (X::Y::cs))/\(∀ (_v u y:Value) W,(y=u/\rP K b d p nx on h t (X::Y::R) u W)->∃ cs,St K W (X::Y::cs)):=
 ⟨fun _ h=>⟨_,h.tail⟩,fun _ _ ⟨_,_,_,h⟩=>⟨_,h.tail⟩,fun _ _ _ h=>⟨_,h.rest⟩,fun _ _ _ _ h=>⟨_,h.2.rest⟩⟩
theorem Sh {R:List aB}{h:cB}{t:Value}:(∀ W W',St K W (blk b (.cells (nx :: .bool on::bj d p).toArray 167)::R)->Below W.heap.size W W' -> St K W' (blk b (.cells (nx :: .bool on::bj d p).toArray 167)::R))/\(∀ v W W',PhM K h (blk b (.cells (nx :: .bool on::bj d p).toArray 167)::R) v W->Below W.heap.size W W' -> PhM K h (blk b (.cells (nx :: .bool on::bj d p).toArray 167)::R) v W')/\(∀ (_v u:Value) W W',rP K b d p nx on h t R u W->Below W.heap.size W W' -> rP K b d p nx on h t R u W')/\(∀ (_v u y:Value) W W',(y=u/\rP K b d p nx on h t R u W)->Below W.heap.size W W' -> (y=u/\rP K b d p nx on h t R u W')):=
 ⟨fun _ _ h hb=>h.same hb,fun _ _ _ ⟨a,c,e,h⟩ hb=>⟨a,c,e,h.same hb⟩,fun _ _ _ _ h hb=>h.same hb,fun _ _ _ _ _ h hb=>⟨h.1,h.2.same hb⟩⟩
theorem sD {bA ei bi:Nat}{x:oQ}{a:Option Addr}{c:Nat}(hd:d.Ok)(hon:x.on=true)(hn:x.le.pg.sl.length<=1000000)(hv:x.vl=.slice a x.le.pg.sl.length c)(hid:0<=x.le.id/\x.le.id<18446744073709551616)
  (hs:St K w (blk b (.cells (nx :: .bool on::bj d p).toArray 167)::blk bA (.cells #[(.pointer (some ⟨b,0,none⟩))] 100)::blk ei (.cells #[(.pointer (some ⟨bi,0,none⟩))] 82)::bz bi .nilFunc d x::bq x.vl x.le.pg::F)) :
  Calls Tryz.prog 175 #[(.pointer (some ⟨bA,0,none⟩)),(.pointer (some ⟨ei,0,none⟩))] w fun e w' => ∃ u,e=.returned u/\rP K b d p nx on x.le (ko ei bA) (blk bA (.cells #[(.pointer (some ⟨b,0,none⟩))] 100)::blk ei (.cells #[(.pointer (some ⟨bi,0,none⟩))] 82)::bz bi .nilFunc d x::bq x.vl x.le.pg::F) u w' := by
 have Hv:=aqo hv;clear hv;go_enter Tryz.func175,Tryz.ntmps175
 go_upto_region 1 with(fail)
 have Hs:=aqo hs;clear hs;refine jB [false,false,true,false,true,true] 2 4 5
  (fun W=>St K W (blk b (.cells (nx :: .bool on::bj d p).toArray 167)::blk bA (.cells #[(.pointer (some ⟨b,0,none⟩))] 100)::blk ei (.cells #[(.pointer (some ⟨bi,0,none⟩))] 82)::bz bi .nilFunc d x::bq x.vl x.le.pg::F))
  (PhM K x.le (blk b (.cells (nx :: .bool on::bj d p).toArray 167)::blk bA (.cells #[(.pointer (some ⟨b,0,none⟩))] 100)::blk ei (.cells #[(.pointer (some ⟨bi,0,none⟩))] 82)::bz bi .nilFunc d x::bq x.vl x.le.pg::F))
  (fun _ u W=>rP K b d p nx on x.le (ko ei bA) (blk bA (.cells #[(.pointer (some ⟨b,0,none⟩))] 100)::blk ei (.cells #[(.pointer (some ⟨bi,0,none⟩))] 82)::bz bi .nilFunc d x::bq x.vl x.le.pg::F) u W)
  (fun _ u y W=>y=u/\rP K b d p nx on x.le (ko ei bA) (blk bA (.cells #[(.pointer (some ⟨b,0,none⟩))] 100)::blk ei (.cells #[(.pointer (some ⟨bi,0,none⟩))] 82)::bz bi .nilFunc d x::bq x.vl x.le.pg::F) u W)
  (fun W=>∃ cs,St K W (blk bA (.cells #[(.pointer (some ⟨b,0,none⟩))] 100)::blk ei (.cells #[(.pointer (some ⟨bi,0,none⟩))] 82)::cs)) ?aSA (by decide) (by kernel_rfl) ?hBA ?HA ?Gm Hs.out ?hIA ?hRA ?abn ?abo ?abp ?hQA
 case hBA=>as_aux_lemma=>kernel_rfl
 case HA=>
  rintro W2 ⟨cs,hs⟩;have k0:=hs.k0;have k1:=hs.k1;clear hs;simp only[bK];repeat (go_big_quiet_step (fail))
  refine wpQuiet_nil ?_
  rfl
 case Gm=>rfl
 case hIA=>exact Sg
 case hRA=>exact Sh
 case abn=>
  intro qN o ho ρ W2 hs hk af aC;obtain rfl:=aqu ho;subst aC;have Hk:=aqo hk;clear hk;have Q:=aqo (Gk hon hn Hv.out (hs.re [3,4,0,1,2] rfl));clear hs;go_wp2_with fail
  refine(Q.out).mono ?_
  rintro e w1 ⟨kW,rfl,hs⟩;obtain⟨a1,c1,rfl,_,_⟩:=hs.aF;have gh:=aqo ((show St K w1 (bq _ _::bz bi .nilFunc d x::bq x.vl x.le.pg::_::_::_::F)from hs).tail.re [2,3,4,0,1] rfl)
  clear hs Q;go_wp2
  exact⟨rfl,_,rfl,Hk.out _ _ ⟨a1,c1,rfl,gh.out⟩⟩
 case abo=>
  rintro qN o ho ρ v W2 ⟨a1,c1,rfl,hs⟩ hk af aC;obtain rfl:=aqu ho;have Hk:=aqo hk;clear hk;simp only[aL,List.getElem?_cons_succ,List.getElem?_cons_zero,Option.bind_some,Act.put,List.setIfInBounds_toArray,List.set_cons_zero,List.set_cons_succ]at aC;subst aC;have Q:=aqo (iL (h:=x.le) (va:= .slice a1 (x.le).pg.sl.length c1) (f:=176) (tx:= #[]) (ty:= #[(.pointer (some ⟨ei,0,none⟩)),(.pointer (some ⟨bA,0,none⟩))]) hd hid hs);clear hs;go_wp2_with fail
  refine(Q.out).mono ?_
  rintro e w1 ⟨b2,b3,b5,rfl,br,iZ,ja,hs⟩;clear Q;have Hj:=aqo (show rP K b d p nx on x.le (ko ei bA) (blk bA (.cells #[(.pointer (some ⟨b,0,none⟩))] 100)::blk ei (.cells #[(.pointer (some ⟨bi,0,none⟩))] 82)::bz bi .nilFunc d x::bq x.vl x.le.pg::F) (aX (some (aA b2 b3 b5))) w1 from⟨b2,b3,b5,rfl,br,iZ,ja,hs⟩)
  clear hs;simp only[aA,aX]at Hj ⊢;go_wp2
  exact⟨rfl,_,rfl,Hk.out _ _ Hj.out⟩
 case abp=>
  rintro qN o ho ρ v u W2 hj hk af aC;obtain rfl:=aqu ho;have Hk:=aqo hk;clear hk;simp only[aL,List.getElem?_cons_succ,List.getElem?_cons_zero,Option.bind_some,Act.put,List.setIfInBounds_toArray,List.set_cons_zero,List.set_cons_succ]at aC;subst aC;have hj0:=hj;obtain⟨b2,b3,b5,rfl,_⟩:=hj;have Hj:=aqo (show rP K b d p nx on x.le (ko ei bA) (blk bA (.cells #[(.pointer (some ⟨b,0,none⟩))] 100)::blk ei (.cells #[(.pointer (some ⟨bi,0,none⟩))] 82)::bz bi .nilFunc d x::bq x.vl x.le.pg::F) (aX (some (aA b2 b3 b5))) W2 from hj0)
  clear hj0;simp only[aA,aX]at Hj ⊢;go_wp2
  exact⟨rfl,_,rfl,Hk.out _ _ ⟨rfl,Hj.out⟩⟩
 case hQA=>
 rintro v u x W2 ⟨rfl,b2,b3,b5,rfl,br,iZ,ja,hs⟩;have Hs:=aqo hs;clear hs;simp only[aA,aX,aL,List.getElem?_cons_succ,List.getElem?_cons_zero,Option.bind_some,Act.put,List.setIfInBounds_toArray,List.set_cons_zero,List.set_cons_succ];go_wp2
 go_ret;exact⟨_,rfl,b2,b3,b5,rfl,br,iZ,ja,Hs.out⟩
def aea (K:aK)(b:Nat)(nx:Value)(on:Bool)(d:aR)(p:j4)(x:oQ)(ei bA:Nat)(F:List aB)(e:Ending)(w':World):Prop:=
 (x.err≠0/\e=.returned .nilFunc/\St K w' (blk b (.cells (nx :: .bool on::bj d (⟨p.az,p.sep,p.ch,false⟩:j4)).toArray 167)::F)) \/
 (x.err=0/\x.ri.id=0/\e=.returned .nilFunc/\St K w' (blk b (.cells (nx :: .bool on::bj d (⟨p.az,p.sep,p.ch,true⟩:j4)).toArray 167)::F)) \/
 (x.err=0/\x.ri.id≠0/\∃ u,e=.returned u/\rP K b d p nx on x.ri (jF bA ei) F u w')
theorem Cq {bA ei bi:Nat}{x:oQ}{a:Option Addr}{c:Nat}(hd:d.Ok)(hon:x.on=true)(hn:x.ri.pg.sl.length<=1000000)(hv:x.vr=.slice a x.ri.pg.sl.length c)(hid:0<=x.ri.id/\x.ri.id<18446744073709551616)
  (hs:St K w (blk b (.cells (nx :: .bool on::bj d p).toArray 167)::blk ei (.cells #[(.pointer (some ⟨bi,0,none⟩))] 82)::blk bA (.cells #[(.pointer (some ⟨b,0,none⟩))] 100)::bz bi .nilFunc d x::bq x.vr x.ri.pg::F)) :
  Calls Tryz.prog 176 #[(.pointer (some ⟨ei,0,none⟩)),(.pointer (some ⟨bA,0,none⟩))] w (aea K b nx on d p x ei bA (blk ei (.cells #[(.pointer (some ⟨bi,0,none⟩))] 82)::blk bA (.cells #[(.pointer (some ⟨b,0,none⟩))] 100)::bz bi .nilFunc d x::bq x.vr x.ri.pg::F)):=by
 have Hv:=aqo hv;have kv:=hs.k1;have Q:=aqo (Sc (hs.re [3,0,1,2] rfl));clear hv;go_enter Tryz.func176,Tryz.ntmps176
 go_wp2_with fail
 refine(Q.out).mono ?_
 clear Q;rintro e w1 ⟨rfl,rfl⟩;by_cases he:x.err=0
 ·have he':(x.err != 0)=false:=by simp[he]
  have kv:=hs.k1;have Q:=aqo (nG hon hn Hv.out (hs.re [3,4,0,1,2] rfl));have He:=aqo he;clear hs he;go_wp2_with fail
  refine(Q.out).mono ?_
  clear Q kv;rintro e w1 ⟨va,rfl,hs⟩;obtain⟨a1,c1,rfl,_,_⟩:=(show St K w1 (ak va 69 2 x.ri.pg.sl.length (aD x.ri.pg.sl)::_)from hs).aF
  have hs:St K w1 (blk b (.cells (nx :: .bool on::bj d p).toArray 167)::blk ei (.cells #[(.pointer (some ⟨bi,0,none⟩))] 82)::blk bA (.cells #[(.pointer (some ⟨b,0,none⟩))] 100)::bz bi .nilFunc d x::bq x.vr x.ri.pg::F):=(show St K w1 (bq _ _::bz bi .nilFunc d x::bq x.vr x.ri.pg::_::_::_::F)from hs).tail.re [2,3,4,0,1] rfl
  by_cases hi:x.ri.id=0
  ·have hi':(x.ri.id == 0)=true:=by simp[hi]
   have kp:=hs.k2;have Q:=aqo (l6 true hs);have Hi:=aqo hi;clear hs hi;go_wp2_with fail
   refine(Q.out).mono ?_
   clear Q kp hi' he';rintro e w2 ⟨rfl,hs⟩;have Hs:=aqo hs;clear hs;go_wp2
   go_ret;exact .inr (.inl ⟨He.out,Hi.out,rfl,Hs.out⟩)
  ·have hi':(x.ri.id == 0)=false:=by simpa using hi
   have Hi:=aqo hi;clear hi;go_upto_region 5 with(fail)
   clear hi' he';have Hs:=aqo hs;clear hs;refine jB [false,false,true,false,true,true] 2 4 5
    (fun W=>St K W (blk b (.cells (nx :: .bool on::bj d p).toArray 167)::blk ei (.cells #[(.pointer (some ⟨bi,0,none⟩))] 82)::blk bA (.cells #[(.pointer (some ⟨b,0,none⟩))] 100)::bz bi .nilFunc d x::bq x.vr x.ri.pg::F))
    (PhM K x.ri (blk b (.cells (nx :: .bool on::bj d p).toArray 167)::blk ei (.cells #[(.pointer (some ⟨bi,0,none⟩))] 82)::blk bA (.cells #[(.pointer (some ⟨b,0,none⟩))] 100)::bz bi .nilFunc d x::bq x.vr x.ri.pg::F))
    (fun _ u W=>rP K b d p nx on x.ri (jF bA ei) (blk ei (.cells #[(.pointer (some ⟨bi,0,none⟩))] 82)::blk bA (.cells #[(.pointer (some ⟨b,0,none⟩))] 100)::bz bi .nilFunc d x::bq x.vr x.ri.pg::F) u W)
    (fun _ u y W=>y=u/\rP K b d p nx on x.ri (jF bA ei) (blk ei (.cells #[(.pointer (some ⟨bi,0,none⟩))] 82)::blk bA (.cells #[(.pointer (some ⟨b,0,none⟩))] 100)::bz bi .nilFunc d x::bq x.vr x.ri.pg::F) u W)
    (fun W=>∃ cs,St K W (blk ei (.cells #[(.pointer (some ⟨bi,0,none⟩))] 82)::blk bA (.cells #[(.pointer (some ⟨b,0,none⟩))] 100)::cs)) ?aSB (by decide) (by kernel_rfl) ?hBB ?HB ?Rv Hs.out ?hIB ?hRB ?ai7 ?ai8 ?ai9 ?hQB
   case hBB=>as_aux_lemma=>kernel_rfl
   case HB=>
    rintro W2 ⟨cs,hs⟩;have k0:=hs.k0;have k1:=hs.k1;clear hs;simp only[bK];repeat (go_big_quiet_step (fail))
    refine wpQuiet_nil ?_
    rfl
   case Rv=>rfl
   case hIB=>exact Sg
   case hRB=>exact Sh
   case ai7=>
    intro qN o ho ρ W2 hs hk af aC;obtain rfl:=aqu ho;subst aC;have Hk:=aqo hk;clear hk;have Q:=aqo (nG hon hn Hv.out (hs.re [3,4,0,1,2] rfl));clear hs;go_wp2_with fail
    refine(Q.out).mono ?_
    rintro e w1 ⟨kW,rfl,hs⟩;obtain⟨a1,c1,rfl,_,_⟩:=hs.aF;have gh:=aqo ((show St K w1 (bq _ _::bz bi .nilFunc d x::bq x.vr x.ri.pg::_::_::_::F)from hs).tail.re [2,3,4,0,1] rfl)
    clear hs Q;go_wp2
    exact⟨rfl,_,rfl,Hk.out _ _ ⟨a1,c1,rfl,gh.out⟩⟩
   case ai8=>
    rintro qN o ho ρ v W2 ⟨a1,c1,rfl,hs⟩ hk af aC;obtain rfl:=aqu ho;have Hk:=aqo hk;clear hk;simp only[aL,List.getElem?_cons_succ,List.getElem?_cons_zero,Option.bind_some,Act.put,List.setIfInBounds_toArray,List.set_cons_zero,List.set_cons_succ]at aC;subst aC;have Q:=aqo (iL (h:=x.ri) (va:= .slice a1 (x.ri).pg.sl.length c1) (f:=177) (tx:= #[]) (ty:= #[(.pointer (some ⟨bA,0,none⟩)),(.pointer (some ⟨ei,0,none⟩))]) hd hid hs);clear hs;go_wp2_with fail
    refine(Q.out).mono ?_
    rintro e w1 ⟨b2,b3,b5,rfl,br,iZ,ja,hs⟩;clear Q;have Hj:=aqo (show rP K b d p nx on x.ri (jF bA ei) (blk ei (.cells #[(.pointer (some ⟨bi,0,none⟩))] 82)::blk bA (.cells #[(.pointer (some ⟨b,0,none⟩))] 100)::bz bi .nilFunc d x::bq x.vr x.ri.pg::F) (aX (some (aA b2 b3 b5))) w1 from⟨b2,b3,b5,rfl,br,iZ,ja,hs⟩)
    clear hs;simp only[aA,aX]at Hj ⊢;go_wp2
    exact⟨rfl,_,rfl,Hk.out _ _ Hj.out⟩
   case ai9=>
    rintro qN o ho ρ v u W2 hj hk af aC;obtain rfl:=aqu ho;have Hk:=aqo hk;clear hk;simp only[aL,List.getElem?_cons_succ,List.getElem?_cons_zero,Option.bind_some,Act.put,List.setIfInBounds_toArray,List.set_cons_zero,List.set_cons_succ]at aC;subst aC;have hj0:=hj;obtain⟨b2,b3,b5,rfl,_⟩:=hj;have Hj:=aqo (show rP K b d p nx on x.ri (jF bA ei) (blk ei (.cells #[(.pointer (some ⟨bi,0,none⟩))] 82)::blk bA (.cells #[(.pointer (some ⟨b,0,none⟩))] 100)::bz bi .nilFunc d x::bq x.vr x.ri.pg::F) (aX (some (aA b2 b3 b5))) W2 from hj0)
    clear hj0;simp only[aA,aX]at Hj ⊢;go_wp2
    exact⟨rfl,_,rfl,Hk.out _ _ ⟨rfl,Hj.out⟩⟩
   case hQB=>
   rintro v u x W2 ⟨rfl,b2,b3,b5,rfl,br,iZ,ja,hs⟩;have Hs:=aqo hs;clear hs;simp only[aA,aX,aL,List.getElem?_cons_succ,List.getElem?_cons_zero,Option.bind_some,Act.put,List.setIfInBounds_toArray,List.set_cons_zero,List.set_cons_succ];go_wp2
   go_ret;exact .inr (.inr ⟨He.out,Hi.out,_,rfl,b2,b3,b5,rfl,br,iZ,ja,Hs.out⟩)
 ·have he':(x.err != 0)=true:=by simpa using he
  have kp:=hs.k2;have Q:=aqo (l6 false hs);have He:=aqo he;clear hs he;go_wp2_with fail
  refine(Q.out).mono ?_
  clear Q kp he';rintro e w2 ⟨rfl,hs⟩;have Hs:=aqo hs;clear hs;go_wp2
  go_ret;exact .inl ⟨He.out,rfl,Hs.out⟩
def Zc (K:aK)(b:Nat)(nx:Value)(on:Bool)(d:aR)(p:j4)(x:oQ)(REST:List aB)(ρ:Nat->Option Value)(W:World):Prop:=
 (∀ v,ρ 6=some v->v=.int .i64 p.az)/\(∀ v,ρ 7=some v->v=.int .i64 (p.az+1))/\(∀ v,ρ 11=some v->∃ a c,v=(.agg #[.int .u64 (x.ri).id,.int .u64 (x.ri).word,.int .i64 (x.ri).pg.az,(.slice a x.ri.pg.sl.length c),.string (x.ri).pg.hi,.bool (x.ri).pg.la,.int .u64 (x.ri).pg.ri]))/\(∀ v,ρ 12=some v->v=.int .u64 x.ri.id) /\
  St K W (blk b (.cells (nx :: .bool on::bj d (⟨if (ρ 15).isSome then p.az+1 else p.az,if (ρ 18).isSome then x.sep else p.sep,if (ρ 21).isSome then x.ri.id else p.ch,p.po⟩:j4)).toArray 167)::REST)
section
variable {x:oQ}{REST:List aB}{ρ:Nat->Option Value}{W W':World}
theorem Zc.keep {e:Nat}{v:Value}(h:Zc K b nx on d p x REST ρ W)(he:e≠15/\e≠18/\e≠21)(h6:e=6->v=.int .i64 p.az)(h7:e=7->v=.int .i64 (p.az+1))(h11:e=11->∃ a c,v=(.agg #[.int .u64 (x.ri).id,.int .u64 (x.ri).word,.int .i64 (x.ri).pg.az,(.slice a x.ri.pg.sl.length c),.string (x.ri).pg.hi,.bool (x.ri).pg.la,.int .u64 (x.ri).pg.ri]))(dr:e=12->v=.int .u64 x.ri.id)
  (hs:∀ q,St K W (blk b (.cells (nx :: .bool on::bj d q).toArray 167)::REST)->St K W' (blk b (.cells (nx :: .bool on::bj d q).toArray 167)::REST)):Zc K b nx on d p x REST (upd ρ e v) W' := by
 obtain⟨e6,e7,e11,wP,hS⟩:=h;have k:∀ j u,(upd ρ e v) j=some u->(j=e/\u=v)\/(j≠e/\ρ j=some u):=fun j u hu=>by
  by_cases hj:j=e
  ·subst hj
   rw[cC]at hu;exact .inl ⟨rfl,(aqu hu).symm⟩
  ·rw[upd_ne hj]at hu
   exact .inr ⟨hj,hu⟩
 refine⟨fun u hu=>?_,fun u hu=>?_,fun u hu=>?_,fun u hu=>?_,?_⟩
 ·rcases k 6 u hu with⟨h,rfl⟩|⟨_,h⟩
  ·exact h6 h.symm
  ·exact e6 u h
 ·rcases k 7 u hu with⟨h,rfl⟩|⟨_,h⟩
  ·exact h7 h.symm
  ·exact e7 u h
 ·rcases k 11 u hu with⟨h,rfl⟩|⟨_,h⟩
  ·exact h11 h.symm
  ·exact e11 u h
 ·rcases k 12 u hu with⟨h,rfl⟩|⟨_,h⟩
  ·exact dr h.symm
  ·exact wP u h
 ·rw[upd_ne (Ne.symm he.1),upd_ne (Ne.symm he.2.1),upd_ne (Ne.symm he.2.2)]
  exact hs _ hS
theorem Zc.put {e:Nat}(h:Zc K b nx on d p x REST ρ W)(he:e≠6/\e≠7/\e≠11/\e≠12)
  (hs:St K W' (blk b (.cells (nx :: .bool on::bj d (⟨if ((upd ρ e undef) 15).isSome then p.az+1 else p.az,if ((upd ρ e undef) 18).isSome then x.sep else p.sep,if ((upd ρ e undef) 21).isSome then x.ri.id else p.ch,p.po⟩:j4)).toArray 167)::REST)):Zc K b nx on d p x REST (upd ρ e undef) W' := by
 obtain⟨e6,e7,e11,wP,hS⟩:=h;exact⟨fun u hu=>e6 u (by rwa [upd_ne (Ne.symm he.1)]at hu),fun u hu=>e7 u (by rwa [upd_ne (Ne.symm he.2.1)]at hu),fun u hu=>e11 u (by rwa [upd_ne (Ne.symm he.2.2.1)]at hu),fun u hu=>wP u (by rwa [upd_ne (Ne.symm he.2.2.2)]at hu),hs⟩
end
theorem Cr {bA ei bi:Nat}{x:oQ}{a:Option Addr}{c:Nat}(hon:x.on=true)(hn:x.ri.pg.sl.length<=1000000)(hv:x.vr=.slice a x.ri.pg.sl.length c)(cg:0<=p.az/\p.az<1000)
  (hs:St K w (blk b (.cells (nx :: .bool on::bj d p).toArray 167)::blk bA (.cells #[(.pointer (some ⟨b,0,none⟩))] 100)::blk ei (.cells #[(.pointer (some ⟨bi,0,none⟩))] 82)::bz bi .nilFunc d x::bq x.vr x.ri.pg::F)) :
  Calls Tryz.prog 177 #[(.pointer (some ⟨bA,0,none⟩)),(.pointer (some ⟨ei,0,none⟩))] w fun e w' => ∃ b2 b3 b5 bk iQ jl C,e=.returned (aX (some (aA b2 b3 b5)))/\lr d x.sep (p.az+1) bk oU C /\
   St K w' (blk b (.cells (nx :: .bool on::bj d (⟨p.az+1,x.sep,x.ri.id,p.po⟩:j4)).toArray 167)::bD b2 b3 b5 (.iface 37 (.pointer (some ⟨bk,0,none⟩))) (jg iQ jl)::([blk iQ (.cells #[(.pointer (some ⟨bk,0,none⟩))] 37),blk jl (.cells #[(.pointer (some ⟨b,0,none⟩))] 100)]++(C++(blk bA (.cells #[(.pointer (some ⟨b,0,none⟩))] 100)::blk ei (.cells #[(.pointer (some ⟨bi,0,none⟩))] 82)::bz bi .nilFunc d x::bq x.vr x.ri.pg::F)))):=by
 obtain⟨lv,hlv⟩:∃ lv,lv=p.az:=⟨_,rfl⟩;rw[← hlv]at cg;obtain⟨oy,hl2⟩:=cg;have hw:wrap64 (lv+1)=lv+1:=jU (by omega) (by omega)
 rw[hlv]at hw;have Hw:=aqo hw;have Hv:=aqo hv;clear hv oy hl2 hlv hw;go_enter Tryz.func177,Tryz.ntmps177
 go_upto_region 1 with(fail)
 have Hs:=aqo hs;clear hs;refine aT [false,false,false,false,false,false,true,true,false,false,false,true,true,false,false,true,false,false,true,false,false,true] [6,7,11,12,15,18,21] (fun|7=>[6] | 12=>[11] | 15=>[7] | 18=>[15] | 21=>[12,18] | _=>[])
  (Zc K b nx on d p x (blk bA (.cells #[(.pointer (some ⟨b,0,none⟩))] 100)::blk ei (.cells #[(.pointer (some ⟨bi,0,none⟩))] 82)::bz bi .nilFunc d x::bq x.vr x.ri.pg::F))
  (fun W=>St K W (blk bA (.cells #[(.pointer (some ⟨b,0,none⟩))] 100)::blk ei (.cells #[(.pointer (some ⟨bi,0,none⟩))] 82)::bz bi .nilFunc d x::bq x.vr x.ri.pg::F)) ?aS (by kernel_rfl) ?hB ?H ?iA ?h0 ?hI ?hR ?hE ?hQ
 case hB=>as_aux_lemma=>kernel_rfl
 case H=>
  intro W2 hs;have k0:=hs.k0;have k1:=hs.k1;have Qs:=aqo (fun wz (hy:∃ x:Ext,wz=over W2 x)=>Sd hon ((hs.same (Pure.below hy)).b2))
  clear hs;simp only[bK];repeat (go_big_quiet_step ((go_at_call 178;exact dJ (Qs.out _ ⟨_,rfl⟩))))
  refine wpQuiet_nil ?_
  rfl
 case iA=>rfl
 case h0=>exact⟨fun v h=>(by cases h),fun v h=>(by cases h),fun v h=>(by cases h),fun v h=>(by cases h),Hs.out⟩
 case hI=>exact fun ρ W2 ⟨_,_,_,_,h⟩=>h.tail
 case hR=>exact fun ρ W2 W3 ⟨e1,e2,e3,e4,h⟩ hb=>⟨e1,e2,e3,e4,h.same hb⟩
 case hE=>
  refine⟨?e6,?e7,?e11,?wP,?Mc,?e18,?e21,trivial⟩;case e6=>
   intro o ho ρ W2 h hcl h6 hd2 af aC;obtain rfl:=aqu ho;replace aC:af=aj _ ρ [] _:=aC;have h7:ρ 7=none:=hcl.none (by simp) (show 6∈[6]by simp) h6
   have cX:ρ 15=none:=hcl.none (by simp) (show 7∈[7]by simp) h7
   have hs:=h.2.2.2.2;rw[cX]at hs;have k0:=hs.k0;unfold bj at k0;simp only[Option.isSome_none,Bool.false_eq_true,if_false]at k0;have H:=aqo (h.keep (e:=6) (v:= .int .i64 p.az) (by decide) (fun _=>rfl) (fun e=>by cases e) (fun e=>by cases e) (fun e=>by cases e) (fun q hq=>hq))
   simp only[aj]at aC;subst aC;clear h hs h6 h7 cX hcl hd2;go_wp2
   exact⟨rfl,_,rfl,H.out⟩
  case e7=>
   intro o ho ρ W2 h hcl h7 hd2 af aC;obtain rfl:=aqu ho;replace aC:af=aj _ ρ [6] _:=aC;obtain⟨v6,h6⟩:=aqr.1 (hd2 6 (by show _∈[6];simp))
   obtain rfl:=h.1 v6 h6;have H:=aqo (h.keep (e:=7) (v:= .int .i64 (p.az+1)) (by decide) (fun e=>by cases e) (fun _=>rfl) (fun e=>by cases e) (fun e=>by cases e) (fun q hq=>hq))
   simp only[aj,h6,Option.getD_some,aL,Act.put,aqv]at aC;subst aC;clear h h6 h7 hcl hd2;go_wp2
   exact⟨rfl,_,rfl,by rw[Hw.out];exact H.out⟩
  case e11=>
   intro o ho ρ W2 h hcl h11 hd2 af aC;obtain rfl:=aqu ho;replace aC:af=aj _ ρ [] _:=aC;simp only[aj]at aC;subst aC;have hs:=h.2.2.2.2;have Q:=aqo (nG hon hn Hv.out ((show St K W2 (_::_::_::bz bi .nilFunc d x::bq x.vr x.ri.pg::F)from hs).re [3,4,0,1,2] rfl))
   have H:=aqo h;clear h hs h11 hcl hd2;go_wp2_with fail
   refine(Q.out).mono ?_
   clear Q;rintro e W3 ⟨va,rfl,hs⟩;obtain⟨a1,c1,rfl,_,_⟩:=hs.aF;have hs2:=(show St K W3 (bq _ _::bz bi .nilFunc d x::bq x.vr x.ri.pg::_::_::_::F)from hs).tail.re [2,3,4,0,1] rfl
   obtain⟨e6,e7,e11,wP,_⟩:=H.out;have H2:=aqo ((show Zc K b nx on d p x (blk bA (.cells #[(.pointer (some ⟨b,0,none⟩))] 100)::blk ei (.cells #[(.pointer (some ⟨bi,0,none⟩))] 82)::bz bi .nilFunc d x::bq x.vr x.ri.pg::F) ρ W3 from⟨e6,e7,e11,wP,hs2⟩).keep (e:=11) (v:=(.agg #[.int .u64 (x.ri).id,.int .u64 (x.ri).word,.int .i64 (x.ri).pg.az,(.slice a1 x.ri.pg.sl.length c1),.string (x.ri).pg.hi,.bool (x.ri).pg.la,.int .u64 (x.ri).pg.ri])) (by decide) (fun e=>by cases e) (fun e=>by cases e) (fun _=>⟨a1,c1,rfl⟩) (fun e=>by cases e) (fun q hq=>hq))
   clear hs hs2 H e6 e7 e11 wP;go_wp2
   exact⟨rfl,_,rfl,H2.out⟩
  case wP=>
   intro o ho ρ W2 h hcl dr hd2 af aC;obtain rfl:=aqu ho;replace aC:af=aj _ ρ [11] _:=aC;obtain⟨v11,h11⟩:=aqr.1 (hd2 11 (by show _∈[11];simp))
   obtain⟨a1,c1,rfl⟩:=h.2.2.1 v11 h11;have H:=aqo (h.keep (e:=12) (v:= .int .u64 x.ri.id) (by decide) (fun e=>by cases e) (fun e=>by cases e) (fun e=>by cases e) (fun _=>rfl) (fun q hq=>hq))
   simp only[aj,h11,Option.getD_some,aL,Act.put,aqv]at aC;subst aC;clear h h11 dr hcl hd2;go_wp2
   exact⟨rfl,_,rfl,H.out⟩
  case Mc=>
   intro o ho ρ W2 h hcl cX hd2 af aC;obtain rfl:=aqu ho;replace aC:af=aj _ ρ [7] _:=aC;obtain⟨v7,h7⟩:=aqr.1 (hd2 7 (by show _∈[7];simp))
   obtain rfl:=h.2.1 v7 h7;have ru:ρ 18=none:=hcl.none (by simp) (show 15∈[15]by simp) cX
   have Kb:ρ 21=none:=hcl.none (by simp) (show 18∈[12,18]by simp) ru
   have hs:=h.2.2.2.2;rw[cX,ru,Kb]at hs;have k0:=hs.k0;have f0:=hs.f0;unfold bj at k0;have H:=aqo (h.put (e:=15) (by decide) (by rw[cC,upd_ne (by decide),upd_ne (by decide),ru,Kb];exact hs.aI 9 (.int .i64 (p.az+1))))
   simp only[aj,h7,Option.getD_some,aL,Act.put,aqv]at aC;subst aC;clear h hs h7 cX ru Kb hcl hd2;go_wp2
   exact⟨rfl,undef,rfl,H.out⟩
  case e18=>
   intro o ho ρ W2 h hcl ru hd2 af aC;obtain rfl:=aqu ho;replace aC:af=aj _ ρ [15] _:=aC;obtain⟨v15,cX⟩:=aqr.1 (hd2 15 (by show _∈[15];simp))
   have Kb:ρ 21=none:=hcl.none (by simp) (show 18∈[12,18]by simp) ru
   have hs:=h.2.2.2.2;rw[cX,ru,Kb]at hs;have k0:=hs.k0;have f0:=hs.f0;unfold bj at k0;have H:=aqo (h.put (e:=18) (by decide) (by rw[cC,upd_ne (by decide),upd_ne (by decide),cX,Kb];exact hs.aI 10 (.string x.sep)))
   simp only[aj,cX,Option.getD_some,aL,Act.put,aqv]at aC;subst aC;clear h hs cX ru Kb hcl hd2;go_wp2
   exact⟨rfl,undef,rfl,H.out⟩
  case e21=>
   intro o ho ρ W2 h hcl Kb hd2 af aC;obtain rfl:=aqu ho;replace aC:af=aj _ ρ [12,18] _:=aC;obtain⟨v12,dr⟩:=aqr.1 (hd2 12 (by show _∈[12,18];simp))
   obtain⟨v18,ru⟩:=aqr.1 (hd2 18 (by show _∈[12,18];simp))
   obtain rfl:=h.2.2.2.1 v12 dr;have cX:(ρ 15).isSome=true:=hcl 18 (by simp) (by rw[ru];rfl) 15 (by show 15∈[15];simp)
   obtain⟨v15,cX⟩:=aqr.1 cX;have hs:=h.2.2.2.2;rw[cX,ru,Kb]at hs;have k0:=hs.k0;have f0:=hs.f0;unfold bj at k0;have H:=aqo (h.put (e:=21) (by decide) (by rw[cC,upd_ne (by decide),upd_ne (by decide),cX,ru];exact hs.aI 11 (.int .u64 x.ri.id)))
   simp only[aj,dr,ru,Option.getD_some,aL,Act.put,aqv]at aC;subst aC;clear h hs dr cX ru Kb hcl hd2;go_wp2
   exact⟨rfl,undef,rfl,H.out⟩
 case hQ=>
  intro ρ W2 h hall;obtain⟨v6,h6⟩:=aqr.1 (hall 6 (by simp))
  obtain⟨v7,h7⟩:=aqr.1 (hall 7 (by simp))
  obtain⟨v11,h11⟩:=aqr.1 (hall 11 (by simp))
  obtain⟨v12,dr⟩:=aqr.1 (hall 12 (by simp))
  obtain⟨v15,cX⟩:=aqr.1 (hall 15 (by simp))
  obtain⟨v18,ru⟩:=aqr.1 (hall 18 (by simp))
  obtain⟨v21,Kb⟩:=aqr.1 (hall 21 (by simp))
  have hs:=h.2.2.2.2;rw[cX,ru,Kb]at hs;have hs:St K W2 (blk b (.cells (nx :: .bool on::bj d (⟨p.az+1,x.sep,x.ri.id,p.po⟩:j4)).toArray 167)::blk bA (.cells #[(.pointer (some ⟨b,0,none⟩))] 100)::blk ei (.cells #[(.pointer (some ⟨bi,0,none⟩))] 82)::bz bi .nilFunc d x::bq x.vr x.ri.pg::F):=hs;simp only[aj,h6,h7,h11,dr,cX,ru,Kb,Option.getD_some,aL,Act.put,aqv];clear h hall h6 h7 h11 dr cX ru Kb Hs Hw Hv;have kv:=hs.k1;have Q:=aqo (l5 hs);clear hs;go_wp2_with fail
  refine(Q.out).mono ?_
  clear Q kv;rintro e w3 ⟨b2,b3,b5,bk,iQ,jl,C,rfl,hr,hs⟩;have Hr:=aqo hr;have Hs:=aqo hs;clear hs hr;simp only[aA,aX];go_wp2
  go_ret;exact⟨b2,b3,b5,bk,iQ,jl,C,rfl,Hr.out,Hs.out⟩
end
def Cs (bA eT:Nat):FV:=⟨171, #[], #[(.pointer (some ⟨bA,0,none⟩)),(.pointer (some ⟨eT,0,none⟩))]⟩
def Ct (bA jE eT:Nat):FV:=⟨172, #[], #[(.pointer (some ⟨bA,0,none⟩)),(.pointer (some ⟨jE,0,none⟩)),(.pointer (some ⟨eT,0,none⟩))]⟩
def Si (b:Nat):Value:= .func (.func 107) #[(.pointer (some ⟨b,0,none⟩))] #[]
section
variable {K:aK}{w:World}{F:List aB}{b bm bc acc:Nat}{d:aR}{p:j4}{nx:Value}{on:Bool}{L:List aP}
theorem yL {bA eT:Nat}(hs:St K w F):Calls Tryz.prog 170 #[(.pointer (some ⟨bA,0,none⟩)),(.pointer (some ⟨eT,0,none⟩))] w fun e w' => e=.returned (aX (some (Cs bA eT)))/\St K w' F:=by
 go_enter Tryz.func170,Tryz.ntmps170
 go_wp2
 go_ret;exact⟨rfl,hs⟩
theorem yM {bA eT:Nat}(ha:acc<=1000000000000)(hs:St K w (blk b (.cells (nx :: .bool on::bj d p).toArray 167)::blk bA (.cells #[(.pointer (some ⟨b,0,none⟩))] 100)::aJ bm bc L acc::F)) :
  Calls Tryz.prog 171 #[(.pointer (some ⟨bm,0,none⟩)),(.pointer (some ⟨bA,0,none⟩)),(.pointer (some ⟨eT,0,none⟩))] w fun e w' => ∃ jE,e=.returned (aX (some (Ct bA jE eT)))/\St K w' (blk b (.cells (nx :: .bool on::bj d p).toArray 167)::blk jE (.cells #[.int .u64 (ah L 0).n] 23)::blk bA (.cells #[(.pointer (some ⟨b,0,none⟩))] 100)::aJ bm bc L (acc+1)::F):=by
 have Qr:=aqo (fun w=>pN d w)
 have k0:=hs.k0;unfold bj at k0;have k1:=hs.k1;go_enter Tryz.func171,Tryz.ntmps171
 go_wp2_with fail
 refine(bE hs (Qr.out _)).mono ?_
 clear hs k0 k1;rintro e w1 ⟨rfl,hs⟩;have Q:=aqo (jd (i:=0) hs.b2 ha);obtain⟨⟨n,k,m⟩,hc⟩:∃ c,c=ah L 0:=⟨_,rfl⟩;rw[← hc]at Q;have Hc:=aqo hc;clear hs hc;go_wp2_with fail
 refine(Q.out).mono ?_
 clear Q;rintro e w2 ⟨rfl,hs⟩;have hs:=hs.made (.cells #[.int .u64 n] 23);obtain⟨bv,nN⟩:∃ bv,bv=w2.heap.size:=⟨_,rfl⟩;rw[← nN]at hs;go_upto_region 2 with(fail)
 rw[← nN];clear nN;refine cR hs ?_
 clear hs;intro w3 hs;have Hs:=aqo hs;clear hs;go_wp2
 go_ret;exact⟨bv,rfl,by rw[← Hc.out];exact Hs.out.re [2,0,3,1] rfl⟩
def aeb (K:aK)(b:Nat)(nx:Value)(on:Bool)(d:aR)(p:j4)(root word az:Int)(G:List aB)(e:Ending)(w':World):Prop:=
 (p.az<=az/\∃ b2 b3 b5,e=.returned (aX (some (aA b2 b3 b5)))/\∃ br bi bw,St K w' (blk b (.cells (nx :: .bool on::bj d p).toArray 167)::bD b2 b3 b5 (.iface 47 (.pointer (some ⟨br,0,none⟩))) (Si b)::(eZ br bi bw 7 word 0++G))) \/
 (¬ p.az<=az/\∃ b2 b3 b5,e=.returned (aX (some (aA b2 b3 b5)))/\∃ bt wZ bA fc jE,
  St K w' (blk b (.cells (nx :: .bool on::bj d p).toArray 167)::bD b2 b3 b5 (.iface 156 (.pointer (some ⟨bt,0,none⟩))) (yJ wZ bA fc jE)::([blk wZ (.cells #[(.pointer (some ⟨bt,0,none⟩))] 156),blk bA (.cells #[(.pointer (some ⟨b,0,none⟩))] 100),blk fc (.cells #[.int .u64 word] 23),blk jE (.cells #[.int .u64 root] 23)]++(gH bt 4 d.no ⟨0,0,false⟩::G))))
def LdR (K:aK)(bm bc:Nat)(L:List aP)(acc:Nat)(c:aP)(REST:List aB)(ρ:Nat->Option Value)(W:World):Prop:=
 (∀ v,ρ 7=some v->v=(.agg #[.int .u64 (c).n,.string (c).k,.int .u64 (c).m]))/\St K W (aJ bm bc L (if (ρ 7).isSome then acc+1 else acc)::REST)
theorem yN {bA jE eT ba:Nat}{root:Int}{aq:oO}(hd:d.Ok)(ha:acc<=1000000000000)(hroot:0<=root/\root<18446744073709551616)(h2:aq.pc=2)(hlv:0<=(ah L (d.node root 1)).m/\(ah L (d.node root 1)).m<1000000)
  (hs:St K w (blk b (.cells (nx :: .bool on::bj d p).toArray 167)::blk bA (.cells #[(.pointer (some ⟨b,0,none⟩))] 100)::blk jE (.cells #[.int .u64 root] 23)::blk eT (.cells #[(.pointer (some ⟨ba,0,none⟩))] 175)::fT ba 7 aq::aJ bm bc L acc::F)) :
  Calls Tryz.prog 172 #[(.pointer (some ⟨bm,0,none⟩)),(.pointer (some ⟨bA,0,none⟩)),(.pointer (some ⟨jE,0,none⟩)),(.pointer (some ⟨eT,0,none⟩))] w (aeb K b nx on d p root aq.word (ah L (d.node root 1)).m (blk bA (.cells #[(.pointer (some ⟨b,0,none⟩))] 100)::blk jE (.cells #[.int .u64 root] 23)::blk eT (.cells #[(.pointer (some ⟨ba,0,none⟩))] 175)::fT ba 7 aq::aJ bm bc L (acc+1)::F)):=by
 obtain⟨cc,hc⟩:∃ c,c=ah L (d.node root 1):=⟨_,rfl⟩;rw[← hc]at hlv ⊢;have Hc:=aqo hc;have Qh:=aqo (fun w=>tC d hd root hroot.1 hroot.2 w)
 have hw:wrap64 cc.m=cc.m:=jU hlv.1 hlv.2;have Hw:=aqo hw;clear hlv hc hw;obtain⟨n,k,m⟩:=cc;simp only at Hw ⊢;have Hs:=aqo (show St K w (aJ bm bc L acc::blk b (.cells (nx :: .bool on::bj d p).toArray 167)::blk bA (.cells #[(.pointer (some ⟨b,0,none⟩))] 100)::blk jE (.cells #[.int .u64 root] 23)::blk eT (.cells #[(.pointer (some ⟨ba,0,none⟩))] 175)::fT ba 7 aq::F)from hs.re [5,0,1,2,3,4] rfl)
 clear hs;go_enter Tryz.func172,Tryz.ntmps172
 go_upto_region 1 with(fail)
 go_cut [20]from 999 to 0 (fun v wx=>v=.bool (decide (p.az<=m))/\St K wx (aJ bm bc L (acc+1)::blk b (.cells (nx :: .bool on::bj d p).toArray 167)::blk bA (.cells #[(.pointer (some ⟨b,0,none⟩))] 100)::blk jE (.cells #[.int .u64 root] 23)::blk eT (.cells #[(.pointer (some ⟨ba,0,none⟩))] 175)::fT ba 7 aq::F))
 case first=>
  refine cY [false,false,false,false,false,false,false,true,false,false,false,false,false,false,false] (fun|7=>some (.agg #[.int .u64 ((⟨n,k,m⟩:aP)).n,.string ((⟨n,k,m⟩:aP)).k,.int .u64 ((⟨n,k,m⟩:aP)).m])|_=>none) [7] (fun _=>[])
   (LdR K bm bc L acc ⟨n,k,m⟩ (blk b (.cells (nx :: .bool on::bj d p).toArray 167)::blk bA (.cells #[(.pointer (some ⟨b,0,none⟩))] 100)::blk jE (.cells #[.int .u64 root] 23)::blk eT (.cells #[(.pointer (some ⟨ba,0,none⟩))] 175)::fT ba 7 aq::F))
   (fun W=>St K W (blk b (.cells (nx :: .bool on::bj d p).toArray 167)::blk bA (.cells #[(.pointer (some ⟨b,0,none⟩))] 100)::blk jE (.cells #[.int .u64 root] 23)::blk eT (.cells #[(.pointer (some ⟨ba,0,none⟩))] 175)::fT ba 7 aq::F)) ?aS (by kernel_rfl) ?hB ?H ?iA ?h0 ?hI ?hR ?hE ?hQ
  case hB=>as_aux_lemma=>kernel_rfl
  case H=>
   intro W2 hs;have k0:=hs.k0;unfold bj at k0;have k1:=hs.k1;have k2:=hs.k2;have hw:=Hw.out;clear hs;simp only[cM];repeat (go_big_quiet_step ((go_at_call 129;exact aW (Qh.out _))))
   refine wpQuiet_nil ?_
   rfl
  case iA=>rfl
  case h0=>exact⟨fun v h=>(by cases h),Hs.out⟩
  case hI=>exact fun ρ W2 h=>h.2.tail
  case hR=>exact fun ρ W2 W3 h hb=>⟨h.1,h.2.same hb⟩
  case hE=>
   refine⟨?e7,trivial⟩;case e7=>
    intro o ho ρ W2 h hcl h7 hd2 act cj;obtain rfl:=aqu ho;replace cj:act=aj _ ρ [] _:=cj;have hs:=h.2;rw[h7]at hs;have q:=jd (i:=d.node root 1) (show St K W2 (aJ bm bc L acc::_)from hs) ha
    rw[← Hc.out]at q;have Q:=aqo q;simp only[aj]at cj;subst cj;clear h hs q hcl hd2 h7;go_wp2_with fail
    refine(Q.out).mono ?_
    clear Q;rintro e W3 ⟨rfl,hs⟩;have H:=aqo (show LdR K bm bc L acc ⟨n,k,m⟩ (blk b (.cells (nx :: .bool on::bj d p).toArray 167)::blk bA (.cells #[(.pointer (some ⟨b,0,none⟩))] 100)::blk jE (.cells #[.int .u64 root] 23)::blk eT (.cells #[(.pointer (some ⟨ba,0,none⟩))] 175)::fT ba 7 aq::F) (upd ρ 7 (.agg #[.int .u64 ((⟨n,k,m⟩:aP)).n,.string ((⟨n,k,m⟩:aP)).k,.int .u64 ((⟨n,k,m⟩:aP)).m])) W3 from⟨fun v hv=>by rw[cC]at hv;exact(aqu hv).symm,by rw[cC];exact hs⟩)
    clear hs;go_wp2
    exact⟨rfl,_,rfl,fun u hu=>aqu hu,H.out⟩
  case hQ=>
   intro ρ W2 h hall;obtain⟨v7,h7⟩:=aqr.1 (hall 7 (by simp))
   have hs:=h.2;rw[h7]at hs;have Dz:=aqo (show St K W2 (aJ bm bc L (acc+1)::blk b (.cells (nx :: .bool on::bj d p).toArray 167)::blk bA (.cells #[(.pointer (some ⟨b,0,none⟩))] 100)::blk jE (.cells #[.int .u64 root] 23)::blk eT (.cells #[(.pointer (some ⟨ba,0,none⟩))] 175)::fT ba 7 aq::F)from hs)
   simp only[aj,h7,Option.getD_some,aL,Act.put,aqv];clear h hs hall h7;go_wp2
   go_meet;exact⟨rfl,Dz.out⟩
 case rest=>
 clear Hs;obtain⟨rfl,hs⟩:=hcut;apply_assumption
 have hs:St K wc (blk b (.cells (nx :: .bool on::bj d p).toArray 167)::blk bA (.cells #[(.pointer (some ⟨b,0,none⟩))] 100)::blk jE (.cells #[.int .u64 root] 23)::blk eT (.cells #[(.pointer (some ⟨ba,0,none⟩))] 175)::fT ba 7 aq::aJ bm bc L (acc+1)::F):=hs.re [1,2,3,4,5,0] rfl;by_cases hle:p.az<=m
 ·have Vm:=aqo hle
  clear hle;rw[decide_eq_true Vm.out];have kp:=hs.k1;have ka:=hs.b3.k0;have Qw:=aqo (fun wz (hy:∃ x:Ext,wz=over wc x)=>oP h2 (hs.same (Pure.below hy)).b4)
  have Hs:=aqo hs;clear hs;go_upto_region 2 with(fail)
  refine bO 5 (by kernel_rfl) (by as_aux_lemma=>kernel_rfl) ?_
  simp only[List.take_succ_cons,List.take_zero,List.drop_succ_cons,List.drop_zero];repeat (go_big_quiet_step ((go_at_call 119;exact dJ (Qw.out _ ⟨_,rfl⟩))))
  refine wpQuiet_nil ?_
  intro w5 hb5;have Q:=aqo (l7 (word:=aq.word) (f:=107) (tx:= #[(.pointer (some ⟨b,0,none⟩))]) (ty:= #[]) (Hs.out.same hb5));clear Hs kp ka Qw hb5;go_wp2_with fail
  refine(Q.out).mono ?_
  clear Q;rintro e w6 ⟨b2,b3,b5,rfl,br,bi,bw,hs⟩;have Hs:=aqo hs;clear hs;simp only[aA,aX];go_wp2
  go_ret;exact .inl ⟨Vm.out,b2,b3,b5,rfl,br,bi,bw,Hs.out⟩
 ·have Vm:=aqo hle
  clear hle;rw[decide_eq_false Vm.out];have kp:=hs.k1;have kr:=hs.k2;have ka:=hs.b3.k0;have Qw:=aqo (fun wz (hy:∃ x:Ext,wz=over wc x)=>oP h2 (hs.same (Pure.below hy)).b4)
  have Hs:=aqo hs;clear hs;go_upto_region 3 with(fail)
  refine bO 4 (by kernel_rfl) (by as_aux_lemma=>kernel_rfl) ?_
  simp only[List.take_succ_cons,List.take_zero,List.drop_succ_cons,List.drop_zero];repeat (go_big_quiet_step ((go_at_call 119;exact dJ (Qw.out _ ⟨_,rfl⟩))))
  refine wpQuiet_nil ?_
  intro w5 hb5;have Q:=aqo (yK (root:=root) (word:=aq.word) hd (Hs.out.same hb5));clear Hs kp kr ka Qw hb5;go_wp2_with fail
  refine(Q.out).mono ?_
  clear Q;rintro e w6 ⟨b2,b3,b5,rfl,bt,wZ,jl,fc,abq,hs⟩;have Hs:=aqo hs;clear hs;simp only[aA,aX];go_wp2
  go_ret;exact .inr ⟨by have:=Vm.out;omega,b2,b3,b5,rfl,bt,wZ,jl,fc,abq,Hs.out⟩
end
def fe (az root:Int):Pg:=⟨az,[⟨⟨#[]⟩,root⟩],⟨#[]⟩,true,0⟩
def Kc (bA:Nat):Value:= .func (.func 185) #[] #[(.pointer (some ⟨bA,0,none⟩))]
def sY (bA jf gN fc:Nat):Value:= .func (.func 186) #[] #[(.pointer (some ⟨bA,0,none⟩)),(.pointer (some ⟨jf,0,none⟩)),(.pointer (some ⟨gN,0,none⟩)),(.pointer (some ⟨fc,0,none⟩))]
def l8 (bA gN fc:Nat):Value:= .func (.func 187) #[] #[(.pointer (some ⟨bA,0,none⟩)),(.pointer (some ⟨gN,0,none⟩)),(.pointer (some ⟨fc,0,none⟩))]
def Sj (bA gN fc:Nat):FV:=⟨188, #[], #[(.pointer (some ⟨bA,0,none⟩)),(.pointer (some ⟨gN,0,none⟩)),(.pointer (some ⟨fc,0,none⟩))]⟩
def Gu (bf bF:Nat)(id:Int)(pg:Pg)(va:Value)(g cap:Nat)(ps:List Pt)(k:Nat):List aB:=[mz bF id (aO 0) pg va g cap ps k,ak (.slice (some ⟨g,0,none⟩) ps.length cap) 139 4 ps.length (ck ps),blk bf (.cells #[(.pointer (some ⟨bF,0,none⟩))] 145),bq va pg]
def Xh (d:aR)(id:Int)(pg:Pg)(v:Value)(C:List aB):Prop:=∃ (bf bF g cap:Nat) (va:Value),v=(.pointer (some ⟨bf,0,none⟩))/\C=Gu bf bF id pg va g cap (⟨d.node id 0,⟨aO 0,⟨#[]⟩,0⟩⟩::bN d id pg) 0
def rQ (K:aK)(d:aR)(id az root:Int)(REST:List aB)(ρ:Nat->Option Value)(W:World):Prop:=
 ∃ bs:Nat,(∀ v,ρ 11=some v->v=.slice (some ⟨bs,0,none⟩) 1 1)/\(∀ v,ρ 12=some v->v=.agg #[.int .i64 ((fe az root)).az,(.slice (some ⟨bs,0,none⟩) 1 1),.string ((fe az root)).hi,.bool ((fe az root)).la,.int .u64 ((fe az root)).ri]) /\
  su K [dA (ρ 11) (blk bs (.cells [.string ⟨#[]⟩,.int .u64 root].toArray 69))] REST 74 (.pointer none) 13 14 15 (Xh d id (fe az root)) ρ W
section
variable {K:aK}{d:aR}{id az root:Int}{REST:List aB}{ρ:Nat->Option Value}{W W':World}
theorem su.other {P REST:List aB}{T:TypeId}{z:Value}{i j k e:Nat}{Φ:Value->List aB->Prop}{v:Value}(h:su K P REST T z i j k Φ ρ W)(hi:e≠i)(hj:e≠j)(hk:e≠k):su K P REST T z i j k Φ (upd ρ e v) W:=by
 obtain⟨b,C,e1,e2,hs⟩:=h;refine⟨b,C,fun u hu=>e1 u (by rwa [upd_ne (Ne.symm hi)]at hu),fun u hu=>e2 u (by rwa [upd_ne (Ne.symm hj)]at hu),?_⟩
 rw[upd_ne (Ne.symm hi),upd_ne (Ne.symm hj),upd_ne (Ne.symm hk)];exact hs
theorem rQ.start (hs:St K W REST):rQ K d id az root REST (fun _=>none) W:=
 ⟨0,fun v h=>(by cases h),fun v h=>(by cases h),su.start hs.empty⟩
theorem rQ.same (h:rQ K d id az root REST ρ W)(hb:Below W.heap.size W W'):rQ K d id az root REST ρ W' := by
 obtain⟨bs,e1,e2,h⟩:=h;exact⟨bs,e1,e2,h.same hb⟩
theorem rQ.rest (h:rQ K d id az root REST ρ W):St K W REST:=by
 obtain⟨bs,e1,e2,h⟩:=h;exact h.rest
theorem rQ.slot (h:rQ K d id az root REST ρ W)(h11:ρ 11=none)(dr:ρ 12=none)(dS:ρ 13=none):rQ K d id az root REST (upd ρ 11 (.slice (some ⟨W.heap.size,0,none⟩) 1 1)) (W.alloc (.cells [.string ⟨#[]⟩,.int .u64 root].toArray 69)):=by
 obtain⟨bs,e1,e2,b,C,f1,f2,hs⟩:=h;rw[h11,dS]at hs;refine⟨W.heap.size,fun v hv=>by rw[cC]at hv;exact(aqu hv).symm,fun v hv=>(by rw[upd_ne (by decide),dr]at hv;cases hv),b,C,fun v hv=>(by rw[upd_ne (by decide),dS]at hv;cases hv),fun v hv=>f2 v (by rwa [upd_ne (by decide)]at hv),?_⟩
 rw[cC,upd_ne (by decide),upd_ne (by decide),upd_ne (by decide),dS]
 exact(show St K W (gK::_)from hs).tail.made (.cells [.string ⟨#[]⟩,.int .u64 root].toArray 69)
theorem rQ.page (h:rQ K d id az root REST ρ W){v11:Value}(h11:ρ 11=some v11):∃ bs:Nat,v11=.slice (some ⟨bs,0,none⟩) 1 1/\rQ K d id az root REST (upd ρ 12 (.agg #[.int .i64 ((fe az root)).az,(.slice (some ⟨bs,0,none⟩) 1 1),.string ((fe az root)).hi,.bool ((fe az root)).la,.int .u64 ((fe az root)).ri])) W:=by
 obtain⟨bs,e1,e2,h⟩:=h;refine⟨bs,e1 v11 h11,bs,fun v hv=>e1 v (by rwa [upd_ne (by decide)]at hv),fun v hv=>by rw[cC]at hv;exact(aqu hv).symm,?_⟩
 rw[upd_ne (by decide)]
 exact h.other (by decide) (by decide) (by decide)
theorem rQ.call (h:rQ K d id az root REST ρ W){v11 v12:Value}(h11:ρ 11=some v11)(dr:ρ 12=some v12)(dS:ρ 13=none)(cX:ρ 15=none):∃ (bs:Nat)(X:List aB),v12=.agg #[.int .i64 ((fe az root)).az,(.slice (some ⟨bs,0,none⟩) 1 1),.string ((fe az root)).hi,.bool ((fe az root)).la,.int .u64 ((fe az root)).ri]/\St K W (blk bs (.cells [.string ⟨#[]⟩,.int .u64 root].toArray 69)::(REST++X)) /\
  ∀ v C W',Xh d id (fe az root) v C->St K W' (C++(REST++X))->rQ K d id az root REST (upd ρ 13 v) W' := by
 obtain⟨bs,e1,e2,h⟩:=h;obtain⟨X,hs,hn⟩:=h.call (by decide) (by decide) dS cX
 rw[h11]at hs hn;refine⟨bs,X,e2 v12 dr,hs,fun v C W' hΦ hs' => ⟨bs,fun u hu=>e1 u (by rwa [upd_ne (by decide)]at hu),fun u hu=>e2 u (by rwa [upd_ne (by decide)]at hu),?_⟩⟩
 rw[upd_ne (by decide),h11]
 exact hn v C W' hΦ hs'
theorem rQ.var (h:rQ K d id az root REST ρ W)(iV:ρ 14=none)(cX:ρ 15=none):rQ K d id az root REST (upd ρ 14 (.pointer (some ⟨W.heap.size,0,none⟩))) (W.alloc (.cells #[.pointer none] 74)):=by
 obtain⟨bs,e1,e2,h⟩:=h;refine⟨bs,fun u hu=>e1 u (by rwa [upd_ne (by decide)]at hu),fun u hu=>e2 u (by rwa [upd_ne (by decide)]at hu),?_⟩
 rw[upd_ne (by decide)]
 exact h.var (by decide) (by decide) iV cX
theorem rQ.store (h:rQ K d id az root REST ρ W){v u:Value}(dS:ρ 13=some v)(iV:ρ 14=some u)(cX:ρ 15=none):∃ (b:Nat)(R':List aB),u=(.pointer (some ⟨b,0,none⟩))/\(∃ C,Xh d id (fe az root) v C)/\St K W (blk b (.cells #[.pointer none] 74)::R') /\
  ∀ W',St K W' (blk b (.cells #[v] 74)::R')->rQ K d id az root REST (upd ρ 15 undef) W' := by
 obtain⟨bs,e1,e2,h⟩:=h;obtain⟨b,R',e,hC,hs,hn⟩:=h.store (by decide) (by decide) dS iV cX
 refine⟨b,R',e,hC,hs,fun W' hs' => ⟨bs,fun u hu=>e1 u (by rwa [upd_ne (by decide)]at hu),fun u hu=>e2 u (by rwa [upd_ne (by decide)]at hu),?_⟩⟩
 rw[upd_ne (by decide)]
 exact hn W' hs'
theorem rQ.last (h:rQ K d id az root REST ρ W)(hall:∀ e,e∈[11,12,13,14,15]->(ρ e).isSome=true):∃ (b:Nat)(v:Value)(C:List aB),ρ 13=some v/\ρ 14=some (.pointer (some ⟨b,0,none⟩))/\(∃ x,ρ 15=some x)/\Xh d id (fe az root) v C/\St K W (blk b (.cells #[v] 74)::(C++REST)):=by
 obtain⟨bs,e1,e2,h⟩:=h;exact h.last (fun e he=>hall e (by simp only[List.mem_cons,List.not_mem_nil,or_false]at he ⊢;rcases he with h|h|h <;> simp[h]))
end
section
variable {K:aK}{w:World}{F:List aB}{b bm bc acc:Nat}{d:aR}{p:j4}{nx:Value}{on:Bool}{L:List aP}
def aec (K:aK)(b:Nat)(nx:Value)(on:Bool)(d:aR)(p:j4)(root word:Int)(s:iy)(bA fc:Nat)(G:List aB)(e:Ending)(w':World):Prop:=
 (s.ok=false/\∃ b2 b3 b5,e=.returned (aX (some (aA b2 b3 b5)))/\∃ br bi bw,St K w' (blk b (.cells (nx :: .bool on::bj d p).toArray 167)::bD b2 b3 b5 (.iface 47 (.pointer (some ⟨br,0,none⟩))) (Kc bA)::(eZ br bi bw 7 word 0++G))) \/
 (s.ok=true/\∃ b2 b3 b5,e=.returned (aX (some (aA b2 b3 b5)))/\∃ bf bF g cap va jf gN,
  St K w' (blk b (.cells (nx :: .bool on::bj d p).toArray 167)::bD b2 b3 b5 (.iface 74 (.pointer (some ⟨bf,0,none⟩))) (sY bA jf gN fc)::([blk jf (.cells #[(.pointer (some ⟨bf,0,none⟩))] 74),blk gN (.cells #[.int .u64 (s.seen+1)] 23)]++(Gu bf bF (s.seen+1) (fe p.az root) va g cap (⟨d.node (s.seen+1) 0,⟨aO 0,⟨#[]⟩,0⟩⟩::bN d (s.seen+1) (fe p.az root)) 0++G))))
theorem vL {wZ bA fc jE bt:Nat}{root word lim:Int}{s:iy}(hd:d.Ok)(cg:0<=p.az/\p.az<1000000)(hseen:s.ok=true->0<=s.seen/\s.seen<18446744073709551615)
  (hs:St K w (blk b (.cells (nx :: .bool on::bj d p).toArray 167)::blk wZ (.cells #[(.pointer (some ⟨bt,0,none⟩))] 156)::blk bA (.cells #[(.pointer (some ⟨b,0,none⟩))] 100)::blk fc (.cells #[.int .u64 word] 23)::blk jE (.cells #[.int .u64 root] 23)::gH bt 4 lim s::F)) :
  Calls Tryz.prog 184 #[(.pointer (some ⟨wZ,0,none⟩)),(.pointer (some ⟨bA,0,none⟩)),(.pointer (some ⟨fc,0,none⟩)),(.pointer (some ⟨jE,0,none⟩))] w (aec K b nx on d p root word s bA fc (blk bA (.cells #[(.pointer (some ⟨b,0,none⟩))] 100)::blk fc (.cells #[.int .u64 word] 23)::F)):=by
 have kt:=hs.k1;have Q:=aqo (kE (i:=4) (lim:=lim) (s:=s) hs.b5.head hseen);have hs:St K w (blk b (.cells (nx :: .bool on::bj d p).toArray 167)::blk bA (.cells #[(.pointer (some ⟨b,0,none⟩))] 100)::blk fc (.cells #[.int .u64 word] 23)::blk jE (.cells #[.int .u64 root] 23)::F):=(hs.re [1,5,0,2,3,4] rfl).tail.tail;obtain⟨ok,hok⟩:∃ ok,ok=s.ok:=⟨_,rfl⟩;obtain⟨id,hid⟩:∃ id:Int,id=if s.ok then s.seen+1 else 0:=⟨_,rfl⟩
 rw[← hid,← hok]at Q;have Hok:=aqo hok;have Xi:=aqo hid;have Zd:=aqo hseen;clear hok hid hseen;go_enter Tryz.func184,Tryz.ntmps184
 go_wp2_with fail
 refine(Q.out).mono ?_
 clear Q kt;rintro e w1 ⟨rfl,rfl⟩;have hs:=hs.made (.cells #[.int .u64 id] 23);obtain⟨gN,abr⟩:∃ gN,gN=w.heap.size:=⟨_,rfl⟩;rw[← abr]at hs;go_upto_region 2 with(fail)
 rw[← abr];clear abr;refine cR hs ?_
 clear hs;intro w2 hs;cases ok with
 | false=>
  have kp:=hs.k2;have kw:=hs.b3.k0;have Q:=aqo (l7 (word:=word) (f:=185) (tx:= #[]) (ty:= #[(.pointer (some ⟨bA,0,none⟩))]) hs.b1);clear hs;go_wp2_with fail
  refine(Q.out).mono ?_
  clear Q kp kw;rintro e w3 ⟨b2,b3,b5,rfl,br,bi,bw,hs⟩;have Hs:=aqo ((show St K w3 (blk b (.cells (nx :: .bool on::bj d p).toArray 167)::_::_::_::_::blk gN (.cells #[.int .u64 id] 23)::blk bA (.cells #[(.pointer (some ⟨b,0,none⟩))] 100)::blk fc (.cells #[.int .u64 word] 23)::blk jE (.cells #[.int .u64 root] 23)::F)from hs).re [5,8,0,1,2,3,4,6,7] rfl).tail.tail
  clear hs;simp only[aA,aX];go_wp2
  go_ret;exact .inl ⟨Hok.out.symm,b2,b3,b5,rfl,br,bi,bw,Hs.out⟩
 | true=>
  obtain⟨se1,se2⟩:=Zd.out Hok.out.symm;have oN:id=s.seen+1:=by rw[Xi.out,← Hok.out,if_pos rfl]
  have aja:=aqo (show 0<=id/\id<18446744073709551616 by omega)
  have ajb:=aqo oN;clear se1 se2 Zd Xi oN;have hs:St K w2 (blk gN (.cells #[.int .u64 id] 23)::blk b (.cells (nx :: .bool on::bj d p).toArray 167)::blk bA (.cells #[(.pointer (some ⟨b,0,none⟩))] 100)::blk fc (.cells #[.int .u64 word] 23)::blk jE (.cells #[.int .u64 root] 23)::F):=hs;go_upto_region 4 with(fail)
  have Hs:=aqo hs;clear hs;refine aT [false,false,false,false,false,false,false,false,false,false,false,true,true,true,true,true] [11,12,13,14,15] (fun|12=>[11] | 13=>[12] | 15=>[13,14] | _=>[])
   (rQ K d id p.az root (blk gN (.cells #[.int .u64 id] 23)::blk b (.cells (nx :: .bool on::bj d p).toArray 167)::blk bA (.cells #[(.pointer (some ⟨b,0,none⟩))] 100)::blk fc (.cells #[.int .u64 word] 23)::blk jE (.cells #[.int .u64 root] 23)::F))
   (fun W=>St K W (blk gN (.cells #[.int .u64 id] 23)::blk b (.cells (nx :: .bool on::bj d p).toArray 167)::blk bA (.cells #[(.pointer (some ⟨b,0,none⟩))] 100)::blk fc (.cells #[.int .u64 word] 23)::blk jE (.cells #[.int .u64 root] 23)::F)) ?aS (by kernel_rfl) ?hB ?H ?iA ?h0 ?hI ?hR ?hE ?hQ
  case hB=>as_aux_lemma=>kernel_rfl
  case H=>
   intro W2 hs;have k0:=hs.k0;have k1:=hs.k1;unfold bj at k1;have k2:=hs.k2;have k4:=hs.b4.k0;clear hs;simp only[bK];repeat (go_big_quiet_step (fail))
   refine wpQuiet_nil ?_
   rfl
  case iA=>rfl
  case h0=>exact rQ.start Hs.out
  case hI=>exact fun ρ W2 h=>h.rest
  case hR=>exact fun ρ W2 W3 h hb=>h.same hb
  case hE=>
   refine⟨?e11,?wP,?Wn,?Ri,?Mc,trivial⟩;case e11=>
    intro o ho ρ W2 h hcl h11 hd2 af aC;obtain rfl:=aqu ho;replace aC:af=aj _ ρ [] _:=aC;have dr:ρ 12=none:=hcl.none (by simp) (show 11∈[11]by simp) h11
    have dS:ρ 13=none:=hcl.none (by simp) (show 12∈[12]by simp) dr
    have H:=aqo (h.slot h11 dr dS);simp only[aj]at aC;subst aC;clear h h11 dr dS hcl hd2;go_wp2
    exact⟨rfl,_,rfl,H.out⟩
   case wP=>
    intro o ho ρ W2 h hcl dr hd2 af aC;obtain rfl:=aqu ho;replace aC:af=aj _ ρ [11] _:=aC;obtain⟨v11,h11⟩:=aqr.1 (hd2 11 (by show _∈[11];simp))
    obtain⟨bs,rfl,hn⟩:=h.page h11;have H:=aqo hn;simp only[aj,h11,Option.getD_some,aL,Act.put,aqv]at aC;subst aC;clear h h11 dr hcl hd2 hn;go_wp2
    exact⟨rfl,_,rfl,H.out⟩
   case Wn=>
    intro o ho ρ W2 h hcl dS hd2 af aC;obtain rfl:=aqu ho;replace aC:af=aj _ ρ [12] _:=aC;obtain⟨v12,dr⟩:=aqr.1 (hd2 12 (by show _∈[12];simp))
    have cX:ρ 15=none:=hcl.none (by simp) (show 13∈[13,14]by simp) dS
    have h11:(ρ 11).isSome=true:=hcl 12 (by simp) (by rw[dr];rfl) 11 (by show 11∈[11];simp)
    obtain⟨v11,h11⟩:=aqr.1 h11;obtain⟨bs,X,rfl,hs,hnext⟩:=h.call h11 dr dS cX;have hs:=hs.lM (n:=1) (size:=2) rfl (by simp[maxLen])
    have Wc:=hd.fw;have q:=rJ (x:=fe p.az root) (ax:=some ⟨bs,0,none⟩) (cx:=1) (id:=id) hd aja.out cg (by show((1:Nat):Int)<=d.fa;omega) hs
    have Q:=aqo q;have Hn:=aqo hnext;simp only[aj,dr,Option.getD_some,aL,Act.put,aqv]at aC;subst aC;clear h h11 dr dS cX hcl hd2 hnext hs q Wc;go_wp2_with fail
    refine(Q.out).mono ?_
    clear Q;rintro e W3 ⟨bf,bF,g,cap,va,ps,rfl,rfl,hs'⟩;have dZ:=aqo (show St K W3 (Gu bf bF id (fe p.az root) va g cap (⟨d.node id 0,⟨aO 0,⟨#[]⟩,0⟩⟩::bN d id (fe p.az root)) 0++_)from(hs'.sub (.cons_cons _ (.cons_cons _ (.cons_cons _ (.cons_cons _ (.cons _ (List.Sublist.refl _))))))))
    clear hs';go_wp2
    exact⟨rfl,_,rfl,Hn.out _ _ W3 ⟨bf,bF,g,cap,va,rfl,rfl⟩ dZ.out⟩
   case Ri=>
    intro o ho ρ W2 h hcl iV hd2 af aC;obtain rfl:=aqu ho;replace aC:af=aj _ ρ [] _:=aC;have cX:ρ 15=none:=hcl.none (by simp) (show 14∈[13,14]by simp) iV
    have H:=aqo (h.var iV cX);simp only[aj]at aC;subst aC;clear h iV cX hcl hd2;go_wp2
    exact⟨rfl,_,rfl,H.out⟩
   case Mc=>
    intro o ho ρ W2 h hcl cX hd2 af aC;obtain rfl:=aqu ho;replace aC:af=aj _ ρ [13,14] _:=aC;obtain⟨v13,dS⟩:=aqr.1 (hd2 13 (by show _∈[13,14];simp))
    obtain⟨v14,iV⟩:=aqr.1 (hd2 14 (by show _∈[13,14];simp))
    obtain⟨bv,R',rfl,⟨C,bf,bF,g,cap,va,rfl,_⟩,hs,hnext⟩:=h.store dS iV cX;simp only[aj,dS,iV,Option.getD_some,aL,Act.put,aqv]at aC;subst aC;have k0:=hs.k0;have f0:=hs.f0;have gh:Hid (St K _ (blk bv (.cells #[(.pointer (some ⟨bf,0,none⟩))] 74)::R')):=aqo (hs.aI 0 (.pointer (some ⟨bf,0,none⟩)));have Hn:=aqo hnext;clear hs hnext hcl hd2 h dS iV cX;go_wp2
    exact⟨rfl,undef,rfl,Hn.out _ gh.out⟩
  case hQ=>
   intro ρ W2 h hall;obtain⟨v11,h11⟩:=aqr.1 (hall 11 (by simp))
   obtain⟨v12,dr⟩:=aqr.1 (hall 12 (by simp))
   obtain⟨jf,v,C,dS,iV,⟨v15,cX⟩,⟨bf,bF,g,cap,va,rfl,rfl⟩,hs⟩:=h.last hall;simp only[aj,h11,dr,dS,iV,cX,Option.getD_some,aL,Act.put,aqv];clear h hall h11 dr dS iV cX Hs;have kv:=hs.k0;have Q:=aqo (fF (T2:=74) (xv:=(.pointer (some ⟨bf,0,none⟩))) (f:=186) (tx:= #[]) (ty:= #[(.pointer (some ⟨bA,0,none⟩)),(.pointer (some ⟨jf,0,none⟩)),(.pointer (some ⟨gN,0,none⟩)),(.pointer (some ⟨fc,0,none⟩))]) hs);clear hs;go_wp2_with fail
   refine(Q.out).mono ?_
   clear Q kv;rintro e w3 ⟨b2,b3,b5,rfl,hs⟩;have Hs:=aqo ((show St K w3 (_::_::_::_::_::_::blk gN (.cells #[.int .u64 id] 23)::blk b (.cells (nx :: .bool on::bj d p).toArray 167)::blk bA (.cells #[(.pointer (some ⟨b,0,none⟩))] 100)::blk fc (.cells #[.int .u64 word] 23)::blk jE (.cells #[.int .u64 root] 23)::F)from hs).re [10,7,0,1,6,2,3,4,5,8,9] rfl).tail
   clear hs;simp only[aA,aX];go_wp2
   go_ret;exact .inr ⟨Hok.out.symm,b2,b3,b5,rfl,bf,bF,g,cap,va,jf,gN,by rw[← ajb.out];exact Hs.out⟩
end
section
variable {K:aK}{w:World}{F:List aB}{b bm bc acc:Nat}{d:aR}{p:j4}{nx:Value}{on:Bool}{L:List aP}
theorem vM {bA jf gN fc bf bF g cap:Nat}{id:Int}{pg:Pg}{av:Option Addr}{cv:Nat}{ps:List Pt}(hd:d.Ok)(hn:pg.sl.length<=1000000)(hid:0<=id/\id<18446744073709551616)
  (hs:St K w (blk b (.cells (nx :: .bool on::bj d p).toArray 167)::blk bA (.cells #[(.pointer (some ⟨b,0,none⟩))] 100)::blk jf (.cells #[(.pointer (some ⟨bf,0,none⟩))] 74)::(Gu bf bF id pg (.slice av pg.sl.length cv) g cap ps ps.length++F))) :
  Calls Tryz.prog 186 #[(.pointer (some ⟨bA,0,none⟩)),(.pointer (some ⟨jf,0,none⟩)),(.pointer (some ⟨gN,0,none⟩)),(.pointer (some ⟨fc,0,none⟩))] w fun e w' => ∃ u,e=.returned u/\rP K b d p nx on ⟨id,aO 0,pg⟩ (l8 bA gN fc) (blk bA (.cells #[(.pointer (some ⟨b,0,none⟩))] 100)::blk jf (.cells #[(.pointer (some ⟨bf,0,none⟩))] 74)::(Gu bf bF id pg (.slice av pg.sl.length cv) g cap ps ps.length++F)) u w' := by
 go_enter Tryz.func186,Tryz.ntmps186
 go_upto_region 1 with(fail)
 have Hs:=aqo hs;clear hs;refine jB [false,false,true,false,true,true] 2 4 5
  (fun W=>St K W (blk b (.cells (nx :: .bool on::bj d p).toArray 167)::blk bA (.cells #[(.pointer (some ⟨b,0,none⟩))] 100)::blk jf (.cells #[(.pointer (some ⟨bf,0,none⟩))] 74)::(Gu bf bF id pg (.slice av pg.sl.length cv) g cap ps ps.length++F)))
  (PhM K ⟨id,aO 0,pg⟩ (blk b (.cells (nx :: .bool on::bj d p).toArray 167)::blk bA (.cells #[(.pointer (some ⟨b,0,none⟩))] 100)::blk jf (.cells #[(.pointer (some ⟨bf,0,none⟩))] 74)::(Gu bf bF id pg (.slice av pg.sl.length cv) g cap ps ps.length++F)))
  (fun _ u W=>rP K b d p nx on ⟨id,aO 0,pg⟩ (l8 bA gN fc) (blk bA (.cells #[(.pointer (some ⟨b,0,none⟩))] 100)::blk jf (.cells #[(.pointer (some ⟨bf,0,none⟩))] 74)::(Gu bf bF id pg (.slice av pg.sl.length cv) g cap ps ps.length++F)) u W)
  (fun _ u y W=>y=u/\rP K b d p nx on ⟨id,aO 0,pg⟩ (l8 bA gN fc) (blk bA (.cells #[(.pointer (some ⟨b,0,none⟩))] 100)::blk jf (.cells #[(.pointer (some ⟨bf,0,none⟩))] 74)::(Gu bf bF id pg (.slice av pg.sl.length cv) g cap ps ps.length++F)) u W)
  (fun W=>∃ cs,St K W (blk bA (.cells #[(.pointer (some ⟨b,0,none⟩))] 100)::blk jf (.cells #[(.pointer (some ⟨bf,0,none⟩))] 74)::cs)) ?aSA (by decide) (by kernel_rfl) ?hBA ?HA ?Gm Hs.out ?hIA ?hRA ?abn ?abo ?abp ?hQA
 case hBA=>as_aux_lemma=>kernel_rfl
 case HA=>
  rintro W2 ⟨cs,hs⟩;have k0:=hs.k0;have k1:=hs.k1;clear hs;simp only[bK];repeat (go_big_quiet_step (fail))
  refine wpQuiet_nil ?_
  rfl
 case Gm=>rfl
 case hIA=>exact Sg
 case hRA=>exact Sh
 case abn=>
  intro qN o ho ρ W2 hs hk af aC;obtain rfl:=aqu ho;subst aC;have Hk:=aqo hk;clear hk;have Q:=aqo (qa hn ((show St K W2 (blk b (.cells (nx :: .bool on::bj d p).toArray 167)::blk bA (.cells #[(.pointer (some ⟨b,0,none⟩))] 100)::blk jf (.cells #[(.pointer (some ⟨bf,0,none⟩))] 74)::mz _ _ _ _ _ _ _ _ _::ak _ _ _ _ _::blk bf _::bq (.slice av pg.sl.length cv) pg::F)from hs).re [3,6,5,0,1,2,4] rfl))
  clear hs;go_wp2_with fail
  refine(Q.out).mono ?_
  rintro e w1 ⟨kW,rfl,hs⟩;obtain⟨a1,c1,rfl,_,_⟩:=hs.aF;have gh:=aqo ((show St K w1 (_::mz _ _ _ _ _ _ _ _ _::ak _ _ _ _ _::blk bf _::blk b (.cells (nx :: .bool on::bj d p).toArray 167)::blk bA (.cells #[(.pointer (some ⟨b,0,none⟩))] 100)::blk jf (.cells #[(.pointer (some ⟨bf,0,none⟩))] 74)::ak _ _ _ _ _::F)from hs).tail.re [3,4,5,0,6,2,1] rfl)
  clear hs Q;go_wp2
  exact⟨rfl,_,rfl,Hk.out _ _ ⟨a1,c1,rfl,gh.out⟩⟩
 case abo=>
  rintro qN o ho ρ v W2 ⟨a1,c1,rfl,hs⟩ hk af aC;obtain rfl:=aqu ho;have Hk:=aqo hk;clear hk;simp only[aL,List.getElem?_cons_succ,List.getElem?_cons_zero,Option.bind_some,Act.put,List.setIfInBounds_toArray,List.set_cons_zero,List.set_cons_succ]at aC;subst aC;have Q:=aqo (iL (h:=(⟨id,aO 0,pg⟩:cB)) (va:= .slice a1 ((⟨id,aO 0,pg⟩:cB)).pg.sl.length c1) (f:=187) (tx:= #[]) (ty:= #[(.pointer (some ⟨bA,0,none⟩)),(.pointer (some ⟨gN,0,none⟩)),(.pointer (some ⟨fc,0,none⟩))]) hd hid hs);clear hs;go_wp2_with fail
  refine(Q.out).mono ?_
  rintro e w1 ⟨b2,b3,b5,rfl,br,iZ,ja,hs⟩;clear Q;have Hj:=aqo (show rP K b d p nx on ⟨id,aO 0,pg⟩ (l8 bA gN fc) (blk bA (.cells #[(.pointer (some ⟨b,0,none⟩))] 100)::blk jf (.cells #[(.pointer (some ⟨bf,0,none⟩))] 74)::(Gu bf bF id pg (.slice av pg.sl.length cv) g cap ps ps.length++F)) (aX (some (aA b2 b3 b5))) w1 from⟨b2,b3,b5,rfl,br,iZ,ja,hs⟩)
  clear hs;simp only[aA,aX]at Hj ⊢;go_wp2
  exact⟨rfl,_,rfl,Hk.out _ _ Hj.out⟩
 case abp=>
  rintro qN o ho ρ v u W2 hj hk af aC;obtain rfl:=aqu ho;have Hk:=aqo hk;clear hk;simp only[aL,List.getElem?_cons_succ,List.getElem?_cons_zero,Option.bind_some,Act.put,List.setIfInBounds_toArray,List.set_cons_zero,List.set_cons_succ]at aC;subst aC;have hj0:=hj;obtain⟨b2,b3,b5,rfl,_⟩:=hj;have Hj:=aqo (show rP K b d p nx on ⟨id,aO 0,pg⟩ (l8 bA gN fc) (blk bA (.cells #[(.pointer (some ⟨b,0,none⟩))] 100)::blk jf (.cells #[(.pointer (some ⟨bf,0,none⟩))] 74)::(Gu bf bF id pg (.slice av pg.sl.length cv) g cap ps ps.length++F)) (aX (some (aA b2 b3 b5))) W2 from hj0)
  clear hj0;simp only[aA,aX]at Hj ⊢;go_wp2
  exact⟨rfl,_,rfl,Hk.out _ _ ⟨rfl,Hj.out⟩⟩
 case hQA=>
 rintro v u x W2 ⟨rfl,b2,b3,b5,rfl,br,iZ,ja,hs⟩;have Hs:=aqo hs;clear hs;simp only[aA,aX,aL,List.getElem?_cons_succ,List.getElem?_cons_zero,Option.bind_some,Act.put,List.setIfInBounds_toArray,List.set_cons_zero,List.set_cons_succ];go_wp2
 go_ret;exact⟨_,rfl,b2,b3,b5,rfl,br,iZ,ja,Hs.out⟩
theorem vN {bA gN fc:Nat}(hs:St K w F):Calls Tryz.prog 187 #[(.pointer (some ⟨bA,0,none⟩)),(.pointer (some ⟨gN,0,none⟩)),(.pointer (some ⟨fc,0,none⟩))] w fun e w' => e=.returned (aX (some (Sj bA gN fc)))/\St K w' F:=by
 go_enter Tryz.func187,Tryz.ntmps187
 go_wp2
 go_ret;exact⟨rfl,hs⟩
theorem vO {bA gN fc:Nat}{id word:Int}(ha:acc<=1000000000000)(hs:St K w (blk b (.cells (nx :: .bool on::bj d p).toArray 167)::blk bA (.cells #[(.pointer (some ⟨b,0,none⟩))] 100)::blk gN (.cells #[.int .u64 id] 23)::blk fc (.cells #[.int .u64 word] 23)::aJ bm bc L acc::F)) :
  Calls Tryz.prog 188 #[(.pointer (some ⟨bm,0,none⟩)),(.pointer (some ⟨bA,0,none⟩)),(.pointer (some ⟨gN,0,none⟩)),(.pointer (some ⟨fc,0,none⟩))] w fun e w' => ∃ b2 b3 b5,e=.returned (aX (some (aA b2 b3 b5)))/\∃ br bi bw,
   St K w' (blk b (.cells (nx :: .bool on::bj d p).toArray 167)::bD b2 b3 b5 (.iface 47 (.pointer (some ⟨br,0,none⟩))) (Si b)::(eZ br bi bw 7 word 0++(blk bA (.cells #[(.pointer (some ⟨b,0,none⟩))] 100)::blk gN (.cells #[.int .u64 id] 23)::blk fc (.cells #[.int .u64 word] 23)::aJ bm bc (aN L 0 ⟨id,⟨#[]⟩,0⟩) (acc+1)::F))):=by
 have Qr:=aqo (fun w=>pN d w)
 have k0:=hs.k0;unfold bj at k0;have k1:=hs.k1;have k2:=hs.k2;have Hs:=aqo hs;clear hs;go_enter Tryz.func188,Tryz.ntmps188
 go_upto_region 1 with(fail)
 refine bO 8 (by kernel_rfl) (by as_aux_lemma=>kernel_rfl) ?_
 simp only[List.take_succ_cons,List.take_zero,List.drop_succ_cons,List.drop_zero];repeat (go_big_quiet_step ((go_at_call 111;exact aW (Qr.out _))))
 refine wpQuiet_nil ?_
 intro w5 hb5;have Q:=aqo (mZ (i:=0) (c:=⟨id,⟨#[]⟩,0⟩) ((Hs.out.same hb5).re [4,0,1,2,3] rfl) ha);clear Hs k0 k1 k2 hb5;go_wp2_with fail
 refine(Q.out).mono ?_
 clear Q;rintro e w6 ⟨rfl,hs⟩;have hs:St K w6 (blk b (.cells (nx :: .bool on::bj d p).toArray 167)::blk bA (.cells #[(.pointer (some ⟨b,0,none⟩))] 100)::blk gN (.cells #[.int .u64 id] 23)::blk fc (.cells #[.int .u64 word] 23)::aJ bm bc (aN L 0 ⟨id,⟨#[]⟩,0⟩) (acc+1)::F):=hs.re [1,2,3,4,0] rfl;have k1:=hs.k1;have k3:=hs.b3.k0;have Q:=aqo (l7 (word:=word) (f:=107) (tx:= #[(.pointer (some ⟨b,0,none⟩))]) (ty:= #[]) hs);clear hs;go_wp2_with fail
 refine(Q.out).mono ?_
 clear Q k1 k3;rintro e w7 ⟨b2,b3,b5,rfl,br,bi,bw,hs⟩;have Hs:=aqo hs;clear hs;simp only[aA,aX];go_wp2
 go_ret;exact⟨b2,b3,b5,rfl,br,bi,bw,Hs.out⟩
theorem Gv {az ch:Int}{sep:ByteArray}(hs:St K w F):Calls Tryz.prog 59 #[.agg #[.int .i64 d.th,.int .i64 d.sn,.int .i64 d.no,.int .i64 d.ch,.int .i64 d.re,.int .i64 d.fa,.int .u64 d.cl],.int .i64 az,.string sep,.int .u64 ch] w fun e w' => ∃ b b2 b3 b5 bk iQ bA C,e=.returned (.pointer (some ⟨b,0,none⟩))/\lr d sep az bk oU C /\
  St K w' (blk b (.cells ((aX (some (aA b2 b3 b5))) :: .bool true::bj d (⟨az,sep,ch,false⟩:j4)).toArray 167)::bD b2 b3 b5 (.iface 37 (.pointer (some ⟨bk,0,none⟩))) (jg iQ bA)::([blk iQ (.cells #[(.pointer (some ⟨bk,0,none⟩))] 37),blk bA (.cells #[(.pointer (some ⟨b,0,none⟩))] 100)]++(C++F))):=by
 have hs:=hs.pass (.cells #[.int .i64 d.th,.int .i64 d.sn,.int .i64 d.no,.int .i64 d.ch,.int .i64 d.re,.int .i64 d.fa,.int .u64 d.cl] 29);have hs:=hs.made (.cells (.nilFunc :: .bool false::bj d ⟨az,sep,ch,false⟩).toArray 167);rw[World.size_alloc]at hs;go_enter Tryz.func59,Tryz.ntmps59
 go_upto_region 2 with(fail)
 obtain⟨bp,mP⟩:∃ bp,bp=w.heap.size+1:=⟨_,rfl⟩;rw[← mP]at hs ⊢;clear mP;refine cR hs ?_
 clear hs;intro w1 hs;have Q:=aqo (l5 hs);clear hs;go_wp2_with fail
 refine(Q.out).mono ?_
 clear Q;rintro e w2 ⟨b2,b3,b5,bk,iQ,bA,C,rfl,hr,hs⟩;have Hr:=aqo hr;have Hs:=aqo hs;clear hs hr;simp only[aA,aX];go_wp2_with fail
 refine(fk _ _ _ _).mono ?_
 rintro e w3 ⟨rfl,hb3⟩;have hs:=Hs.out.same hb3;have k0:=hs.k0;have f0:=hs.f0;have hs2:=(hs.aI 0 (aX (some (aA b2 b3 b5)))).aI 1 (.bool true);have Dz:Hid (St K _ (blk bp (.cells ((aX (some (aA b2 b3 b5))) :: .bool true::bj d (⟨az,sep,ch,false⟩:j4)).toArray 167)::_)):=aqo hs2;clear hs Hs hs2 hb3;simp only[aA,aX]at Dz;go_wp2
 go_ret;exact⟨bp,b2,b3,b5,bk,iQ,bA,C,rfl,Hr.out,Dz.out⟩
end
end Go.Proofs.YtlpdhhhgckpcfaaGreat
