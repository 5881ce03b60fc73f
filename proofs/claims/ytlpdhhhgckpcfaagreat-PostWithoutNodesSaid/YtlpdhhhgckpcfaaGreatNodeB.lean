
/- The reader of a node (package node): the tN state functions, for any machine that aaE with a position and a agX. The tN head (package node). The tN high, right and slot (package node). The tN slot (package node). The reader of a node (package node): open and validate. agY of zU as lists, and the zV of package chain as functions of the cells. The reader of a node as a machine: its state as a function of the cells. adp as values: slices of slots that are only read; clone; agZ and af0 (package node). The rz Same of pages (layer 7). -/
import Derived.Test.YtlpdhhhgckpcfaaGreatBaseA
import Derived.Test.YtlpdhhhgckpcfaaGreatTailC
import Derived.Deep.RegionWith
namespace Go.Proofs.YtlpdhhhgckpcfaaGreat
set_option maxHeartbeats 16000000
open Go.RowKit
set_option maxRecDepth 100000
structure Sl where
 k:ByteArray
 r:Int
structure Pg where
 az:Int
 sl:List Sl
 hi:ByteArray
 la:Bool
 ri:Int
def gW (s:Sl):List Value:=[.string s.k,.int .u64 s.r]
def aD (l:List Sl):List Value:=l.flatMap gW
theorem fE (l:List Sl):(aD l).length=l.length*2:=by
 induction l with
 | nil=>rfl
 | cons s l ih=>rw[show aD (s::l)=gW s++aD l from rfl,List.length_append,ih];simp[gW];omega
def aU (nx:Value)(d:aR)(id:Int)(pg:Pg)(va:Value)(left:Nat)(th:Value)(word:Int):List Value:=
 [nx,.bool true,.int .i64 d.th,.int .i64 d.sn,.int .i64 d.no,.int .i64 d.ch,.int .i64 d.re,.int .i64 d.fa,.int .u64 d.cl,.int .u64 id,.int .i64 pg.az,va,.string pg.hi,.bool pg.la,.int .u64 pg.ri,.int .i64 left,th,.int .u64 word]
theorem gR:(Tryz.prog.info? 69).map (fun i=>(i.zero,i.size,i.bytes))=some (some (.agg #[.string ⟨#[]⟩,.int .u64 0]),2,24):=by kernel_rfl
theorem Ex (v0 v1 v2 v3 v4 v5 v6:Value)(w:World):(Instr.field 26 (.agg #[v0,v1,v2,v3,v4,v5,v6]) 5).run Tryz.prog w=.ok v5 w:=by kernel_rfl
attribute [go_sem] Ex
section
variable {K:aK}{w:World}{F:List aB}{b bm bc:Nat}{L:List aP}{acc:Nat}{nx va:Value}{d:aR}{id:Int}{pg:Pg}{left:Nat}{th:Option FV}{word:Int}{T:TypeId}
def kT (b left:Nat)(th:Option FV):Option FV:=if left=0 then th else some ⟨195, #[.pointer (some ⟨b,2,none⟩)], #[]⟩
theorem Je (hs:St K w (blk b (.cells (aU nx d id pg va left (aX th) word).toArray T)::F)) :
  Calls Tryz.prog 194 #[.pointer (some ⟨b,2,none⟩)] w fun e w' => e=.returned (aX (kT b left th))/\St K w' (blk b (.cells (aU nx d id pg va left (aX th) word).toArray T)::F):=by
 have k:=hs.k0;unfold aU at k;by_cases h:left=0
 ·have e:kT b left th=th:=by unfold kT;rw[if_pos h]
  rw[e];have h':((left:Int) == 0)=true:=by simp[h]
  clear h e;cases th with
  | none=>
   go_enter Tryz.func194,Tryz.ntmps194
   go_wp2
   exact bodyPost_ret (v:=aX none) (results_tmp (fn:=Tryz.f194) (t:=2) rfl _ _ _) rfl ⟨rfl,hs⟩
  | some s=>
   obtain⟨f,x,y⟩:=s;have k:∀ (k:Nat),w.cell? ⟨b,k,none⟩= #[nx,.bool true,.int .i64 d.th,.int .i64 d.sn,.int .i64 d.no,.int .i64 d.ch,.int .i64 d.re,.int .i64 d.fa,.int .u64 d.cl,.int .u64 id,.int .i64 pg.az,va,.string pg.hi,.bool pg.la,.int .u64 pg.ri,.int .i64 left,.func (.func f) x y,.int .u64 word][k]? := k;go_enter Tryz.func194,Tryz.ntmps194
   go_wp2
   exact bodyPost_ret (v:= .func (.func f) x y) (results_tmp (fn:=Tryz.f194) (t:=2) rfl _ _ _) rfl ⟨rfl,hs⟩
 ·have e:kT b left th=some ⟨195, #[.pointer (some ⟨b,2,none⟩)], #[]⟩:=by unfold kT;rw[if_neg h]
  rw[e];have h':(left == 0)=false:=by simpa using h
  have h2:((left:Int) == 0)=false:=by simp;omega
  clear h e;go_enter Tryz.func194,Tryz.ntmps194
  go_wp2
  go_ret;exact⟨rfl,hs⟩
theorem Py {tv:Value}(hs:St K w (blk b (.cells (aU nx d id pg va left tv word).toArray T)::F)) :
  Calls Tryz.prog 153 #[.pointer (some ⟨b,2,none⟩),aX th] w fun e w' => e=.returned (.func (.func 181) #[.pointer (some ⟨b,2,none⟩)] #[])/\St K w' (blk b (.cells (aU nx d id pg va left (aX th) word).toArray T)::F):=by
 have k:=hs.k0;have kf:=hs.f0;unfold aU at k;cases th with
 | none=>
  have hs:=hs.aI 16 .nilFunc;simp only[aU,List.set_cons_zero,List.set_cons_succ]at hs;have q:Calls Tryz.prog 153 #[.pointer (some ⟨b,2,none⟩),.nilFunc] w fun e w' => e=.returned (.func (.func 181) #[.pointer (some ⟨b,2,none⟩)] #[])/\St K w' (blk b (.cells (aU nx d id pg va left .nilFunc word).toArray T)::F):=by
   go_enter Tryz.func153,Tryz.ntmps153
   go_wp2
   go_ret;exact⟨rfl,hs⟩
  exact q
 | some s=>
  obtain⟨f,x,y⟩:=s;have hs:=hs.aI 16 (.func (.func f) x y);simp only[aU,List.set_cons_zero,List.set_cons_succ]at hs;have q:Calls Tryz.prog 153 #[.pointer (some ⟨b,2,none⟩),.func (.func f) x y] w fun e w' => e=.returned (.func (.func 181) #[.pointer (some ⟨b,2,none⟩)] #[])/\St K w' (blk b (.cells (aU nx d id pg va left (.func (.func f) x y) word).toArray T)::F):=by
   go_enter Tryz.func153,Tryz.ntmps153
   go_wp2
   go_ret;exact⟨rfl,hs⟩
  exact q
end
section
variable {K:aK}{w:World}{F:List aB}{b bm bc:Nat}{L:List aP}{acc:Nat}{nx va:Value}{d:aR}{id:Int}{pg:Pg}{left:Nat}{th:Option FV}{word:Int}{T:TypeId}
def leftOf (d:aR)(c:aP):Nat:=(min c.n d.fa).toNat
theorem Jf (hd:d.Ok)(hid:0<=id/\id<18446744073709551616)(ha:acc<=1000000000000)(hL:0<=(ah L (d.node id 1)).n/\(ah L (d.node id 1)).n<18446744073709551616)
  (hs:St K w (blk b (.cells (aU nx d id pg va left (aX th) word).toArray T)::aJ bm bc L acc::F)) :
  Calls Tryz.prog 181 #[.pointer (some ⟨b,2,none⟩),.pointer (some ⟨bm,0,none⟩)] w fun e w' => e=.returned (.func (.func 189) #[.pointer (some ⟨b,2,none⟩)] #[]) /\
   St K w' (blk b (.cells (aU nx d id (Pg.mk (wrap64 (ah L (d.node id 1)).m) [] ⟨#[]⟩ false 0) (.slice none 0 0) (leftOf d (ah L (d.node id 1))) (aX th) word).toArray T)::aJ bm bc L (acc+1)::F):=by
 obtain⟨c,hc⟩:∃ c,c=ah L (d.node id 1):=⟨_,rfl⟩;have q0:=fun(w:World) (F:List aB) (hs:St K w (aJ bm bc L acc::F))=>jd (i:=d.node id 1) hs ha
 rw[← hc]at q0 hL ⊢;have Q0:=aqo q0;clear q0 hc;have k:=hs.k0;unfold aU at k;go_enter Tryz.func181,Tryz.ntmps181
 go_upto_region 1 with(fail)
 go_cut [5] (fun v wx=>∃ bx,v=.pointer (some ⟨bx,0,none⟩)/\St K wx (blk bx (.cells #[.int .u64 c.n,.string c.k,.int .u64 c.m] 63)::aJ bm bc L (acc+1)::blk b (.cells (aU nx d id pg va left (aX th) word).toArray T)::F))
 case first=>
  as_aux_lemma=>
  have Hs:=aqo hs;clear k hs;refine lO 10 ?_ 5 (.cells #[.int .u64 0,.string ⟨#[]⟩,.int .u64 0] 63) rfl (by as_aux_lemma=>kernel_rfl) rfl (fun _ _=>by kernel_rfl) ?_ ?_ ?_
  case refine_2=>
   intro W hb;have hs:=Hs.out.same hb;have k:=hs.k0;unfold aU at k;simp only[List.take_succ_cons,List.take_zero,List.drop_succ_cons,List.drop_zero];repeat (go_big_quiet_step ((go_at_call 129;exact aW (tC d hd id hid.1 hid.2 _))))
   refine wpQuiet_nil ?_
   rfl
  case refine_3=>
   intro w5 hb5;have hs:=Hs.out.same hb5;go_wp2_with fail
   refine(Q0.out _ _ hs.b1).mono ?_
   clear hs;rintro e w6 ⟨rfl,hs⟩;have hs:=hs.made (.cells #[.int .u64 c.n,.string c.k,.int .u64 c.m] 63);go_wp2
   go_meet;exact⟨_,rfl,hs⟩
  case refine_4=>
   intro w0 w5 hb0 hb5;have hs:=((Hs.out.same hb0).made (.cells #[.int .u64 0,.string ⟨#[]⟩,.int .u64 0] 63)).same (by rw[World.size_alloc];exact hb5)
   go_wp2_with fail
   refine(Q0.out _ _ hs.b2).mono ?_
   clear hs;rintro e w6 ⟨rfl,hs⟩;have kx:=hs.k1;have fx:=hs.f1;have hs:=((hs.b1.aI 0 (.int .u64 c.n)).aI 1 (.string c.k)).aI 2 (.int .u64 c.m);go_wp2
   go_meet;exact⟨_,rfl,hs⟩
 case rest=>
  clear k hs;obtain⟨bx,rfl,hs⟩:=hcut;have kx:=hs.k0;have kb:=hs.k2;have fb:=hs.f2;unfold aU at kb;have hs:=((((((hs.b2.aI 10 (.int .i64 (wrap64 c.m))).aI 11 (.slice none 0 0)).aI 12 (.string ⟨#[]⟩)).aI 13 (.bool false)).aI 14 (.int .u64 0)));simp only[aU,List.set_cons_zero,List.set_cons_succ]at hs;go_upto_region 3 with(fail)
  refine cR hs ?_
  clear kx kb fb hs;intro W hs;have kx:=hs.k1;have kb:=hs.k0;have fb:=hs.f0;have Q:=aqo (fun w' => lK d w')
  have Wc:=hd.fw;have hf2:=hd.mV;refine bO 14 (by kernel_rfl) (by as_aux_lemma=>kernel_rfl) ?_
  simp only[List.take_succ_cons,List.take_zero,List.drop_succ_cons,List.drop_zero];by_cases hm:c.n<=d.fa
  ·have e:leftOf d c=c.n.toNat:=by unfold leftOf;rw[Int.min_eq_left hm]
   have e2:((leftOf d c:Nat):Int)=c.n:=by rw[e];omega
   repeat (go_big_quiet_step ((go_at_call 96;exact aW (Q.out _))))
   refine wpQuiet_nil ?_
   intro w5 hb5;have hs:=hs.same hb5;have kb:=hs.k0;have fb:=hs.f0;have hs:=hs.aI 15 (.int .i64 c.n);simp only[List.set_cons_zero,List.set_cons_succ]at hs;have E2:=aqo e2;clear e e2;go_wp2
   go_ret;exact⟨rfl,by unfold aU;rw[E2.out];exact hs.b1.tail⟩
  ·have hm2:¬ c.n<=d.fa:=hm
   have e:leftOf d c=d.fa.toNat:=by unfold leftOf;rw[Int.min_eq_right (by omega)]
   have e2:((leftOf d c:Nat):Int)=d.fa:=by rw[e];omega
   repeat (go_big_quiet_step ((go_at_call 96;exact aW (Q.out _))))
   refine wpQuiet_nil ?_
   intro w5 hb5;have hs:=hs.same hb5;have kb:=hs.k0;have fb:=hs.f0;have hs:=hs.aI 15 (.int .i64 d.fa);simp only[List.set_cons_zero,List.set_cons_succ]at hs;have E2:=aqo e2;clear e e2;go_wp2
   go_ret;exact⟨rfl,by unfold aU;rw[E2.out];exact hs.b1.tail⟩
end
section
variable {K:aK}{w:World}{F:List aB}{b bm bc:Nat}{L:List aP}{acc:Nat}{nx va:Value}{d:aR}{id:Int}{pg:Pg}{left:Nat}{th:Option FV}{word:Int}{T:TypeId}
def Pg.high (pg:Pg)(c:aP):Pg:=⟨pg.az,pg.sl,c.k,decide (c.m=1),pg.ri⟩
def Pg.right (pg:Pg)(c:aP):Pg:=⟨pg.az,pg.sl,pg.hi,pg.la,c.n⟩
def Pg.push (pg:Pg)(c:aP):Pg:=⟨pg.az,pg.sl++[⟨c.k,c.n⟩],pg.hi,pg.la,pg.ri⟩
theorem Jg (hd:d.Ok)(hid:0<=id/\id<18446744073709551616)(ha:acc<=1000000000000)
  (hs:St K w (blk b (.cells (aU nx d id pg va left (aX th) word).toArray T)::aJ bm bc L acc::F)) :
  Calls Tryz.prog 189 #[.pointer (some ⟨b,2,none⟩),.pointer (some ⟨bm,0,none⟩)] w fun e w' => e=.returned (.func (.func 192) #[.pointer (some ⟨b,2,none⟩)] #[]) /\
   St K w' (blk b (.cells (aU nx d id (pg.high (ah L (d.node id 2))) va left (aX th) word).toArray T)::aJ bm bc L (acc+1)::F):=by
 obtain⟨c,hc⟩:∃ c,c=ah L (d.node id 2):=⟨_,rfl⟩;have q0:=fun(w:World) (F:List aB) (hs:St K w (aJ bm bc L acc::F))=>jd (i:=d.node id 2) hs ha
 rw[← hc]at q0 ⊢;have Q0:=aqo q0;obtain⟨o,ho⟩:∃ o,o=decide (c.m=1):=⟨_,rfl⟩;have e:pg.high c=⟨pg.az,pg.sl,c.k,o,pg.ri⟩:=by unfold Pg.high;rw[ho]
 rw[e];have g:(c.m == 1)=o:=by rw[ho];rfl
 clear q0 hc ho e;have k:=hs.k0;unfold aU at k;go_enter Tryz.func189,Tryz.ntmps189
 go_upto_region 1 with(fail)
 go_cut [5] (fun v wx=>∃ bx,v=.pointer (some ⟨bx,0,none⟩)/\St K wx (blk bx (.cells #[.int .u64 c.n,.string c.k,.int .u64 c.m] 63)::aJ bm bc L (acc+1)::blk b (.cells (aU nx d id pg va left (aX th) word).toArray T)::F))
 case first=>
  as_aux_lemma=>
  have Hs:=aqo hs;clear k hs;refine lO 10 ?_ 5 (.cells #[.int .u64 0,.string ⟨#[]⟩,.int .u64 0] 63) rfl (by as_aux_lemma=>kernel_rfl) rfl (fun _ _=>by kernel_rfl) ?_ ?_ ?_
  case refine_2=>
   intro W hb;have hs:=Hs.out.same hb;have k:=hs.k0;unfold aU at k;simp only[List.take_succ_cons,List.take_zero,List.drop_succ_cons,List.drop_zero];repeat (go_big_quiet_step ((go_at_call 112;exact aW (tD d hd id hid.1 hid.2 _))))
   refine wpQuiet_nil ?_
   rfl
  case refine_3=>
   intro w5 hb5;have hs:=Hs.out.same hb5;go_wp2_with fail
   refine(Q0.out _ _ hs.b1).mono ?_
   clear hs;rintro e w6 ⟨rfl,hs⟩;have hs:=hs.made (.cells #[.int .u64 c.n,.string c.k,.int .u64 c.m] 63);go_wp2
   go_meet;exact⟨_,rfl,hs⟩
  case refine_4=>
   intro w0 w5 hb0 hb5;have hs:=((Hs.out.same hb0).made (.cells #[.int .u64 0,.string ⟨#[]⟩,.int .u64 0] 63)).same (by rw[World.size_alloc];exact hb5)
   go_wp2_with fail
   refine(Q0.out _ _ hs.b2).mono ?_
   clear hs;rintro e w6 ⟨rfl,hs⟩;have kx:=hs.k1;have fx:=hs.f1;have hs:=((hs.b1.aI 0 (.int .u64 c.n)).aI 1 (.string c.k)).aI 2 (.int .u64 c.m);go_wp2
   go_meet;exact⟨_,rfl,hs⟩
 case rest=>
  clear k hs;obtain⟨bx,rfl,hs⟩:=hcut;have kx:=hs.k0;have hs:=hs.b2;have kb:=hs.k0;have fb:=hs.f0;unfold aU at kb;have hs1:=((hs.aI 12 (.string c.k)).aI 13 (.bool o)).bV.b1;have hs2:=((hs.aI 13 (.bool o)).aI 12 (.string c.k)).bV.b1;simp only[aU,List.set_cons_zero,List.set_cons_succ]at hs1 hs2;clear hs;go_upto_region 2 with(fail)
  go_region
  all_goals
   go_wp2
   go_ret;first|exact⟨rfl,hs1.b1⟩|exact⟨rfl,hs2.b1⟩|exact⟨rfl,hs1.b1.drew⟩|exact⟨rfl,hs2.b1.drew⟩
theorem zW (hd:d.Ok)(hid:0<=id/\id<18446744073709551616)(ha:acc<=1000000000000)
  (hs:St K w (blk b (.cells (aU nx d id pg va left (aX th) word).toArray T)::aJ bm bc L acc::F)) :
  Calls Tryz.prog 192 #[.pointer (some ⟨b,2,none⟩),.pointer (some ⟨bm,0,none⟩)] w fun e w' => e=.returned (aX (kT b left th)) /\
   St K w' (blk b (.cells (aU nx d id (pg.right (ah L (d.node id 3))) va left (aX th) word).toArray T)::aJ bm bc L (acc+1)::F):=by
 obtain⟨c,hc⟩:∃ c,c=ah L (d.node id 3):=⟨_,rfl⟩;have q0:=fun(w:World) (F:List aB) (hs:St K w (aJ bm bc L acc::F))=>jd (i:=d.node id 3) hs ha
 rw[← hc]at q0 ⊢;have Q0:=aqo q0;clear q0 hc;have k:=hs.k0;unfold aU at k;have qm:=fun w F (hs:St K w (blk b (.cells (aU nx d id (pg.right c) va left (aX th) word).toArray T)::F))=>Je hs
 cases ho:kT b left th with
 | none=>
  rw[ho]at qm;have Qm:=aqo qm;clear qm ho;go_enter Tryz.func192,Tryz.ntmps192
  go_upto_region 1 with(fail)
  refine fo _ 10 rfl rfl (by kernel_rfl) (by as_aux_lemma=>kernel_rfl) (fun _ _ _ _ h=>h) ?_
  simp only[List.take_succ_cons,List.take_zero,List.drop_succ_cons,List.drop_zero,Act.put,List.setIfInBounds_toArray,List.set_cons_zero,List.set_cons_succ,Act.eval];repeat (go_big_quiet_step ((go_at_call 128;exact aW (qJ d hd id hid.1 hid.2 _))))
  refine wpQuiet_nil ?_
  intro w5 hb5;have hs:=hs.same hb5;clear k hb5;go_wp2_with fail
  refine(Q0.out _ _ hs.b1).mono ?_
  clear hs;rintro e w6 ⟨rfl,hs⟩;have hs:=hs.b1;have k:=hs.k0;have kf:=hs.f0;unfold aU at k;have hs:=hs.aI 14 (.int .u64 c.n);simp only[aU,List.set_cons_zero,List.set_cons_succ]at hs;go_wp2_with fail
  refine(Qm.out _ _ hs).mono ?_
  clear hs k kf;rintro e w7 ⟨he,hs⟩;obtain rfl:e=.returned .nilFunc:=he;go_wp2
  go_ret;exact⟨rfl,hs⟩
 | some o=>
  obtain⟨f',x',y'⟩:=o;rw[ho]at qm;have Qm:=aqo qm;clear qm ho;go_enter Tryz.func192,Tryz.ntmps192
  go_upto_region 1 with(fail)
  refine fo _ 10 rfl rfl (by kernel_rfl) (by as_aux_lemma=>kernel_rfl) (fun _ _ _ _ h=>h) ?_
  simp only[List.take_succ_cons,List.take_zero,List.drop_succ_cons,List.drop_zero,Act.put,List.setIfInBounds_toArray,List.set_cons_zero,List.set_cons_succ,Act.eval];repeat (go_big_quiet_step ((go_at_call 128;exact aW (qJ d hd id hid.1 hid.2 _))))
  refine wpQuiet_nil ?_
  intro w5 hb5;have hs:=hs.same hb5;clear k hb5;go_wp2_with fail
  refine(Q0.out _ _ hs.b1).mono ?_
  clear hs;rintro e w6 ⟨rfl,hs⟩;have hs:=hs.b1;have k:=hs.k0;have kf:=hs.f0;unfold aU at k;have hs:=hs.aI 14 (.int .u64 c.n);simp only[aU,List.set_cons_zero,List.set_cons_succ]at hs;go_wp2_with fail
  refine(Qm.out _ _ hs).mono ?_
  clear hs k kf;rintro e w7 ⟨he,hs⟩;obtain rfl:e=.returned (.func (.func f') x' y'):=he;go_wp2
  go_ret;exact⟨rfl,hs⟩
end
section
variable {K:aK}{w:World}{F:List aB}{b bm bc:Nat}{L:List aP}{acc:Nat}{nx va:Value}{d:aR}{id:Int}{pg:Pg}{left:Nat}{th:Option FV}{word:Int}{T:TypeId}
theorem Jh (hd:d.Ok)(hid:0<=id/\id<18446744073709551616)(ha:acc<=1000000000000)(hn:pg.sl.length<=1000000)(hl:0<left/\left<=1000000)
  (hs:St K w (blk b (.cells (aU nx d id pg va left (aX th) word).toArray T)::ak va 69 2 (pg).sl.length (aD (pg).sl)::aJ bm bc L acc::F)) :
  Calls Tryz.prog 195 #[.pointer (some ⟨b,2,none⟩),.pointer (some ⟨bm,0,none⟩)] w fun e w' => ∃ eX,e=.returned (aX (kT b (left-1) th)) /\
   St K w' (blk b (.cells (aU nx d id (pg.push (ah L (d.slot id pg.sl.length))) eX (left-1) (aX th) word).toArray T)::ak eX 69 2 ((pg.push (ah L (d.slot id pg.sl.length)))).sl.length (aD ((pg.push (ah L (d.slot id pg.sl.length)))).sl)::aJ bm bc L (acc+1)::F):=by
 obtain⟨c,hc⟩:∃ c,c=ah L (d.slot id pg.sl.length):=⟨_,rfl⟩;have q0:=fun(w:World) (F:List aB) (hs:St K w (aJ bm bc L acc::F))=>jd (i:=d.slot id pg.sl.length) hs ha
 rw[← hc]at q0 ⊢;have Q0:=aqo q0;obtain⟨n,hnn⟩:∃ n,n=pg.sl.length:=⟨_,rfl⟩;have hln:(pg.push c).sl.length=n+1:=by unfold Pg.push;rw[List.length_append,hnn];rfl
 have hrow:aD (pg.push c).sl=aD pg.sl++[.string c.k,.int .u64 c.n]:=by unfold Pg.push aD;rw[List.flatMap_append];rfl
 obtain⟨xs,hxs⟩:∃ xs,xs=aD pg.sl:=⟨_,rfl⟩;rw[hln,hrow];rw[← hnn]at hn hs Q0;rw[← hxs]at hs ⊢;obtain⟨sa,adr,rfl,hcap,_⟩:=hs.b1.aF;have Qs:=aqo (fun w=>zz d hd id n hid.1 hid.2 w)
 have epg:pg.push c=⟨pg.az,pg.sl++[⟨c.k,c.n⟩],pg.hi,pg.la,pg.ri⟩:=rfl;rw[epg];rw[← hnn]at q0;obtain⟨lf,hlf⟩:∃ lf,left=lf+1:=⟨left-1,by omega⟩
 subst hlf;rw[show lf+1-1=lf by omega]
 obtain⟨iv,cZ,dc,dg,dh⟩:=info_parts gR;clear q0 hc hnn hln hrow hxs epg;have k:=hs.k0;unfold aU at k;have qm:=fun w va F (hs:St K w (blk b (.cells (aU nx d id (Pg.mk pg.az (pg.sl++[⟨c.k,c.n⟩]) pg.hi pg.la pg.ri) va lf (aX th) word).toArray T)::F))=>Je hs
 have Qm:=aqo qm;clear qm;go_enter Tryz.func195,Tryz.ntmps195
 go_upto_region 1 with(fail)
 go_cut [5] (fun v wx=>∃ bx,v=.pointer (some ⟨bx,0,none⟩)/\St K wx (blk bx (.cells #[.int .u64 c.n,.string c.k,.int .u64 c.m] 63)::aJ bm bc L (acc+1)::blk b (.cells (aU nx d id pg (.slice sa n adr) (lf+1) (aX th) word).toArray T)::ak (.slice sa n adr) 69 2 n xs::F))
 case first=>
  as_aux_lemma=>
  have hs:=hs.b2.b1;have Hs:=aqo hs;clear k hs hl;refine lO 16 ?_ 5 (.cells #[.int .u64 0,.string ⟨#[]⟩,.int .u64 0] 63) rfl (by as_aux_lemma=>kernel_rfl) rfl (fun _ _=>by kernel_rfl) ?_ ?_ ?_
  case refine_2=>
   intro W hb;have hs:=Hs.out.same hb;have k:=hs.k0;unfold aU at k;simp only[List.take_succ_cons,List.take_zero,List.drop_succ_cons,List.drop_zero];repeat (go_big_quiet_step ((go_at_call 127;exact aW (Qs.out _))))
   refine wpQuiet_nil ?_
   rfl
  case refine_3=>
   intro w5 hb5;have hs:=Hs.out.same hb5;go_wp2_with fail
   refine(Q0.out _ _ hs.b1).mono ?_
   clear hs;rintro e w6 ⟨rfl,hs⟩;have hs:=hs.made (.cells #[.int .u64 c.n,.string c.k,.int .u64 c.m] 63);go_wp2
   go_meet;exact⟨_,rfl,hs⟩
  case refine_4=>
   intro w0 w5 hb0 hb5;have hs:=((Hs.out.same hb0).made (.cells #[.int .u64 0,.string ⟨#[]⟩,.int .u64 0] 63)).same (by rw[World.size_alloc];exact hb5)
   go_wp2_with fail
   refine(Q0.out _ _ hs.b2).mono ?_
   clear hs;rintro e w6 ⟨rfl,hs⟩;have kx:=hs.k1;have fx:=hs.f1;have hs:=((hs.b1.aI 0 (.int .u64 c.n)).aI 1 (.string c.k)).aI 2 (.int .u64 c.m);go_wp2
   go_meet;exact⟨_,rfl,hs⟩
 case rest=>
  clear k hs;obtain⟨bx,rfl,hs⟩:=hcut;have Hs:=aqo hs;have hln:n<=1000000:=hn;clear hs hd hid ha hn;cases hmv:kT b lf th with
  | none=>
   rw[hmv]at Qm;have Hmv:=aqo hmv;clear hmv;go_upto_region 2 with(fail)
   refine eI _ 10 ?aS 34 (.cells #[.string c.k,.int .u64 c.n] 69) (fun W=> .slice (some ⟨W.heap.size,0,none⟩) 1 1) rfl rfl (by kernel_rfl) ?hB rfl (fun _ _ _ _ h=>h) ?H ?xJ ?Ah
   case H=>
    intro W hb;have hs:=Hs.out.same hb;have kx:=hs.k0;have kb:=hs.k2;unfold aU at kb;simp only[List.take_succ_cons,List.take_zero,List.drop_succ_cons,List.drop_zero,Act.put,List.setIfInBounds_toArray,List.set_cons_zero,List.set_cons_succ,Act.eval];repeat (go_big_quiet_step (fail))
    refine wpQuiet_nil ?_
    rfl
   case hB=>as_aux_lemma=>kernel_rfl
   case xJ=>
    intro w';kernel_rfl
   case Ah=>
    intro w0 w5 hb0 hb5;have hs:=((Hs.out.same hb0).made (.cells [.string c.k,.int .u64 c.n].toArray 69)).same (by rw[World.size_alloc];exact hb5)
    have hk:=hs.k0;have Hn:=aqo (fun(j:Nat) (u:Value) (hu:[Value.string c.k,.int .u64 c.n][j]?=some u)=>(show ∃ g off,(some ⟨w0.heap.size,0,none⟩:Option Addr)=some ⟨g,off,none⟩/\w5.cell? ⟨g,off+j,none⟩=some u from⟨_,0,rfl,by rw[Nat.zero_add,hk j];simpa using hu⟩))
    clear hk;have Hr:=aqo hs.b4;clear hs;simp only[List.drop_succ_cons,List.drop_zero];refine cF _ _ 41 69 _ n 1 1 2 24 xs [.string c.k,.int .u64 c.n] (.agg #[.string ⟨#[]⟩,.int .u64 0]) iv (some ⟨w0.heap.size,0,none⟩) Hr.out rfl rfl Tryz.underlying41 cZ dc dg dh rfl (by decide) rfl rfl rfl (fun e=>by cases e) Hn.out (fun u hu=>by simp at hu;rcases hu with rfl|rfl <;> rfl) (by omega) (by decide) ?_
    clear Hr Hn;intro v' w6 hs;obtain⟨ao,oK,rfl,_,_⟩:=hs.aF;have hs:=hs.b4;have kb:=hs.k0;have fb:=hs.f0;unfold aU at kb;have hs:=((hs.aI 11 (.slice ao (n+1) oK)).aI 15 (.int .i64 lf));simp only[aU,List.set_cons_zero,List.set_cons_succ]at hs;go_wp2_with fail
    refine(Qm.out _ _ _ hs).mono ?_
    clear hs kb fb;rintro e w7 ⟨he,hs⟩;obtain rfl:e=.returned .nilFunc:=he;go_wp2
    go_ret;exact⟨_,by rw[Hmv.out];rfl,hs.sub (.cons_cons _ (.cons_cons _ (.cons _ (.cons _ (List.Sublist.refl _)))))⟩
  | some o=>
   obtain⟨f',x',y'⟩:=o;rw[hmv]at Qm;have Hmv:=aqo hmv;clear hmv;go_upto_region 2 with(fail)
   refine eI _ 10 ?aS2 34 (.cells #[.string c.k,.int .u64 c.n] 69) (fun W=> .slice (some ⟨W.heap.size,0,none⟩) 1 1) rfl rfl (by kernel_rfl) ?hB2 rfl (fun _ _ _ _ h=>h) ?H2 ?ag1 ?Ah2
   case H2=>
    intro W hb;have hs:=Hs.out.same hb;have kx:=hs.k0;have kb:=hs.k2;unfold aU at kb;simp only[List.take_succ_cons,List.take_zero,List.drop_succ_cons,List.drop_zero,Act.put,List.setIfInBounds_toArray,List.set_cons_zero,List.set_cons_succ,Act.eval];repeat (go_big_quiet_step (fail))
    refine wpQuiet_nil ?_
    rfl
   case hB2=>as_aux_lemma=>kernel_rfl
   case ag1=>
    intro w';kernel_rfl
   case Ah2=>
    intro w0 w5 hb0 hb5;have hs:=((Hs.out.same hb0).made (.cells [.string c.k,.int .u64 c.n].toArray 69)).same (by rw[World.size_alloc];exact hb5)
    have hk:=hs.k0;have Hn:=aqo (fun(j:Nat) (u:Value) (hu:[Value.string c.k,.int .u64 c.n][j]?=some u)=>(show ∃ g off,(some ⟨w0.heap.size,0,none⟩:Option Addr)=some ⟨g,off,none⟩/\w5.cell? ⟨g,off+j,none⟩=some u from⟨_,0,rfl,by rw[Nat.zero_add,hk j];simpa using hu⟩))
    clear hk;have Hr:=aqo hs.b4;clear hs;simp only[List.drop_succ_cons,List.drop_zero];refine cF _ _ 41 69 _ n 1 1 2 24 xs [.string c.k,.int .u64 c.n] (.agg #[.string ⟨#[]⟩,.int .u64 0]) iv (some ⟨w0.heap.size,0,none⟩) Hr.out rfl rfl Tryz.underlying41 cZ dc dg dh rfl (by decide) rfl rfl rfl (fun e=>by cases e) Hn.out (fun u hu=>by simp at hu;rcases hu with rfl|rfl <;> rfl) (by omega) (by decide) ?_
    clear Hr Hn;intro v' w6 hs;obtain⟨ao,oK,rfl,_,_⟩:=hs.aF;have hs:=hs.b4;have kb:=hs.k0;have fb:=hs.f0;unfold aU at kb;have hs:=((hs.aI 11 (.slice ao (n+1) oK)).aI 15 (.int .i64 lf));simp only[aU,List.set_cons_zero,List.set_cons_succ]at hs;go_wp2_with fail
    refine(Qm.out _ _ _ hs).mono ?_
    clear hs kb fb;rintro e w7 ⟨he,hs⟩;obtain rfl:e=.returned (.func (.func f') x' y'):=he;go_wp2
    go_ret;exact⟨_,by rw[Hmv.out];rfl,hs.sub (.cons_cons _ (.cons_cons _ (.cons _ (.cons _ (List.Sublist.refl _)))))⟩
end
section
variable {K:aK}{w:World}{F:List aB}{b bm bc:Nat}{L:List aP}{acc:Nat}{nx va:Value}{d:aR}{id:Int}{pg:Pg}{left:Nat}{th:Option FV}{word:Int}
def tO (b:Nat):Option FV:=some ⟨191, #[.pointer (some ⟨b,0,none⟩)], #[]⟩
def Ey (b:Nat):Option FV:=some ⟨183, #[.pointer (some ⟨b,0,none⟩)], #[]⟩
def Ez (b:Nat):Option FV:=some ⟨181, #[.pointer (some ⟨b,2,none⟩)], #[]⟩
theorem Wd {tv:Value}(hd:d.Ok)(hid:0<=id/\id<18446744073709551616)(ha:acc<=1000000000000)(hL:0<=(ah L (d.node id 0)).n/\(ah L (d.node id 0)).n<18446744073709551616)
  (hs:St K w (blk b (.cells (aU nx d id pg va left tv word).toArray 222)::aJ bm bc L acc::F)) :
  Calls Tryz.prog 183 #[.pointer (some ⟨b,0,none⟩),.pointer (some ⟨bm,0,none⟩)] w fun e w' =>
   e=.returned (aX (cond (bY (ah L (d.node id 0)).n) (Ey b) (Ez b))) /\
   St K w' (blk b (.cells (aU nx d id pg va left (cond (bY (ah L (d.node id 0)).n) tv (aX (tO b))) (ah L (d.node id 0)).n).toArray 222)::aJ bm bc L (acc+1)::F):=by
 obtain⟨c,hc⟩:∃ c,c=ah L (d.node id 0):=⟨_,rfl⟩;have q0:=fun(w:World) (F:List aB) (hs:St K w (aJ bm bc L acc::F))=>jd (i:=d.node id 0) hs ha
 rw[← hc]at q0 hL ⊢;have Q0:=aqo q0;have Qc:=aqo (fun w=>tG c.n hL.1 hL.2 w)
 clear q0 hc;have k:=hs.k0;unfold aU at k;cases ho:bY c.n with
 | true=>
  rw[ho]at Qc;simp only[cond_true];clear ho;go_enter Tryz.func183,Tryz.ntmps183
  go_upto_region 1 with(fail)
  refine fo _ 12 rfl rfl (by kernel_rfl) (by as_aux_lemma=>kernel_rfl) (fun _ _ _ _ h=>h) ?_
  simp only[List.take_succ_cons,List.take_zero,List.drop_succ_cons,List.drop_zero,Act.put,List.setIfInBounds_toArray,List.set_cons_zero,List.set_cons_succ,Act.eval];repeat (go_big_quiet_step ((go_at_call 69;exact aW (iq d hd id hid.1 hid.2 _))))
  refine wpQuiet_nil ?_
  intro w5 hb5;have hs:=hs.same hb5;clear k hb5;go_wp2_with fail
  refine(Q0.out _ _ hs.b1).mono ?_
  clear hs;rintro e w6 ⟨rfl,hs⟩;have hs:=hs.b1;have k:=hs.k0;have kf:=hs.f0;unfold aU at k;have hs:=hs.aI 17 (.int .u64 c.n);simp only[aU,List.set_cons_zero,List.set_cons_succ]at hs;go_wp2_with fail
  refine(Qc.out _).mono ?_
  rintro e w7 ⟨rfl,rfl⟩;go_wp2
  go_ret;exact⟨rfl,hs⟩
 | false=>
  rw[ho]at Qc;simp only[cond_false];clear ho;have qb:=fun w F (hs:St K w (blk b (.cells (aU nx d id pg va left tv c.n).toArray 222)::F))=>Py (th:=tO b) hs
  have Qb:=aqo qb;clear qb;go_enter Tryz.func183,Tryz.ntmps183
  go_upto_region 1 with(fail)
  refine fo _ 12 rfl rfl (by kernel_rfl) (by as_aux_lemma=>kernel_rfl) (fun _ _ _ _ h=>h) ?_
  simp only[List.take_succ_cons,List.take_zero,List.drop_succ_cons,List.drop_zero,Act.put,List.setIfInBounds_toArray,List.set_cons_zero,List.set_cons_succ,Act.eval];repeat (go_big_quiet_step ((go_at_call 69;exact aW (iq d hd id hid.1 hid.2 _))))
  refine wpQuiet_nil ?_
  intro w5 hb5;have hs:=hs.same hb5;clear k hb5;go_wp2_with fail
  refine(Q0.out _ _ hs.b1).mono ?_
  clear hs;rintro e w6 ⟨rfl,hs⟩;have hs:=hs.b1;have k:=hs.k0;have kf:=hs.f0;unfold aU at k;have hs:=hs.aI 17 (.int .u64 c.n);simp only[aU,List.set_cons_zero,List.set_cons_succ]at hs;go_wp2_with fail
  refine(Qc.out _).mono ?_
  rintro e w7 ⟨rfl,rfl⟩;go_wp2_with fail
  refine(Qb.out _ _ hs).mono ?_
  clear hs k kf;rintro e w8 ⟨rfl,hs⟩;go_wp2
  go_ret;exact⟨rfl,hs⟩
end
def it {α:Type}(f:α->α):Nat->α->α
 | 0,s=>s
 | n+1,s=>it f n (f s)
theorem bg {L:List aP}{i j:Int}{c:aP}(h:j≠i):ah (aN L i c) j=ah L j:=by
 unfold ah aN;by_cases hj:0<=j
 ·rw[if_pos hj,if_pos hj]
  by_cases hi:0<=i
  ·rw[if_pos hi,List.getElem?_set,if_neg (by omega)]
  ·rw[if_neg hi]
 ·rw[if_neg hj,if_neg hj]
theorem b9 {L:List aP}{i:Int}{c:aP}(hi:0<=i)(hl:i<L.length):ah (aN L i c) i=c:=by rw[pP hi hl hi,if_pos rfl]
theorem pW {L:List aP}{i:Int}(hi:i<0):ah L i=aP.zero:=by unfold ah;rw[if_neg (by omega)]
theorem Pz {L:List aP}{i:Int}{c:aP}(hi:i<0):aN L i c=L:=by unfold aN;rw[if_neg (by omega)]
def ni (c:aP):Prop:=0<=c.n/\c.n<18446744073709551616
def bI (L:List aP):Prop:=∀ i,ni (ah L i)
theorem bI.put {L:List aP}{i:Int}{c:aP}(h:bI L)(hc:ni c):bI (aN L i c):=by
 intro j;by_cases hi:0<=i
 ·by_cases hl:i<L.length
  ·by_cases hj:j=i
   ·subst hj;rw[b9 hi hl];exact hc
   ·rw[bg hj];exact h j
  ·have:aN L i c=L:=by unfold aN;rw[if_pos hi,List.set_eq_of_length_le (by omega)]
   rw[this];exact h j
 ·rw[Pz (by omega)];exact h j
section
variable {d:aR}(hd:d.Ok)
include hd
theorem Lg {r k:Int}(h1:1<=r)(h2:r<=d.re)(hk:0<=k)(hk2:k<=2):d.record r k=d.C+3*(r-1)+k/\d.C<=d.record r k/\d.record r k<d.cells:=by
 have e:d.record r k=d.C+3*(r-1)+k:=by unfold aR.record;rw[if_pos ⟨h1,h2⟩]
 have:=hd.eb;refine⟨e,by omega,?_⟩
 rw[e];unfold aR.cells;omega
theorem Fa {r k:Int}(h1:1<=r)(h2:r<=d.re)(hk:0<=k)(hk2:k<=2):0<=d.record r k:=by
 have:=Lg hd h1 h2 hk hk2;have:=hd.eb;have:=hd.jo;have:=hd.mE;omega
theorem zX {c:Int}(h1:1<=c)(h2:c<=d.ch):d.chain c=d.B+(c-1)/\0<=d.chain c/\d.chain c<d.C:=by
 have e:d.chain c=d.B+(c-1):=by unfold aR.chain;rw[if_pos ⟨h1,h2⟩]
 have:=hd.eb;have:=hd.jo;refine⟨e,by omega,?_⟩
 rw[e];unfold aR.C;omega
end
structure zY where
 r:Int
 st:Int
 k:ByteArray
 del:Bool
def b01 (b:Bool):Int:=if b then 1 else 0
def Yq (d:aR)(L:List aP)(v:zY):Prop:=1<=v.r/\v.r<=d.re/\(ah L (d.record v.r 0)).n=v.st/\(ah L (d.record v.r 1)).k=v.k/\(ah L (d.record v.r 1)).m=b01 v.del
def kC (d:aR)(L:List aP):Int->List zY->Prop
 | r,[]=>r=0
 | r,v::vs=>r=v.r/\Yq d L v/\kC d L (ah L (d.record v.r 2)).n vs
theorem kC.bd {d:aR}{L:List aP}:∀ {vs:List zY}{r:Int},kC d L r vs->∀ v,v∈vs->1<=v.r/\v.r<=d.re:=by
 intro vs;induction vs with
 | nil=>intro r _ v hv;simp at hv
 | cons v vs ih=>
  intro r ⟨_,⟨h2,h3,_⟩,h7⟩ v' hv';rcases List.mem_cons.1 hv' with rfl|hv'
  ·exact⟨h2,h3⟩
  ·exact ih h7 v' hv'
structure mN where
 pc:Nat
 pg:Pg
 left:Nat
 word:Int
 t:Bool
def Fb:Pg:=⟨0,[],⟨#[]⟩,false,0⟩
def pq:mN:=⟨0,Fb,0,0,false⟩
def rdStep (d:aR)(id:Int)(L:List aP)(s:mN):mN:=
 match s.pc with
 | 0=>if bY (ah L (d.node id 0)).n then⟨0,s.pg,s.left,(ah L (d.node id 0)).n,s.t⟩else⟨1,s.pg,s.left,(ah L (d.node id 0)).n,true⟩
 | 1=>⟨2,⟨wrap64 (ah L (d.node id 1)).m,[],⟨#[]⟩,false,0⟩,leftOf d (ah L (d.node id 1)),s.word,s.t⟩
 | 2=>⟨3,s.pg.high (ah L (d.node id 2)),s.left,s.word,s.t⟩
 | 3=>⟨if s.left=0 then 5 else 4,s.pg.right (ah L (d.node id 3)),s.left,s.word,s.t⟩
 | 4=>⟨if s.left-1=0 then 5 else 4,s.pg.push (ah L (d.slot id s.pg.sl.length)),s.left-1,s.word,s.t⟩
 | 5=>if aH s.word == aH (ah L (d.node id 0)).n then⟨6,s.pg,s.left,s.word,s.t⟩else⟨0,s.pg,s.left,s.word,s.t⟩
 | _=>s
def r7 (b:Nat):Nat->Option FV
 | 0=>Ey b
 | 1=>Ez b
 | 2=>some ⟨189, #[.pointer (some ⟨b,2,none⟩)], #[]⟩
 | 3=>some ⟨192, #[.pointer (some ⟨b,2,none⟩)], #[]⟩
 | 4=>some ⟨195, #[.pointer (some ⟨b,2,none⟩)], #[]⟩
 | 5=>tO b
 | _=>none
def Fc (b:Nat)(t:Bool):Option FV:=if t then tO b else none
def Dy (b:Nat)(d:aR)(id:Int)(va:Value)(s:mN):aB:=blk b (.cells (aU (aX (r7 b s.pc)) d id s.pg va s.left (aX (Fc b s.t)) s.word).toArray 222)
def bq (va:Value)(pg:Pg):aB:=ak va 69 2 (pg).sl.length (aD (pg).sl)
theorem Lh {b p:Nat}:(r7 b p).isNone=decide (6<=p):=by
 match p with
 | 0=>rfl
 | 1=>rfl
 | 2=>rfl
 | 3=>rfl
 | 4=>rfl
 | 5=>rfl
 | n+6=>simp[r7]
theorem Ji {b left:Nat}:kT b left (tO b)=r7 b (if left=0 then 5 else 4):=by
 unfold kT;split <;> rfl
structure mN.Ok (d:aR)(s:mN):Prop where
 pc:s.pc<=6
 word:0<=s.word/\s.word<18446744073709551616
 len:s.pc<=1\/(s.pg.sl.length+s.left:Int)<=d.fa
 th:s.pc=0\/s.pc=6\/s.t=true
 left:s.pc=4->0<s.left
theorem aaF (d:aR):pq.Ok d:=⟨by decide,⟨by decide,by decide⟩,.inl (by decide),.inl rfl,by decide⟩
theorem nW {d:aR}(hd:d.Ok){c:aP}(hc:ni c):(leftOf d c:Int)<=d.fa:=by
 have:=hd.fw;have:=hc.1;unfold leftOf;omega
theorem wF {d:aR}(hd:d.Ok){id:Int}{L:List aP}(hL:bI L){s:mN}(h:s.Ok d):(rdStep d id L s).Ok d:=by
 obtain⟨pc,pg,left,word,t⟩:=s;have h1:=h.pc;have h2:=h.word;have h3:=h.len;have h4:=h.th;have h5:=h.left;simp only at h1 h2 h3 h4 h5;rcases(show pc=0\/pc=1\/pc=2\/pc=3\/pc=4\/pc=5\/pc=6 by omega)with rfl|rfl|rfl|rfl|rfl|rfl|rfl
 ·simp only[rdStep]
  split
  ·exact⟨by simp,hL _,.inl (by simp),.inl rfl,by simp⟩
  ·exact⟨by simp,hL _,.inl (by simp),.inr (.inr rfl),by simp⟩
 ·simp only[rdStep]
  exact⟨by simp,h2,.inr (by simpa using nW hd (hL _)),by simpa using h4,by simp⟩
 ·simp only[rdStep]
  exact⟨by simp,h2,.inr (by simpa[Pg.high] using h3),by simpa using h4,by simp⟩
 ·simp only[rdStep]
  refine⟨by simp only;split <;> omega,h2,.inr (by simpa[Pg.right] using h3),.inr (.inr (by simpa using h4)),?_⟩
  simp only;split <;> omega
 ·simp only[rdStep]
  have hl:0<left:=h5 rfl;refine⟨by simp only;split <;> omega,h2,.inr ?_,.inr (.inr (by simpa using h4)),?_⟩
  ·have h3':(pg.sl.length:Int)+left<=d.fa:=by simpa using h3
   simp only[Pg.push,List.length_append,List.length_singleton];omega
  ·simp only
   split <;> omega
 ·simp only[rdStep]
  split
  ·exact⟨by simp,h2,.inr (by simpa using h3),.inr (.inl rfl),by simp⟩
  ·exact⟨by simp,h2,.inl (by simp),.inl rfl,by simp⟩
 ·exact h
section
variable {K:aK}{w:World}{F:List aB}{b bm bc:Nat}{L:List aP}{acc:Nat}{nx va:Value}{d:aR}{id:Int}{s:mN}
theorem rA:Enters 183:=fun _ _=>rfl
theorem rB:Enters 181:=fun _ _=>rfl
theorem rC:Enters 189:=fun _ _=>rfl
theorem pX:Enters 192:=fun _ _=>rfl
theorem rD:Enters 195:=fun _ _=>rfl
theorem mo:Enters 191:=fun _ _=>rfl
theorem lR {α:Type}{m:Nat}{f:FV}{o:Option FV}{nx:Value}{tl:α->List Value}{T:TypeId}{F' : α->List aB}(hf:Enters f.f)(hc:w.cell? ⟨b,0,none⟩=some (aX (some f)))
  (hcall:Calls Tryz.prog f.f (f.x ++ #[.pointer (some ⟨m,0,none⟩)]++f.y) w fun e w1=>∃ x,e=.returned (aX o)/\St K w1 (blk b (.cells (nx::tl x).toArray T)::F' x)) :
  Calls Tryz.prog 77 #[.pointer (some ⟨b,0,none⟩),.pointer (some ⟨m,0,none⟩)] w fun e w' => ∃ x,e=.returned (.bool o.isNone)/\St K w' (blk b (.cells (aX o::tl x).toArray T)::F' x):=by
 refine(oJ (R:=fun l=>∃ x,l=⟨o,K,nx,tl x,T,F' x⟩) w b m f hf hc (hcall.mono fun e w1 ⟨x,he,hs⟩=>⟨⟨o,K,nx,tl x,T,F' x⟩,he,⟨x,rfl⟩,hs⟩)).mono ?_
 rintro e w' ⟨l,he,⟨x,rfl⟩,hs⟩;exact⟨x,he,hs⟩
end
theorem fX (l:List Sl):∀ (i:Nat)(s:Sl),l[i]?=some s->(aD l)[i*2]?=some (.string s.k)/\(aD l)[i*2+1]?=some (.int .u64 s.r):=by
 induction l with
 | nil=>intro i s h;simp at h
 | cons a l ih=>
  intro i s h;have e:aD (a::l)=.string a.k :: .int .u64 a.r::aD l:=rfl;rw[e];cases i with
  | zero=>simp at h;subst h;exact⟨rfl,rfl⟩
  | succ i=>
   have:=ih i s (by simpa using h)
   rw[show(i+1)*2=i*2+2 by omega]
   simpa using this
def eo (w:World)(a:Option Addr)(l:List Sl):Prop:=l.length<=1000000000/\∀ (i:Nat) (s:Sl),l[i]?=some s ->
 ∃ b off,a=some ⟨b,off,none⟩/\b<w.heap.size/\w.cell? ⟨b,off+i*2,none⟩=some (.string s.k)/\w.cell? ⟨b,off+i*2+1,none⟩=some (.int .u64 s.r)
theorem eo.same {w w':World}{a:Option Addr}{l:List Sl}(h:eo w a l)(hb:Below w.heap.size w w'):eo w' a l:=
 ⟨h.1,fun i s hv=>by
  obtain⟨b,off,e,hlt,c0,c1⟩:=h.2 i s hv;exact⟨b,off,e,Nat.lt_of_lt_of_le hlt hb.size,by rw[hb.cell (p:=⟨b,_,none⟩) hlt];exact c0,by rw[hb.cell (p:=⟨b,_,none⟩) hlt];exact c1⟩⟩
theorem St.cN {K:aK}{w:World}{F:List aB}{a:Option Addr}{n cap:Nat}{T:TypeId}{l:List Sl}(h:St K w (ak (.slice a n cap) T 2 n (aD l)::F))(hn:l.length<=1000000000):eo w a l:=by
 refine⟨hn,fun i s hs=>?_⟩
 obtain⟨r0,r1⟩:=fX l i s hs;obtain⟨g,e,c0⟩:=h.cP r0;obtain⟨g1,e1,c1⟩:=h.cP r1;rw[e]at e1;simp only[Option.some.injEq,Addr.mk.injEq,and_true]at e1;subst e1;exact⟨g,0,e,World.block_lt_of_cell? _ _ c0,by rw[Nat.zero_add];exact c0,by rw[Nat.zero_add];exact c1⟩
theorem eo.news {w:World}{a:Option Addr}{l:List Sl}(h:eo w a l):∀ j u,(aD l)[j]?=some u->∃ g off,a=some ⟨g,off,none⟩/\w.cell? ⟨g,off+j,none⟩=some u:=by
 intro j u hu;have hj:j<l.length*2:=by rw[← fE];exact(aqq.1 hu).1
 have hlt:j / 2<l.length:=by omega
 obtain⟨s,hs⟩:∃ s,l[j / 2]?=some s:=⟨_,aqt hlt⟩;obtain⟨b,off,e,_,c0,c1⟩:=h.2 _ _ hs;obtain⟨r0,r1⟩:=fX _ _ _ hs;refine⟨b,off,e,?_⟩;have hdm:j=j / 2*2+j%2:=by omega
 rcases(show j%2=0\/j%2=1 by omega)with h3|h3
 ·rw[hdm,h3,Nat.add_zero]at hu ⊢
  rw[r0]at hu;rw[← hu];exact c0
 ·rw[hdm,h3]at hu ⊢
  rw[r1]at hu;rw[← hu];rw[← Nat.add_assoc];exact c1
theorem kU (l:List Sl):∀ u,u∈aD l->u.oneCell'=true:=by
 intro u hu;obtain⟨s,_,hs⟩:=List.mem_flatMap.1 hu;simp[gW]at hs;rcases hs with rfl|rfl <;> rfl
theorem eo.no {w:World}{l:List Sl}(h:eo w none l):l=[]:=by
 cases l with
 | nil=>rfl
 | cons s l=>obtain⟨b,off,e,_⟩:=h.2 0 s rfl;cases e
theorem Li (tmps:Array Value)(w:World)(b:Nat)(v0 v1 v2 v3 v4:Value)(hp:tmps[2]?=some (.pointer (some ⟨b,0,none⟩)))(hk:∀ k,w.cell? ⟨b,k,none⟩=(#[v0,v1,v2,v3,v4]:Array Value)[k]?) :
  (results Tryz.f91 tmps).run Tryz.prog w=.ok (.agg #[v0,v1,v2,v3,v4]) w:=by
 simp[results,Tryz.results91,go_sem,hp,hk]
section
variable {K:aK}{w:World}{F:List aB}{pg:Pg}{a:Option Addr}{cap:Nat}
theorem nj (hs:St K w F)(h:eo w a pg.sl) :
  Calls Tryz.prog 91 #[.agg #[.int .i64 (pg).az,(.slice a pg.sl.length cap),.string (pg).hi,.bool (pg).la,.int .u64 (pg).ri]] w fun e w' => ∃ va,e=.returned (.agg #[.int .i64 (pg).az,va,.string (pg).hi,.bool (pg).la,.int .u64 (pg).ri])/\St K w' (ak va 69 2 pg.sl.length (aD pg.sl)::F):=by
 obtain⟨n,hn⟩:∃ n,n=pg.sl.length:=⟨_,rfl⟩;have hl:=h.1;have Hl:=aqo (show(aD pg.sl).length=n*2 by rw[fE,hn])
 have H0:Hid (a=none->n=0):=aqo (fun e=>by subst e;rw[hn,h.no];rfl)
 have H1:=aqo (kU pg.sl);rw[← hn]at hl ⊢;obtain⟨iv,cZ,dc,dg,dh⟩:=info_parts gR;have hs:=(hs.made (.cells #[.int .i64 (pg).az,(.slice a n cap),.string (pg).hi,.bool (pg).la,.int .u64 (pg).ri] 43)).made (.cells #[.int .i64 0,.slice none 0 0,.string ⟨#[]⟩,.bool false,.int .u64 0] 43);rw[World.size_alloc]at hs;have h2:=(h.same ((Below.refl w.heap.size w).alloc (Nat.le_refl _) (.cells #[.int .i64 (pg).az,(.slice a n cap),.string (pg).hi,.bool (pg).la,.int .u64 (pg).ri] 43)));have h3:=h2.same ((Below.refl _ _).alloc (Nat.le_refl _) (.cells #[.int .i64 0,.slice none 0 0,.string ⟨#[]⟩,.bool false,.int .u64 0] 43));have Hn:=aqo h3.news;obtain⟨sl,fj⟩:∃ sl,sl=aD pg.sl:=⟨_,rfl⟩;rw[← fj]at Hl H1 Hn ⊢;have Hs:=aqo (hs.cD (T:=69) (size:=2));clear hs h h2 h3 hn fj;go_enter Tryz.func91,Tryz.ntmps91
 go_wp2_with (at_builtin;refine cF _ _ 41 69 _ 0 n cap 2 24 [] sl (.agg #[.string ⟨#[]⟩,.int .u64 0]) iv a Hs.out rfl rfl Tryz.underlying41 cZ dc dg dh rfl (by decide) rfl rfl Hl.out H0.out Hn.out H1.out (by omega) (by decide) ?_)
 intro v' w' hs;obtain⟨ao,oK,hv,_,_⟩:=hs.aF;subst hv;have hs:=hs.b2;have kb:=hs.k0;have fb:=hs.f0;have kr:=hs.k2;have fr:=hs.f2;have hs:=(hs.aI 1 (.slice ao n oK)).b2;simp only[List.set_cons_zero,List.set_cons_succ]at hs;have hs:=((((hs.aI 0 (.int .i64 pg.az)).aI 1 (.slice ao n oK)).aI 2 (.string pg.hi)).aI 3 (.bool pg.la)).aI 4 (.int .u64 pg.ri);simp only[List.set_cons_zero,List.set_cons_succ]at hs;clear Hs Hl H0 H1 Hn;go_wp2
 refine bodyPost_ret (Li _ _ (w.heap.size+1) _ _ _ _ _ rfl hs.k0) rfl ⟨_,rfl,hs.tail.tail⟩
theorem fY (w:World)(b:Nat)(h0:w.cell? ⟨b,0,none⟩=some .nilFunc)(h1:w.cell? ⟨b,1,none⟩=some (.bool true)):Calls Tryz.prog 105 #[.pointer (some ⟨b,0,none⟩)] w fun e w' => e=.returned (.bool true)/\w=w' := by
 go_enter Tryz.func105,Tryz.ntmps105
 go_wp2
 go_ret;exact⟨rfl,rfl⟩
theorem Qf (tmps:Array Value)(w:World)(b:Nat)(v0 v1 v2 v3 v4:Value)(hp:tmps[2]?=some (.pointer (some ⟨b,0,none⟩)))(hk:∀ k,w.cell? ⟨b,k,none⟩=(#[v0,v1,v2,v3,v4]:Array Value)[k]?) :
  (results Tryz.f167 tmps).run Tryz.prog w=.ok (.agg #[v0,v1,v2,v3,v4]) w:=by
 simp[results,Tryz.results167,go_sem,hp,hk]
theorem Lj {b:Nat}{va:Value}{d:aR}{id:Int}{s:mN}(h6:s.pc=6)(hn:s.pg.sl.length<=1000000)(hs:St K w (Dy b d id va s::bq va s.pg::F)) :
  Calls Tryz.prog 167 #[.pointer (some ⟨b,0,none⟩)] w fun e w' => ∃ eX,e=.returned (.agg #[.int .i64 (s.pg).az,eX,.string (s.pg).hi,.bool (s.pg).la,.int .u64 (s.pg).ri])/\St K w' (bq eX s.pg::Dy b d id va s::bq va s.pg::F):=by
 obtain⟨pc,pg,left,word,t⟩:=s;simp only at h6 hn;subst h6;have hs:St K w (Dy b d id va ⟨6,pg,left,word,t⟩::bq va pg::F):=hs;obtain⟨a,cap,rfl,_,_⟩:=(show St K w (ak va 69 2 pg.sl.length (aD pg.sl)::Dy b d id va ⟨6,pg,left,word,t⟩::F)from hs.b1).aF
 obtain⟨th,hth⟩:∃ th,th=aX (Fc b t):=⟨_,rfl⟩;have hs:St K w (blk b (.cells (aU .nilFunc d id pg (.slice a pg.sl.length cap) left th word).toArray 222)::ak (.slice a pg.sl.length cap) 69 2 pg.sl.length (aD pg.sl)::F):=by rw[hth];exact hs
 have fj:=hs.b1.cN (by omega)
 have hs0:=hs;have hs:=hs.made (.cells #[.int .i64 0,.slice none 0 0,.string ⟨#[]⟩,.bool false,.int .u64 0] 43);have fj:=fj.same ((Below.refl w.heap.size w).alloc (Nat.le_refl _) (.cells #[.int .i64 0,.slice none 0 0,.string ⟨#[]⟩,.bool false,.int .u64 0] 43));have Qd:=aqo (fY (w.alloc (.cells #[.int .i64 0,.slice none 0 0,.string ⟨#[]⟩,.bool false,.int .u64 0] 43)) b (hs.k1 0) (hs.k1 1));have Qc:=aqo (nj (cap:=cap) hs fj);have k:=hs.k1;unfold aU at k;have Hth:=aqo hth;clear hs fj hs0 hth;go_enter Tryz.func167,Tryz.ntmps167
 go_wp2_with fail
 refine(Qd.out).mono ?_
 rintro e w1 ⟨rfl,rfl⟩;go_wp2_with fail
 refine(Qc.out).mono ?_
 clear Qc Qd k;rintro e w2 ⟨eX,rfl,hs⟩;obtain⟨a2,ag3,hv,_,_⟩:=hs.aF;subst hv;have hs:=hs.b1;have kb:=hs.k0;have fb:=hs.f0;have hs:=((((hs.aI 0 (.int .i64 pg.az)).aI 1 (.slice a2 pg.sl.length ag3)).aI 2 (.string pg.hi)).aI 3 (.bool pg.la)).aI 4 (.int .u64 pg.ri);simp only[List.set_cons_zero,List.set_cons_succ]at hs;go_wp2
 refine bodyPost_ret (Qf _ _ w.heap.size _ _ _ _ _ rfl hs.k0) rfl ⟨_,rfl,?_⟩;have h:=hs.tail;rw[Hth.out]at h;exact h
theorem Fe {d:aR}{id:Int}(hs:St K w F) :
  Calls Tryz.prog 165 #[.agg #[.int .i64 d.th,.int .i64 d.sn,.int .i64 d.no,.int .i64 d.ch,.int .i64 d.re,.int .i64 d.fa,.int .u64 d.cl],.int .u64 id] w fun e w' => ∃ b,e=.returned (.pointer (some ⟨b,0,none⟩))/\St K w' (Dy b d id (.slice none 0 0) pq::bq (.slice none 0 0) Fb::F):=by
 have hs:=hs.pass (.cells #[.int .i64 d.th,.int .i64 d.sn,.int .i64 d.no,.int .i64 d.ch,.int .i64 d.re,.int .i64 d.fa,.int .u64 d.cl] 29);have hs:=hs.made (.cells #[.nilFunc,.bool false,.int .i64 d.th,.int .i64 d.sn,.int .i64 d.no,.int .i64 d.ch,.int .i64 d.re,.int .i64 d.fa,.int .u64 d.cl,.int .u64 id,.int .i64 0,.slice none 0 0,.string ⟨#[]⟩,.bool false,.int .u64 0,.int .i64 0,.nilFunc,.int .u64 0] 222);rw[World.size_alloc]at hs;go_enter Tryz.func165,Tryz.ntmps165
 go_wp2_with fail
 refine(bE hs (fk _ _ _ _)).mono ?_
 clear hs;rintro e w2 ⟨rfl,hs⟩;have k:=hs.k0;have kf:=hs.f0;have hs:=(hs.aI 0 (.func (.func 183) #[.pointer (some ⟨(w.heap.size+1),0,none⟩)] #[])).aI 1 (.bool true);simp only[List.set_cons_zero,List.set_cons_succ]at hs;go_wp2
 go_ret;exact⟨_,rfl,hs.cD.b1⟩
end
section
variable {pg:Pg}{a a':Option Addr}{cap cap':Nat}
end
end Go.Proofs.YtlpdhhhgckpcfaaGreat
