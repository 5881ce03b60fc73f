/- The reader of a node (package node). -/
import Derived.Test.YtlpdhhhgckpcfaaGreatBaseA
import Derived.Test.YtlpdhhhgckpcfaaGreatTailC
import Derived.Deep.RegionWith
namespace Go.Proofs.YtlpdhhhgckpcfaaGreat
set_option linter.unusedSimpArgs false
set_option linter.unusedVariables false
open Go.RowKit
set_option maxHeartbeats 16000000
set_option maxRecDepth 100000
section
structure Sl where
 k:ByteArray
 r:Int
structure Pg where
 ak:Int
 sl:List Sl
 hi:ByteArray
 la:Bool
 ri:Int
def gY (s:Sl):List Value:=[.string s.k,.int .u64 s.r]
def aD (l:List Sl):List Value:=l.flatMap gY
theorem fF (l:List Sl):(aD l).length=l.length*2:=by
 induction l with
 | nil=>rfl
 | cons s l ih=>rw[show aD (s::l)=gY s++aD l from rfl,List.length_append,ih];simp[gY];omega
def aU (nx:Value)(d:aR)(id:Int)(pg:Pg)(va:Value)(left:Nat)(th:Value)(word:Int):List Value:=
 [nx,.bool true,.int .i64 d.th,.int .i64 d.sn,.int .i64 d.no,.int .i64 d.ch,.int .i64 d.re,.int .i64 d.fa,.int .u64 d.cl,.int .u64 id,.int .i64 pg.ak,va,.string pg.hi,.bool pg.la,.int .u64 pg.ri,.int .i64 left,th,.int .u64 word]
theorem gU:(Tryz.prog.info? 69).map (fun i=>(i.zero,i.size,i.bytes))=some (some (.agg #[.string ⟨#[]⟩,.int .u64 0]),2,24):=by kernel_rfl
theorem Fl (v0 v1 v2 v3 v4 v5 v6:Value)(w:World):(Instr.field 26 (.agg #[v0,v1,v2,v3,v4,v5,v6]) 5).run Tryz.prog w=.ok v5 w:=by kernel_rfl
attribute [go_sem] Fl
section
variable {K:aL}{w:World}{F:List aC}{b bm bc:Nat}{L:List aO}{acc:Nat}{nx va:Value}{d:aR}{id:Int}{pg:Pg}{left:Nat}{th:Option FV}{word:Int}{T:TypeId}
def lg (b left:Nat)(th:Option FV):Option FV:=if left=0 then th else some ⟨195, #[.pointer (some ⟨b,2,none⟩)], #[]⟩
theorem Jy (hs:St K w (blk b (.cells (aU nx d id pg va left (aW th) word).toArray T)::F)) :
  Calls Tryz.prog 194 #[.pointer (some ⟨b,2,none⟩)] w fun e w' => e=.returned (aW (lg b left th))/\St K w' (blk b (.cells (aU nx d id pg va left (aW th) word).toArray T)::F):=by
 have k:=hs.k0;unfold aU at k;by_cases h:left=0
 ·have e:lg b left th=th:=by unfold lg;rw[if_pos h]
  rw[e];have h':((left:Int) == 0)=true:=by simp[h]
  clear h e;cases th with
  | none=>
   go_enter Tryz.func194,Tryz.ntmps194
   go_wp2
   exact bodyPost_ret (v:=aW none) (results_tmp (fn:=Tryz.f194) (t:=2) rfl _ _ _) rfl ⟨rfl,hs⟩
  | some s=>
   obtain⟨f,x,y⟩:=s;have k:∀(k:Nat),w.cell? ⟨b,k,none⟩= #[nx,.bool true,.int .i64 d.th,.int .i64 d.sn,.int .i64 d.no,.int .i64 d.ch,.int .i64 d.re,.int .i64 d.fa,.int .u64 d.cl,.int .u64 id,.int .i64 pg.ak,va,.string pg.hi,.bool pg.la,.int .u64 pg.ri,.int .i64 left,.func (.func f) x y,.int .u64 word][k]? := k;go_enter Tryz.func194,Tryz.ntmps194
   go_wp2
   exact bodyPost_ret (v:= .func (.func f) x y) (results_tmp (fn:=Tryz.f194) (t:=2) rfl _ _ _) rfl ⟨rfl,hs⟩
 ·have e:lg b left th=some ⟨195, #[.pointer (some ⟨b,2,none⟩)], #[]⟩:=by unfold lg;rw[if_neg h]
  rw[e];have h':(left == 0)=false:=by simpa using h
  have h2:((left:Int) == 0)=false:=by simp;omega
  clear h e;go_enter Tryz.func194,Tryz.ntmps194
  go_wp2
  go_ret;exact⟨rfl,hs⟩
theorem Ro {tv:Value}(hs:St K w (blk b (.cells (aU nx d id pg va left tv word).toArray T)::F)) :
  Calls Tryz.prog 153 #[.pointer (some ⟨b,2,none⟩),aW th] w fun e w' => e=.returned (.func (.func 181) #[.pointer (some ⟨b,2,none⟩)] #[])/\St K w' (blk b (.cells (aU nx d id pg va left (aW th) word).toArray T)::F):=by
 have k:=hs.k0;have kf:=hs.f0;unfold aU at k;cases th with
 | none=>
  have hs:=hs.aI 16 .nilFunc;simp only[aU,List.set_cons_zero,List.set_cons_succ]at hs;have q:Calls Tryz.prog 153 #[.pointer (some ⟨b,2,none⟩),.nilFunc] w fun e w' => e=.returned (.func (.func 181) #[.pointer (some ⟨b,2,none⟩)] #[])/\St K w' (blk b (.cells (aU nx d id pg va left .nilFunc word).toArray T)::F):=by
   go_enter Tryz.func153,Tryz.ntmps153
   go_wp2
   go_ret;exact⟨rfl,hs⟩
  exact q
 | some s=>
  obtain⟨f,x,y⟩:=s;have hs:=hs.aI 16 (.func (.func f) x y);simp only[aU,List.set_cons_zero,List.set_cons_succ]at hs;have q:Calls Tryz.prog 153 #[.pointer (some ⟨b,2,none⟩),.func (.func f) x y] w fun e w' => e=.returned (.func (.func 181) #[.pointer (some ⟨b,2,none⟩)] #[])/\St K w' (blk b (.cells (aU nx d id pg va left (.func (.func f) x y) word).toArray T)::F):=by
   go_enter Tryz.func153,Tryz.ntmps153
   go_wp2
   go_ret;exact⟨rfl,hs⟩
  exact q
end
section
variable {K:aL}{w:World}{F:List aC}{b bm bc:Nat}{L:List aO}{acc:Nat}{nx va:Value}{d:aR}{id:Int}{pg:Pg}{left:Nat}{th:Option FV}{word:Int}{T:TypeId}
def leftOf (d:aR)(c:aO):Nat:=(min c.n d.fa).toNat
theorem Jz (hd:d.Ok)(hid:0<=id/\id<18446744073709551616)(ha:acc<=1000000000000)(hL:0<=(ah L (d.node id 1)).n/\(ah L (d.node id 1)).n<18446744073709551616)
  (hs:St K w (blk b (.cells (aU nx d id pg va left (aW th) word).toArray T)::aJ bm bc L acc::F)) :
  Calls Tryz.prog 181 #[.pointer (some ⟨b,2,none⟩),.pointer (some ⟨bm,0,none⟩)] w fun e w' => e=.returned (.func (.func 189) #[.pointer (some ⟨b,2,none⟩)] #[]) /\
   St K w' (blk b (.cells (aU nx d id (Pg.mk (wrap64 (ah L (d.node id 1)).m) [] ⟨#[]⟩ false 0) (.slice none 0 0) (leftOf d (ah L (d.node id 1))) (aW th) word).toArray T)::aJ bm bc L (acc+1)::F):=by
 obtain⟨c,hc⟩:∃c,c=ah L (d.node id 1):=⟨_,rfl⟩;have q0:=fun(w:World) (F:List aC) (hs:St K w (aJ bm bc L acc::F))=>jl (i:=d.node id 1) hs ha
 rw[←hc]at q0 hL ⊢;have Q0:=aq3 q0;clear q0 hc;have k:=hs.k0;unfold aU at k;go_enter Tryz.func181,Tryz.ntmps181
 go_upto_region 1 with(fail)
 go_cut [5] (fun v wx=>∃bx,v=.pointer (some ⟨bx,0,none⟩)/\St K wx (blk bx (.cells #[.int .u64 c.n,.string c.k,.int .u64 c.m] 63)::aJ bm bc L (acc+1)::blk b (.cells (aU nx d id pg va left (aW th) word).toArray T)::F))
 case first=>
  as_aux_lemma=>
  have Hs:=aq3 hs;clear k hs;refine lU 10 ?_ 5 (.cells #[.int .u64 0,.string ⟨#[]⟩,.int .u64 0] 63) rfl (by as_aux_lemma=>kernel_rfl) rfl (fun _ _=>by kernel_rfl) ?_ ?_ ?_
  case refine_2=>
   intro W hb;have hs:=Hs.out.same hb;have k:=hs.k0;unfold aU at k;simp only[List.take_succ_cons,List.take_zero,List.drop_succ_cons,List.drop_zero];repeat (go_big_quiet_step ((go_at_call 129;exact aX (tM d hd id hid.1 hid.2 _))))
   refine wpQuiet_nil ?_
   rfl
  case refine_3=>
   intro w5 hb5;have hs:=Hs.out.same hb5;go_wp2_with fail
   refine(Q0.out _ _ hs.b1).mono ?_
   clear hs;rintro e w6 ⟨rfl,hs⟩;have hs:=hs.made (.cells #[.int .u64 c.n,.string c.k,.int .u64 c.m] 63);go_wp2
   go_meet;exact⟨_,rfl,hs⟩
  case refine_4=>
   intro w0 w5 hb0 hb5;have hs:=((Hs.out.same hb0).made (.cells #[.int .u64 0,.string ⟨#[]⟩,.int .u64 0] 63)).same (by rw[World.size_alloc];exact hb5)
   go_wp2_with fail
   refine(Q0.out _ _ hs.b2).mono ?_
   clear hs;rintro e w6 ⟨rfl,hs⟩;have kx:=hs.k1;have fx:=hs.f1;have hs:=((hs.b1.aI 0 (.int .u64 c.n)).aI 1 (.string c.k)).aI 2 (.int .u64 c.m);go_wp2
   go_meet;exact⟨_,rfl,hs⟩
 case rest=>
  clear k hs;obtain⟨bx,rfl,hs⟩:=hcut;have kx:=hs.k0;have kb:=hs.k2;have fb:=hs.f2;unfold aU at kb;have hs:=((((((hs.b2.aI 10 (.int .i64 (wrap64 c.m))).aI 11 (.slice none 0 0)).aI 12 (.string ⟨#[]⟩)).aI 13 (.bool false)).aI 14 (.int .u64 0)));simp only[aU,List.set_cons_zero,List.set_cons_succ]at hs;go_upto_region 3 with(fail)
  refine cP hs ?_
  clear kx kb fb hs;intro W hs;have kx:=hs.k1;have kb:=hs.k0;have fb:=hs.f0;have Q:=aq3 (fun w' => lR d w')
  have Xf:=hd.fo;have hf2:=hd.mK;refine bQ 14 (by kernel_rfl) (by as_aux_lemma=>kernel_rfl) ?_
  simp only[List.take_succ_cons,List.take_zero,List.drop_succ_cons,List.drop_zero];by_cases hm:c.n<=d.fa
  ·have e:leftOf d c=c.n.toNat:=by unfold leftOf;rw[Int.min_eq_left hm]
   have e2:((leftOf d c:Nat):Int)=c.n:=by rw[e];omega
   repeat (go_big_quiet_step ((go_at_call 96;exact aX (Q.out _))))
   refine wpQuiet_nil ?_
   intro w5 hb5;have hs:=hs.same hb5;have kb:=hs.k0;have fb:=hs.f0;have hs:=hs.aI 15 (.int .i64 c.n);simp only[List.set_cons_zero,List.set_cons_succ]at hs;have E2:=aq3 e2;clear e e2;go_wp2
   go_ret;exact⟨rfl,by unfold aU;rw[E2.out];exact hs.b1.tail⟩
  ·have hm2:¬ c.n<=d.fa:=hm
   have e:leftOf d c=d.fa.toNat:=by unfold leftOf;rw[Int.min_eq_right (by omega)]
   have e2:((leftOf d c:Nat):Int)=d.fa:=by rw[e];omega
   repeat (go_big_quiet_step ((go_at_call 96;exact aX (Q.out _))))
   refine wpQuiet_nil ?_
   intro w5 hb5;have hs:=hs.same hb5;have kb:=hs.k0;have fb:=hs.f0;have hs:=hs.aI 15 (.int .i64 d.fa);simp only[List.set_cons_zero,List.set_cons_succ]at hs;have E2:=aq3 e2;clear e e2;go_wp2
   go_ret;exact⟨rfl,by unfold aU;rw[E2.out];exact hs.b1.tail⟩
end
section
variable {K:aL}{w:World}{F:List aC}{b bm bc:Nat}{L:List aO}{acc:Nat}{nx va:Value}{d:aR}{id:Int}{pg:Pg}{left:Nat}{th:Option FV}{word:Int}{T:TypeId}
def Pg.high (pg:Pg)(c:aO):Pg:=⟨pg.ak,pg.sl,c.k,decide (c.m=1),pg.ri⟩
def Pg.right (pg:Pg)(c:aO):Pg:=⟨pg.ak,pg.sl,pg.hi,pg.la,c.n⟩
def Pg.push (pg:Pg)(c:aO):Pg:=⟨pg.ak,pg.sl++[⟨c.k,c.n⟩],pg.hi,pg.la,pg.ri⟩
theorem Ka (hd:d.Ok)(hid:0<=id/\id<18446744073709551616)(ha:acc<=1000000000000)
  (hs:St K w (blk b (.cells (aU nx d id pg va left (aW th) word).toArray T)::aJ bm bc L acc::F)) :
  Calls Tryz.prog 189 #[.pointer (some ⟨b,2,none⟩),.pointer (some ⟨bm,0,none⟩)] w fun e w' => e=.returned (.func (.func 192) #[.pointer (some ⟨b,2,none⟩)] #[]) /\
   St K w' (blk b (.cells (aU nx d id (pg.high (ah L (d.node id 2))) va left (aW th) word).toArray T)::aJ bm bc L (acc+1)::F):=by
 obtain⟨c,hc⟩:∃c,c=ah L (d.node id 2):=⟨_,rfl⟩;have q0:=fun(w:World) (F:List aC) (hs:St K w (aJ bm bc L acc::F))=>jl (i:=d.node id 2) hs ha
 rw[←hc]at q0 ⊢;have Q0:=aq3 q0;obtain⟨o,ho⟩:∃o,o=decide (c.m=1):=⟨_,rfl⟩;have e:pg.high c=⟨pg.ak,pg.sl,c.k,o,pg.ri⟩:=by unfold Pg.high;rw[ho]
 rw[e];have g:(c.m == 1)=o:=by rw[ho];rfl
 clear q0 hc ho e;have k:=hs.k0;unfold aU at k;go_enter Tryz.func189,Tryz.ntmps189
 go_upto_region 1 with(fail)
 go_cut [5] (fun v wx=>∃bx,v=.pointer (some ⟨bx,0,none⟩)/\St K wx (blk bx (.cells #[.int .u64 c.n,.string c.k,.int .u64 c.m] 63)::aJ bm bc L (acc+1)::blk b (.cells (aU nx d id pg va left (aW th) word).toArray T)::F))
 case first=>
  as_aux_lemma=>
  have Hs:=aq3 hs;clear k hs;refine lU 10 ?_ 5 (.cells #[.int .u64 0,.string ⟨#[]⟩,.int .u64 0] 63) rfl (by as_aux_lemma=>kernel_rfl) rfl (fun _ _=>by kernel_rfl) ?_ ?_ ?_
  case refine_2=>
   intro W hb;have hs:=Hs.out.same hb;have k:=hs.k0;unfold aU at k;simp only[List.take_succ_cons,List.take_zero,List.drop_succ_cons,List.drop_zero];repeat (go_big_quiet_step ((go_at_call 112;exact aX (tN d hd id hid.1 hid.2 _))))
   refine wpQuiet_nil ?_
   rfl
  case refine_3=>
   intro w5 hb5;have hs:=Hs.out.same hb5;go_wp2_with fail
   refine(Q0.out _ _ hs.b1).mono ?_
   clear hs;rintro e w6 ⟨rfl,hs⟩;have hs:=hs.made (.cells #[.int .u64 c.n,.string c.k,.int .u64 c.m] 63);go_wp2
   go_meet;exact⟨_,rfl,hs⟩
  case refine_4=>
   intro w0 w5 hb0 hb5;have hs:=((Hs.out.same hb0).made (.cells #[.int .u64 0,.string ⟨#[]⟩,.int .u64 0] 63)).same (by rw[World.size_alloc];exact hb5)
   go_wp2_with fail
   refine(Q0.out _ _ hs.b2).mono ?_
   clear hs;rintro e w6 ⟨rfl,hs⟩;have kx:=hs.k1;have fx:=hs.f1;have hs:=((hs.b1.aI 0 (.int .u64 c.n)).aI 1 (.string c.k)).aI 2 (.int .u64 c.m);go_wp2
   go_meet;exact⟨_,rfl,hs⟩
 case rest=>
  clear k hs;obtain⟨bx,rfl,hs⟩:=hcut;have kx:=hs.k0;have hs:=hs.b2;have kb:=hs.k0;have fb:=hs.f0;unfold aU at kb;have hs1:=((hs.aI 12 (.string c.k)).aI 13 (.bool o)).bY.b1;have hs2:=((hs.aI 13 (.bool o)).aI 12 (.string c.k)).bY.b1;simp only[aU,List.set_cons_zero,List.set_cons_succ]at hs1 hs2;clear hs;go_upto_region 2 with(fail)
  go_region
  all_goals
   go_wp2
   go_ret;first|exact⟨rfl,hs1.b1⟩|exact⟨rfl,hs2.b1⟩|exact⟨rfl,hs1.b1.drew⟩|exact⟨rfl,hs2.b1.drew⟩
theorem Ap (hd:d.Ok)(hid:0<=id/\id<18446744073709551616)(ha:acc<=1000000000000)
  (hs:St K w (blk b (.cells (aU nx d id pg va left (aW th) word).toArray T)::aJ bm bc L acc::F)) :
  Calls Tryz.prog 192 #[.pointer (some ⟨b,2,none⟩),.pointer (some ⟨bm,0,none⟩)] w fun e w' => e=.returned (aW (lg b left th)) /\
   St K w' (blk b (.cells (aU nx d id (pg.right (ah L (d.node id 3))) va left (aW th) word).toArray T)::aJ bm bc L (acc+1)::F):=by
 obtain⟨c,hc⟩:∃c,c=ah L (d.node id 3):=⟨_,rfl⟩;have q0:=fun(w:World) (F:List aC) (hs:St K w (aJ bm bc L acc::F))=>jl (i:=d.node id 3) hs ha
 rw[←hc]at q0 ⊢;have Q0:=aq3 q0;clear q0 hc;have k:=hs.k0;unfold aU at k;have qm:=fun w F (hs:St K w (blk b (.cells (aU nx d id (pg.right c) va left (aW th) word).toArray T)::F))=>Jy hs
 cases ho:lg b left th with
 | none=>
  rw[ho]at qm;have Qm:=aq3 qm;clear qm ho;go_enter Tryz.func192,Tryz.ntmps192
  go_upto_region 1 with(fail)
  refine fw _ 10 rfl rfl (by kernel_rfl) (by as_aux_lemma=>kernel_rfl) (fun _ _ _ _ h=>h) ?_
  simp only[List.take_succ_cons,List.take_zero,List.drop_succ_cons,List.drop_zero,Act.put,List.setIfInBounds_toArray,List.set_cons_zero,List.set_cons_succ,Act.eval];repeat (go_big_quiet_step ((go_at_call 128;exact aX (qX d hd id hid.1 hid.2 _))))
  refine wpQuiet_nil ?_
  intro w5 hb5;have hs:=hs.same hb5;clear k hb5;go_wp2_with fail
  refine(Q0.out _ _ hs.b1).mono ?_
  clear hs;rintro e w6 ⟨rfl,hs⟩;have hs:=hs.b1;have k:=hs.k0;have kf:=hs.f0;unfold aU at k;have hs:=hs.aI 14 (.int .u64 c.n);simp only[aU,List.set_cons_zero,List.set_cons_succ]at hs;go_wp2_with fail
  refine(Qm.out _ _ hs).mono ?_
  clear hs k kf;rintro e w7 ⟨he,hs⟩;obtain rfl:e=.returned .nilFunc:=he;go_wp2
  go_ret;exact⟨rfl,hs⟩
 | some o=>
  obtain⟨f',x',y'⟩:=o;rw[ho]at qm;have Qm:=aq3 qm;clear qm ho;go_enter Tryz.func192,Tryz.ntmps192
  go_upto_region 1 with(fail)
  refine fw _ 10 rfl rfl (by kernel_rfl) (by as_aux_lemma=>kernel_rfl) (fun _ _ _ _ h=>h) ?_
  simp only[List.take_succ_cons,List.take_zero,List.drop_succ_cons,List.drop_zero,Act.put,List.setIfInBounds_toArray,List.set_cons_zero,List.set_cons_succ,Act.eval];repeat (go_big_quiet_step ((go_at_call 128;exact aX (qX d hd id hid.1 hid.2 _))))
  refine wpQuiet_nil ?_
  intro w5 hb5;have hs:=hs.same hb5;clear k hb5;go_wp2_with fail
  refine(Q0.out _ _ hs.b1).mono ?_
  clear hs;rintro e w6 ⟨rfl,hs⟩;have hs:=hs.b1;have k:=hs.k0;have kf:=hs.f0;unfold aU at k;have hs:=hs.aI 14 (.int .u64 c.n);simp only[aU,List.set_cons_zero,List.set_cons_succ]at hs;go_wp2_with fail
  refine(Qm.out _ _ hs).mono ?_
  clear hs k kf;rintro e w7 ⟨he,hs⟩;obtain rfl:e=.returned (.func (.func f') x' y'):=he;go_wp2
  go_ret;exact⟨rfl,hs⟩
end
section
variable {K:aL}{w:World}{F:List aC}{b bm bc:Nat}{L:List aO}{acc:Nat}{nx va:Value}{d:aR}{id:Int}{pg:Pg}{left:Nat}{th:Option FV}{word:Int}{T:TypeId}
theorem Kb (hd:d.Ok)(hid:0<=id/\id<18446744073709551616)(ha:acc<=1000000000000)(hn:pg.sl.length<=1000000)(hl:0<left/\left<=1000000)
  (hs:St K w (blk b (.cells (aU nx d id pg va left (aW th) word).toArray T)::az va 69 2 (pg).sl.length (aD (pg).sl)::aJ bm bc L acc::F)) :
  Calls Tryz.prog 195 #[.pointer (some ⟨b,2,none⟩),.pointer (some ⟨bm,0,none⟩)] w fun e w' => ∃eX,e=.returned (aW (lg b (left-1) th)) /\
   St K w' (blk b (.cells (aU nx d id (pg.push (ah L (d.slot id pg.sl.length))) eX (left-1) (aW th) word).toArray T)::az eX 69 2 ((pg.push (ah L (d.slot id pg.sl.length)))).sl.length (aD ((pg.push (ah L (d.slot id pg.sl.length)))).sl)::aJ bm bc L (acc+1)::F):=by
 obtain⟨c,hc⟩:∃c,c=ah L (d.slot id pg.sl.length):=⟨_,rfl⟩;have q0:=fun(w:World) (F:List aC) (hs:St K w (aJ bm bc L acc::F))=>jl (i:=d.slot id pg.sl.length) hs ha
 rw[←hc]at q0 ⊢;have Q0:=aq3 q0;obtain⟨n,hnn⟩:∃n,n=pg.sl.length:=⟨_,rfl⟩;have hln:(pg.push c).sl.length=n+1:=by unfold Pg.push;rw[List.length_append,hnn];rfl
 have hrow:aD (pg.push c).sl=aD pg.sl++[.string c.k,.int .u64 c.n]:=by unfold Pg.push aD;rw[List.flatMap_append];rfl
 obtain⟨xs,hxs⟩:∃xs,xs=aD pg.sl:=⟨_,rfl⟩;rw[hln,hrow];rw[←hnn]at hn hs Q0;rw[←hxs]at hs ⊢;obtain⟨sa,adR,rfl,hcap,_⟩:=hs.b1.aH;have Qs:=aq3 (fun w=>zR d hd id n hid.1 hid.2 w)
 have epg:pg.push c=⟨pg.ak,pg.sl++[⟨c.k,c.n⟩],pg.hi,pg.la,pg.ri⟩:=rfl;rw[epg];rw[←hnn]at q0;obtain⟨lf,hlf⟩:∃lf,left=lf+1:=⟨left-1,by omega⟩
 subst hlf;rw[show lf+1-1=lf by omega]
 obtain⟨iv,cZ,dc,dg,dh⟩:=info_parts gU;clear q0 hc hnn hln hrow hxs epg;have k:=hs.k0;unfold aU at k;have qm:=fun w va F (hs:St K w (blk b (.cells (aU nx d id (Pg.mk pg.ak (pg.sl++[⟨c.k,c.n⟩]) pg.hi pg.la pg.ri) va lf (aW th) word).toArray T)::F))=>Jy hs
 have Qm:=aq3 qm;clear qm;go_enter Tryz.func195,Tryz.ntmps195
 go_upto_region 1 with(fail)
 go_cut [5] (fun v wx=>∃bx,v=.pointer (some ⟨bx,0,none⟩)/\St K wx (blk bx (.cells #[.int .u64 c.n,.string c.k,.int .u64 c.m] 63)::aJ bm bc L (acc+1)::blk b (.cells (aU nx d id pg (.slice sa n adR) (lf+1) (aW th) word).toArray T)::az (.slice sa n adR) 69 2 n xs::F))
 case first=>
  as_aux_lemma=>
  have hs:=hs.b2.b1;have Hs:=aq3 hs;clear k hs hl;refine lU 16 ?_ 5 (.cells #[.int .u64 0,.string ⟨#[]⟩,.int .u64 0] 63) rfl (by as_aux_lemma=>kernel_rfl) rfl (fun _ _=>by kernel_rfl) ?_ ?_ ?_
  case refine_2=>
   intro W hb;have hs:=Hs.out.same hb;have k:=hs.k0;unfold aU at k;simp only[List.take_succ_cons,List.take_zero,List.drop_succ_cons,List.drop_zero];repeat (go_big_quiet_step ((go_at_call 127;exact aX (Qs.out _))))
   refine wpQuiet_nil ?_
   rfl
  case refine_3=>
   intro w5 hb5;have hs:=Hs.out.same hb5;go_wp2_with fail
   refine(Q0.out _ _ hs.b1).mono ?_
   clear hs;rintro e w6 ⟨rfl,hs⟩;have hs:=hs.made (.cells #[.int .u64 c.n,.string c.k,.int .u64 c.m] 63);go_wp2
   go_meet;exact⟨_,rfl,hs⟩
  case refine_4=>
   intro w0 w5 hb0 hb5;have hs:=((Hs.out.same hb0).made (.cells #[.int .u64 0,.string ⟨#[]⟩,.int .u64 0] 63)).same (by rw[World.size_alloc];exact hb5)
   go_wp2_with fail
   refine(Q0.out _ _ hs.b2).mono ?_
   clear hs;rintro e w6 ⟨rfl,hs⟩;have kx:=hs.k1;have fx:=hs.f1;have hs:=((hs.b1.aI 0 (.int .u64 c.n)).aI 1 (.string c.k)).aI 2 (.int .u64 c.m);go_wp2
   go_meet;exact⟨_,rfl,hs⟩
 case rest=>
  clear k hs;obtain⟨bx,rfl,hs⟩:=hcut;have Hs:=aq3 hs;have hln:n<=1000000:=hn;clear hs hd hid ha hn;cases hmv:lg b lf th with
  | none=>
   rw[hmv]at Qm;have Hmv:=aq3 hmv;clear hmv;go_upto_region 2 with(fail)
   refine eK _ 10 ?aS 34 (.cells #[.string c.k,.int .u64 c.n] 69) (fun W=> .slice (some ⟨W.heap.size,0,none⟩) 1 1) rfl rfl (by kernel_rfl) ?hB rfl (fun _ _ _ _ h=>h) ?H ?x8 ?Ah
   case H=>
    intro W hb;have hs:=Hs.out.same hb;have kx:=hs.k0;have kb:=hs.k2;unfold aU at kb;simp only[List.take_succ_cons,List.take_zero,List.drop_succ_cons,List.drop_zero,Act.put,List.setIfInBounds_toArray,List.set_cons_zero,List.set_cons_succ,Act.eval];repeat (go_big_quiet_step (fail))
    refine wpQuiet_nil ?_
    rfl
   case hB=>as_aux_lemma=>kernel_rfl
   case x8=>
    intro w';kernel_rfl
   case Ah=>
    intro w0 w5 hb0 hb5;have hs:=((Hs.out.same hb0).made (.cells [.string c.k,.int .u64 c.n].toArray 69)).same (by rw[World.size_alloc];exact hb5)
    have hk:=hs.k0;have Hn:=aq3 (fun(j:Nat) (u:Value) (hu:[Value.string c.k,.int .u64 c.n][j]?=some u)=>(show ∃g off,(some ⟨w0.heap.size,0,none⟩:Option Addr)=some ⟨g,off,none⟩/\w5.cell? ⟨g,off+j,none⟩=some u from⟨_,0,rfl,by rw[Nat.zero_add,hk j];simpa using hu⟩))
    clear hk;have Hr:=aq3 hs.b4;clear hs;simp only[List.drop_succ_cons,List.drop_zero];refine cG _ _ 41 69 _ n 1 1 2 24 xs [.string c.k,.int .u64 c.n] (.agg #[.string ⟨#[]⟩,.int .u64 0]) iv (some ⟨w0.heap.size,0,none⟩) Hr.out rfl rfl Tryz.underlying41 cZ dc dg dh rfl (by decide) rfl rfl rfl (fun e=>by cases e) Hn.out (fun u hu=>by simp at hu;rcases hu with rfl|rfl <;> rfl) (by omega) (by decide) ?_
    clear Hr Hn;intro v' w6 hs;obtain⟨ao,oU,rfl,_,_⟩:=hs.aH;have hs:=hs.b4;have kb:=hs.k0;have fb:=hs.f0;unfold aU at kb;have hs:=((hs.aI 11 (.slice ao (n+1) oU)).aI 15 (.int .i64 lf));simp only[aU,List.set_cons_zero,List.set_cons_succ]at hs;go_wp2_with fail
    refine(Qm.out _ _ _ hs).mono ?_
    clear hs kb fb;rintro e w7 ⟨he,hs⟩;obtain rfl:e=.returned .nilFunc:=he;go_wp2
    go_ret;exact⟨_,by rw[Hmv.out];rfl,hs.sub (.cons_cons _ (.cons_cons _ (.cons _ (.cons _ (List.Sublist.refl _)))))⟩
  | some o=>
   obtain⟨f',x',y'⟩:=o;rw[hmv]at Qm;have Hmv:=aq3 hmv;clear hmv;go_upto_region 2 with(fail)
   refine eK _ 10 ?aS2 34 (.cells #[.string c.k,.int .u64 c.n] 69) (fun W=> .slice (some ⟨W.heap.size,0,none⟩) 1 1) rfl rfl (by kernel_rfl) ?hB2 rfl (fun _ _ _ _ h=>h) ?H2 ?ahj ?Ah2
   case H2=>
    intro W hb;have hs:=Hs.out.same hb;have kx:=hs.k0;have kb:=hs.k2;unfold aU at kb;simp only[List.take_succ_cons,List.take_zero,List.drop_succ_cons,List.drop_zero,Act.put,List.setIfInBounds_toArray,List.set_cons_zero,List.set_cons_succ,Act.eval];repeat (go_big_quiet_step (fail))
    refine wpQuiet_nil ?_
    rfl
   case hB2=>as_aux_lemma=>kernel_rfl
   case ahj=>
    intro w';kernel_rfl
   case Ah2=>
    intro w0 w5 hb0 hb5;have hs:=((Hs.out.same hb0).made (.cells [.string c.k,.int .u64 c.n].toArray 69)).same (by rw[World.size_alloc];exact hb5)
    have hk:=hs.k0;have Hn:=aq3 (fun(j:Nat) (u:Value) (hu:[Value.string c.k,.int .u64 c.n][j]?=some u)=>(show ∃g off,(some ⟨w0.heap.size,0,none⟩:Option Addr)=some ⟨g,off,none⟩/\w5.cell? ⟨g,off+j,none⟩=some u from⟨_,0,rfl,by rw[Nat.zero_add,hk j];simpa using hu⟩))
    clear hk;have Hr:=aq3 hs.b4;clear hs;simp only[List.drop_succ_cons,List.drop_zero];refine cG _ _ 41 69 _ n 1 1 2 24 xs [.string c.k,.int .u64 c.n] (.agg #[.string ⟨#[]⟩,.int .u64 0]) iv (some ⟨w0.heap.size,0,none⟩) Hr.out rfl rfl Tryz.underlying41 cZ dc dg dh rfl (by decide) rfl rfl rfl (fun e=>by cases e) Hn.out (fun u hu=>by simp at hu;rcases hu with rfl|rfl <;> rfl) (by omega) (by decide) ?_
    clear Hr Hn;intro v' w6 hs;obtain⟨ao,oU,rfl,_,_⟩:=hs.aH;have hs:=hs.b4;have kb:=hs.k0;have fb:=hs.f0;unfold aU at kb;have hs:=((hs.aI 11 (.slice ao (n+1) oU)).aI 15 (.int .i64 lf));simp only[aU,List.set_cons_zero,List.set_cons_succ]at hs;go_wp2_with fail
    refine(Qm.out _ _ _ hs).mono ?_
    clear hs kb fb;rintro e w7 ⟨he,hs⟩;obtain rfl:e=.returned (.func (.func f') x' y'):=he;go_wp2
    go_ret;exact⟨_,by rw[Hmv.out];rfl,hs.sub (.cons_cons _ (.cons_cons _ (.cons _ (.cons _ (List.Sublist.refl _)))))⟩
end
section
variable {K:aL}{w:World}{F:List aC}{b bm bc:Nat}{L:List aO}{acc:Nat}{nx va:Value}{d:aR}{id:Int}{pg:Pg}{left:Nat}{th:Option FV}{word:Int}
def tY (b:Nat):Option FV:=some ⟨191, #[.pointer (some ⟨b,0,none⟩)], #[]⟩
def Fm (b:Nat):Option FV:=some ⟨183, #[.pointer (some ⟨b,0,none⟩)], #[]⟩
def Fo (b:Nat):Option FV:=some ⟨181, #[.pointer (some ⟨b,2,none⟩)], #[]⟩
theorem Xg {tv:Value}(hd:d.Ok)(hid:0<=id/\id<18446744073709551616)(ha:acc<=1000000000000)(hL:0<=(ah L (d.node id 0)).n/\(ah L (d.node id 0)).n<18446744073709551616)
  (hs:St K w (blk b (.cells (aU nx d id pg va left tv word).toArray 222)::aJ bm bc L acc::F)) :
  Calls Tryz.prog 183 #[.pointer (some ⟨b,0,none⟩),.pointer (some ⟨bm,0,none⟩)] w fun e w' =>
   e=.returned (aW (cond (bW (ah L (d.node id 0)).n) (Fm b) (Fo b))) /\
   St K w' (blk b (.cells (aU nx d id pg va left (cond (bW (ah L (d.node id 0)).n) tv (aW (tY b))) (ah L (d.node id 0)).n).toArray 222)::aJ bm bc L (acc+1)::F):=by
 obtain⟨c,hc⟩:∃c,c=ah L (d.node id 0):=⟨_,rfl⟩;have q0:=fun(w:World) (F:List aC) (hs:St K w (aJ bm bc L acc::F))=>jl (i:=d.node id 0) hs ha
 rw[←hc]at q0 hL ⊢;have Q0:=aq3 q0;have Qc:=aq3 (fun w=>tQ c.n hL.1 hL.2 w)
 clear q0 hc;have k:=hs.k0;unfold aU at k;cases ho:bW c.n with
 | true=>
  rw[ho]at Qc;simp only[cond_true];clear ho;go_enter Tryz.func183,Tryz.ntmps183
  go_upto_region 1 with(fail)
  refine fw _ 12 rfl rfl (by kernel_rfl) (by as_aux_lemma=>kernel_rfl) (fun _ _ _ _ h=>h) ?_
  simp only[List.take_succ_cons,List.take_zero,List.drop_succ_cons,List.drop_zero,Act.put,List.setIfInBounds_toArray,List.set_cons_zero,List.set_cons_succ,Act.eval];repeat (go_big_quiet_step ((go_at_call 69;exact aX (iw d hd id hid.1 hid.2 _))))
  refine wpQuiet_nil ?_
  intro w5 hb5;have hs:=hs.same hb5;clear k hb5;go_wp2_with fail
  refine(Q0.out _ _ hs.b1).mono ?_
  clear hs;rintro e w6 ⟨rfl,hs⟩;have hs:=hs.b1;have k:=hs.k0;have kf:=hs.f0;unfold aU at k;have hs:=hs.aI 17 (.int .u64 c.n);simp only[aU,List.set_cons_zero,List.set_cons_succ]at hs;go_wp2_with fail
  refine(Qc.out _).mono ?_
  rintro e w7 ⟨rfl,rfl⟩;go_wp2
  go_ret;exact⟨rfl,hs⟩
 | false=>
  rw[ho]at Qc;simp only[cond_false];clear ho;have qb:=fun w F (hs:St K w (blk b (.cells (aU nx d id pg va left tv c.n).toArray 222)::F))=>Ro (th:=tY b) hs
  have Qb:=aq3 qb;clear qb;go_enter Tryz.func183,Tryz.ntmps183
  go_upto_region 1 with(fail)
  refine fw _ 12 rfl rfl (by kernel_rfl) (by as_aux_lemma=>kernel_rfl) (fun _ _ _ _ h=>h) ?_
  simp only[List.take_succ_cons,List.take_zero,List.drop_succ_cons,List.drop_zero,Act.put,List.setIfInBounds_toArray,List.set_cons_zero,List.set_cons_succ,Act.eval];repeat (go_big_quiet_step ((go_at_call 69;exact aX (iw d hd id hid.1 hid.2 _))))
  refine wpQuiet_nil ?_
  intro w5 hb5;have hs:=hs.same hb5;clear k hb5;go_wp2_with fail
  refine(Q0.out _ _ hs.b1).mono ?_
  clear hs;rintro e w6 ⟨rfl,hs⟩;have hs:=hs.b1;have k:=hs.k0;have kf:=hs.f0;unfold aU at k;have hs:=hs.aI 17 (.int .u64 c.n);simp only[aU,List.set_cons_zero,List.set_cons_succ]at hs;go_wp2_with fail
  refine(Qc.out _).mono ?_
  rintro e w7 ⟨rfl,rfl⟩;go_wp2_with fail
  refine(Qb.out _ _ hs).mono ?_
  clear hs k kf;rintro e w8 ⟨rfl,hs⟩;go_wp2
  go_ret;exact⟨rfl,hs⟩
end
def it {α:Type}(f:α->α):Nat->α->α
 | 0,s=>s
 | n+1,s=>it f n (f s)
theorem qh {α:Type}(f:α->α)(n:Nat)(s:α):it f (n+1) s=f (it f n s):=by
 induction n generalizing s with
 | zero=>rfl
 | succ n ih=>show it f (n+1) (f s)=_;rw[ih];rfl
theorem tZ {α:Type}(f:α->α)(m n:Nat)(s:α):it f (m+n) s=it f n (it f m s):=by
 induction m generalizing s with
 | zero=>rw[Nat.zero_add];rfl
 | succ m ih=>rw[show m+1+n=(m+n)+1 by omega];exact ih (f s)
theorem Fp {α:Type}{f:α->α}{s:α}(h:f s=s)(n:Nat):it f n s=s:=by
 induction n with
 | zero=>rfl
 | succ n ih=>show it f n (f s)=s;rw[h,ih]
theorem yc {α:Type}{f:α->α}{s t:α}{n m:Nat}(h:it f n s=t)(ht:f t=t)(hm:n<=m):it f m s=t:=by
 rw[show m=n+(m-n)by omega,tZ,h,Fp ht]
theorem bj {L:List aO}{i j:Int}{c:aO}(h:j≠i):ah (aP L i c) j=ah L j:=by
 unfold ah aP;by_cases hj:0<=j
 ·rw[if_pos hj,if_pos hj]
  by_cases hi:0<=i
  ·rw[if_pos hi,List.getElem?_set,if_neg (by omega)]
  ·rw[if_neg hi]
 ·rw[if_neg hj,if_neg hj]
theorem cB {L:List aO}{i:Int}{c:aO}(hi:0<=i)(hl:i<L.length):ah (aP L i c) i=c:=by rw[p6 hi hl hi,if_pos rfl]
theorem qi {L:List aO}{i:Int}(hi:i<0):ah L i=aO.zero:=by unfold ah;rw[if_neg (by omega)]
theorem Rp {L:List aO}{i:Int}{c:aO}(hi:i<0):aP L i c=L:=by unfold aP;rw[if_neg (by omega)]
def nk (c:aO):Prop:=0<=c.n/\c.n<18446744073709551616
def bD (L:List aO):Prop:=∀i,nk (ah L i)
theorem bD.put {L:List aO}{i:Int}{c:aO}(h:bD L)(hc:nk c):bD (aP L i c):=by
 intro j;by_cases hi:0<=i
 ·by_cases hl:i<L.length
  ·by_cases hj:j=i
   ·subst hj;rw[cB hi hl];exact hc
   ·rw[bj hj];exact h j
  ·have:aP L i c=L:=by unfold aP;rw[if_pos hi,List.set_eq_of_length_le (by omega)]
   rw[this];exact h j
 ·rw[Rp (by omega)];exact h j
section
variable {d:aR}(hd:d.Ok)
include hd
theorem Md {r k:Int}(h1:1<=r)(h2:r<=d.re)(hk:0<=k)(hk2:k<=2):d.record r k=d.C+3*(r-1)+k/\d.C<=d.record r k/\d.record r k<d.cells:=by
 have e:d.record r k=d.C+3*(r-1)+k:=by unfold aR.record;rw[if_pos ⟨h1,h2⟩]
 have:=hd.eC;refine⟨e,by omega,?_⟩
 rw[e];unfold aR.cells;omega
theorem Fq {r k:Int}(h1:1<=r)(h2:r<=d.re)(hk:0<=k)(hk2:k<=2):0<=d.record r k:=by
 have:=Md hd h1 h2 hk hk2;have:=hd.eC;have:=hd.jU;have:=hd.ox;omega
theorem Aq {c:Int}(h1:1<=c)(h2:c<=d.ch):d.chain c=d.B+(c-1)/\0<=d.chain c/\d.chain c<d.C:=by
 have e:d.chain c=d.B+(c-1):=by unfold aR.chain;rw[if_pos ⟨h1,h2⟩]
 have:=hd.eC;have:=hd.jU;refine⟨e,by omega,?_⟩
 rw[e];unfold aR.C;omega
end
structure Fs where
 r:Int
 st:Int
 k:ByteArray
 del:Bool
def b01 (b:Bool):Int:=if b then 1 else 0
def adS (d:aR)(L:List aO)(v:Fs):Prop:=1<=v.r/\v.r<=d.re/\(ah L (d.record v.r 0)).n=v.st/\(ah L (d.record v.r 1)).k=v.k/\(ah L (d.record v.r 1)).m=b01 v.del
def ua (d:aR)(L:List aO):Int->List Fs->Prop
 | r,[]=>r=0
 | r,v::vs=>r=v.r/\adS d L v/\ua d L (ah L (d.record v.r 2)).n vs
structure jX where
 pc:Nat
 pg:Pg
 left:Nat
 word:Int
 t:Bool
def Fu:Pg:=⟨0,[],⟨#[]⟩,false,0⟩
def oI:jX:=⟨0,Fu,0,0,false⟩
def rdStep (d:aR)(id:Int)(L:List aO)(s:jX):jX:=
 match s.pc with
 | 0=>if bW (ah L (d.node id 0)).n then⟨0,s.pg,s.left,(ah L (d.node id 0)).n,s.t⟩else⟨1,s.pg,s.left,(ah L (d.node id 0)).n,true⟩
 | 1=>⟨2,⟨wrap64 (ah L (d.node id 1)).m,[],⟨#[]⟩,false,0⟩,leftOf d (ah L (d.node id 1)),s.word,s.t⟩
 | 2=>⟨3,s.pg.high (ah L (d.node id 2)),s.left,s.word,s.t⟩
 | 3=>⟨if s.left=0 then 5 else 4,s.pg.right (ah L (d.node id 3)),s.left,s.word,s.t⟩
 | 4=>⟨if s.left-1=0 then 5 else 4,s.pg.push (ah L (d.slot id s.pg.sl.length)),s.left-1,s.word,s.t⟩
 | 5=>if aG s.word == aG (ah L (d.node id 0)).n then⟨6,s.pg,s.left,s.word,s.t⟩else⟨0,s.pg,s.left,s.word,s.t⟩
 | _=>s
def sx (b:Nat):Nat->Option FV
 | 0=>Fm b
 | 1=>Fo b
 | 2=>some ⟨189, #[.pointer (some ⟨b,2,none⟩)], #[]⟩
 | 3=>some ⟨192, #[.pointer (some ⟨b,2,none⟩)], #[]⟩
 | 4=>some ⟨195, #[.pointer (some ⟨b,2,none⟩)], #[]⟩
 | 5=>tY b
 | _=>none
def Fv (b:Nat)(t:Bool):Option FV:=if t then tY b else none
def En (b:Nat)(d:aR)(id:Int)(va:Value)(s:jX):aC:=blk b (.cells (aU (aW (sx b s.pc)) d id s.pg va s.left (aW (Fv b s.t)) s.word).toArray 222)
def bu (va:Value)(pg:Pg):aC:=az va 69 2 (pg).sl.length (aD (pg).sl)
theorem Me {b p:Nat}:(sx b p).isNone=decide (6<=p):=by
 match p with
 | 0=>rfl
 | 1=>rfl
 | 2=>rfl
 | 3=>rfl
 | 4=>rfl
 | 5=>rfl
 | n+6=>simp[sx]
theorem Kc {b left:Nat}:lg b left (tY b)=sx b (if left=0 then 5 else 4):=by
 unfold lg;split <;> rfl
structure jX.Ok (d:aR)(s:jX):Prop where
 pc:s.pc<=6
 word:0<=s.word/\s.word<18446744073709551616
 len:s.pc<=1\/(s.pg.sl.length+s.left:Int)<=d.fa
 th:s.pc=0\/s.pc=6\/s.t=true
 left:s.pc=4->0<s.left
theorem Rq (d:aR):oI.Ok d:=⟨by decide,⟨by decide,by decide⟩,.inl (by decide),.inl rfl,by decide⟩
theorem og {d:aR}(hd:d.Ok){c:aO}(hc:nk c):(leftOf d c:Int)<=d.fa:=by
 have:=hd.fo;have:=hc.1;unfold leftOf;omega
theorem oh {d:aR}(hd:d.Ok){id:Int}{L:List aO}(hL:bD L){s:jX}(h:s.Ok d):(rdStep d id L s).Ok d:=by
 obtain⟨pc,pg,left,word,t⟩:=s;have h1:=h.pc;have h2:=h.word;have h3:=h.len;have h4:=h.th;have h5:=h.left;simp only at h1 h2 h3 h4 h5;rcases(show pc=0\/pc=1\/pc=2\/pc=3\/pc=4\/pc=5\/pc=6 by omega)with rfl|rfl|rfl|rfl|rfl|rfl|rfl
 ·simp only[rdStep]
  split
  ·exact⟨by simp,hL _,.inl (by simp),.inl rfl,by simp⟩
  ·exact⟨by simp,hL _,.inl (by simp),.inr (.inr rfl),by simp⟩
 ·simp only[rdStep]
  exact⟨by simp,h2,.inr (by simpa using og hd (hL _)),by simpa using h4,by simp⟩
 ·simp only[rdStep]
  exact⟨by simp,h2,.inr (by simpa[Pg.high] using h3),by simpa using h4,by simp⟩
 ·simp only[rdStep]
  refine⟨by simp only;split <;> omega,h2,.inr (by simpa[Pg.right] using h3),.inr (.inr (by simpa using h4)),?_⟩
  simp only;split <;> omega
 ·simp only[rdStep]
  have hl:0<left:=h5 rfl;refine⟨by simp only;split <;> omega,h2,.inr ?_,.inr (.inr (by simpa using h4)),?_⟩
  ·have h3':(pg.sl.length:Int)+left<=d.fa:=by simpa using h3
   simp only[Pg.push,List.length_append,List.length_singleton];omega
  ·simp only
   split <;> omega
 ·simp only[rdStep]
  split
  ·exact⟨by simp,h2,.inr (by simpa using h3),.inr (.inl rfl),by simp⟩
  ·exact⟨by simp,h2,.inl (by simp),.inl rfl,by simp⟩
 ·exact h
section
variable {K:aL}{w:World}{F:List aC}{b bm bc:Nat}{L:List aO}{acc:Nat}{nx va:Value}{d:aR}{id:Int}{s:jX}
theorem rK:Enters 183:=fun _ _=>rfl
theorem rL:Enters 181:=fun _ _=>rfl
theorem rM:Enters 189:=fun _ _=>rfl
theorem qj:Enters 192:=fun _ _=>rfl
theorem rN:Enters 195:=fun _ _=>rfl
theorem mE:Enters 191:=fun _ _=>rfl
theorem lW {α:Type}{m:Nat}{f:FV}{o:Option FV}{nx:Value}{tl:α->List Value}{T:TypeId}{F' : α->List aC}(hf:Enters f.f)(hc:w.cell? ⟨b,0,none⟩=some (aW (some f)))
  (hcall:Calls Tryz.prog f.f (f.x ++ #[.pointer (some ⟨m,0,none⟩)]++f.y) w fun e w1=>∃x,e=.returned (aW o)/\St K w1 (blk b (.cells (nx::tl x).toArray T)::F' x)) :
  Calls Tryz.prog 77 #[.pointer (some ⟨b,0,none⟩),.pointer (some ⟨m,0,none⟩)] w fun e w' => ∃x,e=.returned (.bool o.isNone)/\St K w' (blk b (.cells (aW o::tl x).toArray T)::F' x):=by
 refine(oT (R:=fun l=>∃x,l=⟨o,K,nx,tl x,T,F' x⟩) w b m f hf hc (hcall.mono fun e w1 ⟨x,he,hs⟩=>⟨⟨o,K,nx,tl x,T,F' x⟩,he,⟨x,rfl⟩,hs⟩)).mono ?_
 rintro e w' ⟨l,he,⟨x,rfl⟩,hs⟩;exact⟨x,he,hs⟩
end
theorem fW (l:List Sl):∀(i:Nat)(s:Sl),l[i]?=some s->(aD l)[i*2]?=some (.string s.k)/\(aD l)[i*2+1]?=some (.int .u64 s.r):=by
 induction l with
 | nil=>intro i s h;simp at h
 | cons a l ih=>
  intro i s h;have e:aD (a::l)=.string a.k :: .int .u64 a.r::aD l:=rfl;rw[e];cases i with
  | zero=>simp at h;subst h;exact⟨rfl,rfl⟩
  | succ i=>
   have:=ih i s (by simpa using h)
   rw[show(i+1)*2=i*2+2 by omega]
   simpa using this
def ej (w:World)(a:Option Addr)(l:List Sl):Prop:=l.length<=1000000000/\∀(i:Nat) (s:Sl),l[i]?=some s ->
 ∃b off,a=some ⟨b,off,none⟩/\b<w.heap.size/\w.cell? ⟨b,off+i*2,none⟩=some (.string s.k)/\w.cell? ⟨b,off+i*2+1,none⟩=some (.int .u64 s.r)
theorem ej.same {w w':World}{a:Option Addr}{l:List Sl}(h:ej w a l)(hb:Below w.heap.size w w'):ej w' a l:=
 ⟨h.1,fun i s hv=>by
  obtain⟨b,off,e,hlt,c0,c1⟩:=h.2 i s hv;exact⟨b,off,e,Nat.lt_of_lt_of_le hlt hb.size,by rw[hb.cell (p:=⟨b,_,none⟩) hlt];exact c0,by rw[hb.cell (p:=⟨b,_,none⟩) hlt];exact c1⟩⟩
theorem St.cO {K:aL}{w:World}{F:List aC}{a:Option Addr}{n cap:Nat}{T:TypeId}{l:List Sl}(h:St K w (az (.slice a n cap) T 2 n (aD l)::F))(hn:l.length<=1000000000):ej w a l:=by
 refine⟨hn,fun i s hs=>?_⟩
 obtain⟨r0,r1⟩:=fW l i s hs;obtain⟨g,e,c0⟩:=h.cQ r0;obtain⟨g1,e1,c1⟩:=h.cQ r1;rw[e]at e1;simp only[Option.some.injEq,Addr.mk.injEq,and_true]at e1;subst e1;exact⟨g,0,e,World.block_lt_of_cell? _ _ c0,by rw[Nat.zero_add];exact c0,by rw[Nat.zero_add];exact c1⟩
theorem ej.news {w:World}{a:Option Addr}{l:List Sl}(h:ej w a l):∀j u,(aD l)[j]?=some u->∃g off,a=some ⟨g,off,none⟩/\w.cell? ⟨g,off+j,none⟩=some u:=by
 intro j u hu;have hj:j<l.length*2:=by rw[←fF];exact(aq5.1 hu).1
 have hlt:j / 2<l.length:=by omega
 obtain⟨s,hs⟩:∃s,l[j / 2]?=some s:=⟨_,aq8 hlt⟩;obtain⟨b,off,e,_,c0,c1⟩:=h.2 _ _ hs;obtain⟨r0,r1⟩:=fW _ _ _ hs;refine⟨b,off,e,?_⟩;have hdm:j=j / 2*2+j%2:=by omega
 rcases(show j%2=0\/j%2=1 by omega)with h3|h3
 ·rw[hdm,h3,Nat.add_zero]at hu ⊢
  rw[r0]at hu;rw[←hu];exact c0
 ·rw[hdm,h3]at hu ⊢
  rw[r1]at hu;rw[←hu];rw[←Nat.add_assoc];exact c1
theorem lh (l:List Sl):∀u,u∈aD l->u.oneCell'=true:=by
 intro u hu;obtain⟨s,_,hs⟩:=List.mem_flatMap.1 hu;simp[gY]at hs;rcases hs with rfl|rfl <;> rfl
theorem ej.no {w:World}{l:List Sl}(h:ej w none l):l=[]:=by
 cases l with
 | nil=>rfl
 | cons s l=>obtain⟨b,off,e,_⟩:=h.2 0 s rfl;cases e
theorem Mf (tmps:Array Value)(w:World)(b:Nat)(v0 v1 v2 v3 v4:Value)(hp:tmps[2]?=some (.pointer (some ⟨b,0,none⟩)))(hk:∀k,w.cell? ⟨b,k,none⟩=(#[v0,v1,v2,v3,v4]:Array Value)[k]?) :
  (results Tryz.f91 tmps).run Tryz.prog w=.ok (.agg #[v0,v1,v2,v3,v4]) w:=by
 simp[results,Tryz.results91,go_sem,hp,hk]
section
variable {K:aL}{w:World}{F:List aC}{pg:Pg}{a:Option Addr}{cap:Nat}
theorem nr (hs:St K w F)(h:ej w a pg.sl) :
  Calls Tryz.prog 91 #[.agg #[.int .i64 (pg).ak,(.slice a pg.sl.length cap),.string (pg).hi,.bool (pg).la,.int .u64 (pg).ri]] w fun e w' => ∃va,e=.returned (.agg #[.int .i64 (pg).ak,va,.string (pg).hi,.bool (pg).la,.int .u64 (pg).ri])/\St K w' (az va 69 2 pg.sl.length (aD pg.sl)::F):=by
 obtain⟨n,hn⟩:∃n,n=pg.sl.length:=⟨_,rfl⟩;have hl:=h.1;have Hl:=aq3 (show(aD pg.sl).length=n*2 by rw[fF,hn])
 have H0:Hid (a=none->n=0):=aq3 (fun e=>by subst e;rw[hn,h.no];rfl)
 have H1:=aq3 (lh pg.sl);rw[←hn]at hl ⊢;obtain⟨iv,cZ,dc,dg,dh⟩:=info_parts gU;have hs:=(hs.made (.cells #[.int .i64 (pg).ak,(.slice a n cap),.string (pg).hi,.bool (pg).la,.int .u64 (pg).ri] 43)).made (.cells #[.int .i64 0,.slice none 0 0,.string ⟨#[]⟩,.bool false,.int .u64 0] 43);rw[World.size_alloc]at hs;have h2:=(h.same ((Below.refl w.heap.size w).alloc (Nat.le_refl _) (.cells #[.int .i64 (pg).ak,(.slice a n cap),.string (pg).hi,.bool (pg).la,.int .u64 (pg).ri] 43)));have h3:=h2.same ((Below.refl _ _).alloc (Nat.le_refl _) (.cells #[.int .i64 0,.slice none 0 0,.string ⟨#[]⟩,.bool false,.int .u64 0] 43));have Hn:=aq3 h3.news;obtain⟨sl,eY⟩:∃sl,sl=aD pg.sl:=⟨_,rfl⟩;rw[←eY]at Hl H1 Hn ⊢;have Hs:=aq3 (hs.cF (T:=69) (size:=2));clear hs h h2 h3 hn eY;go_enter Tryz.func91,Tryz.ntmps91
 go_wp2_with (at_builtin;refine cG _ _ 41 69 _ 0 n cap 2 24 [] sl (.agg #[.string ⟨#[]⟩,.int .u64 0]) iv a Hs.out rfl rfl Tryz.underlying41 cZ dc dg dh rfl (by decide) rfl rfl Hl.out H0.out Hn.out H1.out (by omega) (by decide) ?_)
 intro v' w' hs;obtain⟨ao,oU,hv,_,_⟩:=hs.aH;subst hv;have hs:=hs.b2;have kb:=hs.k0;have fb:=hs.f0;have kr:=hs.k2;have fr:=hs.f2;have hs:=(hs.aI 1 (.slice ao n oU)).b2;simp only[List.set_cons_zero,List.set_cons_succ]at hs;have hs:=((((hs.aI 0 (.int .i64 pg.ak)).aI 1 (.slice ao n oU)).aI 2 (.string pg.hi)).aI 3 (.bool pg.la)).aI 4 (.int .u64 pg.ri);simp only[List.set_cons_zero,List.set_cons_succ]at hs;clear Hs Hl H0 H1 Hn;go_wp2
 refine bodyPost_ret (Mf _ _ (w.heap.size+1) _ _ _ _ _ rfl hs.k0) rfl ⟨_,rfl,hs.tail.tail⟩
theorem fX (w:World)(b:Nat)(h0:w.cell? ⟨b,0,none⟩=some .nilFunc)(h1:w.cell? ⟨b,1,none⟩=some (.bool true)):Calls Tryz.prog 105 #[.pointer (some ⟨b,0,none⟩)] w fun e w' => e=.returned (.bool true)/\w=w' := by
 go_enter Tryz.func105,Tryz.ntmps105
 go_wp2
 go_ret;exact⟨rfl,rfl⟩
theorem Rs (tmps:Array Value)(w:World)(b:Nat)(v0 v1 v2 v3 v4:Value)(hp:tmps[2]?=some (.pointer (some ⟨b,0,none⟩)))(hk:∀k,w.cell? ⟨b,k,none⟩=(#[v0,v1,v2,v3,v4]:Array Value)[k]?) :
  (results Tryz.f167 tmps).run Tryz.prog w=.ok (.agg #[v0,v1,v2,v3,v4]) w:=by
 simp[results,Tryz.results167,go_sem,hp,hk]
theorem Mg {b:Nat}{va:Value}{d:aR}{id:Int}{s:jX}(h6:s.pc=6)(hn:s.pg.sl.length<=1000000)(hs:St K w (En b d id va s::bu va s.pg::F)) :
  Calls Tryz.prog 167 #[.pointer (some ⟨b,0,none⟩)] w fun e w' => ∃eX,e=.returned (.agg #[.int .i64 (s.pg).ak,eX,.string (s.pg).hi,.bool (s.pg).la,.int .u64 (s.pg).ri])/\St K w' (bu eX s.pg::En b d id va s::bu va s.pg::F):=by
 obtain⟨pc,pg,left,word,t⟩:=s;simp only at h6 hn;subst h6;have hs:St K w (En b d id va ⟨6,pg,left,word,t⟩::bu va pg::F):=hs;obtain⟨a,cap,rfl,_,_⟩:=(show St K w (az va 69 2 pg.sl.length (aD pg.sl)::En b d id va ⟨6,pg,left,word,t⟩::F)from hs.b1).aH
 obtain⟨th,hth⟩:∃th,th=aW (Fv b t):=⟨_,rfl⟩;have hs:St K w (blk b (.cells (aU .nilFunc d id pg (.slice a pg.sl.length cap) left th word).toArray 222)::az (.slice a pg.sl.length cap) 69 2 pg.sl.length (aD pg.sl)::F):=by rw[hth];exact hs
 have eY:=hs.b1.cO (by omega)
 have hs0:=hs;have hs:=hs.made (.cells #[.int .i64 0,.slice none 0 0,.string ⟨#[]⟩,.bool false,.int .u64 0] 43);have eY:=eY.same ((Below.refl w.heap.size w).alloc (Nat.le_refl _) (.cells #[.int .i64 0,.slice none 0 0,.string ⟨#[]⟩,.bool false,.int .u64 0] 43));have Qd:=aq3 (fX (w.alloc (.cells #[.int .i64 0,.slice none 0 0,.string ⟨#[]⟩,.bool false,.int .u64 0] 43)) b (hs.k1 0) (hs.k1 1));have Qc:=aq3 (nr (cap:=cap) hs eY);have k:=hs.k1;unfold aU at k;have Hth:=aq3 hth;clear hs eY hs0 hth;go_enter Tryz.func167,Tryz.ntmps167
 go_wp2_with fail
 refine(Qd.out).mono ?_
 rintro e w1 ⟨rfl,rfl⟩;go_wp2_with fail
 refine(Qc.out).mono ?_
 clear Qc Qd k;rintro e w2 ⟨eX,rfl,hs⟩;obtain⟨a2,ahl,hv,_,_⟩:=hs.aH;subst hv;have hs:=hs.b1;have kb:=hs.k0;have fb:=hs.f0;have hs:=((((hs.aI 0 (.int .i64 pg.ak)).aI 1 (.slice a2 pg.sl.length ahl)).aI 2 (.string pg.hi)).aI 3 (.bool pg.la)).aI 4 (.int .u64 pg.ri);simp only[List.set_cons_zero,List.set_cons_succ]at hs;go_wp2
 refine bodyPost_ret (Rs _ _ w.heap.size _ _ _ _ _ rfl hs.k0) rfl ⟨_,rfl,?_⟩;have h:=hs.tail;rw[Hth.out]at h;exact h
theorem Fw {d:aR}{id:Int}(hs:St K w F) :
  Calls Tryz.prog 165 #[.agg #[.int .i64 d.th,.int .i64 d.sn,.int .i64 d.no,.int .i64 d.ch,.int .i64 d.re,.int .i64 d.fa,.int .u64 d.cl],.int .u64 id] w fun e w' => ∃b,e=.returned (.pointer (some ⟨b,0,none⟩))/\St K w' (En b d id (.slice none 0 0) oI::bu (.slice none 0 0) Fu::F):=by
 have hs:=hs.pass (.cells #[.int .i64 d.th,.int .i64 d.sn,.int .i64 d.no,.int .i64 d.ch,.int .i64 d.re,.int .i64 d.fa,.int .u64 d.cl] 29);have hs:=hs.made (.cells #[.nilFunc,.bool false,.int .i64 d.th,.int .i64 d.sn,.int .i64 d.no,.int .i64 d.ch,.int .i64 d.re,.int .i64 d.fa,.int .u64 d.cl,.int .u64 id,.int .i64 0,.slice none 0 0,.string ⟨#[]⟩,.bool false,.int .u64 0,.int .i64 0,.nilFunc,.int .u64 0] 222);rw[World.size_alloc]at hs;go_enter Tryz.func165,Tryz.ntmps165
 go_wp2_with fail
 refine(bH hs (fq _ _ _ _)).mono ?_
 clear hs;rintro e w2 ⟨rfl,hs⟩;have k:=hs.k0;have kf:=hs.f0;have hs:=(hs.aI 0 (.func (.func 183) #[.pointer (some ⟨(w.heap.size+1),0,none⟩)] #[])).aI 1 (.bool true);simp only[List.set_cons_zero,List.set_cons_succ]at hs;go_wp2
 go_ret;exact⟨_,rfl,hs.cF.b1⟩
end
section
variable {pg:Pg}{a a':Option Addr}{cap cap':Nat}
end
end
section
set_option linter.unusedSectionVars false
theorem St.bring {K:aL}{w:World}{A B:List aC}{c:aC}(h:St K w (A++c::B)):St K w (c::(A++B)):=h.perm List.perm_middle
theorem St.b7 {K:aL}{w:World}{c d e f g a b z:aC}{cs:List aC}(h:St K w (c::d::e::f::g::a::b::z::cs)):St K w (z::c::d::e::f::g::a::b::cs):=St.bring (A:=[c,d,e,f,g,a,b]) h
theorem St.b10 {K:aL}{w:World}{c0 c1 c2 c3 c4 c5 c6 c7 c8 c9 c10:aC}{cs:List aC}(h:St K w (c0::c1::c2::c3::c4::c5::c6::c7::c8::c9::c10::cs)):St K w (c10::c0::c1::c2::c3::c4::c5::c6::c7::c8::c9::cs):=St.bring (A:=[c0,c1,c2,c3,c4,c5,c6,c7,c8,c9]) h
set_option linter.unusedSectionVars false
theorem lX {α β : Type}(f:α->List β){l l':List α}(h:l.Perm l'):(l.flatMap f).Perm (l'.flatMap f):=by
 induction h with
 | nil=>exact List.Perm.refl _
 | cons x _ ih=>rw[List.flatMap_cons,List.flatMap_cons];exact ih.append_left _
 | swap x y l=>
  rw[List.flatMap_cons,List.flatMap_cons,List.flatMap_cons,List.flatMap_cons,←List.append_assoc,←List.append_assoc];exact List.perm_append_comm.append_right _
 | trans _ _ ih1 ih2=>exact ih1.trans ih2
theorem iJ {α β : Type}{f g:α->List β}:∀ {l:List α},(∀a,a∈l->f a=g a)->l.flatMap f=l.flatMap g
 | [],_=>rfl
 | a::l,h=>by rw[List.flatMap_cons,List.flatMap_cons,h a List.mem_cons_self,iJ fun b hb=>h b (List.mem_cons_of_mem _ hb)]
theorem ub:∀(ds es:List Nat),ds.Nodup->(∀d,d∈ds->d∈es)->∃r,es.Perm (ds++r)
 | [],es,_,_=>⟨es,List.Perm.refl _⟩
 | d::ds,es,hn,h=>by
  rw[List.nodup_cons]at hn;have h1:=List.perm_cons_erase (h d List.mem_cons_self);obtain⟨r,hr⟩:=ub ds (es.erase d) hn.2 (fun x hx=>by
   have hne:x≠d:=fun e=>hn.1 (e ▸ hx)
   exact(List.mem_erase_of_ne hne).2 (h x (List.mem_cons_of_mem _ hx)))
  exact⟨r,h1.trans (hr.cons d)⟩
def q8 (ρ:Nat->Option Value)(C:Nat->List aC)(es:List Nat):List aC:=es.flatMap fun e=>if (ρ e).isSome then C e else []
def GR (K:aL)(REST:List aC)(es:List Nat)(Φ:Nat->(Nat->Option Value)->Value->List aC->Prop)(ρ:Nat->Option Value)(W:World):Prop:=
 ∃C:Nat->List aC,(∀e v,e∈es->ρ e=some v->Φ e ρ v (C e))/\St K W (q8 ρ C es++REST)
def Rt (es:List Nat)(Φ:Nat->(Nat->Option Value)->Value->List aC->Prop):Prop:=
 ∀e ρ v cs k u,e∈es->ρ k=none->Φ e ρ v cs->Φ e (upd ρ k u) v cs
section
variable {K:aL}{REST:List aC}{es:List Nat}{Φ:Nat->(Nat->Option Value)->Value->List aC->Prop}{ρ:Nat->Option Value}{W:World}
theorem wX:∀(es:List Nat)(C:Nat->List aC),q8 (fun _=>none) C es=[]
 | [],_=>rfl
 | e::es,C=>by
  have:=wX es C;unfold q8 at this ⊢;rw[List.flatMap_cons,this];rfl
theorem GR.start (hs:St K W REST):GR K REST es Φ (fun _=>none) W:=
 ⟨fun _=>[],fun e v _ h=>(by cases h),by rw[wX];exact hs⟩
theorem GR.same {W':World}(h:GR K REST es Φ ρ W)(hb:Below W.heap.size W W'):GR K REST es Φ ρ W' := by
 obtain⟨C,h1,hs⟩:=h;exact⟨C,h1,hs.same hb⟩
theorem GR.rest (h:GR K REST es Φ ρ W):St K W REST:=by
 obtain⟨C,h1,hs⟩:=h;exact hs.right
theorem GR.step (h:GR K REST es Φ ρ W)(hm:Rt es Φ)(e:Nat)(ds:List Nat)(hn:es.Nodup)(hd:(e::ds).Nodup)(hin:∀d,d∈e::ds->d∈es)(he:ρ e=none)(hds:∀d,d∈ds->(ρ d).isSome=true) :
  ∃(C:Nat->List aC) (R:List aC),(∀d v,d∈es->ρ d=some v->Φ d ρ v (C d))/\St K W (ds.flatMap C++(REST++R)) /\
   ∀v cs W',Φ e (upd ρ e v) v cs->St K W' (cs++(ds.flatMap C++(REST++R)))->GR K REST es Φ (upd ρ e v) W' := by
 obtain⟨C,h1,hs⟩:=h;obtain⟨r,hr⟩:=ub (e::ds) es hd hin;have hnr:((e::ds)++r).Nodup:=hr.nodup_iff.1 hn;have ahm:ds.flatMap (fun e=>if (ρ e).isSome then C e else [])=ds.flatMap C:=iJ fun d iF=>by rw[if_pos (hds d iF)]
 have p1:(q8 ρ C es).Perm (ds.flatMap C++q8 ρ C r):=by
  refine(lX _ hr).trans ?_
  rw[List.cons_append,List.flatMap_cons,List.flatMap_append,he];simp only[Option.isSome_none,Bool.false_eq_true,if_false,List.nil_append];rw[ahm];exact List.Perm.refl _
 refine⟨C,q8 ρ C r,h1,hs.perm ?_,fun v cs W' hΦ hs' =>?_⟩
 ·refine(p1.append_right REST).trans ?_
  rw[List.append_assoc];exact List.perm_append_comm.append_left _
 ·have hne:∀d,d∈ds++r->d≠e:=fun d iF e' => by
   rw[List.cons_append,List.nodup_cons]at hnr;exact hnr.1 (e' ▸ iF)
  refine⟨fun k=>if k=e then cs else C k,fun k u hk hu=>?_,hs'.perm ?_⟩
  ·by_cases Rm:k=e
   ·subst Rm
    have:v=u:=by simpa[upd] using hu
    subst this;show Φ k _ v (if k=k then cs else C k)
    rw[if_pos rfl];exact hΦ
   ·show Φ k _ u (if k=e then cs else C k)
    rw[if_neg Rm];have hu' : ρ k=some u:=by simpa[upd,Rm] using hu
    exact hm k ρ u _ e v hk he (h1 k u hk hu')
  ·have p2:(q8 (upd ρ e v) (fun k=>if k=e then cs else C k) es).Perm (cs++(ds.flatMap C++q8 ρ C r)):=by
    refine(lX _ hr).trans ?_
    rw[List.cons_append,List.flatMap_cons,List.flatMap_append];have a1:ds.flatMap (fun e_1=>if (upd ρ e v e_1).isSome=true then(if e_1=e then cs else C e_1)else [])=ds.flatMap C:=iJ fun d iF=>by
     have:=hne d (List.mem_append_left _ iF);have u:upd ρ e v d=ρ d:=by simp[upd,this]
     rw[u,if_pos (hds d iF),if_neg this]
    have a2:r.flatMap (fun e_1=>if (upd ρ e v e_1).isSome=true then(if e_1=e then cs else C e_1)else [])=q8 ρ C r:=iJ fun d iF=>by
     have:=hne d (List.mem_append_right _ iF);have u:upd ρ e v d=ρ d:=by simp[upd,this]
     rw[u,if_neg this]
    rw[a1,a2];have u:(upd ρ e v e).isSome=true:=by simp[upd]
    rw[if_pos u];show((if e=e then cs else C e)++_).Perm _
    rw[if_pos rfl]
   refine List.Perm.trans ?_ (p2.append_right REST).symm;rw[List.append_assoc,List.append_assoc];exact(List.Perm.append_left _ (List.Perm.append_left _ List.perm_append_comm))
theorem GR.jT (h:GR K REST es Φ ρ W)(hm:Rt es Φ)(e:Nat)(hn:es.Nodup)(hin:e∈es)(he:ρ e=none)(v:Value)(hΦ:Φ e (upd ρ e v) v []):GR K REST es Φ (upd ρ e v) W:=by
 obtain⟨C,R,h1,hs,hnext⟩:=h.step hm e [] hn (by simp) (by simpa using hin) he (by simp)
 exact hnext v [] W hΦ hs
theorem GR.at (h:GR K REST es Φ ρ W)(d:Nat)(hd:d∈es){v:Value}(hv:ρ d=some v):∃cs R,Φ d ρ v cs/\St K W (cs++(REST++R)):=by
 obtain⟨C,h1,hs⟩:=h;obtain⟨r,hr⟩:=ub [d] es (by simp) (by simpa using hd)
 refine⟨C d,q8 ρ C r,h1 d v hd hv,hs.perm ?_⟩;have p1:(q8 ρ C es).Perm (C d++q8 ρ C r):=by
  refine(lX _ hr).trans ?_
  rw[List.cons_append,List.flatMap_cons,hv];exact List.Perm.refl _
 refine(p1.append_right REST).trans ?_
 rw[List.append_assoc];exact List.perm_append_comm.append_left _
theorem GR.last (h:GR K REST es Φ ρ W)(hall:∀e,e∈es->(ρ e).isSome=true):∃C:Nat->List aC,(∀e,e∈es->∃v,ρ e=some v/\Φ e ρ v (C e))/\St K W (es.flatMap C++REST):=by
 obtain⟨C,h1,hs⟩:=h;refine⟨C,fun e he=>?_,?_⟩
 ·obtain⟨v,hv⟩:=aq6.1 (hall e he)
  exact⟨v,hv,h1 e v he hv⟩
 ·have:q8 ρ C es=es.flatMap C:=iJ fun d iF=>by rw[if_pos (hall d iF)]
  rw[←this];exact hs
end
theorem Mh {α:Type}(l:List α):∀(n:Nat),l.length<=n->(List.range n).filterMap (fun i=>l[i]?)=l:=by
 induction l with
 | nil=>intro n _;simp
 | cons a l ih=>
  intro n h;cases n with
  | zero=>simp at h
  | succ n=>
   rw[List.range_succ_eq_map,List.filterMap_cons,List.filterMap_map];simp only[List.getElem?_cons_zero];congr 1
   exact ih n (by simpa using h)
theorem St.re {K:aL}{w:World}{cs cs':List aC}(hs:St K w cs)(p:List Nat)(e:p.filterMap ((cs.take p.length)[·]?)++cs.drop p.length=cs')(hp:p.Perm (List.range p.length):=by decide):St K w cs' := by
 subst e;refine hs.perm ?_
 have h:=Mh (cs.take p.length) p.length (by simp;omega)
 have h2:=(hp.filterMap ((cs.take p.length)[·]?))
 rw[h]at h2;have h3:=(h2.append_right (cs.drop p.length)).symm;rwa [List.take_append_drop]at h3
def aA (b2 b3 b5:Nat):FV:=⟨115, #[], #[.pointer (some ⟨b2,0,none⟩),.pointer (some ⟨b3,0,none⟩),.pointer (some ⟨b5,0,none⟩)]⟩
theorem jY:Enters 115:=fun _ _=>by kernel_rfl
def bG (b2 b3 b5:Nat)(x t:Value):aC:=group [blk b2 (.cells #[x] 174),blk b3 (.cells #[t] 129),blk b5 (.cells #[aW (some (aA b2 b3 b5))] 121)]
section
variable {K:aL}{w:World}{F:List aC}{b2 b3 b5:Nat}{x t:Value}
theorem St.callParts (h:St K w (bG b2 b3 b5 x t::F)):St K w (blk b2 (.cells #[x] 174)::blk b3 (.cells #[t] 129)::blk b5 (.cells #[aW (some (aA b2 b3 b5))] 121)::F):=St.wP.1 h
theorem St.Ru (h:St K w (blk b2 (.cells #[x] 174)::blk b3 (.cells #[t] 129)::blk b5 (.cells #[aW (some (aA b2 b3 b5))] 121)::F)):St K w (bG b2 b3 b5 x t::F):=(St.wP (l:=[_,_,_])).2 h
theorem fG {T2:TypeId}{xv:Value}{f:Nat}{tx ty:Array Value}(hs:St K w F) :
  Calls Tryz.prog 74 #[.iface T2 xv,.func (.func f) tx ty] w fun e w' => ∃b2 b3 b5,e=.returned (aW (some (aA b2 b3 b5)))/\St K w' (bG b2 b3 b5 (.iface T2 xv) (.func (.func f) tx ty)::F):=by
 have hs:=hs.made (.cells #[.iface T2 xv] 174);have hs:=hs.made (.cells #[.func (.func f) tx ty] 129);have hs:=hs.made (.cells #[aW (some (aA w.heap.size (w.heap.size+1) (w.heap.size+2)))] 121);simp only[World.size_alloc]at hs;have Hs:=aq3 hs;clear hs;go_enter Tryz.func74,Tryz.ntmps74
 go_wp2
 go_ret;exact⟨w.heap.size,w.heap.size+1,w.heap.size+2,rfl,St.Ru Hs.out.u2.b1⟩
theorem jr {T2:TypeId}{xv:Value}{f g:Nat}{tx ty:Array Value}{m:Nat}{P0:World->Prop}{P1:Option FV->World->Prop}(hs:St K w (bG b2 b3 b5 (.iface T2 xv) (.func (.func f) tx ty)::F))
  (hm : ∀ (n : Nat) (w : World), (method (n + 1) T2 xv "Step").run Tryz.prog w = .ok (g, xv) w) (hg : Enters g) (hf : Enters f)
  (hcall:Calls Tryz.prog g #[xv,.pointer (some ⟨m,0,none⟩)] w fun e w1=>(∃K' F',St K' w1 (bG b2 b3 b5 (.iface T2 xv) (.func (.func f) tx ty)::F'))/\((e=.returned (.bool false)/\P0 w1)\/(e=.returned (.bool true)/\Calls Tryz.prog f (tx++ty) w1 fun e w2=>∃o,e=.returned (aW o)/\P1 o w2))) :
  Calls Tryz.prog 115 #[.pointer (some ⟨m,0,none⟩),.pointer (some ⟨b2,0,none⟩),.pointer (some ⟨b3,0,none⟩),.pointer (some ⟨b5,0,none⟩)] w fun e w' => ∃o,e=.returned (aW o)/\((o=some (aA b2 b3 b5)/\P0 w')\/P1 o w'):=by
 have hf' : ∀(args:Array Value) (w:World),(callFunc f args).run Tryz.prog w=.ok (.enter f args) w:=hf;have hg' : ∀(args:Array Value) (w:World),(callFunc g args).run Tryz.prog w=.ok (.enter g args) w:=hg;have k2:=hs.callParts.k0;have HC:=aq3 hcall;clear hcall hs;go_enter Tryz.func115,Tryz.ntmps115
 go_wp2_with fail
 refine(HC.out).mono ?_
 clear HC k2;rintro e w1 ⟨⟨K',F',hs⟩,h⟩;have k3:=hs.callParts.k1;have k5:=hs.callParts.k2;clear hs;rcases h with⟨rfl,h⟩|⟨rfl,h⟩
 ·go_wp2
  go_ret;exact⟨some (aA b2 b3 b5),rfl,.inl ⟨rfl,h⟩⟩
 ·have HC:=aq3 h
  clear h;go_wp2_with fail
  refine(HC.out).mono ?_
  clear HC k3 k5;rintro e w2 ⟨o,rfl,h⟩;cases o with
  | none=>
   simp only[aW];go_wp2
   go_ret;exact⟨none,rfl,.inr h⟩
  | some s=>
   simp only[aW];go_wp2
   go_ret;exact⟨some s,rfl,.inr h⟩
theorem Ar (n : Nat) (a : Addr) (w : World) : (method (n + 1) 213 (.pointer (some a)) "Step").run Tryz.prog w = .ok (215, .pointer (some a)) w := by kernel_rfl
theorem Au (n : Nat) (a : Addr) (w : World) : (method (n + 1) 84 (.pointer (some a)) "Step").run Tryz.prog w = .ok (49, .pointer (some a)) w := by kernel_rfl
end
def R2 (i j:Nat)(Pre:World->Prop)(Mid:Value->World->Prop)(Post:Value->Value->World->Prop)(ρ:Nat->Option Value)(W:World):Prop:=
 match ρ i,ρ j with
 | none,_=>ρ j=none/\Pre W
 | some v,none=>Mid v W
 | some v,some u=>Post v u W
theorem fY {P:Program}{id:Nat}{Q:Exit->Act->World->Prop}{a:Act}{w:World}{l:List Oper}(m:List Bool)(i j:Nat)(Pre:World->Prop)(Mid:Value->World->Prop)(Post:Value->Value->World->Prop)(Inv:World->Prop)(aS:Act)
  (hij:i≠j) (hm:P.follows .mixedOrders=true) (hB:Al l m [i,j] (fun e=>if e=j then [i]else []) a.tmps.size=true)
  (H:∀W,Inv W->wpQuiet P (bL m l).toArray (fun w' => ∃x:Ext,w'=over W x) (fun a' => a'=aS) (bL m l) a)
  (iD:aS.tmps.size=a.tmps.size) (h0:Pre w)
  (hI:(∀W,Pre W->Inv W)/\(∀v W,Mid v W->Inv W)/\(∀v u W,Post v u W->Inv W))
  (hR:(∀W W',Pre W->Below W.heap.size W W' -> Pre W')/\(∀v W W',Mid v W->Below W.heap.size W W' -> Mid v W')/\(∀v u W W',Post v u W->Below W.heap.size W W' -> Post v u W'))
  (Fx:∀(R:(Nat->Option Value)->World->Prop) o,l[i]?=some o->∀ ρ W,Pre W->(∀v W',Mid v W' -> R (upd ρ i v) W')->∀af,af=aS->wpList P l.toArray (Ak ρ af R i o) [o] af W)
  (vK:∀(R:(Nat->Option Value)->World->Prop) o,l[j]?=some o->∀ ρ v W,Mid v W->(∀u W',Post v u W' -> R (upd ρ j u) W')->∀af,af=aS.put (aM l i) v->wpList P l.toArray (Ak ρ af R j o) [o] af W)
  (hQ:∀v u W,Post v u W->Q .normal ((aS.put (aM l i) v).put (aM l j) u) W):(Code.region id l.toArray true).wp P Q a w:=by
 have hji:j≠i:=hij.symm;refine aT m [i,j] (fun e=>if e=j then [i]else []) (R2 i j Pre Mid Post) Inv aS hm hB H iD ⟨rfl,h0⟩ ?_ ?_ ⟨?_,?_,trivial⟩ ?_
 ·intro ρ W h
  unfold R2 at h;cases hi:ρ i with
  | none=>rw[hi]at h;exact hI.1 W h.2
  | some v=>
   cases hj:ρ j with
   | none=>rw[hi,hj]at h;exact hI.2.1 v W h
   | some u=>rw[hi,hj]at h;exact hI.2.2 v u W h
 ·intro ρ W W' h hb
  unfold R2 at h ⊢;cases hi:ρ i with
  | none=>rw[hi]at h;exact⟨h.1,hR.1 W W' h.2 hb⟩
  | some v=>
   cases hj:ρ j with
   | none=>rw[hi,hj]at h;exact hR.2.1 v W W' h hb
   | some u=>rw[hi,hj]at h;exact hR.2.2 v u W W' h hb
 ·intro o ho ρ W h hcl hi hd af aB
  have aB:af=aj l ρ (if i=j then [i]else []) aS:=aB
  rw[if_neg hij]at aB;obtain rfl:af=aS:=aB;unfold R2 at h;rw[hi]at h;refine Fx _ o ho ρ W h.2 (fun v W' hM=>?_) _ rfl
  unfold R2;have e1:upd ρ i v i=some v:=by simp[upd]
  have e2:upd ρ i v j=none:=by simp[upd,hji,h.1]
  rw[e1,e2];exact hM
 ·intro o ho ρ W h hcl hj hd af aB
  have aB:af=aj l ρ (if j=j then [i]else []) aS:=aB
  rw[if_pos rfl]at aB;obtain⟨v,hi⟩:=aq6.1 (hd i (by show i∈(if j=j then [i]else []);simp))
  have aB:af=aS.put (aM l i) v:=by rw[aB];simp[aj,hi]
  unfold R2 at h;rw[hi,hj]at h;refine vK _ o ho ρ v W h (fun u W' hM=>?_) _ aB
  unfold R2;have e1:upd ρ j u i=some v:=by simp[upd,hij,hi]
  have e2:upd ρ j u j=some u:=by simp[upd]
  rw[e1,e2];exact hM
 ·intro ρ W h hall
  obtain⟨v,hi⟩:=aq6.1 (hall i (by simp))
  obtain⟨u,hj⟩:=aq6.1 (hall j (by simp))
  unfold R2 at h;rw[hi,hj]at h;have:=hQ v u W h;simpa[aj,hi,hj] using this
end
section
abbrev cA (a b:ByteArray):Bool:=Op.bytesLess a.toList b.toList
theorem wY:∀x:List UInt8,Op.bytesLess x x=false
 | []=>rfl
 | a::x=>by simp[Op.bytesLess,wY x]
theorem Av:∀x y z:List UInt8,Op.bytesLess x y=true->Op.bytesLess y z=true->Op.bytesLess x z=true
 | _,[],_,h,_=>by cases ‹List UInt8› <;> simp[Op.bytesLess]at h
 | _,_::_,[],_,h=>by simp[Op.bytesLess]at h
 | [],_::_,_::_,_,_=>rfl
 | a::x,b::y,c::z,h,k=>by
  simp only[Op.bytesLess,Bool.or_eq_true,decide_eq_true_eq,Bool.and_eq_true,beq_iff_eq]at h k ⊢;have ih:=Av x y z;rcases h with h|⟨rfl,h⟩
  ·rcases k with k|⟨rfl,k⟩
   ·left;exact UInt8.lt_trans h k
   ·left;exact h
  ·rcases k with k|⟨rfl,k⟩
   ·left;exact k
   ·right;exact⟨rfl,ih h k⟩
theorem Aw:∀x y:List UInt8,Op.bytesLess x y=false->Op.bytesLess y x=false->x=y
 | [],[],_,_=>rfl
 | [],_::_,h,_=>by simp[Op.bytesLess]at h
 | _::_,[],_,h=>by simp[Op.bytesLess]at h
 | a::x,b::y,h,k=>by
  simp only[Op.bytesLess,Bool.or_eq_false_iff,decide_eq_false_iff_not,Bool.and_eq_false_iff,beq_eq_false_iff_ne,ne_eq]at h k;have hab:a=b:=UInt8.le_antisymm (UInt8.not_lt.1 k.1) (UInt8.not_lt.1 h.1);subst hab;rw[Aw x y (by simpa using h.2) (by simpa using k.2)]
theorem dm (a:ByteArray):cA a a=false:=wY _
theorem gA {a b c:ByteArray}(h:cA a b=true)(k:cA b c=true):cA a c=true:=Av _ _ _ h k
theorem jc {a b:ByteArray}(h:cA a b=true):cA b a=false:=by
 cases e:cA b a with
 | false=>rfl
 | true=>have:=gA h e;rw[dm]at this;cases this
theorem ye {a b:ByteArray}(h:a.toList=b.toList):a=b:=by
 rw[ByteArray.toList_eq,ByteArray.toList_eq]at h;exact ByteArray.ext (Array.ext' h)
theorem gB {a b:ByteArray}(h:cA a b=false)(k:cA b a=false):a=b:=ye (Aw _ _ h k)
theorem Fy {a b:ByteArray}(h:cA a b=true):a≠b:=fun e=>by subst e;rw[dm]at h;cases h
theorem iz {a b c:ByteArray}(h:cA b a=false)(k:cA b c=true):cA a c=true:=by
 cases e:cA a b with
 | true=>exact gA e k
 | false=>rw[gB e h];exact k
theorem Mi {a b c:ByteArray}(h:cA a b=true)(k:cA c b=false):cA a c=true:=by
 cases e:cA b c with
 | true=>exact gA h e
 | false=>rw[←gB e k];exact h
theorem ql {a b c:ByteArray}(h:cA b a=false)(k:cA c b=false):cA c a=false:=by
 cases e:cA c a with
 | false=>rfl
 | true=>have:=Mi e h;rw[k]at this;cases this
theorem jd (a:ByteArray):cA a ⟨#[]⟩=false:=by
 unfold cA;have:(⟨#[]⟩:ByteArray).toList=[]:=by rw[ByteArray.toList_eq]
 rw[this];cases a.toList <;> rfl
theorem jJ {a b:ByteArray}(h:a≠b):(a.toList == b.toList)=false:=by
 rw[beq_eq_false_iff_ne];exact fun e=>h (ye e)
theorem Ax (a b:ByteArray)(w:World):Calls Tryz.prog 160 #[.string a,.string b] w fun e w' => e=.returned (.int .i64 (if cA a b then -1 else if cA b a then 1 else 0))/\w=w' := by
 go_enter Tryz.func160,Tryz.ntmps160
 cases h:cA a b with
 | true=>
  go_wp2
  go_ret;exact⟨rfl,rfl⟩
 | false=>
  cases h2:cA b a with
  | true=>
   have h3:=jJ (Fy h2).symm;go_wp2
   go_ret;exact⟨rfl,rfl⟩
  | false=>
   obtain rfl:=gB h h2;have h3:(a.toList == a.toList)=true:=beq_self_eq_true _;go_wp2
   go_ret;exact⟨rfl,rfl⟩
theorem ud (key low high:ByteArray)(last:Bool)(w:World):Calls Tryz.prog 138 #[.string key,.string low,.string high,.bool last] w fun e w' => e=.returned (.bool (!cA key low && (last || cA key high)))/\w=w' := by
 go_enter Tryz.func138,Tryz.ntmps138
 cases h:cA key low <;> cases h2:last <;> cases h3:cA key high <;> go_wp2 <;> go_ret <;> exact⟨rfl,rfl⟩
def kV (l:List Sl):Prop:=l.Pairwise fun x y=>cA x.k y.k=true
def gD (l:List Sl)(key:ByteArray):Nat:=l.countP fun s=>cA s.k key
def iE (l:List Sl)(key:ByteArray):Nat:=l.countP fun s => !cA key s.k
theorem ue (l:List Sl)(key:ByteArray):gD l key<=l.length:=List.countP_le_length
theorem uf (l:List Sl)(key:ByteArray):iE l key<=l.length:=List.countP_le_length
theorem jK {key:ByteArray}:∀ {l:List Sl},kV l->∀ {i:Nat}{s:Sl},l[i]?=some s->(cA s.k key=true↔i<gD l key)
 | [],_,i,s,h=>by simp at h
 | a::l,h,i,s,hs=>by
  have h' := List.pairwise_cons.1 h;cases ha:cA a.k key with
  | true=>
   have e:gD (a::l) key=gD l key+1:=by simp[gD,ha]
   rw[e];cases i with
   | zero=>simp at hs;subst hs;simp[ha]
   | succ i=>rw[jK h'.2 (by simpa using hs)];omega
  | false=>
   have e:gD (a::l) key=0:=by
    unfold gD;rw[List.countP_eq_zero];intro x hx;rcases List.mem_cons.1 hx with rfl|hx
    ·simp[ha]
    ·have h1:=h'.1 x hx
     cases hxk:cA x.k key with
     | false=>simp
     | true=>have:=gA h1 hxk;rw[ha]at this;cases this
   rw[e];have:cA s.k key=false:=by
    cases i with
    | zero=>simp at hs;subst hs;exact ha
    | succ i=>
     have h1:=h'.1 s (aq7 (by simpa using hs))
     cases hxk:cA s.k key with
     | false=>rfl
     | true=>have:=gA h1 hxk;rw[ha]at this;cases this
   simp[this]
theorem jm {key:ByteArray}:∀ {l:List Sl},kV l->∀ {i:Nat}{s:Sl},l[i]?=some s->(cA key s.k=false↔i<iE l key)
 | [],_,i,s,h=>by simp at h
 | a::l,h,i,s,hs=>by
  have h' := List.pairwise_cons.1 h;cases ha:cA key a.k with
  | false=>
   have e:iE (a::l) key=iE l key+1:=by simp[iE,ha]
   rw[e];cases i with
   | zero=>simp at hs;subst hs;simp[ha]
   | succ i=>rw[jm h'.2 (by simpa using hs)];omega
  | true=>
   have e:iE (a::l) key=0:=by
    unfold iE;rw[List.countP_eq_zero];intro x hx;rcases List.mem_cons.1 hx with rfl|hx
    ·simp[ha]
    ·simp[gA ha (h'.1 x hx)]
   rw[e];have:cA key s.k=true:=by
    cases i with
    | zero=>simp at hs;subst hs;exact ha
    | succ i=>exact gA ha (h'.1 s (aq7 (by simpa using hs)))
   simp[this]
theorem sZ {key:ByteArray}{l:List Sl}(h:kV l):iE l key=gD l key\/(iE l key=gD l key+1/\∃s,l[gD l key]?=some s/\s.k=key):=by
 have h1:=ue l key;have h2:=uf l key;have le:gD l key<=iE l key:=by
  rcases Nat.lt_or_ge (iE l key) (gD l key)with h3|h3
  ·obtain⟨s,hs⟩:∃s,l[iE l key]?=some s:=⟨_,aq8 (by omega)⟩
   have a:=(jK h hs).2 h3;have b:=mt (jm (key:=key) h hs).1 (by omega)
   rw[jc a]at b;simp at b
  ·exact h3
 rcases Nat.lt_or_ge (gD l key) (iE l key)with h3|h3
 ·right
  have one:∀i,gD l key<=i->i<iE l key->∃s,l[i]?=some s/\s.k=key:=by
   intro i hi hi2;obtain⟨s,hs⟩:∃s,l[i]?=some s:=⟨_,aq8 (by omega)⟩
   have a:=mt (jK (key:=key) h hs).1 (by omega)
   have b:=(jm h hs).2 hi2;exact⟨s,hs,gB (by simpa using a) b⟩
  refine⟨?_,one _ (Nat.le_refl _) h3⟩;rcases Nat.lt_or_ge (gD l key+1) (iE l key)with h4|h4
  ·obtain⟨s,hs,e⟩:=one _ (Nat.le_refl _) h3
   obtain⟨s',hs',e'⟩:=one (gD l key+1) (by omega) h4
   have:=List.pairwise_iff_getElem.1 h _ _ (aq5.1 hs).1 (aq5.1 hs').1 (by omega)
   rw[(aq5.1 hs).2,(aq5.1 hs').2,e,e',dm]at this;cases this
  ·omega
 ·left;omega
theorem yf (s:Sl)(key:ByteArray)(w:World):Calls Tryz.prog 159 #[.agg #[.string s.k,.int .u64 s.r],.string key] w fun e w' => e=.returned (.int .i64 (if cA s.k key then -1 else if cA key s.k then 1 else 0))/\Below w.heap.size w w' := by
 have hs:=(St.start w).made (.cells #[.string s.k,.int .u64 s.r] 69);have Q:=aq3 (fun w=>Ax s.k key w)
 generalize (if cA s.k key then(-1:Int)else if cA key s.k then 1 else 0)=r at *
 go_enter Tryz.func159,Tryz.ntmps159
 go_wp2_with fail
 refine(Q.out _).mono ?_
 rintro e w1 ⟨rfl,rfl⟩;go_wp2
 go_ret;exact⟨rfl,hs.below (aL.Le.refl _)⟩
section
variable {a:Option Addr}{cap:Nat}{l:List Sl}{key:ByteArray}
theorem Fz (w:World)(h:ej w a l)(dJ:kV l) :
  Calls Tryz.prog 158 #[.slice a l.length cap,.string key,.func (.func 159) #[] #[]] w fun e w' => e=.returned (.tuple #[.int .i64 (gD l key),.bool (decide (gD l key<iE l key))])/\Below w.heap.size w w' := by
 obtain⟨n,hn⟩:∃n,n=l.length:=⟨_,rfl⟩;obtain⟨m,hm⟩:∃m,m=gD l key:=⟨_,rfl⟩;have hmn:m<=n:=by rw[hm,hn];exact ue _ _
 have hl:=h.1;rw[←hn]at hl ⊢;have Hc:Hid (∀i,i<n->∃(s:Sl) (b off:Nat),a=some ⟨b,off,none⟩/\b<w.heap.size/\w.cell? ⟨b,off+i*2,none⟩=some (.string s.k)/\w.cell? ⟨b,off+i*2+1,none⟩=some (.int .u64 s.r)/\(cA s.k key=true↔i<m)/\(cA key s.k=false↔i<iE l key)):=aq3 (by
  intro i hi;obtain⟨s,hs⟩:∃s,l[i]?=some s:=⟨_,aq8 (by omega)⟩
  obtain⟨b,off,e,hlt,c0,c1⟩:=h.2 i s hs;exact⟨s,b,off,e,hlt,c0,c1,by rw[hm];exact jK dJ hs,jm dJ hs⟩)
 have Hhi:Hid (iE l key<=n/\m<=iE l key):=aq3 ⟨by rw[hn];exact uf _ _,by have:=sZ (key:=key) dJ;omega⟩
 rw[←hm];generalize iE l key=m2 at *;have hs:=St.start w;clear h hn hm dJ;go_enter Tryz.func158,Tryz.ntmps158
 go_wp2
 go_loopw [9,10,11] (fun v9 v10 v11 wr=>∃(i j:Nat),v9=.int .i64 i/\v10=.int .i64 j/\i<=m/\m<=j/\j<=n/\St (aL.of w) wr []) (fun v9 v10 _ _=>(intOf v10).toNat-(intOf v9).toNat)
 case atStart=>exact⟨0,n,rfl,rfl,by omega,hmn,by omega,hs⟩
 case round=>
  clear hs;obtain⟨i,j,rfl,rfl,hi,hj,hjn,hs⟩:=hrel;by_cases hij:i<j
  ·go_upto_region 5 with(fail)
   obtain⟨k,hk⟩:∃k:Nat,k=(i+j) / 2:=⟨_,rfl⟩;have hk1:((i:Int)+j) / 2=k:=by omega
   have hkj:k<j:=by omega
   have hik:i<=k:=by omega
   obtain⟨s,b,off,rfl,hlt,c0,c1,hlo,_⟩:=Hc.out k (by omega)
   have hb:=hs.below (aL.Le.refl _);rw[←hb.cell (p:=⟨b,_,none⟩) hlt]at c0 c1;have Q:=aq3 (fun w=>yf s key w)
   have Zt:=aq3 hlo;clear hlo hb;rw[hk1];have Hk:=aq3 hk;clear hk hk1;have hkn:k<n:=by omega
   cases hx:cA s.k key with
   | true=>
    have hkm:=Zt.out.1 hx;go_wp2_with fail
    refine(Q.out _).mono ?_
    rw[hx];rintro e w2 ⟨rfl,hb2⟩;have hs:=hs.same hb2;clear c0 c1 hb2;go_wp2
    go_roundw
    case rel=>exact⟨k+1,j,by go_num,rfl,by omega,hj,hjn,hs⟩
    case measure=>simp[intOf];have:=Hk.out;omega
   | false=>
    have hkm:m<=k:=by
     have:=mt Zt.out.2 (by rw[hx];simp)
     omega
    have Q2:Hid (∃r:Int,(r=0\/r=1)/\∀w,Calls Tryz.prog 159 #[.agg #[.string s.k,.int .u64 s.r],.string key] w fun e w' => e=.returned (.int .i64 r)/\Below w.heap.size w w'):=aq3 (by
     cases hy:cA key s.k with
     | true=>exact⟨1,.inr rfl,fun w=>by have:=Q.out w;rw[hx,hy]at this;exact this⟩
     | false=>exact⟨0,.inl rfl,fun w=>by have:=Q.out w;rw[hx,hy]at this;exact this⟩)
    clear hx Q;obtain⟨r,hr,q⟩:=Q2.out;have zv:¬ r<0:=by omega
    have Q:=aq3 q;clear q hr Q2;go_wp2_with fail
    refine(Q.out _).mono ?_
    rintro e w2 ⟨rfl,hb2⟩;have hs:=hs.same hb2;clear c0 c1 hb2;go_wp2
    go_roundw
    case rel=>exact⟨i,k,rfl,by go_num,hi,hkm,by omega,hs⟩
    case measure=>simp[intOf];have:=Hk.out;omega
  ·obtain rfl:i=m:=by omega
   by_cases hin:i<n
   ·obtain⟨s,b,off,rfl,hlt,c0,c1,hlo,hhi⟩:=Hc.out i hin
    have hb:=hs.below (aL.Le.refl _);rw[←hb.cell (p:=⟨b,_,none⟩) hlt]at c0 c1;have hf:cA s.k key=false:=by
     cases hx:cA s.k key with
     | true=>have:=hlo.1 hx;omega
     | false=>rfl
    have Q2:Hid (∃r:Int,(r == 0)=decide (i<m2)/\∀w,Calls Tryz.prog 159 #[.agg #[.string s.k,.int .u64 s.r],.string key] w fun e w' => e=.returned (.int .i64 r)/\Below w.heap.size w w'):=aq3 (by
     cases hy:cA key s.k with
     | true=>
      refine⟨1,?_,fun w=>by have:=yf s key w;rw[hf,hy]at this;exact this⟩
      have:=mt hhi.2 (by rw[hy];simp)
      rw[decide_eq_false this];rfl
     | false=>
      refine⟨0,?_,fun w=>by have:=yf s key w;rw[hf,hy]at this;exact this⟩
      rw[decide_eq_true (hhi.1 hy)];rfl)
    clear hlo hhi hb hf;obtain⟨r,hr,q⟩:=Q2.out;have Hr:=aq3 hr;have Q:=aq3 q;clear q hr Q2;go_wp2_with fail
    refine(Q.out _).mono ?_
    rintro e w2 ⟨rfl,hb2⟩;have hs:=hs.same hb2;clear c0 c1 hb2;go_wp2
    go_ret2
    exact⟨by rw[←Hr.out];rfl,hs.below (aL.Le.refl _)⟩
   ·have h2:=Hhi.out
    have e:decide (i<m2)=false:=decide_eq_false (by omega)
    go_wp2
    go_ret2
    exact⟨by rw[e];rfl,hs.below (aL.Le.refl _)⟩
theorem nu (w:World){pg:Pg}(h:ej w a pg.sl)(dJ:kV pg.sl) :
  Calls Tryz.prog 131 #[.agg #[.int .i64 (pg).ak,(.slice a pg.sl.length cap),.string (pg).hi,.bool (pg).la,.int .u64 (pg).ri],.string key] w fun e w' => e=.returned (.tuple #[.int .i64 (gD pg.sl key),.bool (decide (gD pg.sl key<iE pg.sl key))])/\Below w.heap.size w w' := by
 have hs:=(St.start w).made (.cells #[.int .i64 pg.ak,.slice a pg.sl.length cap,.string pg.hi,.bool pg.la,.int .u64 pg.ri] 43);have Q:=aq3 (Fz (cap:=cap) (key:=key) _ (h.same (hs.below (aL.Le.refl _))) dJ);obtain⟨n,hn⟩:∃n,n=pg.sl.length:=⟨_,rfl⟩;rw[←hn]at Q hs ⊢;clear hn;generalize gD pg.sl key=m at *;generalize iE pg.sl key=m2 at *;go_enter Tryz.func131,Tryz.ntmps131
 go_wp2_with fail
 refine(Q.out).mono ?_
 rintro e w1 ⟨rfl,hb⟩;go_wp2
 go_ret2
 exact⟨rfl,(hs.same hb).below (aL.Le.refl _)⟩
def jG (l:List Sl)(i:Int):Option Sl:=if i<0 then none else l[i.toNat]?
def ug:Option Sl->Value
 | some s=> .agg #[.string s.k,.int .u64 s.r]
 | none=> .agg #[.string ⟨#[]⟩,.int .u64 0]
theorem Rv (tmps:Array Value)(w:World)(b:Nat)(v0 v1 u:Value)(hp:tmps[4]?=some (.pointer (some ⟨b,0,none⟩)))(hq:tmps[5]?=some u)(hk:∀k,w.cell? ⟨b,k,none⟩=(#[v0,v1]:Array Value)[k]?) :
  (results Tryz.f168 tmps).run Tryz.prog w=.ok (.tuple #[.agg #[v0,v1],u]) w:=by
 simp[results,Tryz.results168,go_sem,hp,hq,hk]
theorem om (tmps:Array Value)(w:World)(b:Nat)(v0 v1 u:Value)(hp:tmps[4]?=some (.pointer (some ⟨b,0,none⟩)))(hq:tmps[5]?=some u)(hk:∀k,w.cell? ⟨b,k,none⟩=(#[v0,v1]:Array Value)[k]?) :
  (results Tryz.f140 tmps).run Tryz.prog w=.ok (.tuple #[.agg #[v0,v1],u]) w:=by
 simp[results,Tryz.results140,go_sem,hp,hq,hk]
theorem Ga (w:World){pg:Pg}{i:Int}(hi:i<pg.sl.length)(oH : -2<i)(h:ej w a pg.sl) :
  Calls Tryz.prog 168 #[.agg #[.int .i64 (pg).ak,(.slice a pg.sl.length cap),.string (pg).hi,.bool (pg).la,.int .u64 (pg).ri],.int .i64 i] w fun e w' => e=.returned (.tuple #[ug (jG pg.sl i),.bool (jG pg.sl i).isSome])/\Below w.heap.size w w' := by
 have hs:=(St.start w).made (.cells #[.int .i64 pg.ak,.slice a pg.sl.length cap,.string pg.hi,.bool pg.la,.int .u64 pg.ri] 43);obtain⟨n,hn⟩:∃n,n=pg.sl.length:=⟨_,rfl⟩;have hl:=h.1;by_cases h0:i<0
 ·have e:jG pg.sl i=none:=by unfold jG;rw[if_pos h0]
  rw[e];rw[←hn]at hs ⊢;clear hn h e;have hs:=hs.made (.cells #[.string ⟨#[]⟩,.int .u64 0] 69);simp only[World.size_alloc]at hs;go_enter Tryz.func168,Tryz.ntmps168
  go_wp2
  refine bodyPost_ret (Rv _ _ (w.heap.size+1) _ _ _ rfl rfl hs.k0) rfl ⟨rfl,hs.below (aL.Le.refl _)⟩
 ·obtain⟨k,rfl⟩:∃k:Nat,i=k:=⟨i.toNat,by omega⟩
  obtain⟨s,eY⟩:∃s,pg.sl[k]?=some s:=⟨_,aq8 (by omega)⟩
  have e:jG pg.sl k=some s:=by unfold jG;rw[if_neg h0];exact eY
  rw[e];obtain⟨b,off,rfl,hlt,c0,c1⟩:=h.2 k s eY;rw[←hn]at hs hi hl ⊢;clear hn h e eY;have hs:=hs.made (.cells #[.string s.k,.int .u64 s.r] 69);simp only[World.size_alloc]at hs;go_enter Tryz.func168,Tryz.ntmps168
  go_wp2
  refine bodyPost_ret (Rv _ _ (w.heap.size+1) _ _ _ rfl rfl hs.k0) rfl ⟨rfl,hs.below (aL.Le.refl _)⟩
theorem Mj (w:World){pg:Pg}(h:ej w a pg.sl)(dJ:kV pg.sl) :
  Calls Tryz.prog 140 #[.agg #[.int .i64 (pg).ak,(.slice a pg.sl.length cap),.string (pg).hi,.bool (pg).la,.int .u64 (pg).ri],.string key] w fun e w' => e=.returned (.tuple #[ug (jG pg.sl ((iE pg.sl key:Int)-1)),.bool (jG pg.sl ((iE pg.sl key:Int)-1)).isSome])/\Below w.heap.size w w' := by
 have hs:=(St.start w).made (.cells #[.int .i64 pg.ak,.slice a pg.sl.length cap,.string pg.hi,.bool pg.la,.int .u64 pg.ri] 43);have hs:=hs.made (.cells #[.string ⟨#[]⟩,.int .u64 0] 69);simp only[World.size_alloc]at hs;have hl:=h.1;have Q:=aq3 (fun W (hb:Below w.heap.size w W)=>nu (cap:=cap) (key:=key) W (h.same hb) dJ)
 have h1:=uf pg.sl key;have hh:=sZ (key:=key) dJ;have Q2:=aq3 (fun W (hb:Below w.heap.size w W)=>Ga (cap:=cap) (i:=(iE pg.sl key:Int)-1) W (by omega) (by omega) (h.same hb))
 generalize jG pg.sl ((iE pg.sl key:Int)-1)=so at *;obtain⟨m2,hm2⟩:∃m,m=iE pg.sl key:=⟨_,rfl⟩;obtain⟨m,hm⟩:∃m,m=gD pg.sl key:=⟨_,rfl⟩;obtain⟨n,hn⟩:∃n,n=pg.sl.length:=⟨_,rfl⟩;rw[←hm2,←hm,←hn]at Q;rw[←hm2,←hn]at Q2 h1;rw[←hm2,←hm]at hh;rw[←hn]at hs hl ⊢;have hle:m<=m2/\m2<=m+1:=by rcases hh with h|⟨h,_⟩ <;> omega
 clear hm hm2 hn h dJ hh;obtain⟨adT,vJ⟩:=hle;go_enter Tryz.func140,Tryz.ntmps140
 go_wp2_with fail
 refine(Q.out _ (hs.below (aL.Le.refl _))).mono ?_
 rintro e w1 ⟨rfl,hb⟩;have hs:=hs.same hb;clear hb Q;have k1:=hs.k1;by_cases hlt:m<m2
 ·obtain rfl:m2=m+1:=by omega
  rw[show((m+1:Nat):Int)-1=m by omega]at Q2
  go_wp2_with fail
  refine(Q2.out _ (hs.below (aL.Le.refl _))).mono ?_
  rintro e w2 ⟨rfl,hb⟩;have hs:=hs.same hb;clear hb Q2 k1;have k0:=hs.k0;have f0:=hs.f0;cases so with
  | none=>
   have hs:=(hs.aI 0 (.string ⟨#[]⟩)).aI 1 (.int .u64 0);simp only[List.set_cons_zero,List.set_cons_succ]at hs;simp only[ug];go_wp2
   refine bodyPost_ret (om _ _ (w.heap.size+1) _ _ _ rfl rfl hs.k0) rfl ⟨rfl,hs.below (aL.Le.refl _)⟩
  | some s=>
   have hs:=(hs.aI 0 (.string s.k)).aI 1 (.int .u64 s.r);simp only[List.set_cons_zero,List.set_cons_succ]at hs;simp only[ug];go_wp2
   refine bodyPost_ret (om _ _ (w.heap.size+1) _ _ _ rfl rfl hs.k0) rfl ⟨rfl,hs.below (aL.Le.refl _)⟩
 ·obtain rfl:m2=m:=by omega
  go_wp2_with fail
  refine(Q2.out _ (hs.below (aL.Le.refl _))).mono ?_
  rintro e w2 ⟨rfl,hb⟩;have hs:=hs.same hb;clear hb Q2 k1;have k0:=hs.k0;have f0:=hs.f0;cases so with
  | none=>
   have hs:=(hs.aI 0 (.string ⟨#[]⟩)).aI 1 (.int .u64 0);simp only[List.set_cons_zero,List.set_cons_succ]at hs;simp only[ug];go_wp2
   refine bodyPost_ret (om _ _ (w.heap.size+1) _ _ _ rfl rfl hs.k0) rfl ⟨rfl,hs.below (aL.Le.refl _)⟩
  | some s=>
   have hs:=(hs.aI 0 (.string s.k)).aI 1 (.int .u64 s.r);simp only[List.set_cons_zero,List.set_cons_succ]at hs;simp only[ug];go_wp2
   refine bodyPost_ret (om _ _ (w.heap.size+1) _ _ _ rfl rfl hs.k0) rfl ⟨rfl,hs.below (aL.Le.refl _)⟩
end
def eO (a b:ByteArray):Nat->Nat->ByteArray
 | 0,_=>⟨#[]⟩
 | f+1,n=>if cA a (b.extract 0 n)then b.extract 0 n else eO a b f (n+1)
def lY (a b:ByteArray):ByteArray:=eO a b (b.size+1) 0
theorem wZ:∀(x:List UInt8)(n:Nat),Op.bytesLess x (x.take n)=false
 | [],n=>by cases n <;> rfl
 | a::x,0=>rfl
 | a::x,n+1=>by simp[Op.bytesLess,wZ x n]
theorem Gb (b:ByteArray)(n:Nat):cA b (b.extract 0 n)=false:=by
 unfold cA;rw[ByteArray.toList_eq,ByteArray.toList_eq,ByteArray.data_extract];have:=wZ b.data.toList n;simpa using this
theorem Ay (b:ByteArray):b.extract 0 b.size=b:=by
 apply ByteArray.ext
 rw[ByteArray.data_extract];exact Array.extract_size
theorem uh {a b:ByteArray}(h:cA a b=true):∀(f n:Nat),n+f=b.size+1->0<f->cA a (eO a b f n)=true/\cA b (eO a b f n)=false
 | 0,n,_,h0=>by omega
 | f+1,n,hn,_=>by
  unfold eO;split
  ·rename_i hx
   exact⟨hx,Gb b n⟩
  ·rename_i hx
   rcases Nat.eq_zero_or_pos f with h0|h0
   ·subst h0
    have:n=b.size:=by omega
    subst this;rw[Ay]at hx;exact absurd h hx
   ·exact uh h f (n+1) (by omega) h0
theorem s5 {a b:ByteArray}(h:cA a b=true):cA a (lY a b)=true/\cA b (lY a b)=false:=uh h _ _ (by omega) (by omega)
theorem Gc (a b:ByteArray)(hb:b.size<=1000000)(w:World):Calls Tryz.prog 71 #[.string a,.string b] w fun e w' => e=.returned (.string (lY a b))/\w=w' := by
 obtain⟨r,hr⟩:∃r,r=lY a b:=⟨_,rfl⟩;rw[←hr];have Hr:=aq3 hr;clear hr;go_enter Tryz.func71,Tryz.ntmps71
 go_wp2
 go_loopw [5] (fun v5 wr=>∃n:Nat,v5=.int .i64 n/\n<=b.size+1/\Hid (r=eO a b (b.size+1-n) n)/\wr=w) (fun v5 _=>b.size+1-(intOf v5).toNat)
 case atStart=>exact⟨0,rfl,by omega,aq3 Hr.out,rfl⟩
 case round=>
  obtain⟨n,rfl,hn,HR,rfl⟩:=hrel;by_cases hlt:n<=b.size
  ·have e:r=if cA a (b.extract 0 n)then b.extract 0 n else eO a b (b.size+1-(n+1)) (n+1):=by
    rw[HR.out,show b.size+1-n=(b.size+1-(n+1))+1 by omega];rfl
   have hE:=aq3 e;clear e;cases hx:cA a (b.extract 0 n)with
   | true=>
    rw[hx]at hE;have h1:=jc hx;have h3:=jJ (Fy hx).symm;go_wp2
    go_ret;exact⟨by rw[hE.out];rfl,rfl⟩
   | false=>
    rw[hx]at hE;have vK:=aq3 (show r=eO a b (b.size+1-(n+1)) (n+1)from hE.out)
    cases hy:cA (b.extract 0 n) a with
    | true=>
     go_wp2
     go_roundw
     case rel=>exact⟨n+1,by go_num,by omega,vK,trivial⟩
     case measure=>simp[intOf];omega
    | false=>
     have hz:=gB hy hx;have h3:((b.extract 0 n).toList == a.toList)=true:=by rw[hz];exact beq_self_eq_true _
     clear hz;go_wp2
     go_roundw
     case rel=>exact⟨n+1,by go_num,by omega,vK,trivial⟩
     case measure=>simp[intOf];omega
  ·obtain rfl:n=b.size+1:=by omega
   rw[Nat.sub_self]at HR;go_wp2
   go_ret;exact⟨by rw[HR.out];rfl,rfl⟩
end
section
structure cT (d:aR)(id:Int)(L:List aO)(pg:Pg):Prop where
 n:(ah L (d.node id 1)).n=pg.sl.length
 ak:wrap64 (ah L (d.node id 1)).m=pg.ak
 hi:(ah L (d.node id 2)).k=pg.hi
 la:decide ((ah L (d.node id 2)).m=1)=pg.la
 ri:(ah L (d.node id 3)).n=pg.ri
 le:(pg.sl.length:Int)<=d.fa
 sl:∀(i:Nat) (s:Sl),pg.sl[i]?=some s->(ah L (d.slot id i)).k=s.k/\(ah L (d.slot id i)).n=s.r
section
variable {d:aR}{id:Int}{L:List aO}{pg:Pg}
theorem Rw (h:cT d id L pg):∀(m:Nat)(sl:List Sl)(s:jX),sl++pg.sl.drop sl.length=pg.sl->m=(pg.sl.drop sl.length).length->0<m->s.pc=4->s.left=m->s.pg=⟨pg.ak,sl,pg.hi,pg.la,pg.ri⟩ ->
  it (rdStep d id L) m s=⟨5,pg,0,s.word,s.t⟩:=by
 intro m;induction m with
 | zero=>intro sl s _ _ h0;omega
 | succ m ih=>
  intro sl s Gd hm _ pM jZ kW;obtain⟨pc,Ge,left,word,t⟩:=s;simp only at pM jZ kW;subst pM jZ kW;have hlt:sl.length<pg.sl.length:=by simp at hm;omega
  obtain⟨x,hx⟩:∃x,pg.sl[sl.length]?=some x:=⟨_,aq8 hlt⟩;obtain⟨hk,hr⟩:=h.sl _ _ hx;have hd:pg.sl.drop sl.length=x::pg.sl.drop (sl.length+1):=by
   rw[List.drop_eq_getElem_cons hlt];congr 1
   rw[aq8 hlt]at hx;exact aq9 hx
  have e:rdStep d id L ⟨4,⟨pg.ak,sl,pg.hi,pg.la,pg.ri⟩,m+1,word,t⟩=⟨if m=0 then 5 else 4,⟨pg.ak,sl++[x],pg.hi,pg.la,pg.ri⟩,m,word,t⟩:=by
   simp only[rdStep,Pg.push,hk,hr];rw[show m+1-1=m by omega]
  show it (rdStep d id L) m (rdStep d id L _)=_
  rw[e];have Rx:(sl++[x])++pg.sl.drop (sl++[x]).length=pg.sl:=by
   rw[List.length_append,List.length_singleton,List.append_assoc,List.singleton_append,←hd];exact Gd
  by_cases hm0:m=0
  ·subst hm0
   have hnil:pg.sl.drop (sl.length+1)=[]:=by
    rw[hd]at hm;simp only[List.length_cons]at hm;exact List.eq_nil_of_length_eq_zero (by omega)
   have:sl++[x]=pg.sl:=by
    rw[hd,hnil]at Gd;exact Gd
   rw[if_pos rfl,this];rfl
  ·rw[if_neg hm0]
   exact ih (sl++[x]) _ Rx (by rw[hd]at hm;simp only[List.length_cons]at hm;rw[List.length_append,List.length_singleton];omega) (by omega) rfl rfl rfl
theorem Ry {s:jX}(h:s.pc=6):rdStep d id L s=s:=by
 obtain⟨pc,pg,left,word,t⟩:=s;simp only at h;subst h;rfl
theorem Az (h:cT d id L pg)(hc:bW (ah L (d.node id 0)).n=false){s:jX}(hs:s.pc=0){N:Nat}(hN:pg.sl.length+5<=N) :
  (it (rdStep d id L) N s).pc=6/\(it (rdStep d id L) N s).pg=pg:=by
 obtain⟨pc,Ge,left,word,t⟩:=s;simp only at hs;subst hs;have jZ:leftOf d (ah L (d.node id 1))=pg.sl.length:=by
  have:=h.le;unfold leftOf;rw[h.n,Int.min_eq_left this];omega
 have e4:it (rdStep d id L) 4 ⟨0,Ge,left,word,t⟩=⟨if pg.sl.length=0 then 5 else 4,⟨pg.ak,[],pg.hi,pg.la,pg.ri⟩,pg.sl.length,(ah L (d.node id 0)).n,true⟩:=by
  show rdStep d id L (rdStep d id L (rdStep d id L (rdStep d id L ⟨0,Ge,left,word,t⟩)))=_
  have e0:rdStep d id L ⟨0,Ge,left,word,t⟩=⟨1,Ge,left,(ah L (d.node id 0)).n,true⟩:=by simp only[rdStep,hc];rfl
  rw[e0];simp only[rdStep,Pg.high,Pg.right,jZ,h.ak,h.hi,h.la,h.ri]
 have e5:it (rdStep d id L) (4+pg.sl.length) ⟨0,Ge,left,word,t⟩=⟨5,pg,0,(ah L (d.node id 0)).n,true⟩:=by
  rw[tZ,e4];by_cases h0:pg.sl.length=0
  ·have hnil:pg.sl=[]:=List.eq_nil_of_length_eq_zero h0
   rw[if_pos h0,h0];show(⟨5,⟨pg.ak,[],pg.hi,pg.la,pg.ri⟩,0,_,true⟩:jX)=_
   obtain⟨ak,sl,hi,la,ri⟩:=pg;simp only at hnil;subst hnil;rfl
  ·rw[if_neg h0]
   exact Rw h _ [] _ (by simp) (by simp) (by omega) rfl rfl rfl
 have e6:it (rdStep d id L) (4+pg.sl.length+1) ⟨0,Ge,left,word,t⟩=⟨6,pg,0,(ah L (d.node id 0)).n,true⟩:=by
  rw[qh,e5];simp only[rdStep];rw[if_pos (by simp)]
 have:=yc e6 (Ry rfl) (show 4+pg.sl.length+1<=N by omega)
 rw[this];exact⟨rfl,rfl⟩
end
section
variable {d:aR}{id:Int}{L:List aO}{pg:Pg}
theorem Xh (h:cT d id L pg)(hc:bW (ah L (d.node id 0)).n=false){s:jX}(hs:s.pc=0){n:Nat}(h6:(it (rdStep d id L) n s).pc<6):n<pg.sl.length+5:=by
 rcases Nat.lt_or_ge n (pg.sl.length+5)with h1|h1
 ·exact h1
 ·have:=(Az h hc hs h1).1
  omega
end
def nv (d:aR)(id:Int)(pg:Pg)(L:List aO):List aO:=
 aP (aP (aP L (d.node id 1) ⟨pg.sl.length,⟨#[]⟩,pg.ak⟩) (d.node id 2) ⟨0,pg.hi,b01 pg.la⟩) (d.node id 3) ⟨pg.ri,⟨#[]⟩,0⟩
def j4 (d:aR)(id:Int):Nat->List Sl->List aO->List aO
 | _,[],L=>L
 | i,s::sl,L=>j4 d id (i+1) sl (aP L (d.node id (4+i)) ⟨s.r,s.k,0⟩)
def eZ (d:aR)(id:Int)(pg:Pg)(L:List aO):List aO:=j4 d id 0 pg.sl (nv d id pg L)
section
variable {K:aL}{w:World}{F:List aC}{pg:Pg}{a:Option Addr}{cap:Nat}{d:aR}{id:Int}{bm bc:Nat}{L:List aO}{acc:Nat}
theorem ui (hd:d.Ok)(hid:0<=id/\id<18446744073709551616)(bZ:0<=pg.ak/\pg.ak<1000000)(hle:(pg.sl.length:Int)<=d.fa)
  (eY:∀W,St K W F->ej W a pg.sl) (hs:St K w (aJ bm bc L acc::F)) :
  Calls Tryz.prog 35 #[.agg #[.int .i64 d.th,.int .i64 d.sn,.int .i64 d.no,.int .i64 d.ch,.int .i64 d.re,.int .i64 d.fa,.int .u64 d.cl],.pointer (some ⟨bm,0,none⟩),.int .u64 id,.agg #[.int .i64 (pg).ak,(.slice a pg.sl.length cap),.string (pg).hi,.bool (pg).la,.int .u64 (pg).ri]] w fun e w' => e=.returned (.tuple #[]) /\
   St K w' (aJ bm bc (eZ d id pg L) acc::F):=by
 have s6:=aq3 eY;clear eY;obtain⟨n,hn⟩:∃n,n=pg.sl.length:=⟨_,rfl⟩;have rO:=hd.mK;have Qn:=aq3 (fun(k:Int) (hk:0<=k/\k<d.fa+4) w=>mZ d hd id k hid.1 hid.2 hk.1 hk.2 w)
 have e3:nv d id pg L=aP (aP (aP L (d.node id 1) ⟨n,⟨#[]⟩,pg.ak⟩) (d.node id 2) ⟨0,pg.hi,b01 pg.la⟩) (d.node id 3) ⟨pg.ri,⟨#[]⟩,0⟩:=by unfold nv;rw[hn]
 obtain⟨Le,hLe⟩:∃Le,Le=eZ d id pg L:=⟨_,rfl⟩;rw[←hn]at hle ⊢;rw[←hLe];obtain⟨o,ho⟩:∃o,o=pg.la:=⟨_,rfl⟩;rw[←ho]at e3 ⊢;have Hn:=aq3 hn;have HLe:=aq3 hLe;have E3:=aq3 e3;clear hn hLe e3 ho;cases o with
 | true=>
  have hs:=(hs.made (.cells #[.int .i64 d.th,.int .i64 d.sn,.int .i64 d.no,.int .i64 d.ch,.int .i64 d.re,.int .i64 d.fa,.int .u64 d.cl] 26)).made (.cells #[.int .i64 pg.ak,.slice a n cap,.string pg.hi,.bool true,.int .u64 pg.ri] 43);rw[World.size_alloc]at hs;have hs:=hs.b2;go_enter Tryz.func35,Tryz.ntmps35
  go_upto_region 1 with(fail)
  refine cP hs ?_
  generalize w.heap.size+1=bp at *;generalize w.heap.size=vz at *;clear hs;intro W hs;have kp:=hs.k1;have kc:=hs.k2;refine bQ 12 (by kernel_rfl) (by as_aux_lemma=>kernel_rfl) ?_
  simp only[List.take_succ_cons,List.take_zero,List.drop_succ_cons,List.drop_zero];repeat (go_big_quiet_step ((go_at_call 21;exact aX (Qn.out _ (by omega) _))))
  refine wpQuiet_nil ?_
  intro w5 hb5;have hs:=hs.same hb5;clear kp kc hb5;go_wp2_with fail
  refine(gy (c:=⟨n,⟨#[]⟩,pg.ak⟩) hs).mono ?_
  clear hs;rintro e w6 ⟨rfl,hs⟩;have kp:=hs.k1;have kp2:=(hs.made (.cells #[.int .u64 0,.string pg.hi,.int .u64 0] 63)).k2;have kh2:=(hs.made (.cells #[.int .u64 0,.string pg.hi,.int .u64 0] 63)).k0;have fh2:=(hs.made (.cells #[.int .u64 0,.string pg.hi,.int .u64 0] 63)).f0;have hs:=hs.made (.cells #[.int .u64 0,.string pg.hi,.int .u64 1] 63);go_upto_region 5 with(fail)
  refine cP hs ?_
  generalize w6.heap.size=bh at *;clear hs kp kp2 kh2 fh2;intro W2 hs;have kh:=hs.k0;have kc:=hs.tail.k2;refine bQ 5 (by kernel_rfl) (by as_aux_lemma=>kernel_rfl) ?_
  simp only[List.take_succ_cons,List.take_zero,List.drop_succ_cons,List.drop_zero];repeat (go_big_quiet_step ((go_at_call 21;exact aX (Qn.out _ (by omega) _))))
  refine wpQuiet_nil ?_
  intro w7 Zu;have hs:=(hs.same Zu).b1;clear kh kc Zu;go_wp2_with fail
  refine(gy (c:=⟨0,pg.hi,1⟩) hs).mono ?_
  clear hs;rintro e w8 ⟨rfl,hs⟩;have hs:=hs.bY;have kp:=hs.k1;have kc:=hs.k2;go_upto_region 6 with(fail)
  refine bQ 7 (by kernel_rfl) (by as_aux_lemma=>kernel_rfl) ?_
  simp only[List.take_succ_cons,List.take_zero,List.drop_succ_cons,List.drop_zero];repeat (go_big_quiet_step ((go_at_call 21;exact aX (Qn.out _ (by omega) _))))
  refine wpQuiet_nil ?_
  intro w9 Zv;have hs:=hs.same Zv;clear kp kc Zv;go_wp2_with fail
  refine(gy (c:=⟨pg.ri,⟨#[]⟩,0⟩) hs).mono ?_
  clear hs;rintro e w10 ⟨rfl,hs⟩;have e3:=E3.out;rw[show b01 true=1 from rfl]at e3
  rw[←e3]at hs;clear e3;go_wp2
  go_loopw [9] (fun v wr=>∃(i:Nat) (L2:List aO),i<=n/\v=.int .i64 i/\Le=j4 d id i (pg.sl.drop i) L2 /\
   St K wr (aJ bm bc L2 acc::blk bp (.cells #[.int .i64 pg.ak,.slice a n cap,.string pg.hi,.bool true,.int .u64 pg.ri] 43)::blk vz (.cells #[.int .i64 d.th,.int .i64 d.sn,.int .i64 d.no,.int .i64 d.ch,.int .i64 d.re,.int .i64 d.fa,.int .u64 d.cl] 26)::F)) (fun v _=>n-(intOf v).toNat)
  case atStart=>exact⟨0,nv d id pg L,by omega,rfl,HLe.out,hs⟩
  case round=>
   clear hs;obtain⟨i,L2,hi,rfl,hL2,hs⟩:=hrel;have HL2:=aq3 hL2;clear hL2;have kp:=hs.k1;have kc:=hs.k2;by_cases hlt:i<n
   ·have hl':i<pg.sl.length:=by rw[←Hn.out];exact hlt
    have eY:=s6.out _ hs.tail.tail.tail;obtain⟨b1,off1,rfl,_,c0,c1⟩:=eY.2 i pg.sl[i] (aq8 hl');have hd2:pg.sl.drop i=pg.sl[i]::pg.sl.drop (i+1):=List.drop_eq_getElem_cons hl';have hnext:Le=j4 d id (i+1) (pg.sl.drop (i+1)) (aP L2 (d.node id (4+(i:Int))) ⟨pg.sl[i].r,pg.sl[i].k,0⟩):=by rw[HL2.out,hd2];rfl
    have Hx:=aq3 hnext;generalize pg.sl[i]=u at *;clear hl' eY hd2 hnext;go_upto_region 10 with(fail)
    refine bQ 19 (by kernel_rfl) (by as_aux_lemma=>kernel_rfl) ?_
    simp only[List.take_succ_cons,List.take_zero,List.drop_succ_cons,List.drop_zero];repeat (go_big_quiet_step ((go_at_call 21;exact aX (Qn.out _ (by omega) _))))
    refine wpQuiet_nil ?_
    intro w11 Rz;have hs:=hs.same Rz;clear kp kc c0 c1 Rz;go_wp2_with fail
    refine(gy (c:=⟨u.r,u.k,0⟩) hs).mono ?_
    clear hs;rintro e w12 ⟨rfl,hs⟩;go_wp2
    go_roundw
    case rel=>exact⟨i+1,_,by omega,by go_num,Hx.out,hs⟩
    case measure=>simp[intOf];omega
   ·obtain rfl:i=n:=by omega
    have e:Le=L2:=by rw[HL2.out,List.drop_eq_nil_of_le (by rw[←Hn.out];exact Nat.le_refl _)];rfl
    rw[←e]at hs;clear e;go_wp2
    go_end0
    exact⟨rfl,hs.bY.bY⟩
 | false=>
  have hs:=(hs.made (.cells #[.int .i64 d.th,.int .i64 d.sn,.int .i64 d.no,.int .i64 d.ch,.int .i64 d.re,.int .i64 d.fa,.int .u64 d.cl] 26)).made (.cells #[.int .i64 pg.ak,.slice a n cap,.string pg.hi,.bool false,.int .u64 pg.ri] 43);rw[World.size_alloc]at hs;have hs:=hs.b2;go_enter Tryz.func35,Tryz.ntmps35
  go_upto_region 1 with(fail)
  refine cP hs ?_
  generalize w.heap.size+1=bp at *;generalize w.heap.size=vz at *;clear hs;intro W hs;have kp:=hs.k1;have kc:=hs.k2;refine bQ 12 (by kernel_rfl) (by as_aux_lemma=>kernel_rfl) ?_
  simp only[List.take_succ_cons,List.take_zero,List.drop_succ_cons,List.drop_zero];repeat (go_big_quiet_step ((go_at_call 21;exact aX (Qn.out _ (by omega) _))))
  refine wpQuiet_nil ?_
  intro w5 hb5;have hs:=hs.same hb5;clear kp kc hb5;go_wp2_with fail
  refine(gy (c:=⟨n,⟨#[]⟩,pg.ak⟩) hs).mono ?_
  clear hs;rintro e w6 ⟨rfl,hs⟩;have kp:=hs.k1;have hs:=hs.made (.cells #[.int .u64 0,.string pg.hi,.int .u64 0] 63);have kp2:=hs.k2;go_upto_region 5 with(fail)
  refine cP hs ?_
  generalize w6.heap.size=bh at *;clear hs kp kp2;intro W2 hs;have kh:=hs.k0;have kc:=hs.tail.k2;refine bQ 5 (by kernel_rfl) (by as_aux_lemma=>kernel_rfl) ?_
  simp only[List.take_succ_cons,List.take_zero,List.drop_succ_cons,List.drop_zero];repeat (go_big_quiet_step ((go_at_call 21;exact aX (Qn.out _ (by omega) _))))
  refine wpQuiet_nil ?_
  intro w7 Zu;have hs:=(hs.same Zu).b1;clear kh kc Zu;go_wp2_with fail
  refine(gy (c:=⟨0,pg.hi,0⟩) hs).mono ?_
  clear hs;rintro e w8 ⟨rfl,hs⟩;have hs:=hs.bY;have kp:=hs.k1;have kc:=hs.k2;go_upto_region 6 with(fail)
  refine bQ 7 (by kernel_rfl) (by as_aux_lemma=>kernel_rfl) ?_
  simp only[List.take_succ_cons,List.take_zero,List.drop_succ_cons,List.drop_zero];repeat (go_big_quiet_step ((go_at_call 21;exact aX (Qn.out _ (by omega) _))))
  refine wpQuiet_nil ?_
  intro w9 Zv;have hs:=hs.same Zv;clear kp kc Zv;go_wp2_with fail
  refine(gy (c:=⟨pg.ri,⟨#[]⟩,0⟩) hs).mono ?_
  clear hs;rintro e w10 ⟨rfl,hs⟩;have e3:=E3.out;rw[show b01 false=0 from rfl]at e3
  rw[←e3]at hs;clear e3;go_wp2
  go_loopw [9] (fun v wr=>∃(i:Nat) (L2:List aO),i<=n/\v=.int .i64 i/\Le=j4 d id i (pg.sl.drop i) L2 /\
   St K wr (aJ bm bc L2 acc::blk bp (.cells #[.int .i64 pg.ak,.slice a n cap,.string pg.hi,.bool false,.int .u64 pg.ri] 43)::blk vz (.cells #[.int .i64 d.th,.int .i64 d.sn,.int .i64 d.no,.int .i64 d.ch,.int .i64 d.re,.int .i64 d.fa,.int .u64 d.cl] 26)::F)) (fun v _=>n-(intOf v).toNat)
  case atStart=>exact⟨0,nv d id pg L,by omega,rfl,HLe.out,hs⟩
  case round=>
   clear hs;obtain⟨i,L2,hi,rfl,hL2,hs⟩:=hrel;have HL2:=aq3 hL2;clear hL2;have kp:=hs.k1;have kc:=hs.k2;by_cases hlt:i<n
   ·have hl':i<pg.sl.length:=by rw[←Hn.out];exact hlt
    have eY:=s6.out _ hs.tail.tail.tail;obtain⟨b1,off1,rfl,_,c0,c1⟩:=eY.2 i pg.sl[i] (aq8 hl');have hd2:pg.sl.drop i=pg.sl[i]::pg.sl.drop (i+1):=List.drop_eq_getElem_cons hl';have hnext:Le=j4 d id (i+1) (pg.sl.drop (i+1)) (aP L2 (d.node id (4+(i:Int))) ⟨pg.sl[i].r,pg.sl[i].k,0⟩):=by rw[HL2.out,hd2];rfl
    have Hx:=aq3 hnext;generalize pg.sl[i]=u at *;clear hl' eY hd2 hnext;go_upto_region 10 with(fail)
    refine bQ 19 (by kernel_rfl) (by as_aux_lemma=>kernel_rfl) ?_
    simp only[List.take_succ_cons,List.take_zero,List.drop_succ_cons,List.drop_zero];repeat (go_big_quiet_step ((go_at_call 21;exact aX (Qn.out _ (by omega) _))))
    refine wpQuiet_nil ?_
    intro w11 Rz;have hs:=hs.same Rz;clear kp kc c0 c1 Rz;go_wp2_with fail
    refine(gy (c:=⟨u.r,u.k,0⟩) hs).mono ?_
    clear hs;rintro e w12 ⟨rfl,hs⟩;go_wp2
    go_roundw
    case rel=>exact⟨i+1,_,by omega,by go_num,Hx.out,hs⟩
    case measure=>simp[intOf];omega
   ·obtain rfl:i=n:=by omega
    have e:Le=L2:=by rw[HL2.out,List.drop_eq_nil_of_le (by rw[←Hn.out];exact Nat.le_refl _)];rfl
    rw[←e]at hs;clear e;go_wp2
    go_end0
    exact⟨rfl,hs.bY.bY⟩
theorem xa (hd:d.Ok)(hid:0<=id/\id<18446744073709551616)(bZ:0<=pg.ak/\pg.ak<1000000)(hle:(pg.sl.length:Int)<=d.fa)
  (hs:St K w (aJ bm bc L acc::az (.slice a pg.sl.length cap) 69 2 pg.sl.length (aD pg.sl)::F)) :
  Calls Tryz.prog 35 #[.agg #[.int .i64 d.th,.int .i64 d.sn,.int .i64 d.no,.int .i64 d.ch,.int .i64 d.re,.int .i64 d.fa,.int .u64 d.cl],.pointer (some ⟨bm,0,none⟩),.int .u64 id,.agg #[.int .i64 (pg).ak,(.slice a pg.sl.length cap),.string (pg).hi,.bool (pg).la,.int .u64 (pg).ri]] w fun e w' => e=.returned (.tuple #[]) /\
   St K w' (aJ bm bc (eZ d id pg L) acc::az (.slice a pg.sl.length cap) 69 2 pg.sl.length (aD pg.sl)::F):=by
 have hf:=hd.mK;exact ui hd hid bZ hle (fun W h=>h.cO (by omega)) hs
end
section
variable {d:aR}(hd:d.Ok){id:Int}(h1:1<=id)(h2:id<=d.no)
include hd h1 h2
theorem bV {k:Int}(hk:0<=k)(hk2:k<d.fa+4):d.node id k=d.A+(id-1)*(d.fa+4)+k/\0<=d.node id k/\d.node id k<d.cells:=by
 have e:d.node id k=d.A+(id-1)*(d.fa+4)+k:=by unfold aR.node;rw[if_pos ⟨h1,h2⟩]
 have hA:=hd.eC;have hB:=hd.jU;have hC:=hd.ox;have hcl:=hd.eb;have f1:=hd.fo;have m1:(id-1)*(d.fa+4)+(d.fa+4)=id*(d.fa+4):=by rw[Int.sub_mul];omega
 have m2:id*(d.fa+4)<=d.no*(d.fa+4):=Int.mul_le_mul_of_nonneg_right h2 (by omega)
 have m3:0<=(id-1)*(d.fa+4):=Int.mul_nonneg (by omega) (by omega)
 have eB:d.B=d.A+d.no*(d.fa+4):=rfl;refine⟨e,by omega,?_⟩
 have:d.B<=d.cells:=by unfold aR.cells aR.C;have:=hd.ch1;have:=hd.Zr;omega
 omega
theorem dw {k k':Int}(hk:0<=k)(hk2:k<d.fa+4)(hk':0<=k')(abb:k' < d.fa+4)(h:k≠k'):d.node id k≠d.node id k' := by
 have a:=bV hd h1 h2 hk hk2;have b:=bV hd h1 h2 hk' abb;omega
omit hd h1 h2 in
theorem yg:∀(sl:List Sl)(i:Nat)(L:List aO),(j4 d id i sl L).length=L.length:=by
 intro sl;induction sl with
 | nil=>intro i L;rfl
 | cons s sl ih=>intro i L;show(j4 d id (i+1) sl _).length=_;rw[ih,aY]
omit hd h1 h2 in
theorem eP:∀(sl:List Sl)(i:Nat)(L:List aO)(j:Int),(∀k:Nat,i<=k->k<i+sl.length->j≠d.node id (4+(k:Int)))->ah (j4 d id i sl L) j=ah L j:=by
 intro sl;induction sl with
 | nil=>intro i L j _;rfl
 | cons s sl ih=>
  intro i L j h;show ah (j4 d id (i+1) sl _) j=_
  rw[ih (i+1) _ j (fun k a b=>h k (by omega) (by simp;omega))]
  exact bj (h i (by omega) (by simp))
theorem Sa:∀(sl:List Sl)(i:Nat)(L:List aO),(L.length:Int)=d.cells->(i+sl.length:Int)<=d.fa->∀(m:Nat)(s:Sl),sl[m]?=some s->ah (j4 d id i sl L) (d.node id (4+((i+m:Nat):Int)))=⟨s.r,s.k,0⟩:=by
 intro sl;induction sl with
 | nil=>intro i L _ _ m s h;simp at h
 | cons x sl ih=>
  intro i L hlen hle m s h;simp only[List.length_cons]at hle;show ah (j4 d id (i+1) sl (aP L (d.node id (4+(i:Int))) ⟨x.r,x.k,0⟩)) _=_
  cases m with
  | zero=>
   simp only[List.getElem?_cons_zero,Option.some.injEq]at h;subst h;have hi:=bV hd h1 h2 (k:=4+(i:Int)) (by omega) (by omega)
   rw[eP _ _ _ _ (fun k a b=>by
    simp only[Nat.add_zero];exact dw hd h1 h2 (by omega) (by omega) (by omega) (by omega) (by omega))]
   rw[Nat.add_zero];exact cB hi.2.1 (by omega)
  | succ m=>
   rw[show i+(m+1)=(i+1)+m by omega]
   exact ih (i+1) _ (by rw[aY];exact hlen) (by omega) m s (by simpa using h)
theorem Sb {L:List aO}{pg:Pg}(hlen:(L.length:Int)=d.cells)(bZ:0<=pg.ak/\pg.ak<1000000)(hle:(pg.sl.length:Int)<=d.fa):cT d id (eZ d id pg L) pg:=by
 have f1:=hd.fo;have n1:=bV hd h1 h2 (k:=1) (by omega) (by omega)
 have n2:=bV hd h1 h2 (k:=2) (by omega) (by omega)
 have n3:=bV hd h1 h2 (k:=3) (by omega) (by omega)
 have ne:∀(k:Int) (m:Nat),0<=k->k<=3->0<=m->m<0+pg.sl.length->d.node id k≠d.node id (4+(m:Int)):=fun k m a b _ c=>dw hd h1 h2 a (by omega) (by omega) (by omega) (by omega)
 have e1:ah (eZ d id pg L) (d.node id 1)=⟨pg.sl.length,⟨#[]⟩,pg.ak⟩:=by
  unfold eZ;rw[eP _ _ _ _ (fun k a b=>ne 1 k (by omega) (by omega) a b)]
  unfold nv;rw[bj (dw hd h1 h2 (by omega) (by omega) (by omega) (by omega) (by omega)),bj (dw hd h1 h2 (by omega) (by omega) (by omega) (by omega) (by omega)),cB n1.2.1 (by omega)]
 have e2:ah (eZ d id pg L) (d.node id 2)=⟨0,pg.hi,b01 pg.la⟩:=by
  unfold eZ;rw[eP _ _ _ _ (fun k a b=>ne 2 k (by omega) (by omega) a b)]
  unfold nv;rw[bj (dw hd h1 h2 (by omega) (by omega) (by omega) (by omega) (by omega)),cB n2.2.1 (by rw[aY];omega)]
 have e3:ah (eZ d id pg L) (d.node id 3)=⟨pg.ri,⟨#[]⟩,0⟩:=by
  unfold eZ;rw[eP _ _ _ _ (fun k a b=>ne 3 k (by omega) (by omega) a b)]
  unfold nv;rw[cB n3.2.1 (by rw[aY,aY];omega)]
 refine⟨by rw[e1],?_,by rw[e2],?_,by rw[e3],hle,fun i s hs=>?_⟩
 ·rw[e1];show wrap64 pg.ak=pg.ak
  unfold wrap64;omega
 ·rw[e2];cases pg.la <;> rfl
 ·have hi:i<pg.sl.length:=(aq5.1 hs).1
  have es:d.slot id i=d.node id (4+((0+i:Nat):Int)):=by
   unfold aR.slot;rw[if_pos ⟨by omega,by omega⟩,Nat.zero_add]
  rw[es];unfold eZ;have hl3:((nv d id pg L).length:Int)=d.cells:=by unfold nv;rw[aY,aY,aY];exact hlen
  rw[Sa hd h1 h2 pg.sl 0 _ hl3 (by omega) i s hs]
  exact⟨rfl,rfl⟩
end
theorem Gf {x:Int}(h0:0<=x)(h1:x<18446744073709551616):0<=bE x/\bE x<18446744073709551616:=by
 unfold bE;split <;> omega
theorem Sc {d:aR}{id:Int}:∀(sl:List Sl)(i:Nat)(L:List aO),bD L->(∀s,s∈sl->0<=s.r/\s.r<18446744073709551616)->bD (j4 d id i sl L):=by
 intro sl;induction sl with
 | nil=>intro i L h _;exact h
 | cons s sl ih=>
  intro i L h hr;exact ih (i+1) _ (h.put (hr s (by simp))) (fun s' hs' => hr s' (by simp[hs']))
theorem Sd {d:aR}{id:Int}{pg:Pg}{L:List aO}(h:bD L)(hle:(pg.sl.length:Int)<=1000000)(mF:0<=pg.ri/\pg.ri<18446744073709551616)(hr:∀s,s∈pg.sl->0<=s.r/\s.r<18446744073709551616):bD (eZ d id pg L):=by
 unfold eZ nv;refine Sc _ _ _ ?_ hr;refine bD.put (bD.put (bD.put h ⟨?_,?_⟩) ⟨?_,?_⟩) mF
 ·show(0:Int)<=pg.sl.length;omega
 ·show(pg.sl.length:Int)<_;omega
 ·show(0:Int)<=0;omega
 ·show(0:Int)<_;omega
theorem lZ {d:aR}{id:Int}{pg:Pg}{L:List aO}:(eZ d id pg L).length=L.length:=by
 unfold eZ nv;rw[yg,aY,aY,aY]
section
variable {d:aR}(hd:d.Ok){id:Int}(h1:1<=id)(h2:id<=d.no)
include hd h1 h2
theorem cT.wR {L:List aO}{pg:Pg}{c:aO}(h:cT d id L pg):cT d id (aP L (d.node id 0) c) pg:=by
 have f1:=hd.fo;have ne:∀k:Int,1<=k->k<d.fa+4->ah (aP L (d.node id 0) c) (d.node id k)=ah L (d.node id k):=fun k a b=>bj (dw hd h1 h2 (by omega) b (by omega) (by omega) (by omega))
 refine⟨by rw[ne 1 (by omega) (by omega)];exact h.n,by rw[ne 1 (by omega) (by omega)];exact h.ak,by rw[ne 2 (by omega) (by omega)];exact h.hi,by rw[ne 2 (by omega) (by omega)];exact h.la,by rw[ne 3 (by omega) (by omega)];exact h.ri,h.le,fun i s hs=>?_⟩
 have hi:i<pg.sl.length:=(aq5.1 hs).1;have:=h.le;have es:d.slot id i=d.node id (4+(i:Int)):=by
  unfold aR.slot;rw[if_pos ⟨by omega,by omega⟩]
 rw[es,ne _ (by omega) (by omega),←es]
 exact h.sl i s hs
end
section
variable {d:aR}{id:Int}{L:List aO}{pg:Pg}
theorem Xi (h:cT d id L pg)(hc:bW (ah L (d.node id 0)).n=false){s:jX}(hs:s.pc=0){n:Nat}(h6:(it (rdStep d id L) n s).pc=6):(it (rdStep d id L) n s).pg=pg:=by
 have h3:=Az h hc hs (N:=n+(pg.sl.length+5)) (by omega)
 rw[tZ,Fp (Ry h6)]at h3;exact h3.2
theorem abc (hd:d.Ok)(hL:bD L){s:jX}(h:s.Ok d)(n:Nat):(it (rdStep d id L) n s).Ok d:=by
 induction n with
 | zero=>exact h
 | succ n ih=>rw[qh];exact oh hd hL ih
theorem oV (hd:d.Ok):cT d 1 (ck d) ⟨0,[],⟨#[]⟩,true,0⟩/\(ah (ck d) (d.node 1 0))=aO.zero/\bD (ck d)/\((ck d).length:Int)=d.cells:=by
 obtain⟨p1,p2,p3⟩:=iy d hd;have f1:=hd.fo;have n1:=hd.Jo;have hA:=hd.eC;have hcl:=hd.eb;have n:∀k:Int,0<=k->k<d.fa+4->d.node 1 k=d.A+k:=fun k a b=>by
  have:=(bV hd (id:=1) (by omega) n1 a b).1
  omega
 have z:∀k:Int,0<=k->k<d.fa+4->k≠2->ah (ck d) (d.node 1 k)=aO.zero:=by
  intro k a b c;have e2:=n 2 (by omega) (by omega)
  have ek:=n k a b;rw[p3 _ (by omega),if_neg (by omega),if_neg (by omega),if_neg (by omega)]
 have e2:ah (ck d) (d.node 1 2)=⟨0,⟨#[]⟩,1⟩:=by rw[p3 _ (by omega),if_pos rfl]
 refine⟨⟨by rw[z 1 (by omega) (by omega) (by omega)];rfl,by rw[z 1 (by omega) (by omega) (by omega)];show wrap64 0=0;unfold wrap64;omega,by rw[e2],by rw[e2];rfl,by rw[z 3 (by omega) (by omega) (by omega)];rfl,by simp;omega,fun i s hs=>by simp at hs⟩,z 0 (by omega) (by omega) (by omega),fun k=>?_,by rw[p1];have:=hd.eC;have h5:=hd.jU;have h6:=hd.ox;omega⟩
 by_cases hk:0<=k
 ·rw[p3 k hk]
  split
  ·exact⟨by decide,by decide⟩
  ·split
   ·exact⟨by decide,by decide⟩
   ·split <;> exact⟨by decide,by decide⟩
 ·rw[qi (by omega)];exact⟨by decide,by decide⟩
end
end
end Go.Proofs.YtlpdhhhgckpcfaaGreat
