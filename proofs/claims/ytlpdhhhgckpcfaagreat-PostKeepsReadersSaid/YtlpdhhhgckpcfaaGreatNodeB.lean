/- The reader of a node (package node). -/
import Derived.Test.YtlpdhhhgckpcfaaGreatBaseA
import Derived.Test.YtlpdhhhgckpcfaaGreatTailC
import Derived.Deep.RegionWith
import Derived.ProofKit
import Derived.Lib.SmallJoins
import Derived.Deep.Slices
namespace Go.Proofs.YtlpdhhhgckpcfaaGreat
set_option linter.unusedSimpArgs false
set_option linter.unusedVariables false
open Go.RowKit
set_option maxHeartbeats 16000000
set_option maxRecDepth 100000
section
structure Sl where
 k:ByteArray
 r:Int
structure Pg where
 aA:Int
 sl:List Sl
 hi:ByteArray
 la:Bool
 ri:Int
def iz (s:Sl):List Value:=[.string s.k,.int .u64 s.r]
def aF (l:List Sl):List Value:=l.flatMap iz
theorem fX (l:List Sl):(aF l).length=l.length*2:=by
 induction l with
 | nil=>rfl
 | cons s l ih=>rw[show aF (s::l)=iz s++aF l from rfl,List.length_append,ih];simp[iz];omega
def aW (nx:Value)(d:aU)(id:Int)(pg:Pg)(va:Value)(left:Nat)(th:Value)(word:Int):List Value:=
 [nx,.bool true,.int .i64 d.th,.int .i64 d.sn,.int .i64 d.no,.int .i64 d.ch,.int .i64 d.re,.int .i64 d.fa,.int .u64 d.cl,.int .u64 id,.int .i64 pg.aA,va,.string pg.hi,.bool pg.la,.int .u64 pg.ri,.int .i64 left,th,.int .u64 word]
theorem ic:(Tryz.prog.info? 69).map (fun i=>(i.zero,i.size,i.bytes))=some (some (.agg #[.string ⟨#[]⟩,.int .u64 0]),2,24):=by kernel_rfl
theorem Gf (v0 v1 v2 v3 v4 v5 v6:Value)(w:World):(Instr.field 26 (.agg #[v0,v1,v2,v3,v4,v5,v6]) 5).run Tryz.prog w=.ok v5 w:=by kernel_rfl
attribute [go_sem] Gf
section
variable {K:aM}{w:World}{F:List aC}{b bm bc:Nat}{L:List aQ}{acc:Nat}{nx va:Value}{d:aU}{id:Int}{pg:Pg}{left:Nat}{th:Option FV}{word:Int}{T:TypeId}
def lg (b left:Nat)(th:Option FV):Option FV:=if left=0 then th else some ⟨195, #[.pointer (some ⟨b,2,none⟩)], #[]⟩
theorem Kk (c:St K w (blk b (.cells (aW nx d id pg va left (aY th) word).toArray T)::F)) :
  Calls Tryz.prog 194 #[.pointer (some ⟨b,2,none⟩)] w fun e w' => e=.returned (aY (lg b left th))/\St K w' (blk b (.cells (aW nx d id pg va left (aY th) word).toArray T)::F):=by
 have k:=c.k0;unfold aW at k;by_cases h:left=0
 ·have e:lg b left th=th:=by unfold lg;rw[if_pos h]
  rw[e];have g:((left:Int) == 0)=true:=by simp[h]
  clear h e;cases th with
  | none=>
   go_enter Tryz.func194,Tryz.ntmps194
   go_wp2
   exact bodyPost_ret (v:=aY none) (results_tmp (fn:=Tryz.f194) (t:=2) rfl _ _ _) rfl ⟨rfl,c⟩
  | some s=>
   obtain⟨f,x,y⟩:=s;have k:∀(k:Nat),w.cell? ⟨b,k,none⟩= #[nx,.bool true,.int .i64 d.th,.int .i64 d.sn,.int .i64 d.no,.int .i64 d.ch,.int .i64 d.re,.int .i64 d.fa,.int .u64 d.cl,.int .u64 id,.int .i64 pg.aA,va,.string pg.hi,.bool pg.la,.int .u64 pg.ri,.int .i64 left,.func (.func f) x y,.int .u64 word][k]? := k;go_enter Tryz.func194,Tryz.ntmps194
   go_wp2
   exact bodyPost_ret (v:= .func (.func f) x y) (results_tmp (fn:=Tryz.f194) (t:=2) rfl _ _ _) rfl ⟨rfl,c⟩
 ·have e:lg b left th=some ⟨195, #[.pointer (some ⟨b,2,none⟩)], #[]⟩:=by unfold lg;rw[if_neg h]
  rw[e];have g:(left == 0)=false:=by simpa using h
  have h2:((left:Int) == 0)=false:=by simp;omega
  clear h e;go_enter Tryz.func194,Tryz.ntmps194
  go_wp2
  go_ret;exact⟨rfl,c⟩
theorem Su {g:Value}(c:St K w (blk b (.cells (aW nx d id pg va left g word).toArray T)::F)) :
  Calls Tryz.prog 153 #[.pointer (some ⟨b,2,none⟩),aY th] w fun e w' => e=.returned (.func (.func 181) #[.pointer (some ⟨b,2,none⟩)] #[])/\St K w' (blk b (.cells (aW nx d id pg va left (aY th) word).toArray T)::F):=by
 have k:=c.k0;have h:=c.f0;unfold aW at k;cases th with
 | none=>
  have c:=c.aK 16 .nilFunc;simp only[aW,List.set_cons_zero,List.set_cons_succ]at c;have q:Calls Tryz.prog 153 #[.pointer (some ⟨b,2,none⟩),.nilFunc] w fun e w' => e=.returned (.func (.func 181) #[.pointer (some ⟨b,2,none⟩)] #[])/\St K w' (blk b (.cells (aW nx d id pg va left .nilFunc word).toArray T)::F):=by
   go_enter Tryz.func153,Tryz.ntmps153
   go_wp2
   go_ret;exact⟨rfl,c⟩
  exact q
 | some s=>
  obtain⟨f,x,y⟩:=s;have c:=c.aK 16 (.func (.func f) x y);simp only[aW,List.set_cons_zero,List.set_cons_succ]at c;have q:Calls Tryz.prog 153 #[.pointer (some ⟨b,2,none⟩),.func (.func f) x y] w fun e w' => e=.returned (.func (.func 181) #[.pointer (some ⟨b,2,none⟩)] #[])/\St K w' (blk b (.cells (aW nx d id pg va left (.func (.func f) x y) word).toArray T)::F):=by
   go_enter Tryz.func153,Tryz.ntmps153
   go_wp2
   go_ret;exact⟨rfl,c⟩
  exact q
end
section
variable {K:aM}{w:World}{F:List aC}{b bm bc:Nat}{L:List aQ}{acc:Nat}{nx va:Value}{d:aU}{id:Int}{pg:Pg}{left:Nat}{th:Option FV}{word:Int}{T:TypeId}
def leftOf (d:aU)(c:aQ):Nat:=(min c.n d.fa).toNat
theorem Kl (hd:d.Ok)(hid:0<=id/\id<18446744073709551616)(B:acc<=1000000000000)(C:0<=(ah L (d.node id 1)).n/\(ah L (d.node id 1)).n<18446744073709551616)
  (g:St K w (blk b (.cells (aW nx d id pg va left (aY th) word).toArray T)::aL bm bc L acc::F)) :
  Calls Tryz.prog 181 #[.pointer (some ⟨b,2,none⟩),.pointer (some ⟨bm,0,none⟩)] w fun e w' => e=.returned (.func (.func 189) #[.pointer (some ⟨b,2,none⟩)] #[]) /\
   St K w' (blk b (.cells (aW nx d id (Pg.mk (wrap64 (ah L (d.node id 1)).m) [] ⟨#[]⟩ false 0) (.slice none 0 0) (leftOf d (ah L (d.node id 1))) (aY th) word).toArray T)::aL bm bc L (acc+1)::F):=by
 obtain⟨c,hc⟩:∃c,c=ah L (d.node id 1):=⟨_,rfl⟩;have o:=fun(w:World) (F:List aC) (g:St K w (aL bm bc L acc::F))=>jo (i:=d.node id 1) g B
 rw[←hc]at o C ⊢;have A:=ass o;clear o hc;have k:=g.k0;unfold aW at k;go_enter Tryz.func181,Tryz.ntmps181
 go_upto_region 1 with(fail)
 go_cut [5] (fun v D=>∃p,v=.pointer (some ⟨p,0,none⟩)/\St K D (blk p (.cells #[.int .u64 c.n,.string c.k,.int .u64 c.m] 63)::aL bm bc L (acc+1)::blk b (.cells (aW nx d id pg va left (aY th) word).toArray T)::F))
 case first=>
  as_aux_lemma=>
  have q:=ass g;clear k g;refine lX 10 ?_ 5 (.cells #[.int .u64 0,.string ⟨#[]⟩,.int .u64 0] 63) rfl (by as_aux_lemma=>kernel_rfl) rfl (fun _ _=>by kernel_rfl) ?_ ?_ ?_
  case refine_2=>
   intro W E;have g:=q.out.same E;have k:=g.k0;unfold aW at k;simp only[List.take_succ_cons,List.take_zero,List.drop_succ_cons,List.drop_zero];repeat (go_big_quiet_step ((go_at_call 129;exact aZ (tX d hd id hid.1 hid.2 _))))
   refine wpQuiet_nil ?_
   rfl
  case refine_3=>
   intro r h;have g:=q.out.same h;go_wp2_with fail
   refine(A.out _ _ g.b1).mono ?_
   clear g;rintro e G ⟨rfl,g⟩;have g:=g.made (.cells #[.int .u64 c.n,.string c.k,.int .u64 c.m] 63);go_wp2
   go_meet;exact⟨_,rfl,g⟩
  case refine_4=>
   intro M r u h;have g:=((q.out.same u).made (.cells #[.int .u64 0,.string ⟨#[]⟩,.int .u64 0] 63)).same (by rw[World.size_alloc];exact h)
   go_wp2_with fail
   refine(A.out _ _ g.b2).mono ?_
   clear g;rintro e G ⟨rfl,g⟩;have y:=g.k1;have N:=g.f1;have g:=((g.b1.aK 0 (.int .u64 c.n)).aK 1 (.string c.k)).aK 2 (.int .u64 c.m);go_wp2
   go_meet;exact⟨_,rfl,g⟩
 case rest=>
  clear k g;obtain⟨p,rfl,g⟩:=hcut;have y:=g.k0;have j:=g.k2;have fb:=g.f2;unfold aW at j;have g:=((((((g.b2.aK 10 (.int .i64 (wrap64 c.m))).aK 11 (.slice none 0 0)).aK 12 (.string ⟨#[]⟩)).aK 13 (.bool false)).aK 14 (.int .u64 0)));simp only[aW,List.set_cons_zero,List.set_cons_succ]at g;go_upto_region 3 with(fail)
  refine dc g ?_
  clear y j fb g;intro W g;have y:=g.k1;have j:=g.k0;have fb:=g.f0;have Q:=ass (fun w' => lU d w')
  have O:=hd.fy;have I:=hd.m7;refine bN 14 (by kernel_rfl) (by as_aux_lemma=>kernel_rfl) ?_
  simp only[List.take_succ_cons,List.take_zero,List.drop_succ_cons,List.drop_zero];by_cases hm:c.n<=d.fa
  ·have e:leftOf d c=c.n.toNat:=by unfold leftOf;rw[Int.min_eq_left hm]
   have e2:((leftOf d c:Nat):Int)=c.n:=by rw[e];omega
   repeat (go_big_quiet_step ((go_at_call 96;exact aZ (Q.out _))))
   refine wpQuiet_nil ?_
   intro r h;have g:=g.same h;have j:=g.k0;have fb:=g.f0;have g:=g.aK 15 (.int .i64 c.n);simp only[List.set_cons_zero,List.set_cons_succ]at g;have z:=ass e2;clear e e2;go_wp2
   go_ret;exact⟨rfl,by unfold aW;rw[z.out];exact g.b1.tail⟩
  ·have J:¬ c.n<=d.fa:=hm
   have e:leftOf d c=d.fa.toNat:=by unfold leftOf;rw[Int.min_eq_right (by omega)]
   have e2:((leftOf d c:Nat):Int)=d.fa:=by rw[e];omega
   repeat (go_big_quiet_step ((go_at_call 96;exact aZ (Q.out _))))
   refine wpQuiet_nil ?_
   intro r h;have g:=g.same h;have j:=g.k0;have fb:=g.f0;have g:=g.aK 15 (.int .i64 d.fa);simp only[List.set_cons_zero,List.set_cons_succ]at g;have z:=ass e2;clear e e2;go_wp2
   go_ret;exact⟨rfl,by unfold aW;rw[z.out];exact g.b1.tail⟩
end
section
variable {K:aM}{w:World}{F:List aC}{b bm bc:Nat}{L:List aQ}{acc:Nat}{nx va:Value}{d:aU}{id:Int}{pg:Pg}{left:Nat}{th:Option FV}{word:Int}{T:TypeId}
def Pg.high (pg:Pg)(c:aQ):Pg:=⟨pg.aA,pg.sl,c.k,decide (c.m=1),pg.ri⟩
def Pg.right (pg:Pg)(c:aQ):Pg:=⟨pg.aA,pg.sl,pg.hi,pg.la,c.n⟩
def Pg.push (pg:Pg)(c:aQ):Pg:=⟨pg.aA,pg.sl++[⟨c.k,c.n⟩],pg.hi,pg.la,pg.ri⟩
theorem Km (hd:d.Ok)(hid:0<=id/\id<18446744073709551616)(C:acc<=1000000000000)
  (h:St K w (blk b (.cells (aW nx d id pg va left (aY th) word).toArray T)::aL bm bc L acc::F)) :
  Calls Tryz.prog 189 #[.pointer (some ⟨b,2,none⟩),.pointer (some ⟨bm,0,none⟩)] w fun e w' => e=.returned (.func (.func 192) #[.pointer (some ⟨b,2,none⟩)] #[]) /\
   St K w' (blk b (.cells (aW nx d id (pg.high (ah L (d.node id 2))) va left (aY th) word).toArray T)::aL bm bc L (acc+1)::F):=by
 obtain⟨c,hc⟩:∃c,c=ah L (d.node id 2):=⟨_,rfl⟩;have r:=fun(w:World) (F:List aC) (h:St K w (aL bm bc L acc::F))=>jo (i:=d.node id 2) h C
 rw[←hc]at r ⊢;have B:=ass r;obtain⟨o,u⟩:∃o,o=decide (c.m=1):=⟨_,rfl⟩;have e:pg.high c=⟨pg.aA,pg.sl,c.k,o,pg.ri⟩:=by unfold Pg.high;rw[u]
 rw[e];have g:(c.m == 1)=o:=by rw[u];rfl
 clear r hc u e;have k:=h.k0;unfold aW at k;go_enter Tryz.func189,Tryz.ntmps189
 go_upto_region 1 with(fail)
 go_cut [5] (fun v D=>∃y,v=.pointer (some ⟨y,0,none⟩)/\St K D (blk y (.cells #[.int .u64 c.n,.string c.k,.int .u64 c.m] 63)::aL bm bc L (acc+1)::blk b (.cells (aW nx d id pg va left (aY th) word).toArray T)::F))
 case first=>
  as_aux_lemma=>
  have z:=ass h;clear k h;refine lX 10 ?_ 5 (.cells #[.int .u64 0,.string ⟨#[]⟩,.int .u64 0] 63) rfl (by as_aux_lemma=>kernel_rfl) rfl (fun _ _=>by kernel_rfl) ?_ ?_ ?_
  case refine_2=>
   intro W E;have h:=z.out.same E;have k:=h.k0;unfold aW at k;simp only[List.take_succ_cons,List.take_zero,List.drop_succ_cons,List.drop_zero];repeat (go_big_quiet_step ((go_at_call 112;exact aZ (tY d hd id hid.1 hid.2 _))))
   refine wpQuiet_nil ?_
   rfl
  case refine_3=>
   intro G j;have h:=z.out.same j;go_wp2_with fail
   refine(B.out _ _ h.b1).mono ?_
   clear h;rintro e I ⟨rfl,h⟩;have h:=h.made (.cells #[.int .u64 c.n,.string c.k,.int .u64 c.m] 63);go_wp2
   go_meet;exact⟨_,rfl,h⟩
  case refine_4=>
   intro N G A j;have h:=((z.out.same A).made (.cells #[.int .u64 0,.string ⟨#[]⟩,.int .u64 0] 63)).same (by rw[World.size_alloc];exact j)
   go_wp2_with fail
   refine(B.out _ _ h.b2).mono ?_
   clear h;rintro e I ⟨rfl,h⟩;have J:=h.k1;have O:=h.f1;have h:=((h.b1.aK 0 (.int .u64 c.n)).aK 1 (.string c.k)).aK 2 (.int .u64 c.m);go_wp2
   go_meet;exact⟨_,rfl,h⟩
 case rest=>
  clear k h;obtain⟨y,rfl,h⟩:=hcut;have J:=h.k0;have h:=h.b2;have M:=h.k0;have fb:=h.f0;unfold aW at M;have p:=((h.aK 12 (.string c.k)).aK 13 (.bool o)).b9.b1;have q:=((h.aK 13 (.bool o)).aK 12 (.string c.k)).b9.b1;simp only[aW,List.set_cons_zero,List.set_cons_succ]at p q;clear h;go_upto_region 2 with(fail)
  go_region
  all_goals
   go_wp2
   go_ret;first|exact⟨rfl,p.b1⟩|exact⟨rfl,q.b1⟩|exact⟨rfl,p.b1.drew⟩|exact⟨rfl,q.b1.drew⟩
theorem Bg (hd:d.Ok)(hid:0<=id/\id<18446744073709551616)(y:acc<=1000000000000)
  (g:St K w (blk b (.cells (aW nx d id pg va left (aY th) word).toArray T)::aL bm bc L acc::F)) :
  Calls Tryz.prog 192 #[.pointer (some ⟨b,2,none⟩),.pointer (some ⟨bm,0,none⟩)] w fun e w' => e=.returned (aY (lg b left th)) /\
   St K w' (blk b (.cells (aW nx d id (pg.right (ah L (d.node id 3))) va left (aY th) word).toArray T)::aL bm bc L (acc+1)::F):=by
 obtain⟨c,hc⟩:∃c,c=ah L (d.node id 3):=⟨_,rfl⟩;have q:=fun(w:World) (F:List aC) (g:St K w (aL bm bc L acc::F))=>jo (i:=d.node id 3) g y
 rw[←hc]at q ⊢;have v:=ass q;clear q hc;have k:=g.k0;unfold aW at k;have m:=fun w F (g:St K w (blk b (.cells (aW nx d id (pg.right c) va left (aY th) word).toArray T)::F))=>Kk g
 cases p:lg b left th with
 | none=>
  rw[p]at m;have r:=ass m;clear m p;go_enter Tryz.func192,Tryz.ntmps192
  go_upto_region 1 with(fail)
  refine fK _ 10 rfl rfl (by kernel_rfl) (by as_aux_lemma=>kernel_rfl) (fun _ _ _ _ h=>h) ?_
  simp only[List.take_succ_cons,List.take_zero,List.drop_succ_cons,List.drop_zero,Act.put,List.setIfInBounds_toArray,List.set_cons_zero,List.set_cons_succ,Act.eval];repeat (go_big_quiet_step ((go_at_call 128;exact aZ (qZ d hd id hid.1 hid.2 _))))
  refine wpQuiet_nil ?_
  intro z j;have g:=g.same j;clear k j;go_wp2_with fail
  refine(v.out _ _ g.b1).mono ?_
  clear g;rintro e A ⟨rfl,g⟩;have g:=g.b1;have k:=g.k0;have u:=g.f0;unfold aW at k;have g:=g.aK 14 (.int .u64 c.n);simp only[aW,List.set_cons_zero,List.set_cons_succ]at g;go_wp2_with fail
  refine(r.out _ _ g).mono ?_
  clear g k u;rintro e B ⟨he,g⟩;obtain rfl:e=.returned .nilFunc:=he;go_wp2
  go_ret;exact⟨rfl,g⟩
 | some o=>
  obtain⟨C,D,E⟩:=o;rw[p]at m;have r:=ass m;clear m p;go_enter Tryz.func192,Tryz.ntmps192
  go_upto_region 1 with(fail)
  refine fK _ 10 rfl rfl (by kernel_rfl) (by as_aux_lemma=>kernel_rfl) (fun _ _ _ _ h=>h) ?_
  simp only[List.take_succ_cons,List.take_zero,List.drop_succ_cons,List.drop_zero,Act.put,List.setIfInBounds_toArray,List.set_cons_zero,List.set_cons_succ,Act.eval];repeat (go_big_quiet_step ((go_at_call 128;exact aZ (qZ d hd id hid.1 hid.2 _))))
  refine wpQuiet_nil ?_
  intro z j;have g:=g.same j;clear k j;go_wp2_with fail
  refine(v.out _ _ g.b1).mono ?_
  clear g;rintro e A ⟨rfl,g⟩;have g:=g.b1;have k:=g.k0;have u:=g.f0;unfold aW at k;have g:=g.aK 14 (.int .u64 c.n);simp only[aW,List.set_cons_zero,List.set_cons_succ]at g;go_wp2_with fail
  refine(r.out _ _ g).mono ?_
  clear g k u;rintro e B ⟨he,g⟩;obtain rfl:e=.returned (.func (.func C) D E):=he;go_wp2
  go_ret;exact⟨rfl,g⟩
end
section
variable {K:aM}{w:World}{F:List aC}{b bm bc:Nat}{L:List aQ}{acc:Nat}{nx va:Value}{d:aU}{id:Int}{pg:Pg}{left:Nat}{th:Option FV}{word:Int}{T:TypeId}
theorem Kn (hd:d.Ok)(hid:0<=id/\id<18446744073709551616)(ha:acc<=1000000000000)(X:pg.sl.length<=1000000)(hl:0<left/\left<=1000000)
  (p:St K w (blk b (.cells (aW nx d id pg va left (aY th) word).toArray T)::az va 69 2 (pg).sl.length (aF (pg).sl)::aL bm bc L acc::F)) :
  Calls Tryz.prog 195 #[.pointer (some ⟨b,2,none⟩),.pointer (some ⟨bm,0,none⟩)] w fun e w' => ∃fA,e=.returned (aY (lg b (left-1) th)) /\
   St K w' (blk b (.cells (aW nx d id (pg.push (ah L (d.slot id pg.sl.length))) fA (left-1) (aY th) word).toArray T)::az fA 69 2 ((pg.push (ah L (d.slot id pg.sl.length)))).sl.length (aF ((pg.push (ah L (d.slot id pg.sl.length)))).sl)::aL bm bc L (acc+1)::F):=by
 obtain⟨c,hc⟩:∃c,c=ah L (d.slot id pg.sl.length):=⟨_,rfl⟩;have U:=fun(w:World) (F:List aC) (p:St K w (aL bm bc L acc::F))=>jo (i:=d.slot id pg.sl.length) p ha
 rw[←hc]at U ⊢;have Y:=ass U;obtain⟨n,z⟩:∃n,n=pg.sl.length:=⟨_,rfl⟩;have E:(pg.push c).sl.length=n+1:=by unfold Pg.push;rw[List.length_append,z];rfl
 have C:aF (pg.push c).sl=aF pg.sl++[.string c.k,.int .u64 c.n]:=by unfold Pg.push aF;rw[List.flatMap_append];rfl
 obtain⟨xs,J⟩:∃xs,xs=aF pg.sl:=⟨_,rfl⟩;rw[E,C];rw[←z]at X p Y;rw[←J]at p ⊢;obtain⟨sa,M,rfl,hcap,_⟩:=p.b1.aJ;have Qs:=ass (fun w=>Ai d hd id n hid.1 hid.2 w)
 have N:pg.push c=⟨pg.aA,pg.sl++[⟨c.k,c.n⟩],pg.hi,pg.la,pg.ri⟩:=rfl;rw[N];rw[←z]at U;obtain⟨A,Z⟩:∃A,left=A+1:=⟨left-1,by omega⟩
 subst Z;rw[show A+1-1=A by omega]
 obtain⟨iv,dm,dr,dw,dx⟩:=info_parts ic;clear U hc z E C J N;have k:=p.k0;unfold aW at k;have qm:=fun w va F (p:St K w (blk b (.cells (aW nx d id (Pg.mk pg.aA (pg.sl++[⟨c.k,c.n⟩]) pg.hi pg.la pg.ri) va A (aY th) word).toArray T)::F))=>Kk p
 have V:=ass qm;clear qm;go_enter Tryz.func195,Tryz.ntmps195
 go_upto_region 1 with(fail)
 go_cut [5] (fun v wx=>∃bx,v=.pointer (some ⟨bx,0,none⟩)/\St K wx (blk bx (.cells #[.int .u64 c.n,.string c.k,.int .u64 c.m] 63)::aL bm bc L (acc+1)::blk b (.cells (aW nx d id pg (.slice sa n M) (A+1) (aY th) word).toArray T)::az (.slice sa n M) 69 2 n xs::F))
 case first=>
  as_aux_lemma=>
  have p:=p.b2.b1;have D:=ass p;clear k p hl;refine lX 16 ?_ 5 (.cells #[.int .u64 0,.string ⟨#[]⟩,.int .u64 0] 63) rfl (by as_aux_lemma=>kernel_rfl) rfl (fun _ _=>by kernel_rfl) ?_ ?_ ?_
  case refine_2=>
   intro W O;have p:=D.out.same O;have k:=p.k0;unfold aW at k;simp only[List.take_succ_cons,List.take_zero,List.drop_succ_cons,List.drop_zero];repeat (go_big_quiet_step ((go_at_call 127;exact aZ (Qs.out _))))
   refine wpQuiet_nil ?_
   rfl
  case refine_3=>
   intro Q q;have p:=D.out.same q;go_wp2_with fail
   refine(Y.out _ _ p.b1).mono ?_
   clear p;rintro e w6 ⟨rfl,p⟩;have p:=p.made (.cells #[.int .u64 c.n,.string c.k,.int .u64 c.m] 63);go_wp2
   go_meet;exact⟨_,rfl,p⟩
  case refine_4=>
   intro I Q y q;have p:=((D.out.same y).made (.cells #[.int .u64 0,.string ⟨#[]⟩,.int .u64 0] 63)).same (by rw[World.size_alloc];exact q)
   go_wp2_with fail
   refine(Y.out _ _ p.b2).mono ?_
   clear p;rintro e w6 ⟨rfl,p⟩;have kx:=p.k1;have fx:=p.f1;have p:=((p.b1.aK 0 (.int .u64 c.n)).aK 1 (.string c.k)).aK 2 (.int .u64 c.m);go_wp2
   go_meet;exact⟨_,rfl,p⟩
 case rest=>
  clear k p;obtain⟨bx,rfl,p⟩:=hcut;have D:=ass p;have E:n<=1000000:=X;clear p hd hid ha X;cases r:lg b A th with
  | none=>
   rw[r]at V;have G:=ass r;clear r;go_upto_region 2 with(fail)
   refine eW _ 10 ?aS 34 (.cells #[.string c.k,.int .u64 c.n] 69) (fun W=> .slice (some ⟨W.heap.size,0,none⟩) 1 1) rfl rfl (by kernel_rfl) ?hB rfl (fun _ _ _ _ h=>h) ?H ?yo ?Ah
   case H=>
    intro W O;have p:=D.out.same O;have kx:=p.k0;have B:=p.k2;unfold aW at B;simp only[List.take_succ_cons,List.take_zero,List.drop_succ_cons,List.drop_zero,Act.put,List.setIfInBounds_toArray,List.set_cons_zero,List.set_cons_succ,Act.eval];repeat (go_big_quiet_step (fail))
    refine wpQuiet_nil ?_
    rfl
   case hB=>as_aux_lemma=>kernel_rfl
   case yo=>
    intro w';kernel_rfl
   case Ah=>
    intro I Q y q;have p:=((D.out.same y).made (.cells [.string c.k,.int .u64 c.n].toArray 69)).same (by rw[World.size_alloc];exact q)
    have hk:=p.k0;have R:=ass (fun(j:Nat) (u:Value) (hu:[Value.string c.k,.int .u64 c.n][j]?=some u)=>(show ∃g off,(some ⟨I.heap.size,0,none⟩:Option Addr)=some ⟨g,off,none⟩/\Q.cell? ⟨g,off+j,none⟩=some u from⟨_,0,rfl,by rw[Nat.zero_add,hk j];simpa using hu⟩))
    clear hk;have S:=ass p.b4;clear p;simp only[List.drop_succ_cons,List.drop_zero];refine cK _ _ 41 69 _ n 1 1 2 24 xs [.string c.k,.int .u64 c.n] (.agg #[.string ⟨#[]⟩,.int .u64 0]) iv (some ⟨I.heap.size,0,none⟩) S.out rfl rfl Tryz.underlying41 dm dr dw dx rfl (by decide) rfl rfl rfl (fun e=>by cases e) R.out (fun u hu=>by simp at hu;rcases hu with rfl|rfl <;> rfl) (by omega) (by decide) ?_
    clear S R;intro v' w6 p;obtain⟨ao,o7,rfl,_,_⟩:=p.aJ;have p:=p.b4;have B:=p.k0;have fb:=p.f0;unfold aW at B;have p:=((p.aK 11 (.slice ao (n+1) o7)).aK 15 (.int .i64 A));simp only[aW,List.set_cons_zero,List.set_cons_succ]at p;go_wp2_with fail
    refine(V.out _ _ _ p).mono ?_
    clear p B fb;rintro e w7 ⟨he,p⟩;obtain rfl:e=.returned .nilFunc:=he;go_wp2
    go_ret;exact⟨_,by rw[G.out];rfl,p.sub (.cons_cons _ (.cons_cons _ (.cons _ (.cons _ (List.Sublist.refl _)))))⟩
  | some o=>
   obtain⟨f',x',y'⟩:=o;rw[r]at V;have G:=ass r;clear r;go_upto_region 2 with(fail)
   refine eW _ 10 ?aS2 34 (.cells #[.string c.k,.int .u64 c.n] 69) (fun W=> .slice (some ⟨W.heap.size,0,none⟩) 1 1) rfl rfl (by kernel_rfl) ?hB2 rfl (fun _ _ _ _ h=>h) ?H2 ?ahT ?Ah2
   case H2=>
    intro W O;have p:=D.out.same O;have kx:=p.k0;have B:=p.k2;unfold aW at B;simp only[List.take_succ_cons,List.take_zero,List.drop_succ_cons,List.drop_zero,Act.put,List.setIfInBounds_toArray,List.set_cons_zero,List.set_cons_succ,Act.eval];repeat (go_big_quiet_step (fail))
    refine wpQuiet_nil ?_
    rfl
   case hB2=>as_aux_lemma=>kernel_rfl
   case ahT=>
    intro w';kernel_rfl
   case Ah2=>
    intro I Q y q;have p:=((D.out.same y).made (.cells [.string c.k,.int .u64 c.n].toArray 69)).same (by rw[World.size_alloc];exact q)
    have hk:=p.k0;have R:=ass (fun(j:Nat) (u:Value) (hu:[Value.string c.k,.int .u64 c.n][j]?=some u)=>(show ∃g off,(some ⟨I.heap.size,0,none⟩:Option Addr)=some ⟨g,off,none⟩/\Q.cell? ⟨g,off+j,none⟩=some u from⟨_,0,rfl,by rw[Nat.zero_add,hk j];simpa using hu⟩))
    clear hk;have S:=ass p.b4;clear p;simp only[List.drop_succ_cons,List.drop_zero];refine cK _ _ 41 69 _ n 1 1 2 24 xs [.string c.k,.int .u64 c.n] (.agg #[.string ⟨#[]⟩,.int .u64 0]) iv (some ⟨I.heap.size,0,none⟩) S.out rfl rfl Tryz.underlying41 dm dr dw dx rfl (by decide) rfl rfl rfl (fun e=>by cases e) R.out (fun u hu=>by simp at hu;rcases hu with rfl|rfl <;> rfl) (by omega) (by decide) ?_
    clear S R;intro v' w6 p;obtain⟨ao,o7,rfl,_,_⟩:=p.aJ;have p:=p.b4;have B:=p.k0;have fb:=p.f0;unfold aW at B;have p:=((p.aK 11 (.slice ao (n+1) o7)).aK 15 (.int .i64 A));simp only[aW,List.set_cons_zero,List.set_cons_succ]at p;go_wp2_with fail
    refine(V.out _ _ _ p).mono ?_
    clear p B fb;rintro e w7 ⟨he,p⟩;obtain rfl:e=.returned (.func (.func f') x' y'):=he;go_wp2
    go_ret;exact⟨_,by rw[G.out];rfl,p.sub (.cons_cons _ (.cons_cons _ (.cons _ (.cons _ (List.Sublist.refl _)))))⟩
end
section
variable {K:aM}{w:World}{F:List aC}{b bm bc:Nat}{L:List aQ}{acc:Nat}{nx va:Value}{d:aU}{id:Int}{pg:Pg}{left:Nat}{th:Option FV}{word:Int}
def um (b:Nat):Option FV:=some ⟨191, #[.pointer (some ⟨b,0,none⟩)], #[]⟩
def Gg (b:Nat):Option FV:=some ⟨183, #[.pointer (some ⟨b,0,none⟩)], #[]⟩
def Gh (b:Nat):Option FV:=some ⟨181, #[.pointer (some ⟨b,2,none⟩)], #[]⟩
theorem Yt {p:Value}(hd:d.Ok)(hid:0<=id/\id<18446744073709551616)(z:acc<=1000000000000)(q:0<=(ah L (d.node id 0)).n/\(ah L (d.node id 0)).n<18446744073709551616)
  (g:St K w (blk b (.cells (aW nx d id pg va left p word).toArray 222)::aL bm bc L acc::F)) :
  Calls Tryz.prog 183 #[.pointer (some ⟨b,0,none⟩),.pointer (some ⟨bm,0,none⟩)] w fun e w' =>
   e=.returned (aY (cond (cg (ah L (d.node id 0)).n) (Gg b) (Gh b))) /\
   St K w' (blk b (.cells (aW nx d id pg va left (cond (cg (ah L (d.node id 0)).n) p (aY (um b))) (ah L (d.node id 0)).n).toArray 222)::aL bm bc L (acc+1)::F):=by
 obtain⟨c,hc⟩:∃c,c=ah L (d.node id 0):=⟨_,rfl⟩;have r:=fun(w:World) (F:List aC) (g:St K w (aL bm bc L acc::F))=>jo (i:=d.node id 0) g z
 rw[←hc]at r q ⊢;have u:=ass r;have m:=ass (fun w=>ub c.n q.1 q.2 w)
 clear r hc;have k:=g.k0;unfold aW at k;cases o:cg c.n with
 | true=>
  rw[o]at m;simp only[cond_true];clear o;go_enter Tryz.func183,Tryz.ntmps183
  go_upto_region 1 with(fail)
  refine fK _ 12 rfl rfl (by kernel_rfl) (by as_aux_lemma=>kernel_rfl) (fun _ _ _ _ h=>h) ?_
  simp only[List.take_succ_cons,List.take_zero,List.drop_succ_cons,List.drop_zero,Act.put,List.setIfInBounds_toArray,List.set_cons_zero,List.set_cons_succ,Act.eval];repeat (go_big_quiet_step ((go_at_call 69;exact aZ (iG d hd id hid.1 hid.2 _))))
  refine wpQuiet_nil ?_
  intro A j;have g:=g.same j;clear k j;go_wp2_with fail
  refine(u.out _ _ g.b1).mono ?_
  clear g;rintro e B ⟨rfl,g⟩;have g:=g.b1;have k:=g.k0;have v:=g.f0;unfold aW at k;have g:=g.aK 17 (.int .u64 c.n);simp only[aW,List.set_cons_zero,List.set_cons_succ]at g;go_wp2_with fail
  refine(m.out _).mono ?_
  rintro e C ⟨rfl,rfl⟩;go_wp2
  go_ret;exact⟨rfl,g⟩
 | false=>
  rw[o]at m;simp only[cond_false];clear o;have y:=fun w F (g:St K w (blk b (.cells (aW nx d id pg va left p c.n).toArray 222)::F))=>Su (th:=um b) g
  have D:=ass y;clear y;go_enter Tryz.func183,Tryz.ntmps183
  go_upto_region 1 with(fail)
  refine fK _ 12 rfl rfl (by kernel_rfl) (by as_aux_lemma=>kernel_rfl) (fun _ _ _ _ h=>h) ?_
  simp only[List.take_succ_cons,List.take_zero,List.drop_succ_cons,List.drop_zero,Act.put,List.setIfInBounds_toArray,List.set_cons_zero,List.set_cons_succ,Act.eval];repeat (go_big_quiet_step ((go_at_call 69;exact aZ (iG d hd id hid.1 hid.2 _))))
  refine wpQuiet_nil ?_
  intro A j;have g:=g.same j;clear k j;go_wp2_with fail
  refine(u.out _ _ g.b1).mono ?_
  clear g;rintro e B ⟨rfl,g⟩;have g:=g.b1;have k:=g.k0;have v:=g.f0;unfold aW at k;have g:=g.aK 17 (.int .u64 c.n);simp only[aW,List.set_cons_zero,List.set_cons_succ]at g;go_wp2_with fail
  refine(m.out _).mono ?_
  rintro e C ⟨rfl,rfl⟩;go_wp2_with fail
  refine(D.out _ _ g).mono ?_
  clear g k v;rintro e E ⟨rfl,g⟩;go_wp2
  go_ret;exact⟨rfl,g⟩
end
def it {α:Type}(f:α->α):Nat->α->α
 | 0,s=>s
 | n+1,s=>it f n (f s)
theorem bu {L:List aQ}{i j:Int}{c:aQ}(h:j≠i):ah (aR L i c) j=ah L j:=by
 unfold ah aR;by_cases e:0<=j
 ·rw[if_pos e,if_pos e]
  by_cases hi:0<=i
  ·rw[if_pos hi,List.getElem?_set,if_neg (by omega)]
  ·rw[if_neg hi]
 ·rw[if_neg e,if_neg e]
theorem cD {L:List aQ}{i:Int}{c:aQ}(hi:0<=i)(hl:i<L.length):ah (aR L i c) i=c:=by rw[p7 hi hl hi,if_pos rfl]
theorem ql {L:List aQ}{i:Int}(hi:i<0):ah L i=aQ.zero:=by unfold ah;rw[if_neg (by omega)]
theorem Sv {L:List aQ}{i:Int}{c:aQ}(hi:i<0):aR L i c=L:=by unfold aR;rw[if_neg (by omega)]
def nk (c:aQ):Prop:=0<=c.n/\c.n<18446744073709551616
def bL (L:List aQ):Prop:=∀i,nk (ah L i)
theorem bL.put {L:List aQ}{i:Int}{c:aQ}(h:bL L)(hc:nk c):bL (aR L i c):=by
 intro j;by_cases hi:0<=i
 ·by_cases hl:i<L.length
  ·by_cases e:j=i
   ·subst e;rw[cD hi hl];exact hc
   ·rw[bu e];exact h j
  ·have:aR L i c=L:=by unfold aR;rw[if_pos hi,List.set_eq_of_length_le (by omega)]
   rw[this];exact h j
 ·rw[Sv (by omega)];exact h j
section
variable {d:aU}(hd:d.Ok)
include hd
theorem Mp {r k:Int}(h1:1<=r)(h2:r<=d.re)(hk:0<=k)(c:k<=2):d.record r k=d.C+3*(r-1)+k/\d.C<=d.record r k/\d.record r k<d.cells:=by
 have e:d.record r k=d.C+3*(r-1)+k:=by unfold aU.record;rw[if_pos ⟨h1,h2⟩]
 have:=hd.eN;refine⟨e,by omega,?_⟩
 rw[e];unfold aU.cells;omega
theorem Gi {r k:Int}(h1:1<=r)(h2:r<=d.re)(hk:0<=k)(c:k<=2):0<=d.record r k:=by
 have:=Mp hd h1 h2 hk c;have:=hd.eN;have:=hd.jZ;have:=hd.oD;omega
theorem Bi {c:Int}(h1:1<=c)(h2:c<=d.ch):d.chain c=d.B+(c-1)/\0<=d.chain c/\d.chain c<d.C:=by
 have e:d.chain c=d.B+(c-1):=by unfold aU.chain;rw[if_pos ⟨h1,h2⟩]
 have:=hd.eN;have:=hd.jZ;refine⟨e,by omega,?_⟩
 rw[e];unfold aU.C;omega
end
structure Gj where
 r:Int
 st:Int
 k:ByteArray
 del:Bool
def b01 (b:Bool):Int:=if b then 1 else 0
def aet (d:aU)(L:List aQ)(v:Gj):Prop:=1<=v.r/\v.r<=d.re/\(ah L (d.record v.r 0)).n=v.st/\(ah L (d.record v.r 1)).k=v.k/\(ah L (d.record v.r 1)).m=b01 v.del
def uo (d:aU)(L:List aQ):Int->List Gj->Prop
 | r,[]=>r=0
 | r,v::vs=>r=v.r/\aet d L v/\uo d L (ah L (d.record v.r 2)).n vs
structure lM where
 pc:Nat
 pg:Pg
 left:Nat
 word:Int
 t:Bool
def Ko:Pg:=⟨0,[],⟨#[]⟩,false,0⟩
def qo:lM:=⟨0,Ko,0,0,false⟩
def rdStep (d:aU)(id:Int)(L:List aQ)(s:lM):lM:=
 match s.pc with
 | 0=>if cg (ah L (d.node id 0)).n then⟨0,s.pg,s.left,(ah L (d.node id 0)).n,s.t⟩else⟨1,s.pg,s.left,(ah L (d.node id 0)).n,true⟩
 | 1=>⟨2,⟨wrap64 (ah L (d.node id 1)).m,[],⟨#[]⟩,false,0⟩,leftOf d (ah L (d.node id 1)),s.word,s.t⟩
 | 2=>⟨3,s.pg.high (ah L (d.node id 2)),s.left,s.word,s.t⟩
 | 3=>⟨if s.left=0 then 5 else 4,s.pg.right (ah L (d.node id 3)),s.left,s.word,s.t⟩
 | 4=>⟨if s.left-1=0 then 5 else 4,s.pg.push (ah L (d.slot id s.pg.sl.length)),s.left-1,s.word,s.t⟩
 | 5=>if aH s.word == aH (ah L (d.node id 0)).n then⟨6,s.pg,s.left,s.word,s.t⟩else⟨0,s.pg,s.left,s.word,s.t⟩
 | _=>s
def sU (b:Nat):Nat->Option FV
 | 0=>Gg b
 | 1=>Gh b
 | 2=>some ⟨189, #[.pointer (some ⟨b,2,none⟩)], #[]⟩
 | 3=>some ⟨192, #[.pointer (some ⟨b,2,none⟩)], #[]⟩
 | 4=>some ⟨195, #[.pointer (some ⟨b,2,none⟩)], #[]⟩
 | 5=>um b
 | _=>none
def Gk (b:Nat)(t:Bool):Option FV:=if t then um b else none
def Fi (b:Nat)(d:aU)(id:Int)(va:Value)(s:lM):aC:=blk b (.cells (aW (aY (sU b s.pc)) d id s.pg va s.left (aY (Gk b s.t)) s.word).toArray 222)
def bz (va:Value)(pg:Pg):aC:=az va 69 2 (pg).sl.length (aF (pg).sl)
theorem Mq {b p:Nat}:(sU b p).isNone=decide (6<=p):=by
 match p with
 | 0=>rfl
 | 1=>rfl
 | 2=>rfl
 | 3=>rfl
 | 4=>rfl
 | 5=>rfl
 | n+6=>simp[sU]
theorem Kp {b left:Nat}:lg b left (um b)=sU b (if left=0 then 5 else 4):=by
 unfold lg;split <;> rfl
structure lM.Ok (d:aU)(s:lM):Prop where
 pc:s.pc<=6
 word:0<=s.word/\s.word<18446744073709551616
 len:s.pc<=1\/(s.pg.sl.length+s.left:Int)<=d.fa
 th:s.pc=0\/s.pc=6\/s.t=true
 left:s.pc=4->0<s.left
theorem abH (d:aU):qo.Ok d:=⟨by decide,⟨by decide,by decide⟩,.inl (by decide),.inl rfl,by decide⟩
theorem oh {d:aU}(hd:d.Ok){c:aQ}(hc:nk c):(leftOf d c:Int)<=d.fa:=by
 have:=hd.fy;have:=hc.1;unfold leftOf;omega
theorem xo {d:aU}(hd:d.Ok){id:Int}{L:List aQ}(g:bL L){s:lM}(h:s.Ok d):(rdStep d id L s).Ok d:=by
 obtain⟨pc,pg,left,word,t⟩:=s;have h1:=h.pc;have h2:=h.word;have c:=h.len;have e:=h.th;have i:=h.left;simp only at h1 h2 c e i;rcases(show pc=0\/pc=1\/pc=2\/pc=3\/pc=4\/pc=5\/pc=6 by omega)with rfl|rfl|rfl|rfl|rfl|rfl|rfl
 ·simp only[rdStep]
  split
  ·exact⟨by simp,g _,.inl (by simp),.inl rfl,by simp⟩
  ·exact⟨by simp,g _,.inl (by simp),.inr (.inr rfl),by simp⟩
 ·simp only[rdStep]
  exact⟨by simp,h2,.inr (by simpa using oh hd (g _)),by simpa using e,by simp⟩
 ·simp only[rdStep]
  exact⟨by simp,h2,.inr (by simpa[Pg.high] using c),by simpa using e,by simp⟩
 ·simp only[rdStep]
  refine⟨by simp only;split <;> omega,h2,.inr (by simpa[Pg.right] using c),.inr (.inr (by simpa using e)),?_⟩
  simp only;split <;> omega
 ·simp only[rdStep]
  have hl:0<left:=i rfl;refine⟨by simp only;split <;> omega,h2,.inr ?_,.inr (.inr (by simpa using e)),?_⟩
  ·have j:(pg.sl.length:Int)+left<=d.fa:=by simpa using c
   simp only[Pg.push,List.length_append,List.length_singleton];omega
  ·simp only
   split <;> omega
 ·simp only[rdStep]
  split
  ·exact⟨by simp,h2,.inr (by simpa using c),.inr (.inl rfl),by simp⟩
  ·exact⟨by simp,h2,.inl (by simp),.inl rfl,by simp⟩
 ·exact h
section
variable {K:aM}{w:World}{F:List aC}{b bm bc:Nat}{L:List aQ}{acc:Nat}{nx va:Value}{d:aU}{id:Int}{s:lM}
theorem rV:Enters 183:=fun _ _=>rfl
theorem rW:Enters 181:=fun _ _=>rfl
theorem rX:Enters 189:=fun _ _=>rfl
theorem qq:Enters 192:=fun _ _=>rfl
theorem rY:Enters 195:=fun _ _=>rfl
theorem mH:Enters 191:=fun _ _=>rfl
theorem l4 {α:Type}{m:Nat}{f:FV}{o:Option FV}{nx:Value}{tl:α->List Value}{T:TypeId}{F' : α->List aC}(i:Enters f.f)(hc:w.cell? ⟨b,0,none⟩=some (aY (some f)))
  (c:Calls Tryz.prog f.f (f.x ++ #[.pointer (some ⟨m,0,none⟩)]++f.y) w fun e h=>∃x,e=.returned (aY o)/\St K h (blk b (.cells (nx::tl x).toArray T)::F' x)) :
  Calls Tryz.prog 77 #[.pointer (some ⟨b,0,none⟩),.pointer (some ⟨m,0,none⟩)] w fun e w' => ∃x,e=.returned (.bool o.isNone)/\St K w' (blk b (.cells (aY o::tl x).toArray T)::F' x):=by
 refine(oY (R:=fun l=>∃x,l=⟨o,K,nx,tl x,T,F' x⟩) w b m f i hc (c.mono fun e h ⟨x,he,g⟩=>⟨⟨o,K,nx,tl x,T,F' x⟩,he,⟨x,rfl⟩,g⟩)).mono ?_
 rintro e w' ⟨l,he,⟨x,rfl⟩,g⟩;exact⟨x,he,g⟩
end
theorem fM (l:List Sl):∀(i:Nat)(s:Sl),l[i]?=some s->(aF l)[i*2]?=some (.string s.k)/\(aF l)[i*2+1]?=some (.int .u64 s.r):=by
 induction l with
 | nil=>intro i s h;simp at h
 | cons a l ih=>
  intro i s h;have e:aF (a::l)=.string a.k :: .int .u64 a.r::aF l:=rfl;rw[e];cases i with
  | zero=>simp at h;subst h;exact⟨rfl,rfl⟩
  | succ i=>
   have:=ih i s (by simpa using h)
   rw[show(i+1)*2=i*2+2 by omega]
   simpa using this
def eG (w:World)(a:Option Addr)(l:List Sl):Prop:=l.length<=1000000000/\∀(i:Nat) (s:Sl),l[i]?=some s ->
 ∃b off,a=some ⟨b,off,none⟩/\b<w.heap.size/\w.cell? ⟨b,off+i*2,none⟩=some (.string s.k)/\w.cell? ⟨b,off+i*2+1,none⟩=some (.int .u64 s.r)
theorem eG.same {w w':World}{a:Option Addr}{l:List Sl}(h:eG w a l)(g:Below w.heap.size w w'):eG w' a l:=
 ⟨h.1,fun i s j=>by
  obtain⟨b,off,e,c,k,m⟩:=h.2 i s j;exact⟨b,off,e,Nat.lt_of_lt_of_le c g.size,by rw[g.cell (p:=⟨b,_,none⟩) c];exact k,by rw[g.cell (p:=⟨b,_,none⟩) c];exact m⟩⟩
theorem St.cM {K:aM}{w:World}{F:List aC}{a:Option Addr}{n cap:Nat}{T:TypeId}{l:List Sl}(h:St K w (az (.slice a n cap) T 2 n (aF l)::F))(k:l.length<=1000000000):eG w a l:=by
 refine⟨k,fun i s m=>?_⟩
 obtain⟨r0,r1⟩:=fM l i s m;obtain⟨g,e,j⟩:=h.cQ r0;obtain⟨p,c,o⟩:=h.cQ r1;rw[e]at c;simp only[Option.some.injEq,Addr.mk.injEq,and_true]at c;subst c;exact⟨g,0,e,World.block_lt_of_cell? _ _ j,by rw[Nat.zero_add];exact j,by rw[Nat.zero_add];exact o⟩
theorem eG.news {w:World}{a:Option Addr}{l:List Sl}(h:eG w a l):∀j u,(aF l)[j]?=some u->∃g off,a=some ⟨g,off,none⟩/\w.cell? ⟨g,off+j,none⟩=some u:=by
 intro j u hu;have p:j<l.length*2:=by rw[←fX];exact(asu.1 hu).1
 have i:j / 2<l.length:=by omega
 obtain⟨s,m⟩:∃s,l[j / 2]?=some s:=⟨_,asx i⟩;obtain⟨b,off,e,_,n,o⟩:=h.2 _ _ m;obtain⟨r0,r1⟩:=fM _ _ _ m;refine⟨b,off,e,?_⟩;have c:j=j / 2*2+j%2:=by omega
 rcases(show j%2=0\/j%2=1 by omega)with k|k
 ·rw[c,k,Nat.add_zero]at hu ⊢
  rw[r0]at hu;rw[←hu];exact n
 ·rw[c,k]at hu ⊢
  rw[r1]at hu;rw[←hu];rw[←Nat.add_assoc];exact o
theorem lh (l:List Sl):∀u,u∈aF l->u.oneCell'=true:=by
 intro u hu;obtain⟨s,_,c⟩:=List.mem_flatMap.1 hu;simp[iz]at c;rcases c with rfl|rfl <;> rfl
theorem eG.no {w:World}{l:List Sl}(h:eG w none l):l=[]:=by
 cases l with
 | nil=>rfl
 | cons s l=>obtain⟨b,off,e,_⟩:=h.2 0 s rfl;cases e
theorem Mr (tmps:Array Value)(w:World)(b:Nat)(v0 v1 v2 v3 v4:Value)(hp:tmps[2]?=some (.pointer (some ⟨b,0,none⟩)))(hk:∀k,w.cell? ⟨b,k,none⟩=(#[v0,v1,v2,v3,v4]:Array Value)[k]?) :
  (results Tryz.f91 tmps).run Tryz.prog w=.ok (.agg #[v0,v1,v2,v3,v4]) w:=by
 simp[results,Tryz.results91,go_sem,hp,hk]
section
variable {K:aM}{w:World}{F:List aC}{pg:Pg}{a:Option Addr}{cap:Nat}
theorem nr (c:St K w F)(h:eG w a pg.sl) :
  Calls Tryz.prog 91 #[.agg #[.int .i64 (pg).aA,(.slice a pg.sl.length cap),.string (pg).hi,.bool (pg).la,.int .u64 (pg).ri]] w fun e w' => ∃va,e=.returned (.agg #[.int .i64 (pg).aA,va,.string (pg).hi,.bool (pg).la,.int .u64 (pg).ri])/\St K w' (az va 69 2 pg.sl.length (aF pg.sl)::F):=by
 obtain⟨n,g⟩:∃n,n=pg.sl.length:=⟨_,rfl⟩;have hl:=h.1;have i:=ass (show(aF pg.sl).length=n*2 by rw[fX,g])
 have k:Hid (a=none->n=0):=ass (fun e=>by subst e;rw[g,h.no];rfl)
 have H1:=ass (lh pg.sl);rw[←g]at hl ⊢;obtain⟨u,v,y,z,A⟩:=info_parts ic;have c:=(c.made (.cells #[.int .i64 (pg).aA,(.slice a n cap),.string (pg).hi,.bool (pg).la,.int .u64 (pg).ri] 43)).made (.cells #[.int .i64 0,.slice none 0 0,.string ⟨#[]⟩,.bool false,.int .u64 0] 43);rw[World.size_alloc]at c;have h2:=(h.same ((Below.refl w.heap.size w).alloc (Nat.le_refl _) (.cells #[.int .i64 (pg).aA,(.slice a n cap),.string (pg).hi,.bool (pg).la,.int .u64 (pg).ri] 43)));have m:=h2.same ((Below.refl _ _).alloc (Nat.le_refl _) (.cells #[.int .i64 0,.slice none 0 0,.string ⟨#[]⟩,.bool false,.int .u64 0] 43));have j:=ass m.news;obtain⟨sl,o⟩:∃sl,sl=aF pg.sl:=⟨_,rfl⟩;rw[←o]at i H1 j ⊢;have p:=ass (c.cJ (T:=69) (size:=2));clear c h h2 m g o;go_enter Tryz.func91,Tryz.ntmps91
 go_wp2_with (at_builtin;refine cK _ _ 41 69 _ 0 n cap 2 24 [] sl (.agg #[.string ⟨#[]⟩,.int .u64 0]) u a p.out rfl rfl Tryz.underlying41 v y z A rfl (by decide) rfl rfl i.out k.out j.out H1.out (by omega) (by decide) ?_)
 intro C w' c;obtain⟨q,r,B,_,_⟩:=c.aJ;subst B;have c:=c.b2;have D:=c.k0;have fb:=c.f0;have E:=c.k2;have fr:=c.f2;have c:=(c.aK 1 (.slice q n r)).b2;simp only[List.set_cons_zero,List.set_cons_succ]at c;have c:=((((c.aK 0 (.int .i64 pg.aA)).aK 1 (.slice q n r)).aK 2 (.string pg.hi)).aK 3 (.bool pg.la)).aK 4 (.int .u64 pg.ri);simp only[List.set_cons_zero,List.set_cons_succ]at c;clear p i k H1 j;go_wp2
 refine bodyPost_ret (Mr _ _ (w.heap.size+1) _ _ _ _ _ rfl c.k0) rfl ⟨_,rfl,c.tail.tail⟩
theorem gG (w:World)(b:Nat)(h0:w.cell? ⟨b,0,none⟩=some .nilFunc)(h1:w.cell? ⟨b,1,none⟩=some (.bool true)):Calls Tryz.prog 105 #[.pointer (some ⟨b,0,none⟩)] w fun e w' => e=.returned (.bool true)/\w=w' := by
 go_enter Tryz.func105,Tryz.ntmps105
 go_wp2
 go_ret;exact⟨rfl,rfl⟩
theorem Sw (tmps:Array Value)(w:World)(b:Nat)(v0 v1 v2 v3 v4:Value)(hp:tmps[2]?=some (.pointer (some ⟨b,0,none⟩)))(hk:∀k,w.cell? ⟨b,k,none⟩=(#[v0,v1,v2,v3,v4]:Array Value)[k]?) :
  (results Tryz.f167 tmps).run Tryz.prog w=.ok (.agg #[v0,v1,v2,v3,v4]) w:=by
 simp[results,Tryz.results167,go_sem,hp,hk]
theorem Ms {b:Nat}{va:Value}{d:aU}{id:Int}{s:lM}(p:s.pc=6)(u:s.pg.sl.length<=1000000)(c:St K w (Fi b d id va s::bz va s.pg::F)) :
  Calls Tryz.prog 167 #[.pointer (some ⟨b,0,none⟩)] w fun e w' => ∃j,e=.returned (.agg #[.int .i64 (s.pg).aA,j,.string (s.pg).hi,.bool (s.pg).la,.int .u64 (s.pg).ri])/\St K w' (bz j s.pg::Fi b d id va s::bz va s.pg::F):=by
 obtain⟨pc,pg,left,word,t⟩:=s;simp only at p u;subst p;have c:St K w (Fi b d id va ⟨6,pg,left,word,t⟩::bz va pg::F):=c;obtain⟨a,cap,rfl,_,_⟩:=(show St K w (az va 69 2 pg.sl.length (aF pg.sl)::Fi b d id va ⟨6,pg,left,word,t⟩::F)from c.b1).aJ
 obtain⟨th,g⟩:∃th,th=aY (Gk b t):=⟨_,rfl⟩;have c:St K w (blk b (.cells (aW .nilFunc d id pg (.slice a pg.sl.length cap) left th word).toArray 222)::az (.slice a pg.sl.length cap) 69 2 pg.sl.length (aF pg.sl)::F):=by rw[g];exact c
 have i:=c.b1.cM (by omega)
 have m:=c;have c:=c.made (.cells #[.int .i64 0,.slice none 0 0,.string ⟨#[]⟩,.bool false,.int .u64 0] 43);have i:=i.same ((Below.refl w.heap.size w).alloc (Nat.le_refl _) (.cells #[.int .i64 0,.slice none 0 0,.string ⟨#[]⟩,.bool false,.int .u64 0] 43));have q:=ass (gG (w.alloc (.cells #[.int .i64 0,.slice none 0 0,.string ⟨#[]⟩,.bool false,.int .u64 0] 43)) b (c.k1 0) (c.k1 1));have r:=ass (nr (cap:=cap) c i);have k:=c.k1;unfold aW at k;have n:=ass g;clear c i m g;go_enter Tryz.func167,Tryz.ntmps167
 go_wp2_with fail
 refine(q.out).mono ?_
 rintro e z ⟨rfl,rfl⟩;go_wp2_with fail
 refine(r.out).mono ?_
 clear r q k;rintro e A ⟨j,rfl,c⟩;obtain⟨v,o,y,_,_⟩:=c.aJ;subst y;have c:=c.b1;have B:=c.k0;have fb:=c.f0;have c:=((((c.aK 0 (.int .i64 pg.aA)).aK 1 (.slice v pg.sl.length o)).aK 2 (.string pg.hi)).aK 3 (.bool pg.la)).aK 4 (.int .u64 pg.ri);simp only[List.set_cons_zero,List.set_cons_succ]at c;go_wp2
 refine bodyPost_ret (Sw _ _ w.heap.size _ _ _ _ _ rfl c.k0) rfl ⟨_,rfl,?_⟩;have h:=c.tail;rw[n.out]at h;exact h
theorem Gl {d:aU}{id:Int}(c:St K w F) :
  Calls Tryz.prog 165 #[.agg #[.int .i64 d.th,.int .i64 d.sn,.int .i64 d.no,.int .i64 d.ch,.int .i64 d.re,.int .i64 d.fa,.int .u64 d.cl],.int .u64 id] w fun e w' => ∃b,e=.returned (.pointer (some ⟨b,0,none⟩))/\St K w' (Fi b d id (.slice none 0 0) qo::bz (.slice none 0 0) Ko::F):=by
 have c:=c.pass (.cells #[.int .i64 d.th,.int .i64 d.sn,.int .i64 d.no,.int .i64 d.ch,.int .i64 d.re,.int .i64 d.fa,.int .u64 d.cl] 29);have c:=c.made (.cells #[.nilFunc,.bool false,.int .i64 d.th,.int .i64 d.sn,.int .i64 d.no,.int .i64 d.ch,.int .i64 d.re,.int .i64 d.fa,.int .u64 d.cl,.int .u64 id,.int .i64 0,.slice none 0 0,.string ⟨#[]⟩,.bool false,.int .u64 0,.int .i64 0,.nilFunc,.int .u64 0] 222);rw[World.size_alloc]at c;go_enter Tryz.func165,Tryz.ntmps165
 go_wp2_with fail
 refine(bJ c (fJ _ _ _ _)).mono ?_
 clear c;rintro e g ⟨rfl,c⟩;have k:=c.k0;have h:=c.f0;have c:=(c.aK 0 (.func (.func 183) #[.pointer (some ⟨(w.heap.size+1),0,none⟩)] #[])).aK 1 (.bool true);simp only[List.set_cons_zero,List.set_cons_succ]at c;go_wp2
 go_ret;exact⟨_,rfl,c.cJ.b1⟩
end
section
variable {pg:Pg}{a a':Option Addr}{cap cap':Nat}
end
end
section
set_option linter.unusedSectionVars false
theorem St.bring {K:aM}{w:World}{A B:List aC}{c:aC}(h:St K w (A++c::B)):St K w (c::(A++B)):=h.perm List.perm_middle
theorem St.sink {K:aM}{w:World}{A B:List aC}{c:aC}(h:St K w (c::(A++B))):St K w (A++c::B):=h.perm List.perm_middle.symm
theorem St.b7 {K:aM}{w:World}{c d e f g a b z:aC}{cs:List aC}(h:St K w (c::d::e::f::g::a::b::z::cs)):St K w (z::c::d::e::f::g::a::b::cs):=St.bring (A:=[c,d,e,f,g,a,b]) h
theorem St.b10 {K:aM}{w:World}{e g i j k m n c7 o p c:aC}{cs:List aC}(h:St K w (e::g::i::j::k::m::n::c7::o::p::c::cs)):St K w (c::e::g::i::j::k::m::n::c7::o::p::cs):=St.bring (A:=[e,g,i,j,k,m,n,c7,o,p]) h
theorem St.u8 {K:aM}{w:World}{n c e g i j k c7 m:aC}{cs:List aC}(h:St K w (n::c::e::g::i::j::k::c7::m::cs)):St K w (c::e::g::i::j::k::c7::m::n::cs):=St.sink (A:=[c,e,g,i,j,k,c7,m]) h
set_option linter.unusedSectionVars false
theorem l5 {α β : Type}(f:α->List β){l l':List α}(h:l.Perm l'):(l.flatMap f).Perm (l'.flatMap f):=by
 induction h with
 | nil=>exact List.Perm.refl _
 | cons x _ ih=>rw[List.flatMap_cons,List.flatMap_cons];exact ih.append_left _
 | swap x y l=>
  rw[List.flatMap_cons,List.flatMap_cons,List.flatMap_cons,List.flatMap_cons,←List.append_assoc,←List.append_assoc];exact List.perm_append_comm.append_right _
 | trans _ _ c e=>exact c.trans e
theorem iM {α β : Type}{f g:α->List β}:∀ {l:List α},(∀a,a∈l->f a=g a)->l.flatMap f=l.flatMap g
 | [],_=>rfl
 | a::l,h=>by rw[List.flatMap_cons,List.flatMap_cons,h a List.mem_cons_self,iM fun b c=>h b (List.mem_cons_of_mem _ c)]
theorem uq:∀(ds es:List Nat),ds.Nodup->(∀d,d∈ds->d∈es)->∃r,es.Perm (ds++r)
 | [],es,_,_=>⟨es,List.Perm.refl _⟩
 | d::ds,es,c,h=>by
  rw[List.nodup_cons]at c;have h1:=List.perm_cons_erase (h d List.mem_cons_self);obtain⟨r,j⟩:=uq ds (es.erase d) c.2 (fun x i=>by
   have g:x≠d:=fun e=>c.1 (e ▸ i)
   exact(List.mem_erase_of_ne g).2 (h x (List.mem_cons_of_mem _ i)))
  exact⟨r,h1.trans (j.cons d)⟩
def rk (ρ:Nat->Option Value)(C:Nat->List aC)(es:List Nat):List aC:=es.flatMap fun e=>if (ρ e).isSome then C e else []
def GR (K:aM)(REST:List aC)(es:List Nat)(Φ:Nat->(Nat->Option Value)->Value->List aC->Prop)(ρ:Nat->Option Value)(W:World):Prop:=
 ∃C:Nat->List aC,(∀e v,e∈es->ρ e=some v->Φ e ρ v (C e))/\St K W (rk ρ C es++REST)
def Sy (es:List Nat)(Φ:Nat->(Nat->Option Value)->Value->List aC->Prop):Prop:=
 ∀e ρ v cs k u,e∈es->ρ k=none->Φ e ρ v cs->Φ e (upd ρ k u) v cs
section
variable {K:aM}{REST:List aC}{es:List Nat}{Φ:Nat->(Nat->Option Value)->Value->List aC->Prop}{ρ:Nat->Option Value}{W:World}
theorem xp:∀(es:List Nat)(C:Nat->List aC),rk (fun _=>none) C es=[]
 | [],_=>rfl
 | e::es,C=>by
  have:=xp es C;unfold rk at this ⊢;rw[List.flatMap_cons,this];rfl
theorem GR.start (c:St K W REST):GR K REST es Φ (fun _=>none) W:=
 ⟨fun _=>[],fun e v _ h=>(by cases h),by rw[xp];exact c⟩
theorem GR.same {W':World}(h:GR K REST es Φ ρ W)(c:Below W.heap.size W W'):GR K REST es Φ ρ W' := by
 obtain⟨C,h1,e⟩:=h;exact⟨C,h1,e.same c⟩
theorem GR.rest (h:GR K REST es Φ ρ W):St K W REST:=by
 obtain⟨C,h1,c⟩:=h;exact c.right
theorem GR.step (h:GR K REST es Φ ρ W)(hm:Sy es Φ)(e:Nat)(ds:List Nat)(A:es.Nodup)(hd:(e::ds).Nodup)(m:∀d,d∈e::ds->d∈es)(he:ρ e=none)(g:∀d,d∈ds->(ρ d).isSome=true) :
  ∃(C:Nat->List aC) (R:List aC),(∀d v,d∈es->ρ d=some v->Φ d ρ v (C d))/\St K W (ds.flatMap C++(REST++R)) /\
   ∀v cs W',Φ e (upd ρ e v) v cs->St K W' (cs++(ds.flatMap C++(REST++R)))->GR K REST es Φ (upd ρ e v) W' := by
 obtain⟨C,h1,B⟩:=h;obtain⟨r,n⟩:=uq (e::ds) es hd m;have i:((e::ds)++r).Nodup:=n.nodup_iff.1 A;have o:ds.flatMap (fun e=>if (ρ e).isSome then C e else [])=ds.flatMap C:=iM fun d c=>by rw[if_pos (g d c)]
 have D:(rk ρ C es).Perm (ds.flatMap C++rk ρ C r):=by
  refine(l5 _ n).trans ?_
  rw[List.cons_append,List.flatMap_cons,List.flatMap_append,he];simp only[Option.isSome_none,Bool.false_eq_true,if_false,List.nil_append];rw[o];exact List.Perm.refl _
 refine⟨C,rk ρ C r,h1,B.perm ?_,fun v cs W' p q =>?_⟩
 ·refine(D.append_right REST).trans ?_
  rw[List.append_assoc];exact List.perm_append_comm.append_left _
 ·have j:∀d,d∈ds++r->d≠e:=fun d c E => by
   rw[List.cons_append,List.nodup_cons]at i;exact i.1 (E ▸ c)
  refine⟨fun k=>if k=e then cs else C k,fun k u hk hu=>?_,q.perm ?_⟩
  ·by_cases y:k=e
   ·subst y
    have:v=u:=by simpa[upd] using hu
    subst this;show Φ k _ v (if k=k then cs else C k)
    rw[if_pos rfl];exact p
   ·show Φ k _ u (if k=e then cs else C k)
    rw[if_neg y];have z : ρ k=some u:=by simpa[upd,y] using hu
    exact hm k ρ u _ e v hk he (h1 k u hk z)
  ·have G:(rk (upd ρ e v) (fun k=>if k=e then cs else C k) es).Perm (cs++(ds.flatMap C++rk ρ C r)):=by
    refine(l5 _ n).trans ?_
    rw[List.cons_append,List.flatMap_cons,List.flatMap_append];have I:ds.flatMap (fun e_1=>if (upd ρ e v e_1).isSome=true then(if e_1=e then cs else C e_1)else [])=ds.flatMap C:=iM fun d c=>by
     have:=j d (List.mem_append_left _ c);have u:upd ρ e v d=ρ d:=by simp[upd,this]
     rw[u,if_pos (g d c),if_neg this]
    have J:r.flatMap (fun e_1=>if (upd ρ e v e_1).isSome=true then(if e_1=e then cs else C e_1)else [])=rk ρ C r:=iM fun d c=>by
     have:=j d (List.mem_append_right _ c);have u:upd ρ e v d=ρ d:=by simp[upd,this]
     rw[u,if_neg this]
    rw[I,J];have u:(upd ρ e v e).isSome=true:=by simp[upd]
    rw[if_pos u];show((if e=e then cs else C e)++_).Perm _
    rw[if_pos rfl]
   refine List.Perm.trans ?_ (G.append_right REST).symm;rw[List.append_assoc,List.append_assoc];exact(List.Perm.append_left _ (List.Perm.append_left _ List.perm_append_comm))
theorem GR.kE (h:GR K REST es Φ ρ W)(hm:Sy es Φ)(e:Nat)(j:es.Nodup)(g:e∈es)(he:ρ e=none)(v:Value)(i:Φ e (upd ρ e v) v []):GR K REST es Φ (upd ρ e v) W:=by
 obtain⟨C,R,h1,k,c⟩:=h.step hm e [] j (by simp) (by simpa using g) he (by simp)
 exact c v [] W i k
theorem GR.at (h:GR K REST es Φ ρ W)(d:Nat)(hd:d∈es){v:Value}(c:ρ d=some v):∃cs R,Φ d ρ v cs/\St K W (cs++(REST++R)):=by
 obtain⟨C,h1,e⟩:=h;obtain⟨r,g⟩:=uq [d] es (by simp) (by simpa using hd)
 refine⟨C d,rk ρ C r,h1 d v hd c,e.perm ?_⟩;have i:(rk ρ C es).Perm (C d++rk ρ C r):=by
  refine(l5 _ g).trans ?_
  rw[List.cons_append,List.flatMap_cons,c];exact List.Perm.refl _
 refine(i.append_right REST).trans ?_
 rw[List.append_assoc];exact List.perm_append_comm.append_left _
theorem GR.last (h:GR K REST es Φ ρ W)(c:∀e,e∈es->(ρ e).isSome=true):∃C:Nat->List aC,(∀e,e∈es->∃v,ρ e=some v/\Φ e ρ v (C e))/\St K W (es.flatMap C++REST):=by
 obtain⟨C,h1,i⟩:=h;refine⟨C,fun e he=>?_,?_⟩
 ·obtain⟨v,g⟩:=asv.1 (c e he)
  exact⟨v,g,h1 e v he g⟩
 ·have:rk ρ C es=es.flatMap C:=iM fun d j=>by rw[if_pos (c d j)]
  rw[←this];exact i
end
theorem Mt {α:Type}(l:List α):∀(n:Nat),l.length<=n->(List.range n).filterMap (fun i=>l[i]?)=l:=by
 induction l with
 | nil=>intro n _;simp
 | cons a l ih=>
  intro n h;cases n with
  | zero=>simp at h
  | succ n=>
   rw[List.range_succ_eq_map,List.filterMap_cons,List.filterMap_map];simp only[List.getElem?_cons_zero];congr 1
   exact ih n (by simpa using h)
theorem St.re {K:aM}{w:World}{cs c:List aC}(g:St K w cs)(p:List Nat)(e:p.filterMap ((cs.take p.length)[·]?)++cs.drop p.length=c)(hp:p.Perm (List.range p.length):=by decide):St K w c := by
 subst e;refine g.perm ?_
 have h:=Mt (cs.take p.length) p.length (by simp;omega)
 have h2:=(hp.filterMap ((cs.take p.length)[·]?))
 rw[h]at h2;have i:=(h2.append_right (cs.drop p.length)).symm;rwa [List.take_append_drop]at i
def aB (b2 b3 b5:Nat):FV:=⟨115, #[], #[.pointer (some ⟨b2,0,none⟩),.pointer (some ⟨b3,0,none⟩),.pointer (some ⟨b5,0,none⟩)]⟩
theorem j4:Enters 115:=fun _ _=>by kernel_rfl
def bI (b2 b3 b5:Nat)(x t:Value):aC:=group [blk b2 (.cells #[x] 174),blk b3 (.cells #[t] 129),blk b5 (.cells #[aY (some (aB b2 b3 b5))] 121)]
section
variable {K:aM}{w:World}{F:List aC}{b2 b3 b5:Nat}{x t:Value}
theorem St.callParts (h:St K w (bI b2 b3 b5 x t::F)):St K w (blk b2 (.cells #[x] 174)::blk b3 (.cells #[t] 129)::blk b5 (.cells #[aY (some (aB b2 b3 b5))] 121)::F):=St.eD.1 h
theorem St.Sz (h:St K w (blk b2 (.cells #[x] 174)::blk b3 (.cells #[t] 129)::blk b5 (.cells #[aY (some (aB b2 b3 b5))] 121)::F)):St K w (bI b2 b3 b5 x t::F):=(St.eD (l:=[_,_,_])).2 h
theorem fY {T2:TypeId}{xv:Value}{f:Nat}{tx ty:Array Value}(c:St K w F) :
  Calls Tryz.prog 74 #[.iface T2 xv,.func (.func f) tx ty] w fun e w' => ∃b2 b3 b5,e=.returned (aY (some (aB b2 b3 b5)))/\St K w' (bI b2 b3 b5 (.iface T2 xv) (.func (.func f) tx ty)::F):=by
 have c:=c.made (.cells #[.iface T2 xv] 174);have c:=c.made (.cells #[.func (.func f) tx ty] 129);have c:=c.made (.cells #[aY (some (aB w.heap.size (w.heap.size+1) (w.heap.size+2)))] 121);simp only[World.size_alloc]at c;have g:=ass c;clear c;go_enter Tryz.func74,Tryz.ntmps74
 go_wp2
 go_ret;exact⟨w.heap.size,w.heap.size+1,w.heap.size+2,rfl,St.Sz g.out.u2.b1⟩
theorem jt {T2:TypeId}{xv:Value}{f g:Nat}{tx ty:Array Value}{m:Nat}{P0:World->Prop}{P1:Option FV->World->Prop}(i:St K w (bI b2 b3 b5 (.iface T2 xv) (.func (.func f) tx ty)::F))
  (hm : ∀ (n : Nat) (w : World), (method (n + 1) T2 xv "Step").run Tryz.prog w = .ok (g, xv) w) (q : Enters g) (r : Enters f)
  (c:Calls Tryz.prog g #[xv,.pointer (some ⟨m,0,none⟩)] w fun e j=>(∃k F',St k j (bI b2 b3 b5 (.iface T2 xv) (.func (.func f) tx ty)::F'))/\((e=.returned (.bool false)/\P0 j)\/(e=.returned (.bool true)/\Calls Tryz.prog f (tx++ty) j fun e p=>∃o,e=.returned (aY o)/\P1 o p))) :
  Calls Tryz.prog 115 #[.pointer (some ⟨m,0,none⟩),.pointer (some ⟨b2,0,none⟩),.pointer (some ⟨b3,0,none⟩),.pointer (some ⟨b5,0,none⟩)] w fun e w' => ∃o,e=.returned (aY o)/\((o=some (aB b2 b3 b5)/\P0 w')\/P1 o w'):=by
 have u : ∀(args:Array Value) (w:World),(callFunc f args).run Tryz.prog w=.ok (.enter f args) w:=r;have v : ∀(args:Array Value) (w:World),(callFunc g args).run Tryz.prog w=.ok (.enter g args) w:=q;have k2:=i.callParts.k0;have HC:=ass c;clear c i;go_enter Tryz.func115,Tryz.ntmps115
 go_wp2_with fail
 refine(HC.out).mono ?_
 clear HC k2;rintro e j ⟨⟨k,F',i⟩,h⟩;have y:=i.callParts.k1;have z:=i.callParts.k2;clear i;rcases h with⟨rfl,h⟩|⟨rfl,h⟩
 ·go_wp2
  go_ret;exact⟨some (aB b2 b3 b5),rfl,.inl ⟨rfl,h⟩⟩
 ·have HC:=ass h
  clear h;go_wp2_with fail
  refine(HC.out).mono ?_
  clear HC y z;rintro e p ⟨o,rfl,h⟩;cases o with
  | none=>
   simp only[aY];go_wp2
   go_ret;exact⟨none,rfl,.inr h⟩
  | some s=>
   simp only[aY];go_wp2
   go_ret;exact⟨some s,rfl,.inr h⟩
theorem Bj (n : Nat) (a : Addr) (w : World) : (method (n + 1) 213 (.pointer (some a)) "Step").run Tryz.prog w = .ok (215, .pointer (some a)) w := by kernel_rfl
theorem Bk (n : Nat) (a : Addr) (w : World) : (method (n + 1) 84 (.pointer (some a)) "Step").run Tryz.prog w = .ok (49, .pointer (some a)) w := by kernel_rfl
end
def R2 (i j:Nat)(Pre:World->Prop)(Mid:Value->World->Prop)(Post:Value->Value->World->Prop)(ρ:Nat->Option Value)(W:World):Prop:=
 match ρ i,ρ j with
 | none,_=>ρ j=none/\Pre W
 | some v,none=>Mid v W
 | some v,some u=>Post v u W
theorem gH {P:Program}{id:Nat}{Q:Exit->Act->World->Prop}{a:Act}{w:World}{l:List Oper}(m:List Bool)(i j:Nat)(g:World->Prop)(k:Value->World->Prop)(c:Value->Value->World->Prop)(Inv:World->Prop)(aS:Act)
  (r:i≠j) (hm:P.follows .mixedOrders=true) (hB:Ss l m [i,j] (fun e=>if e=j then [i]else []) a.tmps.size=true)
  (H:∀W,Inv W->wpQuiet P (cG m l).toArray (fun w' => ∃x:Ext,w'=over W x) (fun a' => a'=aS) (cG m l) a)
  (ja:aS.tmps.size=a.tmps.size) (h0:g w)
  (hI:(∀W,g W->Inv W)/\(∀v W,k v W->Inv W)/\(∀v u W,c v u W->Inv W))
  (hR:(∀W W',g W->Below W.heap.size W W' -> g W')/\(∀v W W',k v W->Below W.heap.size W W' -> k v W')/\(∀v u W W',c v u W->Below W.heap.size W W' -> c v u W'))
  (Gm:∀(R:(Nat->Option Value)->World->Prop) o,l[i]?=some o->∀ ρ W,g W->(∀v W',k v W' -> R (upd ρ i v) W')->∀af,af=aS->wpList P l.toArray (Bc ρ af R i o) [o] af W)
  (vV:∀(R:(Nat->Option Value)->World->Prop) o,l[j]?=some o->∀ ρ v W,k v W->(∀u W',c v u W' -> R (upd ρ j u) W')->∀af,af=aS.put (aP l i) v->wpList P l.toArray (Bc ρ af R j o) [o] af W)
  (hQ:∀v u W,c v u W->Q .normal ((aS.put (aP l i) v).put (aP l j) u) W):(Code.region id l.toArray true).wp P Q a w:=by
 have y:j≠i:=r.symm;refine aX m [i,j] (fun e=>if e=j then [i]else []) (R2 i j g k c) Inv aS hm hB H ja ⟨rfl,h0⟩ ?_ ?_ ⟨?_,?_,trivial⟩ ?_
 ·intro ρ W h
  unfold R2 at h;cases hi:ρ i with
  | none=>rw[hi]at h;exact hI.1 W h.2
  | some v=>
   cases p:ρ j with
   | none=>rw[hi,p]at h;exact hI.2.1 v W h
   | some u=>rw[hi,p]at h;exact hI.2.2 v u W h
 ·intro ρ W W' h z
  unfold R2 at h ⊢;cases hi:ρ i with
  | none=>rw[hi]at h;exact⟨h.1,hR.1 W W' h.2 z⟩
  | some v=>
   cases p:ρ j with
   | none=>rw[hi,p]at h;exact hR.2.1 v W W' h z
   | some u=>rw[hi,p]at h;exact hR.2.2 v u W W' h z
 ·intro o A ρ W h B hi hd af n
  have n:af=aj l ρ (if i=j then [i]else []) aS:=n
  rw[if_neg r]at n;obtain rfl:af=aS:=n;unfold R2 at h;rw[hi]at h;refine Gm _ o A ρ W h.2 (fun v W' C=>?_) _ rfl
  unfold R2;have D:upd ρ i v i=some v:=by simp[upd]
  have e2:upd ρ i v j=none:=by simp[upd,y,h.1]
  rw[D,e2];exact C
 ·intro o A ρ W h B p hd af n
  have n:af=aj l ρ (if j=j then [i]else []) aS:=n
  rw[if_pos rfl]at n;obtain⟨v,hi⟩:=asv.1 (hd i (by show i∈(if j=j then [i]else []);simp))
  have n:af=aS.put (aP l i) v:=by rw[n];simp[aj,hi]
  unfold R2 at h;rw[hi,p]at h;refine vV _ o A ρ v W h (fun u W' C=>?_) _ n
  unfold R2;have D:upd ρ j u i=some v:=by simp[upd,r,hi]
  have e2:upd ρ j u j=some u:=by simp[upd]
  rw[D,e2];exact C
 ·intro ρ W h q
  obtain⟨v,hi⟩:=asv.1 (q i (by simp))
  obtain⟨u,p⟩:=asv.1 (q j (by simp))
  unfold R2 at h;rw[hi,p]at h;have:=hQ v u W h;simpa[aj,hi,p] using this
end
section
abbrev cA (a b:ByteArray):Bool:=Op.bytesLess a.toList b.toList
theorem xq:∀x:List UInt8,Op.bytesLess x x=false
 | []=>rfl
 | a::x=>by simp[Op.bytesLess,xq x]
theorem Bl:∀x y z:List UInt8,Op.bytesLess x y=true->Op.bytesLess y z=true->Op.bytesLess x z=true
 | _,[],_,h,_=>by cases ‹List UInt8› <;> simp[Op.bytesLess]at h
 | _,_::_,[],_,h=>by simp[Op.bytesLess]at h
 | [],_::_,_::_,_,_=>rfl
 | a::x,b::y,c::z,h,k=>by
  simp only[Op.bytesLess,Bool.or_eq_true,decide_eq_true_eq,Bool.and_eq_true,beq_iff_eq]at h k ⊢;have ih:=Bl x y z;rcases h with h|⟨rfl,h⟩
  ·rcases k with k|⟨rfl,k⟩
   ·left;exact UInt8.lt_trans h k
   ·left;exact h
  ·rcases k with k|⟨rfl,k⟩
   ·left;exact k
   ·right;exact⟨rfl,ih h k⟩
theorem Bo:∀x y:List UInt8,Op.bytesLess x y=false->Op.bytesLess y x=false->x=y
 | [],[],_,_=>rfl
 | [],_::_,h,_=>by simp[Op.bytesLess]at h
 | _::_,[],_,h=>by simp[Op.bytesLess]at h
 | a::x,b::y,h,k=>by
  simp only[Op.bytesLess,Bool.or_eq_false_iff,decide_eq_false_iff_not,Bool.and_eq_false_iff,beq_eq_false_iff_ne,ne_eq]at h k;have c:a=b:=UInt8.le_antisymm (UInt8.not_lt.1 k.1) (UInt8.not_lt.1 h.1);subst c;rw[Bo x y (by simpa using h.2) (by simpa using k.2)]
theorem cS (a:ByteArray):cA a a=false:=xq _
theorem gN {a b c:ByteArray}(h:cA a b=true)(k:cA b c=true):cA a c=true:=Bl _ _ _ h k
theorem gO {a b:ByteArray}(h:cA a b=true):cA b a=false:=by
 cases e:cA b a with
 | false=>rfl
 | true=>have:=gN h e;rw[cS]at this;cases this
theorem yx {a b:ByteArray}(h:a.toList=b.toList):a=b:=by
 rw[ByteArray.toList_eq,ByteArray.toList_eq]at h;exact ByteArray.ext (Array.ext' h)
theorem gP {a b:ByteArray}(h:cA a b=false)(k:cA b a=false):a=b:=yx (Bo _ _ h k)
theorem Gn {a b:ByteArray}(h:cA a b=true):a≠b:=fun e=>by subst e;rw[cS]at h;cases h
theorem gq {a b c:ByteArray}(h:cA b a=false)(k:cA b c=true):cA a c=true:=by
 cases e:cA a b with
 | true=>exact gN e k
 | false=>rw[gP e h];exact k
theorem rp {a b c:ByteArray}(h:cA a b=true)(k:cA c b=false):cA a c=true:=by
 cases e:cA b c with
 | true=>exact gN h e
 | false=>rw[←gP e k];exact h
theorem qu {a b c:ByteArray}(h:cA b a=false)(k:cA c b=false):cA c a=false:=by
 cases e:cA c a with
 | false=>rfl
 | true=>have:=rp e h;rw[k]at this;cases this
theorem jX (a:ByteArray):cA a ⟨#[]⟩=false:=by
 unfold cA;have:(⟨#[]⟩:ByteArray).toList=[]:=by rw[ByteArray.toList_eq]
 rw[this];cases a.toList <;> rfl
theorem jL {a b:ByteArray}(h:a≠b):(a.toList == b.toList)=false:=by
 rw[beq_eq_false_iff_ne];exact fun e=>h (yx e)
theorem Bp (a b:ByteArray)(w:World):Calls Tryz.prog 160 #[.string a,.string b] w fun e w' => e=.returned (.int .i64 (if cA a b then -1 else if cA b a then 1 else 0))/\w=w' := by
 go_enter Tryz.func160,Tryz.ntmps160
 cases h:cA a b with
 | true=>
  go_wp2
  go_ret;exact⟨rfl,rfl⟩
 | false=>
  cases h2:cA b a with
  | true=>
   have c:=jL (Gn h2).symm;go_wp2
   go_ret;exact⟨rfl,rfl⟩
  | false=>
   obtain rfl:=gP h h2;have c:(a.toList == a.toList)=true:=beq_self_eq_true _;go_wp2
   go_ret;exact⟨rfl,rfl⟩
theorem ur (key low high:ByteArray)(last:Bool)(w:World):Calls Tryz.prog 138 #[.string key,.string low,.string high,.bool last] w fun e w' => e=.returned (.bool (!cA key low && (last || cA key high)))/\w=w' := by
 go_enter Tryz.func138,Tryz.ntmps138
 cases h:cA key low <;> cases h2:last <;> cases c:cA key high <;> go_wp2 <;> go_ret <;> exact⟨rfl,rfl⟩
def kY (l:List Sl):Prop:=l.Pairwise fun x y=>cA x.k y.k=true
def fR (l:List Sl)(key:ByteArray):Nat:=l.countP fun s=>cA s.k key
def iN (l:List Sl)(key:ByteArray):Nat:=l.countP fun s => !cA key s.k
theorem rq (l:List Sl)(key:ByteArray):fR l key<=l.length:=List.countP_le_length
theorem yz (l:List Sl)(key:ByteArray):iN l key<=l.length:=List.countP_le_length
theorem jM {key:ByteArray}:∀ {l:List Sl},kY l->∀ {i:Nat}{s:Sl},l[i]?=some s->(cA s.k key=true↔i<fR l key)
 | [],_,i,s,h=>by simp at h
 | a::l,h,i,s,g=>by
  have m := List.pairwise_cons.1 h;cases j:cA a.k key with
  | true=>
   have e:fR (a::l) key=fR l key+1:=by simp[fR,j]
   rw[e];cases i with
   | zero=>simp at g;subst g;simp[j]
   | succ i=>rw[jM m.2 (by simpa using g)];omega
  | false=>
   have e:fR (a::l) key=0:=by
    unfold fR;rw[List.countP_eq_zero];intro x n;rcases List.mem_cons.1 n with rfl|n
    ·simp[j]
    ·have h1:=m.1 x n
     cases c:cA x.k key with
     | false=>simp
     | true=>have:=gN h1 c;rw[j]at this;cases this
   rw[e];have:cA s.k key=false:=by
    cases i with
    | zero=>simp at g;subst g;exact j
    | succ i=>
     have h1:=m.1 s (asw (by simpa using g))
     cases c:cA s.k key with
     | false=>rfl
     | true=>have:=gN h1 c;rw[j]at this;cases this
   simp[this]
theorem jN {key:ByteArray}:∀ {l:List Sl},kY l->∀ {i:Nat}{s:Sl},l[i]?=some s->(cA key s.k=false↔i<iN l key)
 | [],_,i,s,h=>by simp at h
 | a::l,h,i,s,c=>by
  have j := List.pairwise_cons.1 h;cases g:cA key a.k with
  | false=>
   have e:iN (a::l) key=iN l key+1:=by simp[iN,g]
   rw[e];cases i with
   | zero=>simp at c;subst c;simp[g]
   | succ i=>rw[jN j.2 (by simpa using c)];omega
  | true=>
   have e:iN (a::l) key=0:=by
    unfold iN;rw[List.countP_eq_zero];intro x m;rcases List.mem_cons.1 m with rfl|m
    ·simp[g]
    ·simp[gN g (j.1 x m)]
   rw[e];have:cA key s.k=true:=by
    cases i with
    | zero=>simp at c;subst c;exact g
    | succ i=>exact gN g (j.1 s (asw (by simpa using c)))
   simp[this]
theorem qz {key:ByteArray}{l:List Sl}(h:kY l):iN l key=fR l key\/(iN l key=fR l key+1/\∃s,l[fR l key]?=some s/\s.k=key):=by
 have h1:=rq l key;have h2:=yz l key;have le:fR l key<=iN l key:=by
  rcases Nat.lt_or_ge (iN l key) (fR l key)with g|g
  ·obtain⟨s,c⟩:∃s,l[iN l key]?=some s:=⟨_,asx (by omega)⟩
   have a:=(jM h c).2 g;have b:=mt (jN (key:=key) h c).1 (by omega)
   rw[gO a]at b;simp at b
  ·exact g
 rcases Nat.lt_or_ge (fR l key) (iN l key)with g|g
 ·right
  have one:∀i,fR l key<=i->i<iN l key->∃s,l[i]?=some s/\s.k=key:=by
   intro i hi m;obtain⟨s,c⟩:∃s,l[i]?=some s:=⟨_,asx (by omega)⟩
   have a:=mt (jM (key:=key) h c).1 (by omega)
   have b:=(jN h c).2 m;exact⟨s,c,gP (by simpa using a) b⟩
  refine⟨?_,one _ (Nat.le_refl _) g⟩;rcases Nat.lt_or_ge (fR l key+1) (iN l key)with n|n
  ·obtain⟨s,c,e⟩:=one _ (Nat.le_refl _) g
   obtain⟨s',j,o⟩:=one (fR l key+1) (by omega) n
   have:=List.pairwise_iff_getElem.1 h _ _ (asu.1 c).1 (asu.1 j).1 (by omega)
   rw[(asu.1 c).2,(asu.1 j).2,e,o,cS]at this;cases this
  ·omega
 ·left;omega
theorem yA (s:Sl)(key:ByteArray)(w:World):Calls Tryz.prog 159 #[.agg #[.string s.k,.int .u64 s.r],.string key] w fun e w' => e=.returned (.int .i64 (if cA s.k key then -1 else if cA key s.k then 1 else 0))/\Below w.heap.size w w' := by
 have c:=(St.start w).made (.cells #[.string s.k,.int .u64 s.r] 69);have Q:=ass (fun w=>Bp s.k key w)
 generalize (if cA s.k key then(-1:Int)else if cA key s.k then 1 else 0)=r at *
 go_enter Tryz.func159,Tryz.ntmps159
 go_wp2_with fail
 refine(Q.out _).mono ?_
 rintro e g ⟨rfl,rfl⟩;go_wp2
 go_ret;exact⟨rfl,c.below (aM.Le.refl _)⟩
section
variable {a:Option Addr}{cap:Nat}{l:List Sl}{key:ByteArray}
theorem Gp (w:World)(h:eG w a l)(I:kY l) :
  Calls Tryz.prog 158 #[.slice a l.length cap,.string key,.func (.func 159) #[] #[]] w fun e w' => e=.returned (.tuple #[.int .i64 (fR l key),.bool (decide (fR l key<iN l key))])/\Below w.heap.size w w' := by
 obtain⟨n,J⟩:∃n,n=l.length:=⟨_,rfl⟩;obtain⟨m,hm⟩:∃m,m=fR l key:=⟨_,rfl⟩;have N:m<=n:=by rw[hm,J];exact rq _ _
 have hl:=h.1;rw[←J]at hl ⊢;have V:Hid (∀i,i<n->∃(s:Sl) (b off:Nat),a=some ⟨b,off,none⟩/\b<w.heap.size/\w.cell? ⟨b,off+i*2,none⟩=some (.string s.k)/\w.cell? ⟨b,off+i*2+1,none⟩=some (.int .u64 s.r)/\(cA s.k key=true↔i<m)/\(cA key s.k=false↔i<iN l key)):=ass (by
  intro i hi;obtain⟨s,c⟩:∃s,l[i]?=some s:=⟨_,asx (by omega)⟩
  obtain⟨b,off,e,o,v,y⟩:=h.2 i s c;exact⟨s,b,off,e,o,v,y,by rw[hm];exact jM I c,jN I c⟩)
 have O:Hid (iN l key<=n/\m<=iN l key):=ass ⟨by rw[J];exact yz _ _,by have:=qz (key:=key) I;omega⟩
 rw[←hm];generalize iN l key=X at *;have c:=St.start w;clear h J hm I;go_enter Tryz.func158,Tryz.ntmps158
 go_wp2
 go_loopw [9,10,11] (fun v9 v10 v11 wr=>∃(i j:Nat),v9=.int .i64 i/\v10=.int .i64 j/\i<=m/\m<=j/\j<=n/\St (aM.of w) wr []) (fun v9 v10 _ _=>(intOf v10).toNat-(intOf v9).toNat)
 case atStart=>exact⟨0,n,rfl,rfl,by omega,N,by omega,c⟩
 case round=>
  clear c;obtain⟨i,j,rfl,rfl,hi,hj,R,c⟩:=hrel;by_cases hij:i<j
  ·go_upto_region 5 with(fail)
   obtain⟨k,hk⟩:∃k:Nat,k=(i+j) / 2:=⟨_,rfl⟩;have C:((i:Int)+j) / 2=k:=by omega
   have hkj:k<j:=by omega
   have hik:i<=k:=by omega
   obtain⟨s,b,off,rfl,o,v,y,u,_⟩:=V.out k (by omega)
   have D:=c.below (aM.Le.refl _);rw[←D.cell (p:=⟨b,_,none⟩) o]at v y;have Q:=ass (fun w=>yA s key w)
   have Y:=ass u;clear u D;rw[C];have Z:=ass hk;clear hk C;have hkn:k<n:=by omega
   cases z:cA s.k key with
   | true=>
    have E:=Y.out.1 z;go_wp2_with fail
    refine(Q.out _).mono ?_
    rw[z];rintro e w2 ⟨rfl,g⟩;have c:=c.same g;clear v y g;go_wp2
    go_roundw
    case rel=>exact⟨k+1,j,by go_num,rfl,by omega,hj,R,c⟩
    case measure=>simp[intOf];have:=Z.out;omega
   | false=>
    have E:m<=k:=by
     have:=mt Y.out.2 (by rw[z];simp)
     omega
    have G:Hid (∃r:Int,(r=0\/r=1)/\∀w,Calls Tryz.prog 159 #[.agg #[.string s.k,.int .u64 s.r],.string key] w fun e w' => e=.returned (.int .i64 r)/\Below w.heap.size w w'):=ass (by
     cases A:cA key s.k with
     | true=>exact⟨1,.inr rfl,fun w=>by have:=Q.out w;rw[z,A]at this;exact this⟩
     | false=>exact⟨0,.inl rfl,fun w=>by have:=Q.out w;rw[z,A]at this;exact this⟩)
    clear z Q;obtain⟨r,M,q⟩:=G.out;have Ga:¬ r<0:=by omega
    have Q:=ass q;clear q M G;go_wp2_with fail
    refine(Q.out _).mono ?_
    rintro e w2 ⟨rfl,g⟩;have c:=c.same g;clear v y g;go_wp2
    go_roundw
    case rel=>exact⟨i,k,rfl,by go_num,hi,E,by omega,c⟩
    case measure=>simp[intOf];have:=Z.out;omega
  ·obtain rfl:i=m:=by omega
   by_cases S:i<n
   ·obtain⟨s,b,off,rfl,o,v,y,u,B⟩:=V.out i S
    have D:=c.below (aM.Le.refl _);rw[←D.cell (p:=⟨b,_,none⟩) o]at v y;have U:cA s.k key=false:=by
     cases z:cA s.k key with
     | true=>have:=u.1 z;omega
     | false=>rfl
    have G:Hid (∃r:Int,(r == 0)=decide (i<X)/\∀w,Calls Tryz.prog 159 #[.agg #[.string s.k,.int .u64 s.r],.string key] w fun e w' => e=.returned (.int .i64 r)/\Below w.heap.size w w'):=ass (by
     cases A:cA key s.k with
     | true=>
      refine⟨1,?_,fun w=>by have:=yA s key w;rw[U,A]at this;exact this⟩
      have:=mt B.2 (by rw[A];simp)
      rw[decide_eq_false this];rfl
     | false=>
      refine⟨0,?_,fun w=>by have:=yA s key w;rw[U,A]at this;exact this⟩
      rw[decide_eq_true (B.1 A)];rfl)
    clear u B D U;obtain⟨r,M,q⟩:=G.out;have Hr:=ass M;have Q:=ass q;clear q M G;go_wp2_with fail
    refine(Q.out _).mono ?_
    rintro e w2 ⟨rfl,g⟩;have c:=c.same g;clear v y g;go_wp2
    go_ret2
    exact⟨by rw[←Hr.out];rfl,c.below (aM.Le.refl _)⟩
   ·have h2:=O.out
    have e:decide (i<X)=false:=decide_eq_false (by omega)
    go_wp2
    go_ret2
    exact⟨by rw[e];rfl,c.below (aM.Le.refl _)⟩
theorem nu (w:World){pg:Pg}(h:eG w a pg.sl)(i:kY pg.sl) :
  Calls Tryz.prog 131 #[.agg #[.int .i64 (pg).aA,(.slice a pg.sl.length cap),.string (pg).hi,.bool (pg).la,.int .u64 (pg).ri],.string key] w fun e w' => e=.returned (.tuple #[.int .i64 (fR pg.sl key),.bool (decide (fR pg.sl key<iN pg.sl key))])/\Below w.heap.size w w' := by
 have c:=(St.start w).made (.cells #[.int .i64 pg.aA,.slice a pg.sl.length cap,.string pg.hi,.bool pg.la,.int .u64 pg.ri] 43);have Q:=ass (Gp (cap:=cap) (key:=key) _ (h.same (c.below (aM.Le.refl _))) i);obtain⟨n,g⟩:∃n,n=pg.sl.length:=⟨_,rfl⟩;rw[←g]at Q c ⊢;clear g;generalize fR pg.sl key=m at *;generalize iN pg.sl key=k at *;go_enter Tryz.func131,Tryz.ntmps131
 go_wp2_with fail
 refine(Q.out).mono ?_
 rintro e o ⟨rfl,j⟩;go_wp2
 go_ret2
 exact⟨rfl,(c.same j).below (aM.Le.refl _)⟩
def j5 (l:List Sl)(i:Int):Option Sl:=if i<0 then none else l[i.toNat]?
def uu:Option Sl->Value
 | some s=> .agg #[.string s.k,.int .u64 s.r]
 | none=> .agg #[.string ⟨#[]⟩,.int .u64 0]
theorem Ta (tmps:Array Value)(w:World)(b:Nat)(v0 v1 u:Value)(hp:tmps[4]?=some (.pointer (some ⟨b,0,none⟩)))(c:tmps[5]?=some u)(hk:∀k,w.cell? ⟨b,k,none⟩=(#[v0,v1]:Array Value)[k]?) :
  (results Tryz.f168 tmps).run Tryz.prog w=.ok (.tuple #[.agg #[v0,v1],u]) w:=by
 simp[results,Tryz.results168,go_sem,hp,c,hk]
theorem om (tmps:Array Value)(w:World)(b:Nat)(v0 v1 u:Value)(hp:tmps[4]?=some (.pointer (some ⟨b,0,none⟩)))(c:tmps[5]?=some u)(hk:∀k,w.cell? ⟨b,k,none⟩=(#[v0,v1]:Array Value)[k]?) :
  (results Tryz.f140 tmps).run Tryz.prog w=.ok (.tuple #[.agg #[v0,v1],u]) w:=by
 simp[results,Tryz.results140,go_sem,hp,c,hk]
theorem Gr (w:World){pg:Pg}{i:Int}(hi:i<pg.sl.length)(o : -2<i)(h:eG w a pg.sl) :
  Calls Tryz.prog 168 #[.agg #[.int .i64 (pg).aA,(.slice a pg.sl.length cap),.string (pg).hi,.bool (pg).la,.int .u64 (pg).ri],.int .i64 i] w fun e w' => e=.returned (.tuple #[uu (j5 pg.sl i),.bool (j5 pg.sl i).isSome])/\Below w.heap.size w w' := by
 have c:=(St.start w).made (.cells #[.int .i64 pg.aA,.slice a pg.sl.length cap,.string pg.hi,.bool pg.la,.int .u64 pg.ri] 43);obtain⟨n,g⟩:∃n,n=pg.sl.length:=⟨_,rfl⟩;have hl:=h.1;by_cases h0:i<0
 ·have e:j5 pg.sl i=none:=by unfold j5;rw[if_pos h0]
  rw[e];rw[←g]at c ⊢;clear g h e;have c:=c.made (.cells #[.string ⟨#[]⟩,.int .u64 0] 69);simp only[World.size_alloc]at c;go_enter Tryz.func168,Tryz.ntmps168
  go_wp2
  refine bodyPost_ret (Ta _ _ (w.heap.size+1) _ _ _ rfl rfl c.k0) rfl ⟨rfl,c.below (aM.Le.refl _)⟩
 ·obtain⟨k,rfl⟩:∃k:Nat,i=k:=⟨i.toNat,by omega⟩
  obtain⟨s,j⟩:∃s,pg.sl[k]?=some s:=⟨_,asx (by omega)⟩
  have e:j5 pg.sl k=some s:=by unfold j5;rw[if_neg h0];exact j
  rw[e];obtain⟨b,off,rfl,m,p,q⟩:=h.2 k s j;rw[←g]at c hi hl ⊢;clear g h e j;have c:=c.made (.cells #[.string s.k,.int .u64 s.r] 69);simp only[World.size_alloc]at c;go_enter Tryz.func168,Tryz.ntmps168
  go_wp2
  refine bodyPost_ret (Ta _ _ (w.heap.size+1) _ _ _ rfl rfl c.k0) rfl ⟨rfl,c.below (aM.Le.refl _)⟩
theorem Mu (w:World){pg:Pg}(h:eG w a pg.sl)(u:kY pg.sl) :
  Calls Tryz.prog 140 #[.agg #[.int .i64 (pg).aA,(.slice a pg.sl.length cap),.string (pg).hi,.bool (pg).la,.int .u64 (pg).ri],.string key] w fun e w' => e=.returned (.tuple #[uu (j5 pg.sl ((iN pg.sl key:Int)-1)),.bool (j5 pg.sl ((iN pg.sl key:Int)-1)).isSome])/\Below w.heap.size w w' := by
 have c:=(St.start w).made (.cells #[.int .i64 pg.aA,.slice a pg.sl.length cap,.string pg.hi,.bool pg.la,.int .u64 pg.ri] 43);have c:=c.made (.cells #[.string ⟨#[]⟩,.int .u64 0] 69);simp only[World.size_alloc]at c;have hl:=h.1;have Q:=ass (fun W (g:Below w.heap.size w W)=>nu (cap:=cap) (key:=key) W (h.same g) u)
 have h1:=yz pg.sl key;have v:=qz (key:=key) u;have o:=ass (fun W (g:Below w.heap.size w W)=>Gr (cap:=cap) (i:=(iN pg.sl key:Int)-1) W (by omega) (by omega) (h.same g))
 generalize j5 pg.sl ((iN pg.sl key:Int)-1)=y at *;obtain⟨p,j⟩:∃m,m=iN pg.sl key:=⟨_,rfl⟩;obtain⟨m,hm⟩:∃m,m=fR pg.sl key:=⟨_,rfl⟩;obtain⟨n,q⟩:∃n,n=pg.sl.length:=⟨_,rfl⟩;rw[←j,←hm,←q]at Q;rw[←j,←q]at o h1;rw[←j,←hm]at v;rw[←q]at c hl ⊢;have hle:m<=p/\p<=m+1:=by rcases v with h|⟨h,_⟩ <;> omega
 clear hm j q h u v;obtain⟨z,C⟩:=hle;go_enter Tryz.func140,Tryz.ntmps140
 go_wp2_with fail
 refine(Q.out _ (c.below (aM.Le.refl _))).mono ?_
 rintro e D ⟨rfl,g⟩;have c:=c.same g;clear g Q;have k1:=c.k1;by_cases A:m<p
 ·obtain rfl:p=m+1:=by omega
  rw[show((m+1:Nat):Int)-1=m by omega]at o
  go_wp2_with fail
  refine(o.out _ (c.below (aM.Le.refl _))).mono ?_
  rintro e B ⟨rfl,g⟩;have c:=c.same g;clear g o k1;have k0:=c.k0;have f0:=c.f0;cases y with
  | none=>
   have c:=(c.aK 0 (.string ⟨#[]⟩)).aK 1 (.int .u64 0);simp only[List.set_cons_zero,List.set_cons_succ]at c;simp only[uu];go_wp2
   refine bodyPost_ret (om _ _ (w.heap.size+1) _ _ _ rfl rfl c.k0) rfl ⟨rfl,c.below (aM.Le.refl _)⟩
  | some s=>
   have c:=(c.aK 0 (.string s.k)).aK 1 (.int .u64 s.r);simp only[List.set_cons_zero,List.set_cons_succ]at c;simp only[uu];go_wp2
   refine bodyPost_ret (om _ _ (w.heap.size+1) _ _ _ rfl rfl c.k0) rfl ⟨rfl,c.below (aM.Le.refl _)⟩
 ·obtain rfl:p=m:=by omega
  go_wp2_with fail
  refine(o.out _ (c.below (aM.Le.refl _))).mono ?_
  rintro e B ⟨rfl,g⟩;have c:=c.same g;clear g o k1;have k0:=c.k0;have f0:=c.f0;cases y with
  | none=>
   have c:=(c.aK 0 (.string ⟨#[]⟩)).aK 1 (.int .u64 0);simp only[List.set_cons_zero,List.set_cons_succ]at c;simp only[uu];go_wp2
   refine bodyPost_ret (om _ _ (w.heap.size+1) _ _ _ rfl rfl c.k0) rfl ⟨rfl,c.below (aM.Le.refl _)⟩
  | some s=>
   have c:=(c.aK 0 (.string s.k)).aK 1 (.int .u64 s.r);simp only[List.set_cons_zero,List.set_cons_succ]at c;simp only[uu];go_wp2
   refine bodyPost_ret (om _ _ (w.heap.size+1) _ _ _ rfl rfl c.k0) rfl ⟨rfl,c.below (aM.Le.refl _)⟩
end
def eY (a b:ByteArray):Nat->Nat->ByteArray
 | 0,_=>⟨#[]⟩
 | f+1,n=>if cA a (b.extract 0 n)then b.extract 0 n else eY a b f (n+1)
def l6 (a b:ByteArray):ByteArray:=eY a b (b.size+1) 0
theorem xu:∀(x:List UInt8)(n:Nat),Op.bytesLess x (x.take n)=false
 | [],n=>by cases n <;> rfl
 | a::x,0=>rfl
 | a::x,n+1=>by simp[Op.bytesLess,xu x n]
theorem Gs (b:ByteArray)(n:Nat):cA b (b.extract 0 n)=false:=by
 unfold cA;rw[ByteArray.toList_eq,ByteArray.toList_eq,ByteArray.data_extract];have:=xu b.data.toList n;simpa using this
theorem Bq (b:ByteArray):b.extract 0 b.size=b:=by
 apply ByteArray.ext
 rw[ByteArray.data_extract];exact Array.extract_size
theorem uw {a b:ByteArray}(h:cA a b=true):∀(f n:Nat),n+f=b.size+1->0<f->cA a (eY a b f n)=true/\cA b (eY a b f n)=false
 | 0,n,_,h0=>by omega
 | f+1,n,e,_=>by
  unfold eY;split
  ·rename_i c
   exact⟨c,Gs b n⟩
  ·rename_i c
   rcases Nat.eq_zero_or_pos f with h0|h0
   ·subst h0
    have:n=b.size:=by omega
    subst this;rw[Bq]at c;exact absurd h c
   ·exact uw h f (n+1) (by omega) h0
theorem tD {a b:ByteArray}(h:cA a b=true):cA a (l6 a b)=true/\cA b (l6 a b)=false:=uw h _ _ (by omega) (by omega)
theorem Gt (a b:ByteArray)(p:b.size<=1000000)(w:World):Calls Tryz.prog 71 #[.string a,.string b] w fun e w' => e=.returned (.string (l6 a b))/\w=w' := by
 obtain⟨r,g⟩:∃r,r=l6 a b:=⟨_,rfl⟩;rw[←g];have j:=ass g;clear g;go_enter Tryz.func71,Tryz.ntmps71
 go_wp2
 go_loopw [5] (fun v5 wr=>∃n:Nat,v5=.int .i64 n/\n<=b.size+1/\Hid (r=eY a b (b.size+1-n) n)/\wr=w) (fun v5 _=>b.size+1-(intOf v5).toNat)
 case atStart=>exact⟨0,rfl,by omega,ass j.out,rfl⟩
 case round=>
  obtain⟨n,rfl,q,h,rfl⟩:=hrel;by_cases k:n<=b.size
  ·have e:r=if cA a (b.extract 0 n)then b.extract 0 n else eY a b (b.size+1-(n+1)) (n+1):=by
    rw[h.out,show b.size+1-n=(b.size+1-(n+1))+1 by omega];rfl
   have hE:=ass e;clear e;cases c:cA a (b.extract 0 n)with
   | true=>
    rw[c]at hE;have h1:=gO c;have m:=jL (Gn c).symm;go_wp2
    go_ret;exact⟨by rw[hE.out];rfl,rfl⟩
   | false=>
    rw[c]at hE;have vV:=ass (show r=eY a b (b.size+1-(n+1)) (n+1)from hE.out)
    cases o:cA (b.extract 0 n) a with
    | true=>
     go_wp2
     go_roundw
     case rel=>exact⟨n+1,by go_num,by omega,vV,trivial⟩
     case measure=>simp[intOf];omega
    | false=>
     have i:=gP o c;have m:((b.extract 0 n).toList == a.toList)=true:=by rw[i];exact beq_self_eq_true _
     clear i;go_wp2
     go_roundw
     case rel=>exact⟨n+1,by go_num,by omega,vV,trivial⟩
     case measure=>simp[intOf];omega
  ·obtain rfl:n=b.size+1:=by omega
   rw[Nat.sub_self]at h;go_wp2
   go_ret;exact⟨by rw[h.out];rfl,rfl⟩
end
section
structure eO (d:aU)(id:Int)(L:List aQ)(pg:Pg):Prop where
 n:(ah L (d.node id 1)).n=pg.sl.length
 aA:wrap64 (ah L (d.node id 1)).m=pg.aA
 hi:(ah L (d.node id 2)).k=pg.hi
 la:decide ((ah L (d.node id 2)).m=1)=pg.la
 ri:(ah L (d.node id 3)).n=pg.ri
 le:(pg.sl.length:Int)<=d.fa
 sl:∀(i:Nat) (s:Sl),pg.sl[i]?=some s->(ah L (d.slot id i)).k=s.k/\(ah L (d.slot id i)).n=s.r
section
variable {d:aU}{id:Int}{L:List aQ}{pg:Pg}
end
section
variable {d:aU}{id:Int}{L:List aQ}{pg:Pg}
end
def nv (d:aU)(id:Int)(pg:Pg)(L:List aQ):List aQ:=
 aR (aR (aR L (d.node id 1) ⟨pg.sl.length,⟨#[]⟩,pg.aA⟩) (d.node id 2) ⟨0,pg.hi,b01 pg.la⟩) (d.node id 3) ⟨pg.ri,⟨#[]⟩,0⟩
def j6 (d:aU)(id:Int):Nat->List Sl->List aQ->List aQ
 | _,[],L=>L
 | i,s::sl,L=>j6 d id (i+1) sl (aR L (d.node id (4+i)) ⟨s.r,s.k,0⟩)
def fD (d:aU)(id:Int)(pg:Pg)(L:List aQ):List aQ:=j6 d id 0 pg.sl (nv d id pg L)
section
variable {K:aM}{w:World}{F:List aC}{pg:Pg}{a:Option Addr}{cap:Nat}{d:aU}{id:Int}{bm bc:Nat}{L:List aQ}{acc:Nat}
theorem ux (hd:d.Ok)(hid:0<=id/\id<18446744073709551616)(cj:0<=pg.aA/\pg.aA<1000000)(hle:(pg.sl.length:Int)<=d.fa)
  (D:∀W,St K W F->eG W a pg.sl) (g:St K w (aL bm bc L acc::F)) :
  Calls Tryz.prog 35 #[.agg #[.int .i64 d.th,.int .i64 d.sn,.int .i64 d.no,.int .i64 d.ch,.int .i64 d.re,.int .i64 d.fa,.int .u64 d.cl],.pointer (some ⟨bm,0,none⟩),.int .u64 id,.agg #[.int .i64 (pg).aA,(.slice a pg.sl.length cap),.string (pg).hi,.bool (pg).la,.int .u64 (pg).ri]] w fun e w' => e=.returned (.tuple #[]) /\
   St K w' (aL bm bc (fD d id pg L) acc::F):=by
 have tE:=ass D;clear D;obtain⟨n,R⟩:∃n,n=pg.sl.length:=⟨_,rfl⟩;have pQ:=hd.m7;have E:=ass (fun(k:Int) (hk:0<=k/\k<d.fa+4) w=>m9 d hd id k hid.1 hid.2 hk.1 hk.2 w)
 have e3:nv d id pg L=aR (aR (aR L (d.node id 1) ⟨n,⟨#[]⟩,pg.aA⟩) (d.node id 2) ⟨0,pg.hi,b01 pg.la⟩) (d.node id 3) ⟨pg.ri,⟨#[]⟩,0⟩:=by unfold nv;rw[R]
 obtain⟨Le,G⟩:∃Le,Le=fD d id pg L:=⟨_,rfl⟩;rw[←R]at hle ⊢;rw[←G];obtain⟨o,ho⟩:∃o,o=pg.la:=⟨_,rfl⟩;rw[←ho]at e3 ⊢;have S:=ass R;have M:=ass G;have E3:=ass e3;clear R G e3 ho;cases o with
 | true=>
  have g:=(g.made (.cells #[.int .i64 d.th,.int .i64 d.sn,.int .i64 d.no,.int .i64 d.ch,.int .i64 d.re,.int .i64 d.fa,.int .u64 d.cl] 26)).made (.cells #[.int .i64 pg.aA,.slice a n cap,.string pg.hi,.bool true,.int .u64 pg.ri] 43);rw[World.size_alloc]at g;have g:=g.b2;go_enter Tryz.func35,Tryz.ntmps35
  go_upto_region 1 with(fail)
  refine dc g ?_
  generalize w.heap.size+1=bp at *;generalize w.heap.size=U at *;clear g;intro W g;have j:=g.k1;have m:=g.k2;refine bN 12 (by kernel_rfl) (by as_aux_lemma=>kernel_rfl) ?_
  simp only[List.take_succ_cons,List.take_zero,List.drop_succ_cons,List.drop_zero];repeat (go_big_quiet_step ((go_at_call 21;exact aZ (E.out _ (by omega) _))))
  refine wpQuiet_nil ?_
  intro w5 q;have g:=g.same q;clear j m q;go_wp2_with fail
  refine(gM (c:=⟨n,⟨#[]⟩,pg.aA⟩) g).mono ?_
  clear g;rintro e V ⟨rfl,g⟩;have j:=g.k1;have I:=(g.made (.cells #[.int .u64 0,.string pg.hi,.int .u64 0] 63)).k2;have X:=(g.made (.cells #[.int .u64 0,.string pg.hi,.int .u64 0] 63)).k0;have Y:=(g.made (.cells #[.int .u64 0,.string pg.hi,.int .u64 0] 63)).f0;have g:=g.made (.cells #[.int .u64 0,.string pg.hi,.int .u64 1] 63);go_upto_region 5 with(fail)
  refine dc g ?_
  generalize V.heap.size=bh at *;clear g j I X Y;intro W2 g;have Z:=g.k0;have m:=g.tail.k2;refine bN 5 (by kernel_rfl) (by as_aux_lemma=>kernel_rfl) ?_
  simp only[List.take_succ_cons,List.take_zero,List.drop_succ_cons,List.drop_zero];repeat (go_big_quiet_step ((go_at_call 21;exact aZ (E.out _ (by omega) _))))
  refine wpQuiet_nil ?_
  intro w7 y;have g:=(g.same y).b1;clear Z m y;go_wp2_with fail
  refine(gM (c:=⟨0,pg.hi,1⟩) g).mono ?_
  clear g;rintro e w8 ⟨rfl,g⟩;have g:=g.b9;have j:=g.k1;have m:=g.k2;go_upto_region 6 with(fail)
  refine bN 7 (by kernel_rfl) (by as_aux_lemma=>kernel_rfl) ?_
  simp only[List.take_succ_cons,List.take_zero,List.drop_succ_cons,List.drop_zero];repeat (go_big_quiet_step ((go_at_call 21;exact aZ (E.out _ (by omega) _))))
  refine wpQuiet_nil ?_
  intro w9 N;have g:=g.same N;clear j m N;go_wp2_with fail
  refine(gM (c:=⟨pg.ri,⟨#[]⟩,0⟩) g).mono ?_
  clear g;rintro e w10 ⟨rfl,g⟩;have e3:=E3.out;rw[show b01 true=1 from rfl]at e3
  rw[←e3]at g;clear e3;go_wp2
  go_loopw [9] (fun v wr=>∃(i:Nat) (z:List aQ),i<=n/\v=.int .i64 i/\Le=j6 d id i (pg.sl.drop i) z /\
   St K wr (aL bm bc z acc::blk bp (.cells #[.int .i64 pg.aA,.slice a n cap,.string pg.hi,.bool true,.int .u64 pg.ri] 43)::blk U (.cells #[.int .i64 d.th,.int .i64 d.sn,.int .i64 d.no,.int .i64 d.ch,.int .i64 d.re,.int .i64 d.fa,.int .u64 d.cl] 26)::F)) (fun v _=>n-(intOf v).toNat)
  case atStart=>exact⟨0,nv d id pg L,by omega,rfl,M.out,g⟩
  case round=>
   clear g;obtain⟨i,z,hi,rfl,A,g⟩:=hrel;have B:=ass A;clear A;have j:=g.k1;have m:=g.k2;by_cases J:i<n
   ·have p:i<pg.sl.length:=by rw[←S.out];exact J
    have D:=tE.out _ g.tail.tail.tail;obtain⟨b1,O,rfl,_,c0,c1⟩:=D.2 i pg.sl[i] (asx p);have C:pg.sl.drop i=pg.sl[i]::pg.sl.drop (i+1):=List.drop_eq_getElem_cons p;have h:Le=j6 d id (i+1) (pg.sl.drop (i+1)) (aR z (d.node id (4+(i:Int))) ⟨pg.sl[i].r,pg.sl[i].k,0⟩):=by rw[B.out,C];rfl
    have Hx:=ass h;generalize pg.sl[i]=u at *;clear p D C h;go_upto_region 10 with(fail)
    refine bN 19 (by kernel_rfl) (by as_aux_lemma=>kernel_rfl) ?_
    simp only[List.take_succ_cons,List.take_zero,List.drop_succ_cons,List.drop_zero];repeat (go_big_quiet_step ((go_at_call 21;exact aZ (E.out _ (by omega) _))))
    refine wpQuiet_nil ?_
    intro w11 Q;have g:=g.same Q;clear j m c0 c1 Q;go_wp2_with fail
    refine(gM (c:=⟨u.r,u.k,0⟩) g).mono ?_
    clear g;rintro e w12 ⟨rfl,g⟩;go_wp2
    go_roundw
    case rel=>exact⟨i+1,_,by omega,by go_num,Hx.out,g⟩
    case measure=>simp[intOf];omega
   ·obtain rfl:i=n:=by omega
    have e:Le=z:=by rw[B.out,List.drop_eq_nil_of_le (by rw[←S.out];exact Nat.le_refl _)];rfl
    rw[←e]at g;clear e;go_wp2
    go_end0
    exact⟨rfl,g.b9.b9⟩
 | false=>
  have g:=(g.made (.cells #[.int .i64 d.th,.int .i64 d.sn,.int .i64 d.no,.int .i64 d.ch,.int .i64 d.re,.int .i64 d.fa,.int .u64 d.cl] 26)).made (.cells #[.int .i64 pg.aA,.slice a n cap,.string pg.hi,.bool false,.int .u64 pg.ri] 43);rw[World.size_alloc]at g;have g:=g.b2;go_enter Tryz.func35,Tryz.ntmps35
  go_upto_region 1 with(fail)
  refine dc g ?_
  generalize w.heap.size+1=bp at *;generalize w.heap.size=U at *;clear g;intro W g;have j:=g.k1;have m:=g.k2;refine bN 12 (by kernel_rfl) (by as_aux_lemma=>kernel_rfl) ?_
  simp only[List.take_succ_cons,List.take_zero,List.drop_succ_cons,List.drop_zero];repeat (go_big_quiet_step ((go_at_call 21;exact aZ (E.out _ (by omega) _))))
  refine wpQuiet_nil ?_
  intro w5 q;have g:=g.same q;clear j m q;go_wp2_with fail
  refine(gM (c:=⟨n,⟨#[]⟩,pg.aA⟩) g).mono ?_
  clear g;rintro e V ⟨rfl,g⟩;have j:=g.k1;have g:=g.made (.cells #[.int .u64 0,.string pg.hi,.int .u64 0] 63);have I:=g.k2;go_upto_region 5 with(fail)
  refine dc g ?_
  generalize V.heap.size=bh at *;clear g j I;intro W2 g;have Z:=g.k0;have m:=g.tail.k2;refine bN 5 (by kernel_rfl) (by as_aux_lemma=>kernel_rfl) ?_
  simp only[List.take_succ_cons,List.take_zero,List.drop_succ_cons,List.drop_zero];repeat (go_big_quiet_step ((go_at_call 21;exact aZ (E.out _ (by omega) _))))
  refine wpQuiet_nil ?_
  intro w7 y;have g:=(g.same y).b1;clear Z m y;go_wp2_with fail
  refine(gM (c:=⟨0,pg.hi,0⟩) g).mono ?_
  clear g;rintro e w8 ⟨rfl,g⟩;have g:=g.b9;have j:=g.k1;have m:=g.k2;go_upto_region 6 with(fail)
  refine bN 7 (by kernel_rfl) (by as_aux_lemma=>kernel_rfl) ?_
  simp only[List.take_succ_cons,List.take_zero,List.drop_succ_cons,List.drop_zero];repeat (go_big_quiet_step ((go_at_call 21;exact aZ (E.out _ (by omega) _))))
  refine wpQuiet_nil ?_
  intro w9 N;have g:=g.same N;clear j m N;go_wp2_with fail
  refine(gM (c:=⟨pg.ri,⟨#[]⟩,0⟩) g).mono ?_
  clear g;rintro e w10 ⟨rfl,g⟩;have e3:=E3.out;rw[show b01 false=0 from rfl]at e3
  rw[←e3]at g;clear e3;go_wp2
  go_loopw [9] (fun v wr=>∃(i:Nat) (z:List aQ),i<=n/\v=.int .i64 i/\Le=j6 d id i (pg.sl.drop i) z /\
   St K wr (aL bm bc z acc::blk bp (.cells #[.int .i64 pg.aA,.slice a n cap,.string pg.hi,.bool false,.int .u64 pg.ri] 43)::blk U (.cells #[.int .i64 d.th,.int .i64 d.sn,.int .i64 d.no,.int .i64 d.ch,.int .i64 d.re,.int .i64 d.fa,.int .u64 d.cl] 26)::F)) (fun v _=>n-(intOf v).toNat)
  case atStart=>exact⟨0,nv d id pg L,by omega,rfl,M.out,g⟩
  case round=>
   clear g;obtain⟨i,z,hi,rfl,A,g⟩:=hrel;have B:=ass A;clear A;have j:=g.k1;have m:=g.k2;by_cases J:i<n
   ·have p:i<pg.sl.length:=by rw[←S.out];exact J
    have D:=tE.out _ g.tail.tail.tail;obtain⟨b1,O,rfl,_,c0,c1⟩:=D.2 i pg.sl[i] (asx p);have C:pg.sl.drop i=pg.sl[i]::pg.sl.drop (i+1):=List.drop_eq_getElem_cons p;have h:Le=j6 d id (i+1) (pg.sl.drop (i+1)) (aR z (d.node id (4+(i:Int))) ⟨pg.sl[i].r,pg.sl[i].k,0⟩):=by rw[B.out,C];rfl
    have Hx:=ass h;generalize pg.sl[i]=u at *;clear p D C h;go_upto_region 10 with(fail)
    refine bN 19 (by kernel_rfl) (by as_aux_lemma=>kernel_rfl) ?_
    simp only[List.take_succ_cons,List.take_zero,List.drop_succ_cons,List.drop_zero];repeat (go_big_quiet_step ((go_at_call 21;exact aZ (E.out _ (by omega) _))))
    refine wpQuiet_nil ?_
    intro w11 Q;have g:=g.same Q;clear j m c0 c1 Q;go_wp2_with fail
    refine(gM (c:=⟨u.r,u.k,0⟩) g).mono ?_
    clear g;rintro e w12 ⟨rfl,g⟩;go_wp2
    go_roundw
    case rel=>exact⟨i+1,_,by omega,by go_num,Hx.out,g⟩
    case measure=>simp[intOf];omega
   ·obtain rfl:i=n:=by omega
    have e:Le=z:=by rw[B.out,List.drop_eq_nil_of_le (by rw[←S.out];exact Nat.le_refl _)];rfl
    rw[←e]at g;clear e;go_wp2
    go_end0
    exact⟨rfl,g.b9.b9⟩
theorem xw (hd:d.Ok)(hid:0<=id/\id<18446744073709551616)(c:0<=pg.aA/\pg.aA<1000000)(hle:(pg.sl.length:Int)<=d.fa)
  (g:St K w (aL bm bc L acc::az (.slice a pg.sl.length cap) 69 2 pg.sl.length (aF pg.sl)::F)) :
  Calls Tryz.prog 35 #[.agg #[.int .i64 d.th,.int .i64 d.sn,.int .i64 d.no,.int .i64 d.ch,.int .i64 d.re,.int .i64 d.fa,.int .u64 d.cl],.pointer (some ⟨bm,0,none⟩),.int .u64 id,.agg #[.int .i64 (pg).aA,(.slice a pg.sl.length cap),.string (pg).hi,.bool (pg).la,.int .u64 (pg).ri]] w fun e w' => e=.returned (.tuple #[]) /\
   St K w' (aL bm bc (fD d id pg L) acc::az (.slice a pg.sl.length cap) 69 2 pg.sl.length (aF pg.sl)::F):=by
 have i:=hd.m7;exact ux hd hid c hle (fun W h=>h.cM (by omega)) g
end
section
variable {d:aU}(hd:d.Ok){id:Int}(h1:1<=id)(h2:id<=d.no)
include hd h1 h2
theorem bZ {k:Int}(hk:0<=k)(c:k<d.fa+4):d.node id k=d.A+(id-1)*(d.fa+4)+k/\0<=d.node id k/\d.node id k<d.cells:=by
 have e:d.node id k=d.A+(id-1)*(d.fa+4)+k:=by unfold aU.node;rw[if_pos ⟨h1,h2⟩]
 have h:=hd.eN;have hB:=hd.jZ;have hC:=hd.oD;have g:=hd.eF;have f1:=hd.fy;have i:(id-1)*(d.fa+4)+(d.fa+4)=id*(d.fa+4):=by rw[Int.sub_mul];omega
 have j:id*(d.fa+4)<=d.no*(d.fa+4):=Int.mul_le_mul_of_nonneg_right h2 (by omega)
 have m:0<=(id-1)*(d.fa+4):=Int.mul_nonneg (by omega) (by omega)
 have n:d.B=d.A+d.no*(d.fa+4):=rfl;refine⟨e,by omega,?_⟩
 have:d.B<=d.cells:=by unfold aU.cells aU.C;have:=hd.ch1;have:=hd.re1;omega
 omega
theorem dH {k k':Int}(hk:0<=k)(c:k<d.fa+4)(e:0<=k')(g:k' < d.fa+4)(h:k≠k'):d.node id k≠d.node id k' := by
 have a:=bZ hd h1 h2 hk c;have b:=bZ hd h1 h2 e g;omega
omit hd h1 h2 in
theorem yB:∀(sl:List Sl)(i:Nat)(L:List aQ),(j6 d id i sl L).length=L.length:=by
 intro sl;induction sl with
 | nil=>intro i L;rfl
 | cons s sl ih=>intro i L;show(j6 d id (i+1) sl _).length=_;rw[ih,bg]
omit hd h1 h2 in
theorem eZ:∀(sl:List Sl)(i:Nat)(L:List aQ)(j:Int),(∀k:Nat,i<=k->k<i+sl.length->j≠d.node id (4+(k:Int)))->ah (j6 d id i sl L) j=ah L j:=by
 intro sl;induction sl with
 | nil=>intro i L j _;rfl
 | cons s sl ih=>
  intro i L j h;show ah (j6 d id (i+1) sl _) j=_
  rw[ih (i+1) _ j (fun k a b=>h k (by omega) (by simp;omega))]
  exact bu (h i (by omega) (by simp))
theorem Td:∀(sl:List Sl)(i:Nat)(L:List aQ),(L.length:Int)=d.cells->(i+sl.length:Int)<=d.fa->∀(m:Nat)(s:Sl),sl[m]?=some s->ah (j6 d id i sl L) (d.node id (4+((i+m:Nat):Int)))=⟨s.r,s.k,0⟩:=by
 intro sl;induction sl with
 | nil=>intro i L _ _ m s h;simp at h
 | cons x sl ih=>
  intro i L hlen hle m s h;simp only[List.length_cons]at hle;show ah (j6 d id (i+1) sl (aR L (d.node id (4+(i:Int))) ⟨x.r,x.k,0⟩)) _=_
  cases m with
  | zero=>
   simp only[List.getElem?_cons_zero,Option.some.injEq]at h;subst h;have hi:=bZ hd h1 h2 (k:=4+(i:Int)) (by omega) (by omega)
   rw[eZ _ _ _ _ (fun k a b=>by
    simp only[Nat.add_zero];exact dH hd h1 h2 (by omega) (by omega) (by omega) (by omega) (by omega))]
   rw[Nat.add_zero];exact cD hi.2.1 (by omega)
  | succ m=>
   rw[show i+(m+1)=(i+1)+m by omega]
   exact ih (i+1) _ (by rw[bg];exact hlen) (by omega) m s (by simpa using h)
theorem Te {L:List aQ}{pg:Pg}(hlen:(L.length:Int)=d.cells)(o:0<=pg.aA/\pg.aA<1000000)(hle:(pg.sl.length:Int)<=d.fa):eO d id (fD d id pg L) pg:=by
 have f1:=hd.fy;have n1:=bZ hd h1 h2 (k:=1) (by omega) (by omega)
 have j:=bZ hd h1 h2 (k:=2) (by omega) (by omega)
 have n:=bZ hd h1 h2 (k:=3) (by omega) (by omega)
 have ne:∀(k:Int) (m:Nat),0<=k->k<=3->0<=m->m<0+pg.sl.length->d.node id k≠d.node id (4+(m:Int)):=fun k m a b _ c=>dH hd h1 h2 a (by omega) (by omega) (by omega) (by omega)
 have g:ah (fD d id pg L) (d.node id 1)=⟨pg.sl.length,⟨#[]⟩,pg.aA⟩:=by
  unfold fD;rw[eZ _ _ _ _ (fun k a b=>ne 1 k (by omega) (by omega) a b)]
  unfold nv;rw[bu (dH hd h1 h2 (by omega) (by omega) (by omega) (by omega) (by omega)),bu (dH hd h1 h2 (by omega) (by omega) (by omega) (by omega) (by omega)),cD n1.2.1 (by omega)]
 have e2:ah (fD d id pg L) (d.node id 2)=⟨0,pg.hi,b01 pg.la⟩:=by
  unfold fD;rw[eZ _ _ _ _ (fun k a b=>ne 2 k (by omega) (by omega) a b)]
  unfold nv;rw[bu (dH hd h1 h2 (by omega) (by omega) (by omega) (by omega) (by omega)),cD j.2.1 (by rw[bg];omega)]
 have e3:ah (fD d id pg L) (d.node id 3)=⟨pg.ri,⟨#[]⟩,0⟩:=by
  unfold fD;rw[eZ _ _ _ _ (fun k a b=>ne 3 k (by omega) (by omega) a b)]
  unfold nv;rw[cD n.2.1 (by rw[bg,bg];omega)]
 refine⟨by rw[g],?_,by rw[e2],?_,by rw[e3],hle,fun i s h=>?_⟩
 ·rw[g];show wrap64 pg.aA=pg.aA
  unfold wrap64;omega
 ·rw[e2];cases pg.la <;> rfl
 ·have hi:i<pg.sl.length:=(asu.1 h).1
  have es:d.slot id i=d.node id (4+((0+i:Nat):Int)):=by
   unfold aU.slot;rw[if_pos ⟨by omega,by omega⟩,Nat.zero_add]
  rw[es];unfold fD;have e:((nv d id pg L).length:Int)=d.cells:=by unfold nv;rw[bg,bg,bg];exact hlen
  rw[Td hd h1 h2 pg.sl 0 _ e (by omega) i s h]
  exact⟨rfl,rfl⟩
end
theorem Gu {x:Int}(h0:0<=x)(h1:x<18446744073709551616):0<=bH x/\bH x<18446744073709551616:=by
 unfold bH;split <;> omega
theorem Tf {d:aU}{id:Int}:∀(sl:List Sl)(i:Nat)(L:List aQ),bL L->(∀s,s∈sl->0<=s.r/\s.r<18446744073709551616)->bL (j6 d id i sl L):=by
 intro sl;induction sl with
 | nil=>intro i L h _;exact h
 | cons s sl ih=>
  intro i L h e;exact ih (i+1) _ (h.put (e s (by simp))) (fun s' c => e s' (by simp[c]))
theorem Tg {d:aU}{id:Int}{pg:Pg}{L:List aQ}(h:bL L)(hle:(pg.sl.length:Int)<=1000000)(c:0<=pg.ri/\pg.ri<18446744073709551616)(e:∀s,s∈pg.sl->0<=s.r/\s.r<18446744073709551616):bL (fD d id pg L):=by
 unfold fD nv;refine Tf _ _ _ ?_ e;refine bL.put (bL.put (bL.put h ⟨?_,?_⟩) ⟨?_,?_⟩) c
 ·show(0:Int)<=pg.sl.length;omega
 ·show(pg.sl.length:Int)<_;omega
 ·show(0:Int)<=0;omega
 ·show(0:Int)<_;omega
theorem l8 {d:aU}{id:Int}{pg:Pg}{L:List aQ}:(fD d id pg L).length=L.length:=by
 unfold fD nv;rw[yB,bg,bg,bg]
section
variable {d:aU}(hd:d.Ok){id:Int}(h1:1<=id)(h2:id<=d.no)
include hd h1 h2
theorem eO.Ad {L:List aQ}{pg:Pg}{c:aQ}(h:eO d id L pg):eO d id (aR L (d.node id 0) c) pg:=by
 have f1:=hd.fy;have ne:∀k:Int,1<=k->k<d.fa+4->ah (aR L (d.node id 0) c) (d.node id k)=ah L (d.node id k):=fun k a b=>bu (dH hd h1 h2 (by omega) b (by omega) (by omega) (by omega))
 refine⟨by rw[ne 1 (by omega) (by omega)];exact h.n,by rw[ne 1 (by omega) (by omega)];exact h.aA,by rw[ne 2 (by omega) (by omega)];exact h.hi,by rw[ne 2 (by omega) (by omega)];exact h.la,by rw[ne 3 (by omega) (by omega)];exact h.ri,h.le,fun i s e=>?_⟩
 have hi:i<pg.sl.length:=(asu.1 e).1;have:=h.le;have es:d.slot id i=d.node id (4+(i:Int)):=by
  unfold aU.slot;rw[if_pos ⟨by omega,by omega⟩]
 rw[es,ne _ (by omega) (by omega),←es]
 exact h.sl i s e
end
section
variable {d:aU}{id:Int}{L:List aQ}{pg:Pg}
theorem o8 (hd:d.Ok):eO d 1 (cB d) ⟨0,[],⟨#[]⟩,true,0⟩/\(ah (cB d) (d.node 1 0))=aQ.zero/\bL (cB d)/\((cB d).length:Int)=d.cells:=by
 obtain⟨g,m,e⟩:=iH d hd;have f1:=hd.fy;have n1:=hd.Ke;have o:=hd.eN;have h:=hd.eF;have n:∀k:Int,0<=k->k<d.fa+4->d.node 1 k=d.A+k:=fun k a b=>by
  have:=(bZ hd (id:=1) (by omega) n1 a b).1
  omega
 have z:∀k:Int,0<=k->k<d.fa+4->k≠2->ah (cB d) (d.node 1 k)=aQ.zero:=by
  intro k a b c;have e2:=n 2 (by omega) (by omega)
  have p:=n k a b;rw[e _ (by omega),if_neg (by omega),if_neg (by omega),if_neg (by omega)]
 have e2:ah (cB d) (d.node 1 2)=⟨0,⟨#[]⟩,1⟩:=by rw[e _ (by omega),if_pos rfl]
 refine⟨⟨by rw[z 1 (by omega) (by omega) (by omega)];rfl,by rw[z 1 (by omega) (by omega) (by omega)];show wrap64 0=0;unfold wrap64;omega,by rw[e2],by rw[e2];rfl,by rw[z 3 (by omega) (by omega) (by omega)];rfl,by simp;omega,fun i s j=>by simp at j⟩,z 0 (by omega) (by omega) (by omega),fun k=>?_,by rw[g];have:=hd.eN;have q:=hd.jZ;have r:=hd.oD;omega⟩
 by_cases hk:0<=k
 ·rw[e k hk]
  split
  ·exact⟨by decide,by decide⟩
  ·split
   ·exact⟨by decide,by decide⟩
   ·split <;> exact⟨by decide,by decide⟩
 ·rw[ql (by omega)];exact⟨by decide,by decide⟩
end
end
section
open Go.Joins Go.ChangeShapes Go.WideShapes Go.ChangeAt Go.RowKit Go.Deep
theorem own:ownKnob Tryz.prog.godebug=none:=by kernel_rfl
theorem laidOut:laidOutB Tryz.prog=true:=by kernel_rfl
section
variable {H:Type}{enc:TypeId × Value->H}{P:Program}{W W':World}
theorem vW (hl:laidOutB P=true)(j:Below W.heap.size W W'):∀ {ts:List TypeId}{e:List Value}{ds:List (DataW H)}{ps:List MemPlace},
  (∀t,t∈ts->P.readableRec t=true/\t<P.types.size)->DataW.TrodAll enc P W 0 (fun _=>true) true ts e ds ps->DataW.TrodAll enc P W' 0 (fun b=>decide (b<W.heap.size)) true ts e ds ps:=by
 intro ts;induction ts with
 | nil=>
  intro e ds ps _ h;obtain⟨rfl,rfl,rfl⟩:=trodAll_nil h;exact trodAll_mk0
 | cons t ts ih=>
  intro e ds ps c h;obtain⟨v,k,d,n,p,q,rfl,rfl,rfl,h0,r0⟩:=trodAll_cons h;have g:∀x,x∈p->x.block<W.heap.size:=by obtain⟨m,hm⟩:=h0;exact DataW.trod_lt m _ _ _ hm
  exact trodAll_cons_mk (Below.trod hl (c t (by simp)).1 (c t (by simp)).2 h0 j g) (ih (fun o i => c o (by simp[i])) r0)
end
section
variable {H:Type}{enc:TypeId × Value->H}{P:Program}{w:World}{base:Nat}{spare:Nat->Bool}{held:Bool}
end
theorem wf_u64 {n:Int}(h:(Lit.int .u64 n).wf=true):0<=n/\n<18446744073709551616:=by have:=bounds_u64 h;omega
theorem wf_u8 {n:Int}(h:(Lit.int .u8 n).wf=true):0<=n/\n<256:=by have:=bounds_u8 h;omega
open Go.ChangeShapes Go.WideShapes Go.ChangeAt Go.RowKit
def Th (k:IntKind)(w:World)(a:Option Addr)(len:Nat)(f:Nat->Int):Prop:=
 len<=maxLen/\∀i,i<len->∃b off,a=some ⟨b,off,none⟩/\b<w.heap.size/\w.cell? ⟨b,off+i,none⟩=some (.int k (f i))/\(Lit.int k (f i)).wf=true
theorem Ti {H:Type}{enc:TypeId × Value->H}{P:Program}{w:World}{base:Nat}{spare:Nat->Bool}{held:Bool}{t e:TypeId}{k:IntKind}{a:Option Addr}{len cap:Nat}{d:DataW H}{p:List MemPlace}
  (v:P.underlying t=some (.slice e)) (he:P.underlying e=some (.int k)) (hc:P.cellsOf e=1) (h:DataW.Trod enc P w base spare held t (.slice a len cap) d p) :
  ∃f:Nat->Int,Th k w a len f:=by
 obtain⟨fuel,y⟩:=h;rcases open_ints v he hc y with⟨g,_⟩|⟨x,l,c,m,g,_,hl,hm,z,_,j,q⟩
 ·simp[Value.cells]at g
  obtain⟨rfl,rfl,rfl⟩:=g;exact⟨fun _=>0,by simp[maxLen],fun i hi=>by omega⟩
 ·simp[Value.cells]at g
  obtain⟨rfl,rfl,rfl⟩:=g;refine⟨fun i=>m.getD i 0,by omega,fun i hi=>?_⟩
  have A:len<=m.length:=by rw[z];split <;> omega
  have h0:=j 0 (by omega)
  rw[show x.add 0=x from rfl]at h0
  have n:x.spot=none:=by
   cases B:x.spot with
   | none=>rfl
   | some s=>
    simp only[World.cell?,B]at h0;split at h0 <;> simp at h0
  obtain⟨b,off,sp⟩:=x;simp only at n;subst n;refine⟨b,off,rfl,World.block_lt_of_cell? _ _ h0,?_,?_⟩
  ·have r := j i (by omega)
   by_cases o:i=0
   ·subst o;exact h0
   ·simpa[Addr.add,o] using r
  ·have u:i<m.length:=by omega
   have:m.getD i 0=m[i]:=by simp[List.getD_eq_getElem?_getD,asx u]
   show(Lit.int k (m.getD i 0)).wf=true
   rw[this];exact q _ (List.getElem_mem _)
open Go.Joins Go.ChangeShapes Go.WideShapes Go.ChangeAt Go.RowKit Go.Deep
instance:Inhabited Sl:=⟨⟨⟨#[]⟩,0⟩⟩
section
variable {H:Type}{enc:TypeId × Value->H}{w:World}{base:Nat}{spare:Nat->Bool}{held:Bool}
end
section
variable {K:aM}{w:World}{F:List aC}{d:aU}{aA level ri:Int}{a:Option Addr}{len cap:Nat}{hi:ByteArray}{la:Bool}{f:Nat->Sl}
end
theorem Kq (fa:Int):(nc 1 (4+fa%3) 1000).Ok:=by
 have h0:0<=fa%3:=by omega
 have h1:fa%3<=2:=by omega
 constructor <;> simp only[nc] <;> omega
structure o9 (d:aU)(pg:Pg):Prop where
 le:(pg.sl.length:Int)<=d.fa
 ri:0<=pg.ri/\pg.ri<18446744073709551616
 r:∀s,s∈pg.sl->0<=s.r/\s.r<18446744073709551616
 k:∀s,s∈pg.sl->s.k.size<=maxLen
 hi:pg.hi.size<=maxLen
 la:pg.la=true->pg.hi=⟨#[]⟩
def dO (o:Option Value)(c:aC):aC:=match o with
 | some _=>c
 | none=>gW
theorem rj.none {ρ:Nat->Option Value}{all:List Nat}{deps:Nat->List Nat}{j d:Nat}(h:rj all deps ρ)(c:j∈all)(hd:d∈deps j)(e:ρ d=none):ρ j=none:=by
 cases g:ρ j with
 | none=>rfl
 | some v=>
  have:=h j c (by rw[g];rfl) d hd
  rw[e]at this;cases this
theorem xx {w:World}{b:Nat}{xs:List Value}(h:∀k,w.cell? ⟨b,k,none⟩=xs.toArray[k]?):∀(j:Nat)(u:Value),xs[j]?=some u->∃g off,(some ⟨b,0,none⟩:Option Addr)=some ⟨g,off,none⟩/\w.cell? ⟨g,off+j,none⟩=some u:=
 fun j u hu=>⟨b,0,rfl,by rw[Nat.zero_add,h j];simpa using hu⟩
end
end Go.Proofs.YtlpdhhhgckpcfaaGreat
