
/- The reader of a node with nobody else running. A reader that goes on has not made all its steps. tz Put: a page laid into a aaI cells. What Put makes of the cells (pure). A reader with nobody else running, from the start and behind a change of the zu (pure). -/
import Derived.Test.YtlpdhhhgckpcfaaGreatNodeB
namespace Go.Proofs.YtlpdhhhgckpcfaaGreat
set_option maxHeartbeats 16000000
open Go.RowKit
structure eA (d:aR)(id:Int)(L:List aP)(pg:Pg):Prop where
 n:(ah L (d.node id 1)).n=pg.sl.length
 az:wrap64 (ah L (d.node id 1)).m=pg.az
 hi:(ah L (d.node id 2)).k=pg.hi
 la:decide ((ah L (d.node id 2)).m=1)=pg.la
 ri:(ah L (d.node id 3)).n=pg.ri
 le:(pg.sl.length:Int)<=d.fa
 sl:∀ (i:Nat) (s:Sl),pg.sl[i]?=some s->(ah L (d.slot id i)).k=s.k/\(ah L (d.slot id i)).n=s.r
section
variable {d:aR}{id:Int}{L:List aP}{pg:Pg}
end
section
variable {d:aR}{id:Int}{L:List aP}{pg:Pg}
end
set_option maxRecDepth 100000
def nr (d:aR)(id:Int)(pg:Pg)(L:List aP):List aP:=
 aN (aN (aN L (d.node id 1) ⟨pg.sl.length,⟨#[]⟩,pg.az⟩) (d.node id 2) ⟨0,pg.hi,b01 pg.la⟩) (d.node id 3) ⟨pg.ri,⟨#[]⟩,0⟩
def jR (d:aR)(id:Int):Nat->List Sl->List aP->List aP
 | _,[],L=>L
 | i,s::sl,L=>jR d id (i+1) sl (aN L (d.node id (4+i)) ⟨s.r,s.k,0⟩)
def eY (d:aR)(id:Int)(pg:Pg)(L:List aP):List aP:=jR d id 0 pg.sl (nr d id pg L)
section
variable {K:aK}{w:World}{F:List aB}{pg:Pg}{a:Option Addr}{cap:Nat}{d:aR}{id:Int}{bm bc:Nat}{L:List aP}{acc:Nat}
theorem tU (hd:d.Ok)(hid:0<=id/\id<18446744073709551616)(cg:0<=pg.az/\pg.az<1000000)(hle:(pg.sl.length:Int)<=d.fa)
  (fj:∀ W,St K W F->eo W a pg.sl) (hs:St K w (aJ bm bc L acc::F)) :
  Calls Tryz.prog 35 #[.agg #[.int .i64 d.th,.int .i64 d.sn,.int .i64 d.no,.int .i64 d.ch,.int .i64 d.re,.int .i64 d.fa,.int .u64 d.cl],.pointer (some ⟨bm,0,none⟩),.int .u64 id,.agg #[.int .i64 (pg).az,(.slice a pg.sl.length cap),.string (pg).hi,.bool (pg).la,.int .u64 (pg).ri]] w fun e w' => e=.returned (.tuple #[]) /\
   St K w' (aJ bm bc (eY d id pg L) acc::F):=by
 have sO:=aqo fj;clear fj;obtain⟨n,hn⟩:∃ n,n=pg.sl.length:=⟨_,rfl⟩;have sP:=hd.mV;have Qn:=aqo (fun(k:Int) (hk:0<=k/\k<d.fa+4) w=>mX d hd id k hid.1 hid.2 hk.1 hk.2 w)
 have e3:nr d id pg L=aN (aN (aN L (d.node id 1) ⟨n,⟨#[]⟩,pg.az⟩) (d.node id 2) ⟨0,pg.hi,b01 pg.la⟩) (d.node id 3) ⟨pg.ri,⟨#[]⟩,0⟩:=by unfold nr;rw[hn]
 obtain⟨Le,hLe⟩:∃ Le,Le=eY d id pg L:=⟨_,rfl⟩;rw[← hn]at hle ⊢;rw[← hLe];obtain⟨o,ho⟩:∃ o,o=pg.la:=⟨_,rfl⟩;rw[← ho]at e3 ⊢;have Hn:=aqo hn;have HLe:=aqo hLe;have E3:=aqo e3;clear hn hLe e3 ho;cases o with
 | true=>
  have hs:=(hs.made (.cells #[.int .i64 d.th,.int .i64 d.sn,.int .i64 d.no,.int .i64 d.ch,.int .i64 d.re,.int .i64 d.fa,.int .u64 d.cl] 26)).made (.cells #[.int .i64 pg.az,.slice a n cap,.string pg.hi,.bool true,.int .u64 pg.ri] 43);rw[World.size_alloc]at hs;have hs:=hs.b2;go_enter Tryz.func35,Tryz.ntmps35
  go_upto_region 1 with(fail)
  refine cR hs ?_
  generalize w.heap.size+1=bp at *;generalize w.heap.size=uY at *;clear hs;intro W hs;have kp:=hs.k1;have kc:=hs.k2;refine bO 12 (by kernel_rfl) (by as_aux_lemma=>kernel_rfl) ?_
  simp only[List.take_succ_cons,List.take_zero,List.drop_succ_cons,List.drop_zero];repeat (go_big_quiet_step ((go_at_call 21;exact aW (Qn.out _ (by omega) _))))
  refine wpQuiet_nil ?_
  intro w5 hb5;have hs:=hs.same hb5;clear kp kc hb5;go_wp2_with fail
  refine(fQ (c:=⟨n,⟨#[]⟩,pg.az⟩) hs).mono ?_
  clear hs;rintro e w6 ⟨rfl,hs⟩;have kp:=hs.k1;have kp2:=(hs.made (.cells #[.int .u64 0,.string pg.hi,.int .u64 0] 63)).k2;have kh2:=(hs.made (.cells #[.int .u64 0,.string pg.hi,.int .u64 0] 63)).k0;have fh2:=(hs.made (.cells #[.int .u64 0,.string pg.hi,.int .u64 0] 63)).f0;have hs:=hs.made (.cells #[.int .u64 0,.string pg.hi,.int .u64 1] 63);go_upto_region 5 with(fail)
  refine cR hs ?_
  generalize w6.heap.size=bh at *;clear hs kp kp2 kh2 fh2;intro W2 hs;have kh:=hs.k0;have kc:=hs.tail.k2;refine bO 5 (by kernel_rfl) (by as_aux_lemma=>kernel_rfl) ?_
  simp only[List.take_succ_cons,List.take_zero,List.drop_succ_cons,List.drop_zero];repeat (go_big_quiet_step ((go_at_call 21;exact aW (Qn.out _ (by omega) _))))
  refine wpQuiet_nil ?_
  intro w7 Yt;have hs:=(hs.same Yt).b1;clear kh kc Yt;go_wp2_with fail
  refine(fQ (c:=⟨0,pg.hi,1⟩) hs).mono ?_
  clear hs;rintro e w8 ⟨rfl,hs⟩;have hs:=hs.bV;have kp:=hs.k1;have kc:=hs.k2;go_upto_region 6 with(fail)
  refine bO 7 (by kernel_rfl) (by as_aux_lemma=>kernel_rfl) ?_
  simp only[List.take_succ_cons,List.take_zero,List.drop_succ_cons,List.drop_zero];repeat (go_big_quiet_step ((go_at_call 21;exact aW (Qn.out _ (by omega) _))))
  refine wpQuiet_nil ?_
  intro w9 Yu;have hs:=hs.same Yu;clear kp kc Yu;go_wp2_with fail
  refine(fQ (c:=⟨pg.ri,⟨#[]⟩,0⟩) hs).mono ?_
  clear hs;rintro e w10 ⟨rfl,hs⟩;have e3:=E3.out;rw[show b01 true=1 from rfl]at e3
  rw[← e3]at hs;clear e3;go_wp2
  go_loopw [9] (fun v wr=>∃ (i:Nat) (L2:List aP),i<=n/\v=.int .i64 i/\Le=jR d id i (pg.sl.drop i) L2 /\
   St K wr (aJ bm bc L2 acc::blk bp (.cells #[.int .i64 pg.az,.slice a n cap,.string pg.hi,.bool true,.int .u64 pg.ri] 43)::blk uY (.cells #[.int .i64 d.th,.int .i64 d.sn,.int .i64 d.no,.int .i64 d.ch,.int .i64 d.re,.int .i64 d.fa,.int .u64 d.cl] 26)::F)) (fun v _=>n-(intOf v).toNat)
  case atStart=>exact⟨0,nr d id pg L,by omega,rfl,HLe.out,hs⟩
  case round=>
   clear hs;obtain⟨i,L2,hi,rfl,hL2,hs⟩:=hrel;have HL2:=aqo hL2;clear hL2;have kp:=hs.k1;have kc:=hs.k2;by_cases hlt:i<n
   ·have hl':i<pg.sl.length:=by rw[← Hn.out];exact hlt
    have fj:=sO.out _ hs.tail.tail.tail;obtain⟨b1,off1,rfl,_,c0,c1⟩:=fj.2 i pg.sl[i] (aqt hl');have hd2:pg.sl.drop i=pg.sl[i]::pg.sl.drop (i+1):=List.drop_eq_getElem_cons hl';have hnext:Le=jR d id (i+1) (pg.sl.drop (i+1)) (aN L2 (d.node id (4+(i:Int))) ⟨pg.sl[i].r,pg.sl[i].k,0⟩):=by rw[HL2.out,hd2];rfl
    have Hx:=aqo hnext;generalize pg.sl[i]=u at *;clear hl' fj hd2 hnext;go_upto_region 10 with(fail)
    refine bO 19 (by kernel_rfl) (by as_aux_lemma=>kernel_rfl) ?_
    simp only[List.take_succ_cons,List.take_zero,List.drop_succ_cons,List.drop_zero];repeat (go_big_quiet_step ((go_at_call 21;exact aW (Qn.out _ (by omega) _))))
    refine wpQuiet_nil ?_
    intro w11 Qq;have hs:=hs.same Qq;clear kp kc c0 c1 Qq;go_wp2_with fail
    refine(fQ (c:=⟨u.r,u.k,0⟩) hs).mono ?_
    clear hs;rintro e w12 ⟨rfl,hs⟩;go_wp2
    go_roundw
    case rel=>exact⟨i+1,_,by omega,by go_num,Hx.out,hs⟩
    case measure=>simp[intOf];omega
   ·obtain rfl:i=n:=by omega
    have e:Le=L2:=by rw[HL2.out,List.drop_eq_nil_of_le (by rw[← Hn.out];exact Nat.le_refl _)];rfl
    rw[← e]at hs;clear e;go_wp2
    go_end0
    exact⟨rfl,hs.bV.bV⟩
 | false=>
  have hs:=(hs.made (.cells #[.int .i64 d.th,.int .i64 d.sn,.int .i64 d.no,.int .i64 d.ch,.int .i64 d.re,.int .i64 d.fa,.int .u64 d.cl] 26)).made (.cells #[.int .i64 pg.az,.slice a n cap,.string pg.hi,.bool false,.int .u64 pg.ri] 43);rw[World.size_alloc]at hs;have hs:=hs.b2;go_enter Tryz.func35,Tryz.ntmps35
  go_upto_region 1 with(fail)
  refine cR hs ?_
  generalize w.heap.size+1=bp at *;generalize w.heap.size=uY at *;clear hs;intro W hs;have kp:=hs.k1;have kc:=hs.k2;refine bO 12 (by kernel_rfl) (by as_aux_lemma=>kernel_rfl) ?_
  simp only[List.take_succ_cons,List.take_zero,List.drop_succ_cons,List.drop_zero];repeat (go_big_quiet_step ((go_at_call 21;exact aW (Qn.out _ (by omega) _))))
  refine wpQuiet_nil ?_
  intro w5 hb5;have hs:=hs.same hb5;clear kp kc hb5;go_wp2_with fail
  refine(fQ (c:=⟨n,⟨#[]⟩,pg.az⟩) hs).mono ?_
  clear hs;rintro e w6 ⟨rfl,hs⟩;have kp:=hs.k1;have hs:=hs.made (.cells #[.int .u64 0,.string pg.hi,.int .u64 0] 63);have kp2:=hs.k2;go_upto_region 5 with(fail)
  refine cR hs ?_
  generalize w6.heap.size=bh at *;clear hs kp kp2;intro W2 hs;have kh:=hs.k0;have kc:=hs.tail.k2;refine bO 5 (by kernel_rfl) (by as_aux_lemma=>kernel_rfl) ?_
  simp only[List.take_succ_cons,List.take_zero,List.drop_succ_cons,List.drop_zero];repeat (go_big_quiet_step ((go_at_call 21;exact aW (Qn.out _ (by omega) _))))
  refine wpQuiet_nil ?_
  intro w7 Yt;have hs:=(hs.same Yt).b1;clear kh kc Yt;go_wp2_with fail
  refine(fQ (c:=⟨0,pg.hi,0⟩) hs).mono ?_
  clear hs;rintro e w8 ⟨rfl,hs⟩;have hs:=hs.bV;have kp:=hs.k1;have kc:=hs.k2;go_upto_region 6 with(fail)
  refine bO 7 (by kernel_rfl) (by as_aux_lemma=>kernel_rfl) ?_
  simp only[List.take_succ_cons,List.take_zero,List.drop_succ_cons,List.drop_zero];repeat (go_big_quiet_step ((go_at_call 21;exact aW (Qn.out _ (by omega) _))))
  refine wpQuiet_nil ?_
  intro w9 Yu;have hs:=hs.same Yu;clear kp kc Yu;go_wp2_with fail
  refine(fQ (c:=⟨pg.ri,⟨#[]⟩,0⟩) hs).mono ?_
  clear hs;rintro e w10 ⟨rfl,hs⟩;have e3:=E3.out;rw[show b01 false=0 from rfl]at e3
  rw[← e3]at hs;clear e3;go_wp2
  go_loopw [9] (fun v wr=>∃ (i:Nat) (L2:List aP),i<=n/\v=.int .i64 i/\Le=jR d id i (pg.sl.drop i) L2 /\
   St K wr (aJ bm bc L2 acc::blk bp (.cells #[.int .i64 pg.az,.slice a n cap,.string pg.hi,.bool false,.int .u64 pg.ri] 43)::blk uY (.cells #[.int .i64 d.th,.int .i64 d.sn,.int .i64 d.no,.int .i64 d.ch,.int .i64 d.re,.int .i64 d.fa,.int .u64 d.cl] 26)::F)) (fun v _=>n-(intOf v).toNat)
  case atStart=>exact⟨0,nr d id pg L,by omega,rfl,HLe.out,hs⟩
  case round=>
   clear hs;obtain⟨i,L2,hi,rfl,hL2,hs⟩:=hrel;have HL2:=aqo hL2;clear hL2;have kp:=hs.k1;have kc:=hs.k2;by_cases hlt:i<n
   ·have hl':i<pg.sl.length:=by rw[← Hn.out];exact hlt
    have fj:=sO.out _ hs.tail.tail.tail;obtain⟨b1,off1,rfl,_,c0,c1⟩:=fj.2 i pg.sl[i] (aqt hl');have hd2:pg.sl.drop i=pg.sl[i]::pg.sl.drop (i+1):=List.drop_eq_getElem_cons hl';have hnext:Le=jR d id (i+1) (pg.sl.drop (i+1)) (aN L2 (d.node id (4+(i:Int))) ⟨pg.sl[i].r,pg.sl[i].k,0⟩):=by rw[HL2.out,hd2];rfl
    have Hx:=aqo hnext;generalize pg.sl[i]=u at *;clear hl' fj hd2 hnext;go_upto_region 10 with(fail)
    refine bO 19 (by kernel_rfl) (by as_aux_lemma=>kernel_rfl) ?_
    simp only[List.take_succ_cons,List.take_zero,List.drop_succ_cons,List.drop_zero];repeat (go_big_quiet_step ((go_at_call 21;exact aW (Qn.out _ (by omega) _))))
    refine wpQuiet_nil ?_
    intro w11 Qq;have hs:=hs.same Qq;clear kp kc c0 c1 Qq;go_wp2_with fail
    refine(fQ (c:=⟨u.r,u.k,0⟩) hs).mono ?_
    clear hs;rintro e w12 ⟨rfl,hs⟩;go_wp2
    go_roundw
    case rel=>exact⟨i+1,_,by omega,by go_num,Hx.out,hs⟩
    case measure=>simp[intOf];omega
   ·obtain rfl:i=n:=by omega
    have e:Le=L2:=by rw[HL2.out,List.drop_eq_nil_of_le (by rw[← Hn.out];exact Nat.le_refl _)];rfl
    rw[← e]at hs;clear e;go_wp2
    go_end0
    exact⟨rfl,hs.bV.bV⟩
theorem wK (hd:d.Ok)(hid:0<=id/\id<18446744073709551616)(cg:0<=pg.az/\pg.az<1000000)(hle:(pg.sl.length:Int)<=d.fa)
  (hs:St K w (aJ bm bc L acc::ak (.slice a pg.sl.length cap) 69 2 pg.sl.length (aD pg.sl)::F)) :
  Calls Tryz.prog 35 #[.agg #[.int .i64 d.th,.int .i64 d.sn,.int .i64 d.no,.int .i64 d.ch,.int .i64 d.re,.int .i64 d.fa,.int .u64 d.cl],.pointer (some ⟨bm,0,none⟩),.int .u64 id,.agg #[.int .i64 (pg).az,(.slice a pg.sl.length cap),.string (pg).hi,.bool (pg).la,.int .u64 (pg).ri]] w fun e w' => e=.returned (.tuple #[]) /\
   St K w' (aJ bm bc (eY d id pg L) acc::ak (.slice a pg.sl.length cap) 69 2 pg.sl.length (aD pg.sl)::F):=by
 have hf:=hd.mV;exact tU hd hid cg hle (fun W h=>h.cN (by omega)) hs
end
section
variable {d:aR}(hd:d.Ok){id:Int}(h1:1<=id)(h2:id<=d.no)
include hd h1 h2
theorem bU {k:Int}(hk:0<=k)(hk2:k<d.fa+4):d.node id k=d.A+(id-1)*(d.fa+4)+k/\0<=d.node id k/\d.node id k<d.cells:=by
 have e:d.node id k=d.A+(id-1)*(d.fa+4)+k:=by unfold aR.node;rw[if_pos ⟨h1,h2⟩]
 have hA:=hd.eb;have hB:=hd.jo;have hC:=hd.mE;have hcl:=hd.dL;have f1:=hd.fw;have m1:(id-1)*(d.fa+4)+(d.fa+4)=id*(d.fa+4):=by rw[Int.sub_mul];omega
 have m2:id*(d.fa+4)<=d.no*(d.fa+4):=Int.mul_le_mul_of_nonneg_right h2 (by omega)
 have m3:0<=(id-1)*(d.fa+4):=Int.mul_nonneg (by omega) (by omega)
 have eB:d.B=d.A+d.no*(d.fa+4):=rfl;refine⟨e,by omega,?_⟩
 have:d.B<=d.cells:=by unfold aR.cells aR.C;have:=hd.ch1;have:=hd.Yo;omega
 omega
theorem dw {k k':Int}(hk:0<=k)(hk2:k<d.fa+4)(hk':0<=k')(aaJ:k' < d.fa+4)(h:k≠k'):d.node id k≠d.node id k' := by
 have a:=bU hd h1 h2 hk hk2;have b:=bU hd h1 h2 hk' aaJ;omega
omit hd h1 h2 in
theorem xR:∀ (sl:List Sl)(i:Nat)(L:List aP),(jR d id i sl L).length=L.length:=by
 intro sl;induction sl with
 | nil=>intro i L;rfl
 | cons s sl ih=>intro i L;show(jR d id (i+1) sl _).length=_;rw[ih,aY]
omit hd h1 h2 in
theorem eO:∀ (sl:List Sl)(i:Nat)(L:List aP)(j:Int),(∀ k:Nat,i<=k->k<i+sl.length->j≠d.node id (4+(k:Int)))->ah (jR d id i sl L) j=ah L j:=by
 intro sl;induction sl with
 | nil=>intro i L j _;rfl
 | cons s sl ih=>
  intro i L j h;show ah (jR d id (i+1) sl _) j=_
  rw[ih (i+1) _ j (fun k a b=>h k (by omega) (by simp;omega))]
  exact bg (h i (by omega) (by simp))
theorem Qu:∀ (sl:List Sl)(i:Nat)(L:List aP),(L.length:Int)=d.cells->(i+sl.length:Int)<=d.fa->∀ (m:Nat)(s:Sl),sl[m]?=some s->ah (jR d id i sl L) (d.node id (4+((i+m:Nat):Int)))=⟨s.r,s.k,0⟩:=by
 intro sl;induction sl with
 | nil=>intro i L _ _ m s h;simp at h
 | cons x sl ih=>
  intro i L hlen hle m s h;simp only[List.length_cons]at hle;show ah (jR d id (i+1) sl (aN L (d.node id (4+(i:Int))) ⟨x.r,x.k,0⟩)) _=_
  cases m with
  | zero=>
   simp only[List.getElem?_cons_zero,Option.some.injEq]at h;subst h;have hi:=bU hd h1 h2 (k:=4+(i:Int)) (by omega) (by omega)
   rw[eO _ _ _ _ (fun k a b=>by
    simp only[Nat.add_zero];exact dw hd h1 h2 (by omega) (by omega) (by omega) (by omega) (by omega))]
   rw[Nat.add_zero];exact b9 hi.2.1 (by omega)
  | succ m=>
   rw[show i+(m+1)=(i+1)+m by omega]
   exact ih (i+1) _ (by rw[aY];exact hlen) (by omega) m s (by simpa using h)
theorem Qv {L:List aP}{pg:Pg}(hlen:(L.length:Int)=d.cells)(cg:0<=pg.az/\pg.az<1000000)(hle:(pg.sl.length:Int)<=d.fa):eA d id (eY d id pg L) pg:=by
 have f1:=hd.fw;have n1:=bU hd h1 h2 (k:=1) (by omega) (by omega)
 have n2:=bU hd h1 h2 (k:=2) (by omega) (by omega)
 have n3:=bU hd h1 h2 (k:=3) (by omega) (by omega)
 have ne:∀ (k:Int) (m:Nat),0<=k->k<=3->0<=m->m<0+pg.sl.length->d.node id k≠d.node id (4+(m:Int)):=fun k m a b _ c=>dw hd h1 h2 a (by omega) (by omega) (by omega) (by omega)
 have e1:ah (eY d id pg L) (d.node id 1)=⟨pg.sl.length,⟨#[]⟩,pg.az⟩:=by
  unfold eY;rw[eO _ _ _ _ (fun k a b=>ne 1 k (by omega) (by omega) a b)]
  unfold nr;rw[bg (dw hd h1 h2 (by omega) (by omega) (by omega) (by omega) (by omega)),bg (dw hd h1 h2 (by omega) (by omega) (by omega) (by omega) (by omega)),b9 n1.2.1 (by omega)]
 have e2:ah (eY d id pg L) (d.node id 2)=⟨0,pg.hi,b01 pg.la⟩:=by
  unfold eY;rw[eO _ _ _ _ (fun k a b=>ne 2 k (by omega) (by omega) a b)]
  unfold nr;rw[bg (dw hd h1 h2 (by omega) (by omega) (by omega) (by omega) (by omega)),b9 n2.2.1 (by rw[aY];omega)]
 have e3:ah (eY d id pg L) (d.node id 3)=⟨pg.ri,⟨#[]⟩,0⟩:=by
  unfold eY;rw[eO _ _ _ _ (fun k a b=>ne 3 k (by omega) (by omega) a b)]
  unfold nr;rw[b9 n3.2.1 (by rw[aY,aY];omega)]
 refine⟨by rw[e1],?_,by rw[e2],?_,by rw[e3],hle,fun i s hs=>?_⟩
 ·rw[e1];show wrap64 pg.az=pg.az
  unfold wrap64;omega
 ·rw[e2];cases pg.la <;> rfl
 ·have hi:i<pg.sl.length:=(aqq.1 hs).1
  have es:d.slot id i=d.node id (4+((0+i:Nat):Int)):=by
   unfold aR.slot;rw[if_pos ⟨by omega,by omega⟩,Nat.zero_add]
  rw[es];unfold eY;have hl3:((nr d id pg L).length:Int)=d.cells:=by unfold nr;rw[aY,aY,aY];exact hlen
  rw[Qu hd h1 h2 pg.sl 0 _ hl3 (by omega) i s hs]
  exact⟨rfl,rfl⟩
end
theorem Fl {x:Int}(h0:0<=x)(h1:x<18446744073709551616):0<=bC x/\bC x<18446744073709551616:=by
 unfold bC;split <;> omega
theorem Ra {d:aR}{id:Int}:∀ (sl:List Sl)(i:Nat)(L:List aP),bI L->(∀ s,s∈sl->0<=s.r/\s.r<18446744073709551616)->bI (jR d id i sl L):=by
 intro sl;induction sl with
 | nil=>intro i L h _;exact h
 | cons s sl ih=>
  intro i L h hr;exact ih (i+1) _ (h.put (hr s (by simp))) (fun s' hs' => hr s' (by simp[hs']))
theorem Rb {d:aR}{id:Int}{pg:Pg}{L:List aP}(h:bI L)(hle:(pg.sl.length:Int)<=1000000)(mq:0<=pg.ri/\pg.ri<18446744073709551616)(hr:∀ s,s∈pg.sl->0<=s.r/\s.r<18446744073709551616):bI (eY d id pg L):=by
 unfold eY nr;refine Ra _ _ _ ?_ hr;refine bI.put (bI.put (bI.put h ⟨?_,?_⟩) ⟨?_,?_⟩) mq
 ·show(0:Int)<=pg.sl.length;omega
 ·show(pg.sl.length:Int)<_;omega
 ·show(0:Int)<=0;omega
 ·show(0:Int)<_;omega
theorem lV {d:aR}{id:Int}{pg:Pg}{L:List aP}:(eY d id pg L).length=L.length:=by
 unfold eY nr;rw[xR,aY,aY,aY]
section
variable {d:aR}(hd:d.Ok){id:Int}(h1:1<=id)(h2:id<=d.no)
include hd h1 h2
theorem eA.zu {L:List aP}{pg:Pg}{c:aP}(h:eA d id L pg):eA d id (aN L (d.node id 0) c) pg:=by
 have f1:=hd.fw;have ne:∀ k:Int,1<=k->k<d.fa+4->ah (aN L (d.node id 0) c) (d.node id k)=ah L (d.node id k):=fun k a b=>bg (dw hd h1 h2 (by omega) b (by omega) (by omega) (by omega))
 refine⟨by rw[ne 1 (by omega) (by omega)];exact h.n,by rw[ne 1 (by omega) (by omega)];exact h.az,by rw[ne 2 (by omega) (by omega)];exact h.hi,by rw[ne 2 (by omega) (by omega)];exact h.la,by rw[ne 3 (by omega) (by omega)];exact h.ri,h.le,fun i s hs=>?_⟩
 have hi:i<pg.sl.length:=(aqq.1 hs).1;have:=h.le;have es:d.slot id i=d.node id (4+(i:Int)):=by
  unfold aR.slot;rw[if_pos ⟨by omega,by omega⟩]
 rw[es,ne _ (by omega) (by omega),← es]
 exact h.sl i s hs
end
section
variable {d:aR}{id:Int}{L:List aP}{pg:Pg}
theorem oL (hd:d.Ok):eA d 1 (cm d) ⟨0,[],⟨#[]⟩,true,0⟩/\(ah (cm d) (d.node 1 0))=aP.zero/\bI (cm d)/\((cm d).length:Int)=d.cells:=by
 obtain⟨p1,p2,p3⟩:=iu d hd;have f1:=hd.fw;have n1:=hd.Iw;have hA:=hd.eb;have hcl:=hd.dL;have n:∀ k:Int,0<=k->k<d.fa+4->d.node 1 k=d.A+k:=fun k a b=>by
  have:=(bU hd (id:=1) (by omega) n1 a b).1
  omega
 have z:∀ k:Int,0<=k->k<d.fa+4->k≠2->ah (cm d) (d.node 1 k)=aP.zero:=by
  intro k a b c;have e2:=n 2 (by omega) (by omega)
  have ek:=n k a b;rw[p3 _ (by omega),if_neg (by omega),if_neg (by omega),if_neg (by omega)]
 have e2:ah (cm d) (d.node 1 2)=⟨0,⟨#[]⟩,1⟩:=by rw[p3 _ (by omega),if_pos rfl]
 refine⟨⟨by rw[z 1 (by omega) (by omega) (by omega)];rfl,by rw[z 1 (by omega) (by omega) (by omega)];show wrap64 0=0;unfold wrap64;omega,by rw[e2],by rw[e2];rfl,by rw[z 3 (by omega) (by omega) (by omega)];rfl,by simp;omega,fun i s hs=>by simp at hs⟩,z 0 (by omega) (by omega) (by omega),fun k=>?_,by rw[p1];have:=hd.eb;have h5:=hd.jo;have h6:=hd.mE;omega⟩
 by_cases hk:0<=k
 ·rw[p3 k hk]
  split
  ·exact⟨by decide,by decide⟩
  ·split
   ·exact⟨by decide,by decide⟩
   ·split <;> exact⟨by decide,by decide⟩
 ·rw[pW (by omega)];exact⟨by decide,by decide⟩
end
end Go.Proofs.YtlpdhhhgckpcfaaGreat
