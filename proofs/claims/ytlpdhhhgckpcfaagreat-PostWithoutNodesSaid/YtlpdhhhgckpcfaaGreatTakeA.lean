
/- The machine alloc.Take (layer 5): what each of its steps does. alloc.Take as a part of a world. -/
import Derived.Test.YtlpdhhhgckpcfaaGreatBaseA
namespace Go.Proofs.YtlpdhhhgckpcfaaGreat
open Go.RowKit
set_option maxRecDepth 100000
structure iy where
 pc:Nat
 seen:Int
 ok:Bool
def Rk (bt:Nat):Nat->Value
 | 0=> .func (.func 134) #[.pointer (some ⟨bt,0,none⟩)] #[]
 | 1=> .func (.func 162) #[.pointer (some ⟨bt,0,none⟩)] #[]
 | _=> .nilFunc
def ug (w:World)(bt:Nat)(i lim:Int)(s:iy):Prop:=
 w.heap[bt]?=some (.cells #[Rk bt s.pc,.bool true,.int .i64 i,.int .u64 lim,.int .u64 s.seen,.bool s.ok] 190)
theorem rF:Enters 134:=fun _ _=>rfl
theorem rG:Enters 162:=fun _ _=>rfl
theorem Ay (w:World)(i lim:Int):Calls Tryz.prog 98 #[.int .i64 i,.int .u64 lim] w fun e w' => e=.returned (.pointer (some ⟨w.heap.size,0,none⟩))/\ug w' w.heap.size i lim ⟨0,0,false⟩/\Below w.heap.size w w' /\ w.heap.size<w'.heap.size:=by
 go_enter Tryz.func98,Tryz.ntmps98
 go_wp2_with fail
 refine(fk 134 #[.pointer (some ⟨w.heap.size,0,none⟩)] #[] _).mono ?_
 rintro e w1 ⟨rfl,hb⟩;have B1:=cO hb (dU w _);have hlt:=gY B1;have k:=bu B1;have kf:=dH B1;have B2:=cK (cK B1 0 (.func (.func 134) #[.pointer (some ⟨w.heap.size,0,none⟩)] #[])) 1 (.bool true);simp only[List.setIfInBounds_toArray,List.set_cons_zero,List.set_cons_succ]at B2;go_wp2
 go_ret;refine⟨rfl,B2,?_,by simp only[World.size_setCell];exact hlt⟩
 iterate 2 refine Below.setCell ?_ (by simp) _
 exact((Below.refl _ _).alloc (Nat.le_refl _) _).trans (hb.mono (by simp))
theorem xX (w:World)(bt bm bc:Nat)(i lim seen acc:Int)(v0:Value)(ok:Bool)(L:List aP)(h:w.heap[bt]?=some (.cells #[v0,.bool true,.int .i64 i,.int .u64 lim,.int .u64 seen,.bool ok] 190))(M:bP w bm bc L acc)(h1:bt≠bm)(h2:bt≠bc)(ha0:0<=acc)(ha:acc<=1000000000000)(hx:lim<=(ah L i).n) :
  Calls Tryz.prog 134 #[.pointer (some ⟨bt,0,none⟩),.pointer (some ⟨bm,0,none⟩)] w fun e w' => e=.returned (.nilFunc)/\w'.heap[bt]?=some (.cells #[v0,.bool true,.int .i64 i,.int .u64 lim,.int .u64 (ah L i).n,.bool ok] 190)/\bP w' bm bc L (acc+1)/\eG [bt,bm,bc] w w' := by
 have k:=bu h;go_enter Tryz.func134,Tryz.ntmps134
 go_wp2_with fail
 refine(tj _ bm bc L acc i M ha0 ha).mono ?_
 rintro e w1 ⟨rfl,M1,hg⟩;have T1:=hg.blk h (by simp[h1])
 clear k;have k:=bu T1;have kf:=dH T1;have T2:=cK T1 4 (.int .u64 (ah L i).n);simp only[List.setIfInBounds_toArray,List.set_cons_zero,List.set_cons_succ]at T2;go_upto_region 2 with(fail)
 obtain⟨W,hW⟩:∃ W,W=w1.setCell ⟨bt,4,none⟩ (.int .u64 (ah L i).n):=⟨_,rfl⟩;have hg2:eG [bt,bm,bc] w W:=by rw[hW];exact(hg.mono (by simp)).setCell (.inl (by simp)) _
 have M2:bP W bm bc L (acc+1):=by rw[hW];exact M1.keep (S:=[bt]) ((eG.refl _ _).setCell (.inl (by simp)) _) (by simp[Ne.symm h1]) (by simp[Ne.symm h2])
 rw[← hW]at T2 ⊢;clear hW k kf T1 hg M1 h;have k:=bu T2;refine bH (by kernel_rfl) (by kernel_rfl) ?_
 repeat (go_big_quiet_step (fail))
 refine wpQuiet_nil ?_
 intro w3 hb;clear k;go_wp2
 go_ret;exact⟨rfl,cO hb T2,M2.same hb,hg2.trans (eG.of_below hb)⟩
theorem Az (w:World)(bt bm bc:Nat)(i lim seen acc:Int)(v0:Value)(ok:Bool)(L:List aP)(h:w.heap[bt]?=some (.cells #[v0,.bool true,.int .i64 i,.int .u64 lim,.int .u64 seen,.bool ok] 190))(M:bP w bm bc L acc)(h1:bt≠bm)(h2:bt≠bc)(ha0:0<=acc)(ha:acc<=1000000000000)(hx:(ah L i).n<lim) :
  Calls Tryz.prog 134 #[.pointer (some ⟨bt,0,none⟩),.pointer (some ⟨bm,0,none⟩)] w fun e w' => e=.returned (.func (.func 162) #[.pointer (some ⟨bt,0,none⟩)] #[])/\w'.heap[bt]?=some (.cells #[v0,.bool true,.int .i64 i,.int .u64 lim,.int .u64 (ah L i).n,.bool ok] 190)/\bP w' bm bc L (acc+1)/\eG [bt,bm,bc] w w' := by
 have k:=bu h;go_enter Tryz.func134,Tryz.ntmps134
 go_wp2_with fail
 refine(tj _ bm bc L acc i M ha0 ha).mono ?_
 rintro e w1 ⟨rfl,M1,hg⟩;have T1:=hg.blk h (by simp[h1])
 clear k;have k:=bu T1;have kf:=dH T1;have T2:=cK T1 4 (.int .u64 (ah L i).n);simp only[List.setIfInBounds_toArray,List.set_cons_zero,List.set_cons_succ]at T2;go_upto_region 2 with(fail)
 obtain⟨W,hW⟩:∃ W,W=w1.setCell ⟨bt,4,none⟩ (.int .u64 (ah L i).n):=⟨_,rfl⟩;have hg2:eG [bt,bm,bc] w W:=by rw[hW];exact(hg.mono (by simp)).setCell (.inl (by simp)) _
 have M2:bP W bm bc L (acc+1):=by rw[hW];exact M1.keep (S:=[bt]) ((eG.refl _ _).setCell (.inl (by simp)) _) (by simp[Ne.symm h1]) (by simp[Ne.symm h2])
 rw[← hW]at T2 ⊢;clear hW k kf T1 hg M1 h;have k:=bu T2;refine bH (by kernel_rfl) (by kernel_rfl) ?_
 repeat (go_big_quiet_step (fail))
 refine wpQuiet_nil ?_
 intro w3 hb;clear k;go_wp2
 go_ret;exact⟨rfl,cO hb T2,M2.same hb,hg2.trans (eG.of_below hb)⟩
theorem xY (w:World)(bt bm bc:Nat)(i lim seen acc:Int)(v0:Value)(ok:Bool)(L:List aP)(h:w.heap[bt]?=some (.cells #[v0,.bool true,.int .i64 i,.int .u64 lim,.int .u64 seen,.bool ok] 190))(M:bP w bm bc L acc)(h1:bt≠bm)(h2:bt≠bc)(ha0:0<=acc)(ha:acc<=1000000000000)(s0:0<=seen)(s1:seen<18446744073709551615)(hx:bW L i seen=true) :
  Calls Tryz.prog 162 #[.pointer (some ⟨bt,0,none⟩),.pointer (some ⟨bm,0,none⟩)] w fun e w' => e=.returned (.nilFunc)/\w'.heap[bt]?=some (.cells #[v0,.bool true,.int .i64 i,.int .u64 lim,.int .u64 seen,.bool true] 190)/\bP w' bm bc (aN L i ⟨seen+1,⟨#[]⟩,0⟩) (acc+1)/\eG [bt,bm,bc] w w' := by
 have k:=bu h;have q:=fun w' (M':bP w' bm bc L acc)=>tq w' bm bc L acc i seen ⟨seen+1,⟨#[]⟩,0⟩ M' ha0 ha
 simp only[hx,if_true]at q;have Q:=aqo q;clear q hx;go_enter Tryz.func162,Tryz.ntmps162
 go_wp2
 refine bO 15 (by kernel_rfl) (by kernel_rfl) ?_
 simp only[List.take_succ_cons,List.take_zero,List.drop_succ_cons,List.drop_zero];repeat (go_big_quiet_step (fail))
 refine wpQuiet_nil ?_
 intro w1 hb;go_wp2_with fail
 refine(Q.out _ (M.same hb)).mono ?_
 rintro e w2 ⟨rfl,M2,hg⟩;have T2:=hg.blk (cO hb h) (by simp[h1,h2])
 have hg2:eG [bt,bm,bc] w w2:=(eG.of_below hb).trans (hg.mono (by simp))
 clear k h;have k:=bu T2;have kf:=dH T2;have T3:=cK T2 5 (.bool true);simp only[List.setIfInBounds_toArray,List.set_cons_zero,List.set_cons_succ]at T3;go_wp2
 go_ret;exact⟨rfl,T3,M2.keep (S:=[bt]) ((eG.refl _ _).setCell (.inl (by simp)) _) (by simp[Ne.symm h1]) (by simp[Ne.symm h2]),hg2.setCell (.inl (by simp)) _⟩
theorem Ba (w:World)(bt bm bc:Nat)(i lim seen acc:Int)(v0:Value)(ok:Bool)(L:List aP)(h:w.heap[bt]?=some (.cells #[v0,.bool true,.int .i64 i,.int .u64 lim,.int .u64 seen,.bool ok] 190))(M:bP w bm bc L acc)(h1:bt≠bm)(h2:bt≠bc)(ha0:0<=acc)(ha:acc<=1000000000000)(s0:0<=seen)(s1:seen<18446744073709551615)(hx:bW L i seen=false) :
  Calls Tryz.prog 162 #[.pointer (some ⟨bt,0,none⟩),.pointer (some ⟨bm,0,none⟩)] w fun e w' => e=.returned (.func (.func 134) #[.pointer (some ⟨bt,0,none⟩)] #[])/\w'.heap[bt]?=some (.cells #[v0,.bool true,.int .i64 i,.int .u64 lim,.int .u64 seen,.bool ok] 190)/\bP w' bm bc (L) (acc+1)/\eG [bt,bm,bc] w w' := by
 have k:=bu h;have q:=fun w' (M':bP w' bm bc L acc)=>tq w' bm bc L acc i seen ⟨seen+1,⟨#[]⟩,0⟩ M' ha0 ha
 simp only[hx,Bool.false_eq_true,if_false]at q;have Q:=aqo q;clear q hx;go_enter Tryz.func162,Tryz.ntmps162
 go_wp2
 refine bO 15 (by kernel_rfl) (by kernel_rfl) ?_
 simp only[List.take_succ_cons,List.take_zero,List.drop_succ_cons,List.drop_zero];repeat (go_big_quiet_step (fail))
 refine wpQuiet_nil ?_
 intro w1 hb;go_wp2_with fail
 refine(Q.out _ (M.same hb)).mono ?_
 rintro e w2 ⟨rfl,M2,hg⟩;have T2:=hg.blk (cO hb h) (by simp[h1,h2])
 have hg2:eG [bt,bm,bc] w w2:=(eG.of_below hb).trans (hg.mono (by simp))
 clear k h;have k:=bu T2;have kf:=dH T2;go_wp2
 go_ret;exact⟨rfl,T2,M2,hg2⟩
def aG (i lim:Int)(L:List aP)(s:iy):iy × List aP:=
 match s.pc with
 | 0=>(⟨if lim<=(ah L i).n then 2 else 1,(ah L i).n,s.ok⟩,L)
 | 1=>if bW L i s.seen then(⟨2,s.seen,true⟩,aN L i ⟨s.seen+1,⟨#[]⟩,0⟩)else(⟨0,s.seen,s.ok⟩,L)
 | _=>(s,L)
theorem Mg (w:World)(bt bm bc:Nat)(i lim acc:Int)(s:iy)(L:List aP)(hT:ug w bt i lim s)(M:bP w bm bc L acc)(h1:bt≠bm)(h2:bt≠bc)(ha0:0<=acc)(ha:acc<=1000000000000)(hs:s.pc=1->0<=s.seen/\s.seen<18446744073709551615) :
  Calls Tryz.prog 212 #[.pointer (some ⟨bt,0,none⟩),.pointer (some ⟨bm,0,none⟩)] w fun e w' => e=.returned (.bool (decide (2<=(aG i lim L s).1.pc)))/\ug w' bt i lim (aG i lim L s).1/\bP w' bm bc (aG i lim L s).2 (if 2<=s.pc then acc else acc+1)/\eG [bt,bm,bc] w w' := by
 have Bb:∀ (w1:World) (v0 v:Value) (seen:Int) (ok:Bool) (L':List aP) (a:Int),w1.heap[bt]?=some (.cells #[v0,.bool true,.int .i64 i,.int .u64 lim,.int .u64 seen,.bool ok] 190)->bP w1 bm bc L' a->eG [bt,bm,bc] w w1 ->
   (w1.setCell ⟨bt,0,none⟩ v).heap[bt]?=some (.cells #[v,.bool true,.int .i64 i,.int .u64 lim,.int .u64 seen,.bool ok] 190)/\bP (w1.setCell ⟨bt,0,none⟩ v) bm bc L' a/\eG [bt,bm,bc] w (w1.setCell ⟨bt,0,none⟩ v):=by
  intro w1 v0 v seen ok L' a hb hM hg;refine⟨?_,hM.keep (S:=[bt]) ((eG.refl _ _).setCell (.inl (by simp)) _) (by simp[Ne.symm h1]) (by simp[Ne.symm h2]),hg.setCell (.inl (by simp)) _⟩
  have:=cK hb 0 v;simpa using this
 obtain⟨pc,seen,ok⟩:=s;have hc:=bu hT 0;match pc,hs with
 | 0,_=>
  by_cases hx:lim<=(ah L i).n
  ·have e:aG i lim L ⟨0,seen,ok⟩=(⟨2,(ah L i).n,ok⟩,L):=by simp[aG,hx]
   have hcall:=xX w bt bm bc i lim seen acc _ ok L hT M h1 h2 ha0 ha hx;rw[e];clear hs;go_enter Tryz.func212,Tryz.ntmps212
   go_wp2_with fail
   refine(rr w bt bm _ ⟨bt,0,none⟩ rF hc hcall (fun w1 hR=>⟨_,_,_,hR.1,rfl⟩)).mono ?_
   rintro e w' ⟨rfl,w1,⟨hb,hM,hg⟩,rfl⟩;go_wp2
   go_ret;exact⟨rfl,Bb _ _ _ _ _ _ _ hb hM hg⟩
  ·have e:aG i lim L ⟨0,seen,ok⟩=(⟨1,(ah L i).n,ok⟩,L):=by simp[aG,hx]
   have hcall:=Az w bt bm bc i lim seen acc _ ok L hT M h1 h2 ha0 ha (by omega)
   rw[e];clear hs;go_enter Tryz.func212,Tryz.ntmps212
   go_wp2_with fail
   refine(tE w bt bm _ _ ⟨bt,0,none⟩ rF hc hcall (fun w1 hR=>⟨_,_,_,hR.1,rfl⟩)).mono ?_
   rintro e w' ⟨rfl,w1,⟨hb,hM,hg⟩,rfl⟩;go_wp2
   go_ret;exact⟨rfl,Bb _ _ _ _ _ _ _ hb hM hg⟩
 | 1,hs=>
  obtain⟨s0,s1⟩:=hs rfl;by_cases hx:bW L i seen=true
  ·have e:aG i lim L ⟨1,seen,ok⟩=(⟨2,seen,true⟩,aN L i ⟨seen+1,⟨#[]⟩,0⟩):=by simp[aG,hx]
   have hcall:=xY w bt bm bc i lim seen acc _ ok L hT M h1 h2 ha0 ha s0 s1 hx;rw[e];clear hs hx;go_enter Tryz.func212,Tryz.ntmps212
   go_wp2_with fail
   refine(rr w bt bm _ ⟨bt,0,none⟩ rG hc hcall (fun w1 hR=>⟨_,_,_,hR.1,rfl⟩)).mono ?_
   rintro e w' ⟨rfl,w1,⟨hb,hM,hg⟩,rfl⟩;go_wp2
   go_ret;exact⟨rfl,Bb _ _ _ _ _ _ _ hb hM hg⟩
  ·have hx':bW L i seen=false:=by simpa using hx
   have e:aG i lim L ⟨1,seen,ok⟩=(⟨0,seen,ok⟩,L):=by simp[aG,hx']
   have hcall:=Ba w bt bm bc i lim seen acc _ ok L hT M h1 h2 ha0 ha s0 s1 hx';rw[e];clear hs hx hx';go_enter Tryz.func212,Tryz.ntmps212
   go_wp2_with fail
   refine(tE w bt bm _ _ ⟨bt,0,none⟩ rG hc hcall (fun w1 hR=>⟨_,_,_,hR.1,rfl⟩)).mono ?_
   rintro e w' ⟨rfl,w1,⟨hb,hM,hg⟩,rfl⟩;go_wp2
   go_ret;exact⟨rfl,Bb _ _ _ _ _ _ _ hb hM hg⟩
 | n+2,_=>
  have e:aG i lim L ⟨n+2,seen,ok⟩=(⟨n+2,seen,ok⟩,L):=rfl;rw[e];clear hs;go_enter Tryz.func212,Tryz.ntmps212
  go_wp2_with fail
  refine(pR w bt bm hc).mono ?_
  rintro e w' ⟨rfl,rfl⟩;go_wp2
  go_ret;exact⟨by simp,hT,by simpa using M,eG.refl _ _⟩
theorem uh (w:World)(bt:Nat)(i lim:Int)(s:iy)(h:ug w bt i lim s)(hs:s.ok=true->0<=s.seen/\s.seen<18446744073709551615) :
  Calls Tryz.prog 101 #[.pointer (some ⟨bt,0,none⟩)] w fun e w' => e=.returned (.tuple #[.int .u64 (if s.ok then s.seen+1 else 0),.bool s.ok])/\w=w' := by
 obtain⟨pc,seen,ok⟩:=s;have k:=bu h;cases ok with
 | false=>
  clear hs;go_enter Tryz.func101,Tryz.ntmps101
  go_wp2
  go_ret2
  exact⟨rfl,rfl⟩
 | true=>
  obtain⟨s0,s1⟩:0<=seen/\seen<18446744073709551615:=hs rfl;clear hs;go_enter Tryz.func101,Tryz.ntmps101
  go_wp2
  go_ret2
  exact⟨rfl,rfl⟩
theorem Gb:Enters 212:=fun _ _=>by kernel_rfl
theorem rH (n : Nat) (a : Addr) (w : World) : (method (n + 1) 156 (.pointer (some a)) "Step").run Tryz.prog w = .ok (212, .pointer (some a)) w := by kernel_rfl
theorem xZ (n : Nat) (a : Addr) (w : World) : (method (n + 1) 76 (.pointer (some a)) "Step").run Tryz.prog w = .ok (41, .pointer (some a)) w := by kernel_rfl
theorem p6 (n : Nat) (a : Addr) (w : World) : (method (n + 1) 74 (.pointer (some a)) "Step").run Tryz.prog w = .ok (40, .pointer (some a)) w := by kernel_rfl
theorem Bc:Enters 41:=fun _ _=>by kernel_rfl
theorem Bd:Enters 40:=fun _ _=>by kernel_rfl
section
variable {K:aK}{w w':World}{c d:aB}{cs F:List aB}
def gH (b:Nat)(i lim:Int)(s:iy):aB:=blk b (.cells #[Rk b s.pc,.bool true,.int .i64 i,.int .u64 lim,.int .u64 s.seen,.bool s.ok] 190)
theorem ui {i lim:Int}(hs:St K w cs):Calls Tryz.prog 98 #[.int .i64 i,.int .u64 lim] w fun e w' => ∃ b,e=.returned (.pointer (some ⟨b,0,none⟩))/\St K w' (gH b i lim ⟨0,0,false⟩::cs):=by
 refine(Ay w i lim).mono fun e w' ⟨he,hT,hb,hz⟩=>⟨_,he,?_⟩
 exact St.y7 (ms:=[]) (ms' := [gH w.heap.size i lim ⟨0,0,false⟩]) (F:=cs) hs (eG.of_below hb) (fun x hx=>by simp at hx;subst hx;exact hT) (fun b hb=>by simp[cQ,gH,blk]at hb;omega) (by simp[cQ,gH,blk])
theorem rI {b bm bc:Nat}{i lim:Int}{L:List aP}{acc:Nat}{s:iy}(hs:St K w (gH b i lim s::aJ bm bc L acc::F))(ha:acc<=1000000000000)(h1:s.pc=1->0<=s.seen/\s.seen<18446744073709551615) :
  Calls Tryz.prog 212 #[.pointer (some ⟨b,0,none⟩),.pointer (some ⟨bm,0,none⟩)] w fun e w' => e=.returned (.bool (decide (2<=(aG i lim L s).1.pc)))/\St K w' (gH b i lim (aG i lim L s).1::aJ bm bc (aG i lim L s).2 (if 2<=s.pc then acc else acc+1)::F):=by
 have hne:=St.aan (F:=F) hs;refine(Mg w b bm bc i lim acc s L hs.head hs.ada hne.1 hne.2 (by omega) (by omega) h1).mono fun e w' ⟨he,hT,hM,hg⟩=>⟨he,?_⟩
 refine hs.agI (by simpa[gH,blk,aJ] using hg) hT ?_ rfl rfl
 show bP _ _ _ _ _
 by_cases h2:2<=s.pc
 ·rw[if_pos h2]at hM ⊢;exact hM
 ·rw[if_neg h2]at hM ⊢;exact_mod_cast hM
theorem kE {b:Nat}{i lim:Int}{s:iy}(h:ug w b i lim s)(hb:s.ok=true->0<=s.seen/\s.seen<18446744073709551615) :
  Calls Tryz.prog 101 #[.pointer (some ⟨b,0,none⟩)] w fun e w' => e=.returned (.tuple #[.int .u64 (if s.ok then s.seen+1 else 0),.bool s.ok])/\w=w' := uh w b i lim s h hb
end
end Go.Proofs.YtlpdhhhgckpcfaaGreat
