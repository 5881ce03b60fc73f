/- blinktreekit.Same at cells; a page. -/
import Derived.Test.YtlpdhhhgckpcfaaGreatTreeB
namespace Go.Proofs.YtlpdhhhgckpcfaaGreat
set_option linter.unusedSimpArgs false
set_option linter.unusedVariables false
open Go.RowKit
set_option maxRecDepth 100000
section
section
variable {K:aL}{w w':World}{c d:aC}{cs F:List aC}
end
def tq (K:aL)(REST:List aC)(pg:Pg)(ρ:Nat->Option Value)(W:World):Prop:=
 ∃(a:Option Addr) (c b:Nat),(∀v,ρ 5=some v->v=(.agg #[.int .i64 (pg).ak,(.slice a pg.sl.length c),.string (pg).hi,.bool (pg).la,.int .u64 (pg).ri]))/\(∀v,ρ 6=some v->v=(.pointer (some ⟨b,0,none⟩))) /\
  St K W (dH (ρ 5) (bu (.slice a pg.sl.length c) pg)::dH (ρ 6) (blk b (.cells (if (ρ 7).isSome then #[.int .i64 (pg).ak,(.slice a pg.sl.length c),.string (pg).hi,.bool (pg).la,.int .u64 (pg).ri]else #[.int .i64 0,.slice none 0 0,.string ⟨#[]⟩,.bool false,.int .u64 0]) 43))::REST)
section
variable {K:aL}{REST:List aC}{pg:Pg}{ρ:Nat->Option Value}{W:World}{v5 v6:Value}
theorem tq.start (hs:St K W REST):tq K REST pg (fun _=>none) W:=
 ⟨none,0,0,fun v h=>(by cases h),fun v h=>(by cases h),hs.empty.empty⟩
theorem tq.same {W':World}(h:tq K REST pg ρ W)(hb:Below W.heap.size W W'):tq K REST pg ρ W' := by
 obtain⟨a,c,b,e1,e2,hs⟩:=h;exact⟨a,c,b,e1,e2,hs.same hb⟩
theorem tq.rest (h:tq K REST pg ρ W):St K W REST:=by
 obtain⟨a,c,b,e1,e2,hs⟩:=h;exact hs.tail.tail
theorem tq.e5 (h:tq K REST pg ρ W)(h5:ρ 5=none)(h7:ρ 7=none):∃R',St K W R' /\ ∀(a:Option Addr)(c:Nat) W',St K W' (bu (.slice a pg.sl.length c) pg::R')->tq K REST pg (upd ρ 5 (.agg #[.int .i64 (pg).ak,(.slice a pg.sl.length c),.string (pg).hi,.bool (pg).la,.int .u64 (pg).ri])) W' := by
 obtain⟨a,c,b,e1,e2,hs⟩:=h;rw[h5,h7]at hs;refine⟨_,hs.tail,fun a' c' W' hs' => ⟨a',c',b,fun v h=>by simpa[upd] using h.symm,fun v h=>e2 v (by simpa[upd] using h),?_⟩⟩
 have:St K W' (dH (some (.agg #[.int .i64 (pg).ak,(.slice a' pg.sl.length c'),.string (pg).hi,.bool (pg).la,.int .u64 (pg).ri])) (bu (.slice a' pg.sl.length c') pg)::_):=hs';simpa[upd,h7] using this
theorem tq.e6 (h:tq K REST pg ρ W)(h6:ρ 6=none)(h7:ρ 7=none):tq K REST pg (upd ρ 6 (.pointer (some ⟨W.heap.size,0,none⟩))) (W.alloc (.cells #[.int .i64 0,.slice none 0 0,.string ⟨#[]⟩,.bool false,.int .u64 0] 43)):=by
 obtain⟨a,c,b,e1,e2,hs⟩:=h;rw[h6]at hs;refine⟨a,c,W.heap.size,fun v h=>e1 v (by simpa[upd] using h),fun v h=>by simpa[upd] using h.symm,?_⟩
 have hs2:St K W (dH none (blk b (.cells (if (ρ 7).isSome then #[.int .i64 (pg).ak,(.slice a pg.sl.length c),.string (pg).hi,.bool (pg).la,.int .u64 (pg).ri]else #[.int .i64 0,.slice none 0 0,.string ⟨#[]⟩,.bool false,.int .u64 0]) 43))::dH (ρ 5) (bu (.slice a pg.sl.length c) pg)::REST):=hs.b1
 have:=((hs2.tail).made (.cells #[.int .i64 0,.slice none 0 0,.string ⟨#[]⟩,.bool false,.int .u64 0] 43)).b1;have h8:St K (W.alloc (.cells #[.int .i64 0,.slice none 0 0,.string ⟨#[]⟩,.bool false,.int .u64 0] 43)) (dH (ρ 5) (bu (.slice a pg.sl.length c) pg)::dH (some (.pointer (some ⟨W.heap.size,0,none⟩))) (blk W.heap.size (.cells #[.int .i64 0,.slice none 0 0,.string ⟨#[]⟩,.bool false,.int .u64 0] 43))::REST):=this;simpa[upd,h7] using h8
theorem tq.e7 (h:tq K REST pg ρ W)(h5:ρ 5=some v5)(h6:ρ 6=some v6)(h7:ρ 7=none):∃(a:Option Addr)(c b:Nat)(R':List aC),v5=(.agg #[.int .i64 (pg).ak,(.slice a pg.sl.length c),.string (pg).hi,.bool (pg).la,.int .u64 (pg).ri])/\v6=(.pointer (some ⟨b,0,none⟩))/\St K W (blk b (.cells #[.int .i64 0,.slice none 0 0,.string ⟨#[]⟩,.bool false,.int .u64 0] 43)::R') /\
  ∀W',St K W' (blk b (.cells #[.int .i64 (pg).ak,(.slice a pg.sl.length c),.string (pg).hi,.bool (pg).la,.int .u64 (pg).ri] 43)::R')->tq K REST pg (upd ρ 7 undef) W' := by
 obtain⟨a,c,b,e1,e2,hs⟩:=h;rw[h5,h6,h7]at hs;have hs:St K W (bu (.slice a pg.sl.length c) pg::blk b (.cells #[.int .i64 0,.slice none 0 0,.string ⟨#[]⟩,.bool false,.int .u64 0] 43)::REST):=hs;refine⟨a,c,b,_,e1 v5 h5,e2 v6 h6,hs.b1,fun W' hs' => ⟨a,c,b,fun v h=>e1 v (by simpa[upd] using h),fun v h=>e2 v (by simpa[upd] using h),?_⟩⟩
 have:St K W' (dH (some v5) (bu (.slice a pg.sl.length c) pg)::dH (some v6) (blk b (.cells #[.int .i64 (pg).ak,(.slice a pg.sl.length c),.string (pg).hi,.bool (pg).la,.int .u64 (pg).ri] 43))::REST):=hs'.b1;simpa[upd,h5,h6] using this
theorem tq.last (h:tq K REST pg ρ W)(hall:∀e,e∈[5,6,7]->(ρ e).isSome=true):∃(a:Option Addr)(c b:Nat),ρ 5=some (.agg #[.int .i64 (pg).ak,(.slice a pg.sl.length c),.string (pg).hi,.bool (pg).la,.int .u64 (pg).ri])/\ρ 6=some (.pointer (some ⟨b,0,none⟩))/\(∃v,ρ 7=some v) /\
  St K W (blk b (.cells #[.int .i64 (pg).ak,(.slice a pg.sl.length c),.string (pg).hi,.bool (pg).la,.int .u64 (pg).ri] 43)::bu (.slice a pg.sl.length c) pg::REST):=by
 obtain⟨v5,h5⟩:=aq6.1 (hall 5 (by simp))
 obtain⟨v6,h6⟩:=aq6.1 (hall 6 (by simp))
 obtain⟨v7,h7⟩:=aq6.1 (hall 7 (by simp))
 obtain⟨a,c,b,e1,e2,hs⟩:=h;rw[h5,h6,h7]at hs;have hs:St K W (bu (.slice a pg.sl.length c) pg::blk b (.cells #[.int .i64 (pg).ak,(.slice a pg.sl.length c),.string (pg).hi,.bool (pg).la,.int .u64 (pg).ri] 43)::REST):=hs;exact⟨a,c,b,by rw[h5,e1 v5 h5],by rw[h6,e2 v6 h6],⟨v7,h7⟩,hs.b1⟩
end
end
section
section
variable {K:aL}{w:World}{F:List aC}{b:Nat}{d:aR}{x:o8}{nx:Value}
theorem Tj (hs:St K w (bz b nx d x::F)):Calls Tryz.prog 52 #[(.pointer (some ⟨b,0,none⟩))] w fun e w' => e=.returned (.int .i64 x.err)/\w=w' := by
 obtain⟨fr,vf,fu,vu,err,le,vl,ri,vr,sep,on⟩:=x;have k:=hs.k0;unfold dL vQ at k;clear hs;go_enter Tryz.func52,Tryz.ntmps52
 go_wp2
 go_ret;exact⟨rfl,rfl⟩
theorem Tl (hon:x.on=true)(hs:St K w (bz b .nilFunc d x::F)):Calls Tryz.prog 178 #[(.pointer (some ⟨b,0,none⟩))] w fun e w' => e=.returned (.string x.sep)/\w=w' := by
 obtain⟨fr,vf,fu,vu,err,le,vl,ri,vr,sep,on⟩:=x;simp only at hon;subst hon;have k:=hs.k0;have Qd:=aq3 (fX w b (k 0) (k 1));unfold dL vQ at k;clear hs;go_enter Tryz.func178,Tryz.ntmps178
 go_wp2_with fail
 refine(Qd.out).mono ?_
 clear Qd;rintro e w1 ⟨rfl,rfl⟩;go_wp2
 go_ret;exact⟨rfl,rfl⟩
end
section
variable {K:aL}{w:World}{F:List aC}{b:Nat}{d:aR}{fr:cm}{fu:Pg}{vu:Value}{af:Option Addr}{cf:Nat}{nx:Value}
end
section
variable {K:aL}{w:World}{F:List aC}{b:Nat}{d:aR}{fr:cm}{fu p:Pg}{L L':List aO}{x:o8}{sp:Bool}
end
theorem vX {d:aR}{L:List aO}{g:Nat}(hd:d.Ok)(id:Int)(hid:0<=id/\id<18446744073709551616)(w:World)(hv:VAt w g L) :
  Calls Tryz.prog 31 #[.agg #[.int .i64 (d).th,.int .i64 (d).sn,.int .i64 (d).no,.int .i64 (d).ch,.int .i64 (d).re,.int .i64 (d).fa,.int .u64 (d).cl,.slice (some ⟨g,0,none⟩) L.length L.length],.int .u64 id] w fun e w' => e=.returned (.int .u64 (ah L (d.node id 0)).n)/\Below w.heap.size w w' := by
 have f1:=hd.fo;have hs:=(St.start w).made (.cells #[.int .i64 (d).th,.int .i64 (d).sn,.int .i64 (d).no,.int .i64 (d).ch,.int .i64 (d).re,.int .i64 (d).fa,.int .u64 (d).cl,.slice (some ⟨g,0,none⟩) L.length L.length] 52);have q:=l9 hd id 0 hid ⟨by omega,by omega⟩ (w.alloc (.cells #[.int .i64 (d).th,.int .i64 (d).sn,.int .i64 (d).no,.int .i64 (d).ch,.int .i64 (d).re,.int .i64 (d).fa,.int .u64 (d).cl,.slice (some ⟨g,0,none⟩) L.length L.length] 52)) (hv.same ((Below.refl _ _).alloc (Nat.le_refl _) _))
 generalize ah L (d.node id 0)=c at *;obtain⟨n,k,m⟩:=c;generalize L.length=nn at *;have Q:=aq3 q;clear q hv f1;have k:=hs.k0;go_enter Tryz.func31,Tryz.ntmps31
 go_wp2_with fail
 refine(bH hs Q.out).mono ?_
 clear hs k Q;rintro e w1 ⟨rfl,hs⟩;go_wp2
 go_ret;exact⟨rfl,hs.below (aL.Le.refl _)⟩
section
variable {d:aR}{id:Int}{L:List aO}{pg:Pg}
theorem Df:∀(l:List Sl)(i:Nat),Holds L (fR d id i l)->∀(k:Nat)(s:Sl),l[k]?=some s->ah L (d.slot id ((i+k:Nat):Int))=⟨s.r,s.k,0⟩
 | [],_,_,k,s,h=>by simp at h
 | s0::l,i,hh,0,s,h=>by
  obtain rfl:s0=s:=by simpa using h
  exact hh _ List.mem_cons_self
 | s0::l,i,hh,k+1,s,h=>by
  have:=Df l (i+1) (fun p hp=>hh p (List.mem_cons_of_mem _ hp)) k s (by simpa using h)
  rw[show i+(k+1)=i+1+k by omega]
  exact this
theorem lF (hh:Holds L (bP d id pg))(bZ:0<=pg.ak/\pg.ak<1000000)(hle:(pg.sl.length:Int)<=d.fa)(kN:pg.la=true->pg.hi=⟨#[]⟩):cT d id L pg:=by
 have h1:ah L (d.node id 1)=⟨pg.sl.length,⟨#[]⟩,pg.ak⟩:=hh ⟨d.node id 1,⟨pg.sl.length,⟨#[]⟩,pg.ak⟩⟩ (by simp[bP])
 have h2:ah L (d.node id 2)=mG pg:=hh ⟨d.node id 2,mG pg⟩ (by simp[bP])
 have h3:ah L (d.node id 3)=⟨pg.ri,⟨#[]⟩,0⟩:=hh ⟨d.node id 3,⟨pg.ri,⟨#[]⟩,0⟩⟩ (by simp[bP])
 refine⟨by rw[h1],by rw[h1];exact j6 bZ.1 bZ.2,?_,?_,by rw[h3],hle,fun i s hi=>?_⟩
 ·rw[h2]
  unfold mG;cases h:pg.la with
  | true=>rw[kN h];rfl
  | false=>rfl
 ·rw[h2]
  unfold mG;cases h:pg.la <;> rfl
 ·have:=Df pg.sl 0 (fun p hp=>hh p (List.mem_append_left _ hp)) i s hi
  rw[Nat.zero_add]at this;rw[this];exact⟨rfl,rfl⟩
end
end
end Go.Proofs.YtlpdhhhgckpcfaaGreat
