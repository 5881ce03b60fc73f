
/- acL. The steps of Insert. What Insert answers. Insert alone: all its steps, and what is left behind. -/
import Derived.Test.YtlpdhhhgckpcfaaGreatInsA
namespace Go.Proofs.YtlpdhhhgckpcfaaGreat
set_option maxHeartbeats 16000000
open Go.RowKit
set_option maxRecDepth 100000
def mA:cB:=⟨0,0,Fb⟩
def Mr (fr:cB)(vf:Value):oQ:=⟨fr,vf,Fb,.slice none 0 0,0,mA,.slice none 0 0,mA,.slice none 0 0,⟨#[]⟩,false⟩
def jt (fr:cB)(vf:Value)(fu:Pg)(vu:Value):oQ:=⟨fr,vf,fu,vu,0,mA,.slice none 0 0,mA,.slice none 0 0,⟨#[]⟩,false⟩
def rM (K:aK)(REST:List aB)(bi:Nat)(d:aR)(fr:cB)(vf:Value)(fu:Pg)(ρ:Nat->Option Value)(W:World):Prop:=
 ∃ (a:Option Addr) (c:Nat),(∀ v,ρ 5=some v->v=.tuple #[(.agg #[.int .i64 (fu).az,(.slice a fu.sl.length c),.string (fu).hi,.bool (fu).la,.int .u64 (fu).ri]),.bool true])/\(∀ v,ρ 6=some v->v=.tuple #[(.agg #[.int .i64 (fu).az,(.slice a fu.sl.length c),.string (fu).hi,.bool (fu).la,.int .u64 (fu).ri]),.bool true])/\(∀ v,ρ 7=some v->v=(.agg #[.int .i64 (fu).az,(.slice a fu.sl.length c),.string (fu).hi,.bool (fu).la,.int .u64 (fu).ri]))/\(∀ v,ρ 8=some v->v=.bool true) /\
  St K W (dA (ρ 5) (bq (.slice a fu.sl.length c) fu)::bz bi .nilFunc d (if (ρ 11).isSome then jt fr vf fu (.slice a fu.sl.length c)else Mr fr vf)::REST)
section
variable {K:aK}{REST:List aB}{bi:Nat}{d:aR}{fr:cB}{vf:Value}{fu:Pg}{ρ:Nat->Option Value}{W:World}{v5 v6 v7:Value}
theorem rM.start (hs:St K W (bz bi .nilFunc d (Mr fr vf)::REST)):rM K REST bi d fr vf fu (fun _=>none) W:=
 ⟨none,0,fun v h=>(by cases h),fun v h=>(by cases h),fun v h=>(by cases h),fun v h=>(by cases h),hs.empty⟩
theorem rM.same {W':World}(h:rM K REST bi d fr vf fu ρ W)(hb:Below W.heap.size W W'):rM K REST bi d fr vf fu ρ W' := by
 obtain⟨a,c,e1,e2,e3,e4,hs⟩:=h;exact⟨a,c,e1,e2,e3,e4,hs.same hb⟩
theorem rM.rest (h:rM K REST bi d fr vf fu ρ W):St K W REST:=by
 obtain⟨a,c,e1,e2,e3,e4,hs⟩:=h;exact hs.tail.tail
theorem rM.e5 (h:rM K REST bi d fr vf fu ρ W)(h5:ρ 5=none)(h6:ρ 6=none)(h7:ρ 7=none)(h11:ρ 11=none):∃ R',St K W (R' :: REST)/\∀ (a:Option Addr)(c:Nat) W',St K W' (bq (.slice a fu.sl.length c) fu::R' :: REST)->rM K REST bi d fr vf fu (upd ρ 5 (.tuple #[(.agg #[.int .i64 (fu).az,(.slice a fu.sl.length c),.string (fu).hi,.bool (fu).la,.int .u64 (fu).ri]),.bool true])) W' := by
 obtain⟨a0,c0,e1,e2,e3,e4,hs⟩:=h;rw[h5,h11]at hs;refine⟨_,hs.tail,fun a c W' hs' => ⟨a,c,fun v hv=>by rw[cC]at hv;exact(aqu hv).symm,fun v hv=>?_,fun v hv=>?_,fun v hv=>e4 v (by rwa [upd_ne (by omega)]at hv),?_⟩⟩
 ·rw[upd_ne (by omega),h6]at hv;cases hv
 ·rw[upd_ne (by omega),h7]at hv;cases hv
 ·rw[cC,upd_ne (by omega),h11];exact hs'
theorem rM.e6 (h:rM K REST bi d fr vf fu ρ W)(h5:ρ 5=some v5):∃ a c,v5=.tuple #[(.agg #[.int .i64 (fu).az,(.slice a fu.sl.length c),.string (fu).hi,.bool (fu).la,.int .u64 (fu).ri]),.bool true]/\rM K REST bi d fr vf fu (upd ρ 6 v5) W:=by
 obtain⟨a,c,e1,e2,e3,e4,hs⟩:=h;obtain rfl:=e1 v5 h5;refine⟨a,c,rfl,a,c,fun v hv=>e1 v (by rwa [upd_ne (by omega)]at hv),fun v hv=>by rw[cC]at hv;exact(aqu hv).symm,fun v hv=>e3 v (by rwa [upd_ne (by omega)]at hv),fun v hv=>e4 v (by rwa [upd_ne (by omega)]at hv),?_⟩
 rw[upd_ne (by omega),upd_ne (by omega)];exact hs
theorem rM.e7 (h:rM K REST bi d fr vf fu ρ W)(h6:ρ 6=some v6):∃ a c,v6=.tuple #[(.agg #[.int .i64 (fu).az,(.slice a fu.sl.length c),.string (fu).hi,.bool (fu).la,.int .u64 (fu).ri]),.bool true]/\rM K REST bi d fr vf fu (upd ρ 7 (.agg #[.int .i64 (fu).az,(.slice a fu.sl.length c),.string (fu).hi,.bool (fu).la,.int .u64 (fu).ri])) W:=by
 obtain⟨a,c,e1,e2,e3,e4,hs⟩:=h;obtain rfl:=e2 v6 h6;refine⟨a,c,rfl,a,c,fun v hv=>e1 v (by rwa [upd_ne (by omega)]at hv),fun v hv=>e2 v (by rwa [upd_ne (by omega)]at hv),fun v hv=>by rw[cC]at hv;exact(aqu hv).symm,fun v hv=>e4 v (by rwa [upd_ne (by omega)]at hv),?_⟩
 rw[upd_ne (by omega),upd_ne (by omega)];exact hs
theorem rM.e8 (h:rM K REST bi d fr vf fu ρ W)(h6:ρ 6=some v6):∃ a c,v6=.tuple #[(.agg #[.int .i64 (fu).az,(.slice a fu.sl.length c),.string (fu).hi,.bool (fu).la,.int .u64 (fu).ri]),.bool true]/\rM K REST bi d fr vf fu (upd ρ 8 (.bool true)) W:=by
 obtain⟨a,c,e1,e2,e3,e4,hs⟩:=h;obtain rfl:=e2 v6 h6;refine⟨a,c,rfl,a,c,fun v hv=>e1 v (by rwa [upd_ne (by omega)]at hv),fun v hv=>e2 v (by rwa [upd_ne (by omega)]at hv),fun v hv=>e3 v (by rwa [upd_ne (by omega)]at hv),fun v hv=>by rw[cC]at hv;exact(aqu hv).symm,?_⟩
 rw[upd_ne (by omega),upd_ne (by omega)];exact hs
theorem rM.e11 (h:rM K REST bi d fr vf fu ρ W)(h7:ρ 7=some v7)(h11:ρ 11=none):∃ (a:Option Addr)(c:Nat)(R':List aB),v7=(.agg #[.int .i64 (fu).az,(.slice a fu.sl.length c),.string (fu).hi,.bool (fu).la,.int .u64 (fu).ri])/\St K W (bz bi .nilFunc d (Mr fr vf)::R') /\
  ∀ W',St K W' (bz bi .nilFunc d (jt fr vf fu (.slice a fu.sl.length c))::R')->rM K REST bi d fr vf fu (upd ρ 11 undef) W' := by
 obtain⟨a,c,e1,e2,e3,e4,hs⟩:=h;rw[h11]at hs;refine⟨a,c,_,e3 v7 h7,hs.b1,fun W' hs' => ⟨a,c,fun v hv=>e1 v (by rwa [upd_ne (by omega)]at hv),fun v hv=>e2 v (by rwa [upd_ne (by omega)]at hv),fun v hv=>e3 v (by rwa [upd_ne (by omega)]at hv),fun v hv=>e4 v (by rwa [upd_ne (by omega)]at hv),?_⟩⟩
 rw[upd_ne (by omega),cC];exact hs'.b1
theorem rM.last (h:rM K REST bi d fr vf fu ρ W)(hall:∀ e,e∈[5,6,7,8,11]->(ρ e).isSome=true):∃ (a:Option Addr)(c:Nat),ρ 5=some (.tuple #[(.agg #[.int .i64 (fu).az,(.slice a fu.sl.length c),.string (fu).hi,.bool (fu).la,.int .u64 (fu).ri]),.bool true])/\ρ 6=some (.tuple #[(.agg #[.int .i64 (fu).az,(.slice a fu.sl.length c),.string (fu).hi,.bool (fu).la,.int .u64 (fu).ri]),.bool true])/\ρ 7=some (.agg #[.int .i64 (fu).az,(.slice a fu.sl.length c),.string (fu).hi,.bool (fu).la,.int .u64 (fu).ri])/\ρ 8=some (.bool true)/\(∃ v,ρ 11=some v) /\
  St K W (bq (.slice a fu.sl.length c) fu::bz bi .nilFunc d (jt fr vf fu (.slice a fu.sl.length c))::REST):=by
 obtain⟨v5,h5⟩:=aqr.1 (hall 5 (by simp))
 obtain⟨v6,h6⟩:=aqr.1 (hall 6 (by simp))
 obtain⟨v7,h7⟩:=aqr.1 (hall 7 (by simp))
 obtain⟨v8,h8⟩:=aqr.1 (hall 8 (by simp))
 obtain⟨v11,h11⟩:=aqr.1 (hall 11 (by simp))
 obtain⟨a,c,e1,e2,e3,e4,hs⟩:=h;rw[h5,h11]at hs;exact⟨a,c,by rw[h5,e1 v5 h5],by rw[h6,e2 v6 h6],by rw[h7,e3 v7 h7],by rw[h8,e4 v8 h8],⟨v11,h11⟩,hs⟩
end
def wU (K:aK)(REST:List aB)(bi:Nat)(d:aR)(x:oQ)(e1 e2 e3:Nat)(Φ:FV->List aB->Prop)(ρ:Nat->Option Value)(W:World):Prop:=
 ∃ (fv:FV) (C:List aB),(∀ v,ρ e1=some v->v=aX (some fv)/\Φ fv C)/\(∀ v,ρ e2=some v->v=.agg #[aX (some fv),.bool true]) /\
  St K W ((if (ρ e1).isSome then C else [])++(bz bi (if (ρ e3).isSome then aX (some fv)else .nilFunc) d { x with on:=(ρ e3).isSome }::REST))
section
variable {K:aK}{REST:List aB}{bi:Nat}{d:aR}{x:oQ}{e1 e2 e3:Nat}{Φ:FV->List aB->Prop}{ρ:Nat->Option Value}{W:World}{v1 v2:Value}
theorem wU.start (hs:St K W (bz bi .nilFunc d { x with on:=false }::REST)):wU K REST bi d x e1 e2 e3 Φ (fun _=>none) W:=
 ⟨⟨0, #[], #[]⟩,[],fun v h=>(by cases h),fun v h=>(by cases h),hs⟩
theorem wU.same {W':World}(h:wU K REST bi d x e1 e2 e3 Φ ρ W)(hb:Below W.heap.size W W'):wU K REST bi d x e1 e2 e3 Φ ρ W' := by
 obtain⟨fv,C,q1,q2,hs⟩:=h;exact⟨fv,C,q1,q2,hs.same hb⟩
theorem wU.call (h:wU K REST bi d x e1 e2 e3 Φ ρ W)(dS:e1≠e3)(dr:e1≠e2)(h1:ρ e1=none)(h2:ρ e2=none)(h3:ρ e3=none):St K W (bz bi .nilFunc d { x with on:=false }::REST) /\
  ∀ fv C W',Φ fv C->St K W' (C++(bz bi .nilFunc d { x with on:=false }::REST))->wU K REST bi d x e1 e2 e3 Φ (upd ρ e1 (aX (some fv))) W' := by
 obtain⟨fv0,C0,q1,q2,hs⟩:=h;rw[h1,h3]at hs;refine⟨hs,fun fv C W' hΦ hs' => ⟨fv,C,fun v hv=>?_,fun v hv=>?_,?_⟩⟩
 ·rw[cC]at hv
  exact⟨(aqu hv).symm,hΦ⟩
 ·rw[upd_ne (Ne.symm dr),h2]at hv;cases hv
 ·rw[cC,upd_ne (Ne.symm dS),h3];exact hs'
theorem wU.begin (h:wU K REST bi d x e1 e2 e3 Φ ρ W)(dr:e1≠e2)(h23:e2≠e3)(h1:ρ e1=some v1):∃ fv,v1=aX (some fv)/\∀ W',Below W.heap.size W W' -> wU K REST bi d x e1 e2 e3 Φ (upd ρ e2 (.agg #[aX (some fv),.bool true])) W' := by
 obtain⟨fv,C,q1,q2,hs⟩:=h;refine⟨fv,(q1 v1 h1).1,fun W' hb=>⟨fv,C,fun v hv=>q1 v (by rwa [upd_ne dr]at hv),fun v hv=>by rw[cC]at hv;exact(aqu hv).symm,?_⟩⟩
 rw[upd_ne dr,upd_ne (Ne.symm h23)];exact hs.same hb
theorem wU.store (h:wU K REST bi d x e1 e2 e3 Φ ρ W)(dS:e1≠e3)(h23:e2≠e3)(h2:ρ e2=some v2)(h3:ρ e3=none):∃ (fv:FV)(R':List aB),v2=.agg #[aX (some fv),.bool true]/\St K W (bz bi .nilFunc d { x with on:=false }::R') /\
  ∀ W',St K W' (bz bi (aX (some fv)) d { x with on:=true }::R')->wU K REST bi d x e1 e2 e3 Φ (upd ρ e3 undef) W' := by
 obtain⟨fv,C,q1,q2,hs⟩:=h;rw[h3]at hs;refine⟨fv,(if (ρ e1).isSome then C else [])++REST,q2 v2 h2,hs.perm List.perm_middle,fun W' hs' => ⟨fv,C,fun v hv=>q1 v (by rwa [upd_ne dS]at hv),fun v hv=>q2 v (by rwa [upd_ne h23]at hv),?_⟩⟩
 rw[upd_ne dS,cC];exact hs'.perm (List.perm_middle.symm)
theorem wU.last (h:wU K REST bi d x e1 e2 e3 Φ ρ W)(hall:∀ e,e∈[e1,e2,e3]->(ρ e).isSome=true):∃ (fv:FV)(C:List aB),ρ e1=some (aX (some fv))/\ρ e2=some (.agg #[aX (some fv),.bool true])/\(∃ v,ρ e3=some v)/\Φ fv C/\St K W (C++(bz bi (aX (some fv)) d { x with on:=true }::REST)):=by
 obtain⟨v1,h1⟩:=aqr.1 (hall e1 (by simp))
 obtain⟨v2,h2⟩:=aqr.1 (hall e2 (by simp))
 obtain⟨v3,h3⟩:=aqr.1 (hall e3 (by simp))
 obtain⟨fv,C,q1,q2,hs⟩:=h;rw[h1,h3]at hs;exact⟨fv,C,by rw[h1,(q1 v1 h1).1],by rw[h2,q2 v2 h2],⟨v3,h3⟩,(q1 v1 h1).2,hs⟩
end
def ah6 (b:Nat)(d:aR)(h:cB)(p:Pg)(fv:FV)(C:List aB):Prop:=
 ∃ (B:Rq) (ps:List Pt),fv=oh B/\nE d h p ps/\C=Eb b B h.id (dM (bC h.word)) p ps 0
def ah7 (Ec iU bt:Nat)(fv:FV)(C:List aB):Prop:=
 ∃ (b2 b3 b5:Nat),fv=aA b2 b3 b5/\C=[bD b2 b3 b5 (.iface 156 (.pointer (some ⟨bt,0,none⟩))) (.func (.func 100) #[] #[(.pointer (some ⟨Ec,0,none⟩)),(.pointer (some ⟨iU,0,none⟩))])]
def ah8 (lim:Int)(v:Value)(C:List aB):Prop:=∃ bt:Nat,v=(.pointer (some ⟨bt,0,none⟩))/\C=[gH bt 4 lim ⟨0,0,false⟩]
theorem uo (d:aR)(w:World):(Instr.field 26 (.agg #[.int .i64 (d).th,.int .i64 (d).sn,.int .i64 (d).no,.int .i64 (d).ch,.int .i64 (d).re,.int .i64 (d).fa,.int .u64 (d).cl]) 2).run Tryz.prog w=.ok (.int .i64 d.no) w:=by kernel_rfl
section
variable {K:aK}{w:World}{F:List aB}{d:aR}{fr:cB}{af:Option Addr}{cf:Nat}{key:ByteArray}{r:Int}{fu:Pg}
theorem yh (hd:d.Ok)(hfr:fr.Ok d)(lp:fu=aZ fr.pg key r)(hno:decide (gM fr.pg.sl key<je fr.pg.sl key)=false)(dF:kV fr.pg.sl)(mO:(fu.sl.length:Int)<=d.fa->oM d fu)(hs:St K w (bq (.slice af fr.pg.sl.length cf) fr.pg::F)) :
  Calls Tryz.prog 46 #[.agg #[.int .i64 d.th,.int .i64 d.sn,.int .i64 d.no,.int .i64 d.ch,.int .i64 d.re,.int .i64 d.fa,.int .u64 d.cl],(.agg #[.int .u64 (fr).id,.int .u64 (fr).word,.int .i64 (fr).pg.az,(.slice af fr.pg.sl.length cf),.string (fr).pg.hi,.bool (fr).pg.la,.int .u64 (fr).pg.ri]),.string key,.int .u64 r] w fun e w' => ∃ (b:Nat) (a:Option Addr) (c:Nat),e=.returned (.pointer (some ⟨b,0,none⟩)) /\
   (((fu.sl.length:Int)<=d.fa/\∃ (B:Rq) (ps:List Pt),nE d fr fu ps/\St K w' (bz b (aX (some (oh B))) d { jt fr (.slice af fr.pg.sl.length cf) fu (.slice a fu.sl.length c)with on:=true }::bq (.slice af fr.pg.sl.length cf) fr.pg::bq (.slice a fu.sl.length c) fu::(Eb b B fr.id (dM (bC fr.word)) fu ps 0++F))) \/
   (d.fa<(fu.sl.length:Int)/\∃ B:TkB,St K w' (bz b (aX (some (Gf B))) d { jt fr (.slice af fr.pg.sl.length cf) fu (.slice a fu.sl.length c)with on:=true }::bq (.slice af fr.pg.sl.length cf) fr.pg::bq (.slice a fu.sl.length c) fu::(Vh b B 4 d.no ⟨0,0,false⟩++F)))):=by
 have hf2:=hd.mV;have xV:fr.pg.sl.length<=100:=by have:=hfr.pg.le;omega
 have QI:=aqo (fun W (R:List aB) (h:St K W (bq (.slice af fr.pg.sl.length cf) fr.pg::R))=>vB (key:=key) (r:=r) hno dF xV h)
 rw[← lp]at QI;have cg:fu.az=fr.pg.az:=by rw[lp];rfl
 have hs:=(((hs.made (.cells #[.int .i64 (d).th,.int .i64 (d).sn,.int .i64 (d).no,.int .i64 (d).ch,.int .i64 (d).re,.int .i64 (d).fa,.int .u64 (d).cl] 29)).made (.cells #[.int .u64 (fr).id,.int .u64 (fr).word,.int .i64 (fr).pg.az,(.slice af fr.pg.sl.length cf),.string (fr).pg.hi,.bool (fr).pg.la,.int .u64 (fr).pg.ri] 45)).made (.cells (dK .nilFunc d (Mr fr (.slice af fr.pg.sl.length cf))).toArray 151)).made (.cells #[(.pointer (some ⟨(w.heap.size+2),0,none⟩))] 82);simp only[World.size_alloc]at hs;obtain⟨bl,hbl⟩:∃ bl,bl=w.heap.size:=⟨_,rfl⟩;rw[show w.heap.size+1+1+1=w.heap.size+3 by omega,show w.heap.size+1+1=w.heap.size+2 by omega,← hbl]at hs
 have uq:=aqo cg;have Hpg:=aqo mO;clear hno dF lp cg mO;go_enter Tryz.func46,Tryz.ntmps46
 go_upto_region 2 with(fail)
 rw[show w.heap.size+1+1+1=w.heap.size+3 by omega,show w.heap.size+1+1=w.heap.size+2 by omega,← hbl]
 clear hbl;have Hs:Hid (St K _ (bz (bl+2) .nilFunc d (Mr fr (.slice af fr.pg.sl.length cf))::bq (.slice af fr.pg.sl.length cf) fr.pg::blk (bl+3) (.cells #[(.pointer (some ⟨(bl+2),0,none⟩))] 82)::blk (bl+1) (.cells #[.int .u64 (fr).id,.int .u64 (fr).word,.int .i64 (fr).pg.az,(.slice af fr.pg.sl.length cf),.string (fr).pg.hi,.bool (fr).pg.la,.int .u64 (fr).pg.ri] 45)::blk bl (.cells #[.int .i64 (d).th,.int .i64 (d).sn,.int .i64 (d).no,.int .i64 (d).ch,.int .i64 (d).re,.int .i64 (d).fa,.int .u64 (d).cl] 29)::F)):=aqo (hs.re [1,4,0,2,3] rfl);clear hs;refine aT [false,false,false,false,false,true,true,true,true,false,false,true] [5,6,7,8,11] (fun|6=>[5] | 7=>[6] | 8=>[6] | 11=>[7] | _=>[])
  (rM K (bq (.slice af fr.pg.sl.length cf) fr.pg::blk (bl+3) (.cells #[(.pointer (some ⟨(bl+2),0,none⟩))] 82)::blk (bl+1) (.cells #[.int .u64 (fr).id,.int .u64 (fr).word,.int .i64 (fr).pg.az,(.slice af fr.pg.sl.length cf),.string (fr).pg.hi,.bool (fr).pg.la,.int .u64 (fr).pg.ri] 45)::blk bl (.cells #[.int .i64 (d).th,.int .i64 (d).sn,.int .i64 (d).no,.int .i64 (d).ch,.int .i64 (d).re,.int .i64 (d).fa,.int .u64 (d).cl] 29)::F) (bl+2) d fr (.slice af fr.pg.sl.length cf) fu)
  (fun W=>St K W (bq (.slice af fr.pg.sl.length cf) fr.pg::blk (bl+3) (.cells #[(.pointer (some ⟨(bl+2),0,none⟩))] 82)::blk (bl+1) (.cells #[.int .u64 (fr).id,.int .u64 (fr).word,.int .i64 (fr).pg.az,(.slice af fr.pg.sl.length cf),.string (fr).pg.hi,.bool (fr).pg.la,.int .u64 (fr).pg.ri] 45)::blk bl (.cells #[.int .i64 (d).th,.int .i64 (d).sn,.int .i64 (d).no,.int .i64 (d).ch,.int .i64 (d).re,.int .i64 (d).fa,.int .u64 (d).cl] 29)::F)) ?aS (by kernel_rfl) ?hB ?H ?iA ?h0 ?hI ?hR ?hE ?hQ
 case hB=>as_aux_lemma=>kernel_rfl
 case H=>
  intro W2 hs;have ki:=hs.k1;have kh:=hs.k2;clear hs;simp only[bK];repeat (go_big_quiet_step (fail))
  refine wpQuiet_nil ?_
  rfl
 case iA=>rfl
 case h0=>exact rM.start Hs.out
 case hI=>exact fun ρ W2 h=>h.rest
 case hR=>exact fun ρ W2 W3 h hb=>h.same hb
 case hE=>
  refine⟨?e5,?e6,?e7,?e8,?e11,trivial⟩;case e5=>
   intro o ho ρ W2 h hcl h5 hd2 dW aC;obtain rfl:=aqu ho;replace aC:dW=aj _ ρ [] _:=aC;have h6:ρ 6=none:=hcl.none (by simp) (show 5∈[5]by simp) h5
   have h7:ρ 7=none:=hcl.none (by simp) (show 6∈[6]by simp) h6
   have h11:ρ 11=none:=hcl.none (by simp) (show 7∈[7]by simp) h7
   obtain⟨R',hs,hnext⟩:=h.e5 h5 h6 h7 h11;simp only[aj]at aC;subst aC;have Hn:=aqo hnext;clear hnext hcl hd2 h5 h6 h7 h11 h;go_wp2_with fail
   refine(QI.out _ _ hs.b1).mono ?_
   rintro e W3 ⟨a',c',rfl,hs'⟩;have dZ:=aqo (hs'.re [0,2,1] rfl);clear hs hs';go_wp2
   exact⟨rfl,_,rfl,Hn.out a' c' W3 dZ.out⟩
  case e6=>
   intro o ho ρ W2 h hcl h6 hd2 dW aC;obtain rfl:=aqu ho;replace aC:dW=aj _ ρ [5] _:=aC;obtain⟨v5,h5⟩:=aqr.1 (hd2 5 (by show _∈[5];simp))
   obtain⟨a',c',rfl,hk⟩:=h.e6 h5;simp only[aj,h5,Option.getD_some,aL,Act.put,aqv]at aC;subst aC;have Hk:=aqo hk;clear hk hcl hd2 h5 h6 h;go_wp2
   exact⟨rfl,_,rfl,Hk.out⟩
  case e7=>
   intro o ho ρ W2 h hcl h7 hd2 dW aC;obtain rfl:=aqu ho;replace aC:dW=aj _ ρ [6] _:=aC;obtain⟨v6,h6⟩:=aqr.1 (hd2 6 (by show _∈[6];simp))
   obtain⟨a',c',rfl,hk⟩:=h.e7 h6;simp only[aj,h6,Option.getD_some,aL,Act.put,aqv]at aC;subst aC;have Hk:=aqo hk;clear hk hcl hd2 h6 h7 h;go_wp2
   exact⟨rfl,_,rfl,Hk.out⟩
  case e8=>
   intro o ho ρ W2 h hcl h8 hd2 dW aC;obtain rfl:=aqu ho;replace aC:dW=aj _ ρ [6] _:=aC;obtain⟨v6,h6⟩:=aqr.1 (hd2 6 (by show _∈[6];simp))
   obtain⟨a',c',rfl,hk⟩:=h.e8 h6;simp only[aj,h6,Option.getD_some,aL,Act.put,aqv]at aC;subst aC;have Hk:=aqo hk;clear hk hcl hd2 h6 h8 h;go_wp2
   exact⟨rfl,_,rfl,Hk.out⟩
  case e11=>
   intro o ho ρ W2 h hcl h11 hd2 dW aC;obtain rfl:=aqu ho;replace aC:dW=aj _ ρ [7] _:=aC;obtain⟨v7,h7⟩:=aqr.1 (hd2 7 (by show _∈[7];simp))
   obtain⟨a',c',R',rfl,hs,hnext⟩:=h.e11 h7 h11;simp only[aj,h7,Option.getD_some,aL,Act.put,aqv]at aC;subst aC;have k:=hs.k0;have kf:=hs.f0;unfold dK vD Mr at k;have gh:Hid (St K _ (bz (bl+2) .nilFunc d (jt fr (.slice af fr.pg.sl.length cf) fu (.slice a' fu.sl.length c'))::R')):=aqo (((((hs.aI 16 (.int .i64 fu.az)).aI 17 (.slice a' fu.sl.length c')).aI 18 (.string fu.hi)).aI 19 (.bool fu.la)).aI 20 (.int .u64 fu.ri));have Hn:=aqo hnext;clear hs hnext hcl hd2 h h7 h11;go_wp2
   exact⟨rfl,undef,rfl,Hn.out _ gh.out⟩
 case hQ=>
 intro ρ W2 h hall;obtain⟨a,c,h5,h6,h7,h8,⟨v11,h11⟩,hs⟩:=h.last hall;simp only[aj,h5,h6,h7,h8,h11,Option.getD_some,aL,Act.put,aqv];clear h hall h5 h6 h7 h8 h11 Hs;have hs:St K W2 (bz (bl+2) .nilFunc d { jt fr (.slice af fr.pg.sl.length cf) fu (.slice a fu.sl.length c)with on:=false }::bq (.slice af fr.pg.sl.length cf) fr.pg::bq (.slice a fu.sl.length c) fu::blk (bl+3) (.cells #[(.pointer (some ⟨(bl+2),0,none⟩))] 82)::blk (bl+1) (.cells #[.int .u64 (fr).id,.int .u64 (fr).word,.int .i64 (fr).pg.az,(.slice af fr.pg.sl.length cf),.string (fr).pg.hi,.bool (fr).pg.la,.int .u64 (fr).pg.ri] 45)::blk bl (.cells #[.int .i64 (d).th,.int .i64 (d).sn,.int .i64 (d).no,.int .i64 (d).ch,.int .i64 (d).re,.int .i64 (d).fa,.int .u64 (d).cl] 29)::F):=hs.re [1,2,0,3,4,5] rfl;go_upto_region 3 with(fail)
 go_cut [35] (fun v wx=>v=.bool (decide ((fu.sl.length:Int)<=d.fa))/\St K wx (bz (bl+2) .nilFunc d { jt fr (.slice af fr.pg.sl.length cf) fu (.slice a fu.sl.length c)with on:=false }::bq (.slice af fr.pg.sl.length cf) fr.pg::bq (.slice a fu.sl.length c) fu::blk (bl+3) (.cells #[(.pointer (some ⟨(bl+2),0,none⟩))] 82)::blk (bl+1) (.cells #[.int .u64 (fr).id,.int .u64 (fr).word,.int .i64 (fr).pg.az,(.slice af fr.pg.sl.length cf),.string (fr).pg.hi,.bool (fr).pg.la,.int .u64 (fr).pg.ri] 45)::blk bl (.cells #[.int .i64 (d).th,.int .i64 (d).sn,.int .i64 (d).no,.int .i64 (d).ch,.int .i64 (d).re,.int .i64 (d).fa,.int .u64 (d).cl] 29)::F))
 case first=>
  as_aux_lemma=>
  have k:=hs.k0;unfold dK vD jt at k;have ki:=hs.tail.k2;have kl:=hs.tail.tail.tail.k2;have Qg:=aqo (fun w=>lK d w)
  refine bH (by kernel_rfl) (by as_aux_lemma=>kernel_rfl) ?_
  repeat (go_big_quiet_step ((go_at_call 96;exact aW ((Qg.out _).mono (by rintro e w' ⟨rfl,hb⟩;exact⟨rfl,hb⟩)))))
  refine wpQuiet_nil ?_
  intro w3 hb3;have hs:=hs.same hb3;clear k ki kl hb3;go_wp2
  go_meet;exact⟨rfl,hs⟩
 case rest=>
 clear hs;obtain⟨rfl,hs⟩:=hcut;by_cases hle:(fu.sl.length:Int)<=d.fa
 ·rw[decide_eq_true hle]
  go_upto_region 4 with(fail)
  have Hs:=aqo hs;clear hs;refine aT [false,false,false,false,false,false,true,true,false,false,true] [6,7,10] (fun|7=>[6] | 10=>[7] | _=>[])
   (wU K (bq (.slice af fr.pg.sl.length cf) fr.pg::bq (.slice a fu.sl.length c) fu::blk (bl+3) (.cells #[(.pointer (some ⟨(bl+2),0,none⟩))] 82)::blk (bl+1) (.cells #[.int .u64 (fr).id,.int .u64 (fr).word,.int .i64 (fr).pg.az,(.slice af fr.pg.sl.length cf),.string (fr).pg.hi,.bool (fr).pg.la,.int .u64 (fr).pg.ri] 45)::blk bl (.cells #[.int .i64 (d).th,.int .i64 (d).sn,.int .i64 (d).no,.int .i64 (d).ch,.int .i64 (d).re,.int .i64 (d).fa,.int .u64 (d).cl] 29)::F) (bl+2) d (jt fr (.slice af fr.pg.sl.length cf) fu (.slice a fu.sl.length c)) 6 7 10 (ah6 (bl+2) d fr fu))
   (fun W=>∃ nx on,St K W (bz (bl+2) nx d { jt fr (.slice af fr.pg.sl.length cf) fu (.slice a fu.sl.length c)with on:=on }::bq (.slice af fr.pg.sl.length cf) fr.pg::bq (.slice a fu.sl.length c) fu::blk (bl+3) (.cells #[(.pointer (some ⟨(bl+2),0,none⟩))] 82)::blk (bl+1) (.cells #[.int .u64 (fr).id,.int .u64 (fr).word,.int .i64 (fr).pg.az,(.slice af fr.pg.sl.length cf),.string (fr).pg.hi,.bool (fr).pg.la,.int .u64 (fr).pg.ri] 45)::blk bl (.cells #[.int .i64 (d).th,.int .i64 (d).sn,.int .i64 (d).no,.int .i64 (d).ch,.int .i64 (d).re,.int .i64 (d).fa,.int .u64 (d).cl] 29)::F)) ?am3 (by kernel_rfl) ?ah9 ?HA4 ?adU ?aia ?aib ?aic ?aid ?aie
  case ah9=>as_aux_lemma=>kernel_rfl
  case HA4=>
   rintro W2 ⟨nx,on,hs⟩;have k:=hs.k0;unfold dK vD jt at k;have ki:=hs.tail.k2;clear hs;simp only[bK];repeat (go_big_quiet_step (fail))
   refine wpQuiet_nil ?_
   rfl
  case adU=>rfl
  case aia=>exact wU.start Hs.out
  case aib=>exact fun ρ W2 ⟨fv,C,_,_,h⟩=>⟨_,_,h.right⟩
  case aic=>exact fun ρ W2 W3 h hb=>h.same hb
  case aid=>
   refine⟨?aif,?aih,?aii,trivial⟩;case aif=>
    intro o ho ρ W2 h hcl h1' hd2 dW aC;obtain rfl:=aqu ho;replace aC:dW=aj _ ρ [] _:=aC;have h2' : ρ 7=none:=hcl.none (by simp) (show 6∈[6]by simp) h1'
    have h3' : ρ 10=none:=hcl.none (by simp) (show 7∈[7]by simp) h2'
    obtain⟨hs,hnext⟩:=h.call (by omega) (by omega) h1' h2' h3'
    simp only[aj]at aC;subst aC;have Hn:=aqo hnext;clear hnext hcl hd2 h1' h2' h3' h;have hs:St K W2 (bz (bl+2) .nilFunc d { jt fr (.slice af fr.pg.sl.length cf) fu (.slice a fu.sl.length c)with on:=false }::bq (.slice af fr.pg.sl.length cf) fr.pg::bq (.slice a fu.sl.length c) fu::blk (bl+3) (.cells #[(.pointer (some ⟨(bl+2),0,none⟩))] 82)::blk (bl+1) (.cells #[.int .u64 (fr).id,.int .u64 (fr).word,.int .i64 (fr).pg.az,(.slice af fr.pg.sl.length cf),.string (fr).pg.hi,.bool (fr).pg.la,.int .u64 (fr).pg.ri] 45)::blk bl (.cells #[.int .i64 (d).th,.int .i64 (d).sn,.int .i64 (d).no,.int .i64 (d).ch,.int .i64 (d).re,.int .i64 (d).fa,.int .u64 (d).cl] 29)::F):=hs;have qw:=rL (x:={ jt fr (.slice af fr.pg.sl.length cf) fu (.slice a fu.sl.length c)with on:=false }) hd hfr (Hpg.out hle) (by rw[uq.out];exact hfr.az) rfl hs
    have Qw:=aqo qw;clear qw hs;go_wp2_with fail
    refine(Qw.out).mono ?_
    rintro e W3 ⟨B,ps,rfl,hps,hs⟩;have yf:=aqo hps;have dZ:Hid (St K W3 (Eb (bl+2) B fr.id (dM (bC fr.word)) fu ps 0++(bz (bl+2) .nilFunc d { jt fr (.slice af fr.pg.sl.length cf) fu (.slice a fu.sl.length c)with on:=false }::bq (.slice af fr.pg.sl.length cf) fr.pg::bq (.slice a fu.sl.length c) fu::blk (bl+3) (.cells #[(.pointer (some ⟨(bl+2),0,none⟩))] 82)::blk (bl+1) (.cells #[.int .u64 (fr).id,.int .u64 (fr).word,.int .i64 (fr).pg.az,(.slice af fr.pg.sl.length cf),.string (fr).pg.hi,.bool (fr).pg.la,.int .u64 (fr).pg.ri] 45)::blk bl (.cells #[.int .i64 (d).th,.int .i64 (d).sn,.int .i64 (d).no,.int .i64 (d).ch,.int .i64 (d).re,.int .i64 (d).fa,.int .u64 (d).cl] 29)::F))):=aqo ((show St K W3 (_::_::_::_::_::_::_::_::_::_::_)from hs).re [3,4,5,6,7,8,9,0,1,2] rfl)
    clear hs hps Qw;simp only[oh,aA,aX];go_wp2
    exact⟨rfl,_,rfl,Hn.out (oh B) _ W3 ⟨B,ps,rfl,yf.out,rfl⟩ dZ.out⟩
   case aih=>
    intro o ho ρ W2 h hcl h2' hd2 dW aC;obtain rfl:=aqu ho;replace aC:dW=aj _ ρ [6] _:=aC;obtain⟨v1,h1'⟩:=aqr.1 (hd2 6 (by show _∈[6];simp))
    obtain⟨fv,rfl,hnext⟩:=h.begin (by omega) (by omega) h1'
    simp only[aj,h1',Option.getD_some,aL,Act.put,aqv]at aC;subst aC;have Hn:=aqo hnext;clear hnext hcl hd2 h1' h2' h;simp only[aX];go_wp2_with fail
    refine(fk _ _ _ _).mono ?_
    rintro e W3 ⟨rfl,hb⟩;have Hb:=aqo hb;clear hb;go_wp2
    exact⟨rfl,_,rfl,Hn.out W3 Hb.out⟩
   case aii=>
    intro o ho ρ W2 h hcl h3' hd2 dW aC;obtain rfl:=aqu ho;replace aC:dW=aj _ ρ [7] _:=aC;obtain⟨v2,h2'⟩:=aqr.1 (hd2 7 (by show _∈[7];simp))
    obtain⟨fv,R',rfl,hs,hnext⟩:=h.store (by omega) (by omega) h2' h3'
    simp only[aj,h2',Option.getD_some,aL,Act.put,aqv]at aC;subst aC;have k:=hs.k0;have kf:=hs.f0;unfold dK vD jt at k;have gh:Hid (St K _ (bz (bl+2) (aX (some fv)) d { jt fr (.slice af fr.pg.sl.length cf) fu (.slice a fu.sl.length c)with on:=true }::R')):=aqo ((hs.aI 0 (aX (some fv))).aI 1 (.bool true));have Hn:=aqo hnext;clear hs hnext hcl hd2 h h2' h3';simp only[aX]at gh ⊢;go_wp2
    exact⟨rfl,undef,rfl,Hn.out _ gh.out⟩
  case aie=>
  intro ρ W2 h hall;obtain⟨fv,C,h1',h2',⟨v3,h3'⟩,hΦ,hs⟩:=h.last hall;simp only[aj,h1',h2',h3',Option.getD_some,aL,Act.put,aqv];clear h hall h1' h2' h3' Hs;obtain⟨B,ps,rfl,hps,rfl⟩:=hΦ;have hs:=(show St K W2 (_::_::_::_::_::_::_::_::_::_::_::_::_::F)from hs)
  have ki:=hs.b10.k0;have dZ:=aqo (hs.re [10,11,12,7,8,9,0,1,2,3,4,5,6] rfl);have yf:=aqo hps;clear hs hps;go_wp2
  go_ret;exact⟨bl+2,a,c,rfl,.inl ⟨hle,B,ps,yf.out,dZ.out.tail.tail.tail⟩⟩
 ·rw[decide_eq_false hle]
  have iY:=hd.mM;have Wv:=hd.Iw;have hwn:IntKind.u64.wrap d.no=d.no:=by rw[IntKind.wrap_u64];omega
  go_upto_region 6 with(fail)
  have Hs:=aqo hs;clear hs;refine aT [false,false,false,false,false,false,true,true,true] [6,7,8] (fun|8=>[6,7] | _=>[])
   (oA K (bz (bl+2) .nilFunc d { jt fr (.slice af fr.pg.sl.length cf) fu (.slice a fu.sl.length c)with on:=false }::bq (.slice af fr.pg.sl.length cf) fr.pg::bq (.slice a fu.sl.length c) fu::blk (bl+3) (.cells #[(.pointer (some ⟨(bl+2),0,none⟩))] 82)::blk (bl+1) (.cells #[.int .u64 (fr).id,.int .u64 (fr).word,.int .i64 (fr).pg.az,(.slice af fr.pg.sl.length cf),.string (fr).pg.hi,.bool (fr).pg.la,.int .u64 (fr).pg.ri] 45)::blk bl (.cells #[.int .i64 (d).th,.int .i64 (d).sn,.int .i64 (d).no,.int .i64 (d).ch,.int .i64 (d).re,.int .i64 (d).fa,.int .u64 (d).cl] 29)::F) 156 (.pointer none) 6 7 8 (ah8 d.no))
   (fun W=>St K W (bz (bl+2) .nilFunc d { jt fr (.slice af fr.pg.sl.length cf) fu (.slice a fu.sl.length c)with on:=false }::bq (.slice af fr.pg.sl.length cf) fr.pg::bq (.slice a fu.sl.length c) fu::blk (bl+3) (.cells #[(.pointer (some ⟨(bl+2),0,none⟩))] 82)::blk (bl+1) (.cells #[.int .u64 (fr).id,.int .u64 (fr).word,.int .i64 (fr).pg.az,(.slice af fr.pg.sl.length cf),.string (fr).pg.hi,.bool (fr).pg.la,.int .u64 (fr).pg.ri] 45)::blk bl (.cells #[.int .i64 (d).th,.int .i64 (d).sn,.int .i64 (d).no,.int .i64 (d).ch,.int .i64 (d).re,.int .i64 (d).fa,.int .u64 (d).cl] 29)::F)) ?aSb (by kernel_rfl) ?hBb ?Hb ?Gg ?h0b ?hIb ?hRb ?hEb ?hQb
  case hBb=>as_aux_lemma=>kernel_rfl
  case Hb=>
   intro W2 hs;have kl:=hs.tail.tail.tail.k2;have Qg:=aqo (fun w=>lK d w)
   have Qn:=aqo (fun w=>qI d w)
   have aik:=uo d;clear hs;simp only[bK];repeat (go_big_quiet_step (first|(go_at_call 96;exact aW (Qg.out _))|(go_at_call 99;exact aW (Qn.out _))))
   refine wpQuiet_nil ?_
   rfl
  case Gg=>rfl
  case h0b=>exact oA.start Hs.out
  case hIb=>exact fun ρ W2 h=>h.rest
  case hRb=>exact fun ρ W2 W3 h hb=>h.same hb
  case hEb=>
   refine⟨?e6b,?e7b,?e8b,trivial⟩;case e6b=>
    intro o ho ρ W2 h hcl h6 hd2 dW aC;obtain rfl:=aqu ho;replace aC:dW=aj _ ρ [] _:=aC;have h8:ρ 8=none:=hcl.none (by simp) (show 6∈[6,7]by simp) h6
    obtain⟨X,hs,hnext⟩:=h.call (by omega) (by omega) h6 h8
    simp only[aj]at aC;subst aC;have Hn:=aqo hnext;clear hnext hcl hd2 h6 h8 h;go_wp2_with fail
    refine(ui (i:=4) (lim:=d.no) hs).mono ?_
    rintro e W3 ⟨bt,rfl,hs'⟩;have dZ:=aqo hs';clear hs hs';go_wp2
    exact⟨rfl,_,rfl,Hn.out _ _ W3 ⟨bt,rfl,rfl⟩ dZ.out⟩
   case e7b=>
    intro o ho ρ W2 h hcl h7 hd2 dW aC;obtain rfl:=aqu ho;replace aC:dW=aj _ ρ [] _:=aC;have h8:ρ 8=none:=hcl.none (by simp) (show 7∈[6,7]by simp) h7
    have Hn:=aqo (h.var (by omega) (by omega) h7 h8)
    simp only[aj]at aC;subst aC;clear hcl hd2 h7 h8 h;go_wp2
    exact⟨rfl,_,rfl,Hn.out⟩
   case e8b=>
    intro o ho ρ W2 h hcl h8 hd2 dW aC;obtain rfl:=aqu ho;replace aC:dW=aj _ ρ [6,7] _:=aC;obtain⟨v6,h6⟩:=aqr.1 (hd2 6 (by show _∈[6,7];simp))
    obtain⟨v7,h7⟩:=aqr.1 (hd2 7 (by show _∈[6,7];simp))
    obtain⟨bv,R',rfl,⟨C,bt,rfl,_⟩,hs,hnext⟩:=h.store (by omega) (by omega) h6 h7 h8
    simp only[aj,h6,h7,Option.getD_some,aL,Act.put,aqv]at aC;subst aC;have k0:=hs.k0;have f0:=hs.f0;have gh:Hid (St K _ (blk bv (.cells #[(.pointer (some ⟨bt,0,none⟩))] 156)::R')):=aqo (hs.aI 0 (.pointer (some ⟨bt,0,none⟩)));have Hn:=aqo hnext;clear hs hnext hcl hd2 h h6 h7 h8;go_wp2
    exact⟨rfl,undef,rfl,Hn.out _ gh.out⟩
  case hQb=>
  intro ρ W2 h hall;obtain⟨bv,v,C,h6,h7,⟨v8,h8⟩,⟨bt,rfl,rfl⟩,hs⟩:=h.last hall;simp only[aj,h6,h7,h8,Option.getD_some,aL,Act.put,aqv];clear h hall h6 h7 h8 Hs;have hs:=(show St K W2 (_::_::_::_)from hs).re [2,0,1] rfl
  go_upto_region 7 with(fail)
  have Hs:Hid (St K W2 (bz (bl+2) .nilFunc d { jt fr (.slice af fr.pg.sl.length cf) fu (.slice a fu.sl.length c)with on:=false }::blk bv (.cells #[(.pointer (some ⟨bt,0,none⟩))] 156)::gH bt 4 d.no ⟨0,0,false⟩::bq (.slice af fr.pg.sl.length cf) fr.pg::bq (.slice a fu.sl.length c) fu::blk (bl+3) (.cells #[(.pointer (some ⟨(bl+2),0,none⟩))] 82)::blk (bl+1) (.cells #[.int .u64 (fr).id,.int .u64 (fr).word,.int .i64 (fr).pg.az,(.slice af fr.pg.sl.length cf),.string (fr).pg.hi,.bool (fr).pg.la,.int .u64 (fr).pg.ri] 45)::blk bl (.cells #[.int .i64 (d).th,.int .i64 (d).sn,.int .i64 (d).no,.int .i64 (d).ch,.int .i64 (d).re,.int .i64 (d).fa,.int .u64 (d).cl] 29)::F)):=aqo hs;clear hs;refine aT [false,false,false,false,true,true,false,false,true] [4,5,8] (fun|5=>[4] | 8=>[5] | _=>[])
   (wU K (blk bv (.cells #[(.pointer (some ⟨bt,0,none⟩))] 156)::gH bt 4 d.no ⟨0,0,false⟩::bq (.slice af fr.pg.sl.length cf) fr.pg::bq (.slice a fu.sl.length c) fu::blk (bl+3) (.cells #[(.pointer (some ⟨(bl+2),0,none⟩))] 82)::blk (bl+1) (.cells #[.int .u64 (fr).id,.int .u64 (fr).word,.int .i64 (fr).pg.az,(.slice af fr.pg.sl.length cf),.string (fr).pg.hi,.bool (fr).pg.la,.int .u64 (fr).pg.ri] 45)::blk bl (.cells #[.int .i64 (d).th,.int .i64 (d).sn,.int .i64 (d).no,.int .i64 (d).ch,.int .i64 (d).re,.int .i64 (d).fa,.int .u64 (d).cl] 29)::F) (bl+2) d (jt fr (.slice af fr.pg.sl.length cf) fu (.slice a fu.sl.length c)) 4 5 8 (ah7 bv (bl+3) bt))
   (fun W=>∃ nx on,St K W (bz (bl+2) nx d { jt fr (.slice af fr.pg.sl.length cf) fu (.slice a fu.sl.length c)with on:=on }::blk bv (.cells #[(.pointer (some ⟨bt,0,none⟩))] 156)::gH bt 4 d.no ⟨0,0,false⟩::bq (.slice af fr.pg.sl.length cf) fr.pg::bq (.slice a fu.sl.length c) fu::blk (bl+3) (.cells #[(.pointer (some ⟨(bl+2),0,none⟩))] 82)::blk (bl+1) (.cells #[.int .u64 (fr).id,.int .u64 (fr).word,.int .i64 (fr).pg.az,(.slice af fr.pg.sl.length cf),.string (fr).pg.hi,.bool (fr).pg.la,.int .u64 (fr).pg.ri] 45)::blk bl (.cells #[.int .i64 (d).th,.int .i64 (d).sn,.int .i64 (d).no,.int .i64 (d).ch,.int .i64 (d).re,.int .i64 (d).fa,.int .u64 (d).cl] 29)::F)) ?am6 (by kernel_rfl) ?ail ?HB7 ?adV ?aim ?ain ?aio ?aip ?aiq
  case ail=>as_aux_lemma=>kernel_rfl
  case HB7=>
   rintro W2 ⟨nx,on,hs⟩;have kv:=hs.k1;have ki:=hs.tail.tail.tail.k2;clear hs;simp only[bK];repeat (go_big_quiet_step (fail))
   refine wpQuiet_nil ?_
   rfl
  case adV=>rfl
  case aim=>exact wU.start Hs.out
  case ain=>exact fun ρ W2 ⟨fv,C,_,_,h⟩=>⟨_,_,h.right⟩
  case aio=>exact fun ρ W2 W3 h hb=>h.same hb
  case aip=>
   refine⟨?air,?ais,?ait,trivial⟩;case air=>
    intro o ho ρ W2 h hcl h1' hd2 dW aC;obtain rfl:=aqu ho;replace aC:dW=aj _ ρ [] _:=aC;have h2' : ρ 5=none:=hcl.none (by simp) (show 4∈[4]by simp) h1'
    have h3' : ρ 8=none:=hcl.none (by simp) (show 5∈[5]by simp) h2'
    obtain⟨hs,hnext⟩:=h.call (by omega) (by omega) h1' h2' h3'
    simp only[aj]at aC;subst aC;have Hn:=aqo hnext;clear hnext hcl hd2 h1' h2' h3' h;have qw:=fF (T2:=156) (xv:=(.pointer (some ⟨bt,0,none⟩))) (f:=100) (tx:= #[]) (ty:= #[(.pointer (some ⟨bv,0,none⟩)),(.pointer (some ⟨(bl+3),0,none⟩))]) hs;have Qw:=aqo qw;clear qw hs;go_wp2_with fail
    refine(Qw.out).mono ?_
    rintro e W3 ⟨b2,b3,b5,rfl,hs⟩;have dZ:=aqo hs;clear hs Qw;simp only[aA,aX];go_wp2
    exact⟨rfl,_,rfl,Hn.out (aA b2 b3 b5) _ W3 ⟨b2,b3,b5,rfl,rfl⟩ dZ.out⟩
   case ais=>
    intro o ho ρ W2 h hcl h2' hd2 dW aC;obtain rfl:=aqu ho;replace aC:dW=aj _ ρ [4] _:=aC;obtain⟨v1,h1'⟩:=aqr.1 (hd2 4 (by show _∈[4];simp))
    obtain⟨fv,rfl,hnext⟩:=h.begin (by omega) (by omega) h1'
    simp only[aj,h1',Option.getD_some,aL,Act.put,aqv]at aC;subst aC;have Hn:=aqo hnext;clear hnext hcl hd2 h1' h2' h;simp only[aX];go_wp2_with fail
    refine(fk _ _ _ _).mono ?_
    rintro e W3 ⟨rfl,hb⟩;have Hb:=aqo hb;clear hb;go_wp2
    exact⟨rfl,_,rfl,Hn.out W3 Hb.out⟩
   case ait=>
    intro o ho ρ W2 h hcl h3' hd2 dW aC;obtain rfl:=aqu ho;replace aC:dW=aj _ ρ [5] _:=aC;obtain⟨v2,h2'⟩:=aqr.1 (hd2 5 (by show _∈[5];simp))
    obtain⟨fv,R',rfl,hs,hnext⟩:=h.store (by omega) (by omega) h2' h3'
    simp only[aj,h2',Option.getD_some,aL,Act.put,aqv]at aC;subst aC;have k:=hs.k0;have kf:=hs.f0;unfold dK vD jt at k;have gh:Hid (St K _ (bz (bl+2) (aX (some fv)) d { jt fr (.slice af fr.pg.sl.length cf) fu (.slice a fu.sl.length c)with on:=true }::R')):=aqo ((hs.aI 0 (aX (some fv))).aI 1 (.bool true));have Hn:=aqo hnext;clear hs hnext hcl hd2 h h2' h3';simp only[aX]at gh ⊢;go_wp2
    exact⟨rfl,undef,rfl,Hn.out _ gh.out⟩
  case aiq=>
  intro ρ W2 h hall;obtain⟨fv,C,h1',h2',⟨v3,h3'⟩,hΦ,hs⟩:=h.last hall;simp only[aj,h1',h2',h3',Option.getD_some,aL,Act.put,aqv];clear h hall h1' h2' h3' Hs;obtain⟨b2,b3,b5,rfl,rfl⟩:=hΦ;have hs:=(show St K W2 (_::_::_::_::_::_::_::_::_::F)from hs)
  have ki:=hs.b6.k0;have dZ:=aqo (hs.re [7,8,1,4,5,0,2,6,3] rfl);clear hs;go_wp2
  go_ret;exact⟨bl+2,rfl,a,c,.inr ⟨⟨b2,b3,b5,bv,bl+3,bt⟩,dZ.out.tail.tail⟩⟩
end
theorem qR {K:aK}{w:World}{α:Type}{b m:Nat}{f:FV}{o:α->Option FV}{nx:Value}{tl:α->List Value}{T:TypeId}{F' : α->List aB}(hf:Enters f.f)(hc:w.cell? ⟨b,0,none⟩=some (aX (some f)))
  (hcall:Calls Tryz.prog f.f (f.x ++ #[(.pointer (some ⟨m,0,none⟩))]++f.y) w fun e w1=>∃ x,e=.returned (aX (o x))/\St K w1 (blk b (.cells (nx::tl x).toArray T)::F' x)) :
  Calls Tryz.prog 77 #[(.pointer (some ⟨b,0,none⟩)),(.pointer (some ⟨m,0,none⟩))] w fun e w' => ∃ x,e=.returned (.bool (o x).isNone)/\St K w' (blk b (.cells (aX (o x)::tl x).toArray T)::F' x):=by
 refine(oJ (R:=fun l=>∃ x,l=⟨o x,K,nx,tl x,T,F' x⟩) w b m f hf hc (hcall.mono fun e w1 ⟨x,he,hs⟩=>⟨⟨o x,K,nx,tl x,T,F' x⟩,he,⟨x,rfl⟩,hs⟩)).mono ?_
 rintro e w' ⟨l,he,⟨x,rfl⟩,hs⟩;exact⟨x,he,hs⟩
theorem yj:Enters 133:=fun _ _=>by kernel_rfl
theorem yl:Enters 136:=fun _ _=>by kernel_rfl
theorem ym:Enters 100:=fun _ _=>by kernel_rfl
def Gh (d:aR)(x:oQ):List Value:=(dK .nilFunc d x).tail
section
variable {K:aK}{w:World}{F:List aB}{b bm bc acc:Nat}{d:aR}{x:oQ}{L:List aP}{p q:Pg}{id word:Int}{ps:List Pt}{k:Nat}{pt:Pt}{sep:ByteArray}{af au:Option Addr}{cf cu:Nat}{s:iy}
theorem Ww (B:Rq)(hn:p.sl.length<=1000000)(hk:ps[k]?=some pt)(ha:acc<=1000000000000)
  (hs:St K w (bz b (aX (some (oh B))) d x::aJ bm bc L acc::(Eb b B id word p ps k++F))) :
  Calls Tryz.prog 77 #[(.pointer (some ⟨b,0,none⟩)),(.pointer (some ⟨bm,0,none⟩))] w fun e w' => (k+1≠ps.length/\e=.returned (.bool false)/\St K w' (bz b (aX (some (oh B))) d x::aJ bm bc (aN L pt.i pt.c) (acc+1)::(Eb b B id word p ps (k+1)++F))) \/
   (k+1=ps.length/\e=.returned (.bool true)/\∃ va,St K w' (bz b .nilFunc d { x with le:=⟨id,word,p⟩,vl:=va }::aJ bm bc (aN L pt.i pt.c) (acc+1)::bq va p::F)):=by
 obtain⟨b2,b3,b5,Ea,iU,bw,bn,g,cap,va⟩:=B;have hc:w.cell? ⟨b,0,none⟩=some (aX (some (aA b2 b3 b5))):=hs.k0 0;have hs:St K w (bz b (aX (some (aA b2 b3 b5))) d x::aJ bm bc L acc::bD b2 b3 b5 (.iface 76 (.pointer (some ⟨bw,0,none⟩))) (.func (.func 133) #[] #[(.pointer (some ⟨Ea,0,none⟩)),(.pointer (some ⟨iU,0,none⟩))])::blk Ea (.cells #[(.pointer (some ⟨bw,0,none⟩))] 76)::blk iU (.cells #[(.pointer (some ⟨b,0,none⟩))] 82) ::
  mz bn id word p va g cap ps k::ak (.slice (some ⟨g,0,none⟩) ps.length cap) 139 4 ps.length (ck ps)::blk bw (.cells #[(.pointer (some ⟨bn,0,none⟩))] 147)::bq va p::F):=hs
 refine(qR (K:=K) (α:={ y:Option Value // y.isSome=decide (k+1=ps.length) }) (f:=aA b2 b3 b5) (o:=fun y=>match y.1 with|none=>some (aA b2 b3 b5)|some _=>none) (nx:=aX (some (aA b2 b3 b5)))
  (tl:=fun y=>match y.1 with|none=>Gh d x|some eX=>Gh d { x with le:=⟨id,word,p⟩,vl:=eX })
  (F' := fun y=>aJ bm bc (aN L pt.i pt.c) (acc+1)::(match y.1 with|none=>Eb b ⟨b2,b3,b5,Ea,iU,bw,bn,g,cap,va⟩ id word p ps (k+1)++F|some eX=>bq eX p::F)) (T:=151) jP hc ?_).mono (fun e w' h=>?_)
 ·show Calls Tryz.prog 115 #[(.pointer (some ⟨bm,0,none⟩)),(.pointer (some ⟨b2,0,none⟩)),(.pointer (some ⟨b3,0,none⟩)),(.pointer (some ⟨b5,0,none⟩))] w _
  refine(jh (P0:=fun w' => k+1≠ps.length/\St K w' (bz b (aX (some (aA b2 b3 b5))) d x::aJ bm bc (aN L pt.i pt.c) (acc+1)::(Eb b ⟨b2,b3,b5,Ea,iU,bw,bn,g,cap,va⟩ id word p ps (k+1)++F)))
   (P1:=fun o w' => k+1=ps.length/\o=none/\∃ eX,St K w' (bz b (aX (some (aA b2 b3 b5))) d { x with le:=⟨id,word,p⟩,vl:=eX }::bq eX p::aJ bm bc (aN L pt.i pt.c) (acc+1)::F))
   (hs.re [2,0,1,3,4,5,6,7,8] rfl) (fun n w=>xZ n _ w) Bc yj ((ye hk ha (hs.re [5,1,6,7,0,2,3,4,8] rfl)).mono ?_)).mono ?_
  ·rintro e w1 ⟨rfl,hs⟩
   refine⟨⟨K,_,hs.re [5,0,1,2,3,4,6,7,8] rfl⟩,?_⟩;by_cases hl:k+1=ps.length
   ·refine .inr ⟨by rw[decide_eq_true hl],?_⟩
    have hs':St K w1 (bz b (aX (some (aA b2 b3 b5))) d x::(Eb b ⟨b2,b3,b5,Ea,iU,bw,bn,g,cap,va⟩ id word p ps ps.length++(aJ bm bc (aN L pt.i pt.c) (acc+1)::F))):=by
     have h9:=hs.re [4,5,6,7,0,2,3,8,1] rfl;rw[hl]at h9;exact h9
    refine(Rs hn hs').mono ?_
    rintro e w2 ⟨eX,rfl,hs2⟩;exact⟨none,rfl,hl,rfl,eX,hs2⟩
   ·exact .inl ⟨by rw[decide_eq_false hl],hl,hs.re [4,1,5,6,7,0,2,3,8] rfl⟩
  ·rintro e w1 ⟨o,rfl,⟨rfl,hl,hs⟩|⟨hl,rfl,eX,hs⟩⟩
   ·exact⟨⟨none,by simp[hl]⟩,rfl,hs⟩
   ·exact⟨⟨some eX,by simp[hl]⟩,rfl,hs.re [0,2,1] rfl⟩
 ·obtain⟨⟨y,hy⟩,rfl,hs⟩:=h
  cases y with
  | none=>exact .inl ⟨by simpa using hy,rfl,hs⟩
  | some eX=>exact .inr ⟨by simpa using hy,rfl,eX,hs⟩
theorem Wx (B:Vg)(hd:d.Ok)(hfr:x.fr.Ok d)(hq:oM d q)(hql:0<=q.az/\q.az<1000000)(hn:p.sl.length<=1000000)(hv:x.vf=.slice af x.fr.pg.sl.length cf)(y8:∃ a c,B.vq=.slice a q.sl.length c)(hk:ps[k]?=some pt)(ha:acc<=1000000000000)
  (hs:St K w (bz b (aX (some (sj B))) d x::aJ bm bc L acc::bq x.vf x.fr.pg::(Mp b B id p q sep ps k++F))) :
  Calls Tryz.prog 77 #[(.pointer (some ⟨b,0,none⟩)),(.pointer (some ⟨bm,0,none⟩))] w fun e w' => e=.returned (.bool false) /\
   ((k+1≠ps.length/\St K w' (bz b (aX (some (sj B))) d x::aJ bm bc (aN L pt.i pt.c) (acc+1)::bq x.vf x.fr.pg::(Mp b B id p q sep ps (k+1)++F))) \/
   (k+1=ps.length/\∃ va B' ps',nE d x.fr q ps' /\ St K w' (bz b (aX (some (oh B'))) d { x with ri:=⟨id,aO 0,p⟩,vr:=va,sep:=sep }::aJ bm bc (aN L pt.i pt.c) (acc+1)::bq x.vf x.fr.pg::bq va p::bq B.vq q::(Eb b B' x.fr.id (dM (bC x.fr.word)) q ps' 0++F)))):=by
 obtain⟨b2,b3,b5,Jq,Jr,iU,Mo,bw,bn,g,cap,va,vq⟩:=B;have hc:w.cell? ⟨b,0,none⟩=some (aX (some (aA b2 b3 b5))):=hs.k0 0;have hs:St K w (bz b (aX (some (aA b2 b3 b5))) d x::aJ bm bc L acc::bq x.vf x.fr.pg::bD b2 b3 b5 (.iface 74 (.pointer (some ⟨bw,0,none⟩))) (.func (.func 136) #[] #[(.pointer (some ⟨Jq,0,none⟩)),(.pointer (some ⟨Jr,0,none⟩)),(.pointer (some ⟨iU,0,none⟩)),(.pointer (some ⟨Mo,0,none⟩))]) ::
  blk Jq (.cells #[(.pointer (some ⟨bw,0,none⟩))] 74)::blk Jr (.cells #[.string sep] 9)::blk iU (.cells #[(.pointer (some ⟨b,0,none⟩))] 82)::blk Mo (.cells #[.int .i64 (q).az,vq,.string (q).hi,.bool (q).la,.int .u64 (q).ri] 43) ::
  mz bn id (aO 0) p va g cap ps k::ak (.slice (some ⟨g,0,none⟩) ps.length cap) 139 4 ps.length (ck ps)::blk bw (.cells #[(.pointer (some ⟨bn,0,none⟩))] 145)::bq va p::bq vq q::F):=hs
 refine(qR (K:=K) (α:={ y:Option (Value × Rq × List Pt) // y.isSome=decide (k+1=ps.length)/\∀ z,y=some z->nE d x.fr q z.2.2 }) (f:=aA b2 b3 b5) (o:=fun y=>match y.1 with|none=>some (aA b2 b3 b5)|some z=>some (oh z.2.1)) (nx:=aX (some (aA b2 b3 b5)))
  (tl:=fun y=>match y.1 with|none=>Gh d x|some z=>Gh d { x with ri:=⟨id,aO 0,p⟩,vr:=z.1,sep:=sep })
  (F' := fun y=>aJ bm bc (aN L pt.i pt.c) (acc+1)::bq x.vf x.fr.pg::(match y.1 with|none=>Mp b ⟨b2,b3,b5,Jq,Jr,iU,Mo,bw,bn,g,cap,va,vq⟩ id p q sep ps (k+1)++F|some z=>bq z.1 p::bq vq q::(Eb b z.2.1 x.fr.id (dM (bC x.fr.word)) q z.2.2 0++F))) (T:=151) jP hc ?_).mono (fun e w' h=>?_)
 ·show Calls Tryz.prog 115 #[(.pointer (some ⟨bm,0,none⟩)),(.pointer (some ⟨b2,0,none⟩)),(.pointer (some ⟨b3,0,none⟩)),(.pointer (some ⟨b5,0,none⟩))] w _
  refine(jh (P0:=fun w' => k+1≠ps.length/\St K w' (bz b (aX (some (aA b2 b3 b5))) d x::aJ bm bc (aN L pt.i pt.c) (acc+1)::bq x.vf x.fr.pg::(Mp b ⟨b2,b3,b5,Jq,Jr,iU,Mo,bw,bn,g,cap,va,vq⟩ id p q sep ps (k+1)++F)))
   (P1:=fun o w' => k+1=ps.length/\∃ eX B' ps',o=some (oh B')/\nE d x.fr q ps' /\ St K w' (bz b (aX (some (aA b2 b3 b5))) d { x with ri:=⟨id,aO 0,p⟩,vr:=eX,sep:=sep }::aJ bm bc (aN L pt.i pt.c) (acc+1)::bq x.vf x.fr.pg::bq eX p::bq vq q::(Eb b B' x.fr.id (dM (bC x.fr.word)) q ps' 0++F)))
   (hs.re [3,0,1,2,4,5,6,7,8,9,10,11,12] rfl) (fun n w=>p6 n _ w) Bd yl ((qd hk ha (hs.re [8,1,9,10,0,2,3,4,5,6,7,11,12] rfl)).mono ?_)).mono ?_
  ·rintro e w1 ⟨rfl,hs⟩
   refine⟨⟨K,_,hs.re [6,0,1,2,3,4,5,7,8,9,10,11,12] rfl⟩,?_⟩;by_cases hl:k+1=ps.length
   ·refine .inr ⟨by rw[decide_eq_true hl],?_⟩
    have hs':St K w1 (bz b (aX (some (aA b2 b3 b5))) d x::bq x.vf x.fr.pg::(Mp b ⟨b2,b3,b5,Jq,Jr,iU,Mo,bw,bn,g,cap,va,vq⟩ id p q sep ps ps.length++(aJ bm bc (aN L pt.i pt.c) (acc+1)::F))):=by
     have h9:=hs.re [4,5,6,7,8,9,10,0,2,3,11,12,1] rfl;rw[hl]at h9;exact h9
    obtain⟨aq,cq,y8⟩:=y8;refine(Rt hd hfr hq hql hn hv y8 hs').mono ?_
    rintro e w2 ⟨eX,B',ps',rfl,hw,hs2⟩;exact⟨some (oh B'),rfl,hl,eX,B',ps',rfl,hw,(show St K w2 (_::_::_::_::_::_::_::_::_::_::_::_::F)from hs2).re [0,11,1,2,3,4,5,6,7,8,9,10] rfl⟩
   ·exact .inl ⟨by rw[decide_eq_false hl],hl,hs.re [4,1,5,6,7,8,9,10,0,2,3,11,12] rfl⟩
  ·rintro e w1 ⟨o,rfl,⟨rfl,hl,hs⟩|⟨hl,eX,B',ps',rfl,hw,hs⟩⟩
   ·exact⟨⟨none,by simp[hl],by simp⟩,rfl,hs⟩
   ·exact⟨⟨some ⟨eX,B',ps'⟩,by simp[hl],fun z hz=>by obtain rfl:=aqu hz;exact hw⟩,rfl,hs⟩
 ·obtain⟨⟨y,hy,hw⟩,rfl,hs⟩:=h
  cases y with
  | none=>exact⟨rfl,.inl ⟨by simpa using hy,hs⟩⟩
  | some z=>exact⟨rfl,.inr ⟨by simpa using hy,z.1,z.2.1,z.2.2,hw z rfl,hs⟩⟩
theorem Wy (B:TkB)(hd:d.Ok)(hul:0<=x.fu.az/\x.fu.az<1000000)(h2:2<=x.fu.sl.length)(hle:(x.fu.sl.length:Int)<=d.fa+1)(hsz:∀ s,s∈x.fu.sl->s.k.size<=1000000)(hvu:x.vu=.slice au x.fu.sl.length cu)(hv:x.vf=.slice af x.fr.pg.sl.length cf)
  (Ag:s.pc<2) (h1:s.pc=1->0<=s.seen/\s.seen<18446744073709551615) (hseen:(aG 4 d.no L s).1.ok=true->0<=(aG 4 d.no L s).1.seen/\(aG 4 d.no L s).1.seen<18446744073709551615) (ha:acc<=1000000000000)
  (hs:St K w (bz b (aX (some (Gf B))) d x::aJ bm bc L acc::bq x.vu x.fu::(Vh b B 4 d.no s++F))) :
  Calls Tryz.prog 77 #[(.pointer (some ⟨b,0,none⟩)),(.pointer (some ⟨bm,0,none⟩))] w fun e w' =>
   ((aG 4 d.no L s).1.pc<2/\e=.returned (.bool false)/\St K w' (bz b (aX (some (Gf B))) d x::aJ bm bc (aG 4 d.no L s).2 (acc+1)::bq x.vu x.fu::(Vh b B 4 d.no (aG 4 d.no L s).1++F))) \/
   (2<=(aG 4 d.no L s).1.pc/\(aG 4 d.no L s).1.ok=false/\e=.returned (.bool true)/\St K w' (bz b .nilFunc d { x with err:=2,le:=x.fr,vl:=x.vf }::aJ bm bc (aG 4 d.no L s).2 (acc+1)::bq x.vu x.fu::F)) \/
   (2<=(aG 4 d.no L s).1.pc/\(aG 4 d.no L s).1.ok=true/\e=.returned (.bool false)/\∃ (B':Vg) (ps:List Pt),ps=⟨d.node ((aG 4 d.no L s).1.seen+1) 0,⟨aO 0,⟨#[]⟩,0⟩⟩::bN d ((aG 4 d.no L s).1.seen+1) (dD x.fu)/\(∃ a c,B'.vq=.slice a (fy x.fu ((aG 4 d.no L s).1.seen+1)).sl.length c) /\
    St K w' (bz b (aX (some (sj B'))) d x::aJ bm bc (aG 4 d.no L s).2 (acc+1)::bq x.vu x.fu::(Mp b B' ((aG 4 d.no L s).1.seen+1) (dD x.fu) (fy x.fu ((aG 4 d.no L s).1.seen+1)) (bM x.fu) ps 0++F))):=by
 obtain⟨b2,b3,b5,Ec,iU,bt⟩:=B;have hc:w.cell? ⟨b,0,none⟩=some (aX (some (aA b2 b3 b5))):=hs.k0 0;have hs:St K w (bz b (aX (some (aA b2 b3 b5))) d x::aJ bm bc L acc::bq x.vu x.fu::bD b2 b3 b5 (.iface 156 (.pointer (some ⟨bt,0,none⟩))) (.func (.func 100) #[] #[(.pointer (some ⟨Ec,0,none⟩)),(.pointer (some ⟨iU,0,none⟩))]) ::
  blk Ec (.cells #[(.pointer (some ⟨bt,0,none⟩))] 156)::blk iU (.cells #[(.pointer (some ⟨b,0,none⟩))] 82)::gH bt 4 d.no s::F):=hs
 obtain⟨s',hs'⟩:∃ s',s'=(aG 4 d.no L s).1:=⟨_,rfl⟩;obtain⟨L',hL'⟩:∃ L',L'=(aG 4 d.no L s).2:=⟨_,rfl⟩;have q:=rI (i:=4) (lim:=d.no) (hs.re [6,1,0,2,3,4,5] rfl) ha h1;rw[if_neg (by omega:¬ 2<=s.pc)]at q
 rw[← hs']at hseen;rw[← hs',← hL']at q ⊢;have Q:=aqo q;clear q hs' hL';refine(qR (K:=K) (α:={ y:Option (Option (Vg × List Pt)) // match y with|none=>s'.pc<2|some none=>2<=s'.pc/\s'.ok=false|some (some z)=>2<=s'.pc/\s'.ok=true/\z.2=⟨d.node (s'.seen+1) 0,⟨aO 0,⟨#[]⟩,0⟩⟩::bN d (s'.seen+1) (dD x.fu)/\(∃ a c,z.1.vq=.slice a (fy x.fu (s'.seen+1)).sl.length c) })
  (f:=aA b2 b3 b5) (o:=fun y=>match y.1 with|none=>some (aA b2 b3 b5)|some none=>none|some (some z)=>some (sj z.1)) (nx:=aX (some (aA b2 b3 b5)))
  (tl:=fun y=>match y.1 with|none=>Gh d x|some none=>Gh d { x with err:=2,le:=x.fr,vl:=x.vf } | some (some _)=>Gh d x)
  (F' := fun y=>aJ bm bc L' (acc+1)::bq x.vu x.fu::(match y.1 with|none=>Vh b ⟨b2,b3,b5,Ec,iU,bt⟩ 4 d.no s' ++ F|some none=>F|some (some z)=>Mp b z.1 (s'.seen+1) (dD x.fu) (fy x.fu (s'.seen+1)) (bM x.fu) z.2 0++F)) (T:=151) jP hc ?_).mono (fun e w' h=>?_)
 ·show Calls Tryz.prog 115 #[(.pointer (some ⟨bm,0,none⟩)),(.pointer (some ⟨b2,0,none⟩)),(.pointer (some ⟨b3,0,none⟩)),(.pointer (some ⟨b5,0,none⟩))] w _
  refine(jh (P0:=fun w' => s'.pc<2/\St K w' (bz b (aX (some (aA b2 b3 b5))) d x::aJ bm bc L' (acc+1)::bq x.vu x.fu::(Vh b ⟨b2,b3,b5,Ec,iU,bt⟩ 4 d.no s' ++ F)))
   (P1:=fun o w' => 2<=s'.pc/\((s'.ok=false/\o=none/\St K w' (bz b (aX (some (aA b2 b3 b5))) d { x with err:=2,le:=x.fr,vl:=x.vf }::aJ bm bc L' (acc+1)::bq x.vu x.fu::F)) \/
    (s'.ok=true/\∃ B' ps,o=some (sj B')/\ps=⟨d.node (s'.seen+1) 0,⟨aO 0,⟨#[]⟩,0⟩⟩::bN d (s'.seen+1) (dD x.fu)/\(∃ a c,B'.vq=.slice a (fy x.fu (s'.seen+1)).sl.length c) /\
     St K w' (bz b (aX (some (aA b2 b3 b5))) d x::aJ bm bc L' (acc+1)::bq x.vu x.fu::(Mp b B' (s'.seen+1) (dD x.fu) (fy x.fu (s'.seen+1)) (bM x.fu) ps 0++F)))))
   (hs.re [3,0,1,2,4,5,6] rfl) (fun n w=>rH n _ w) Gb ym ((Q.out).mono ?_)).mono ?_
  ·rintro e w1 ⟨rfl,hs⟩
   refine⟨⟨K,_,hs.re [4,0,1,2,3,5,6] rfl⟩,?_⟩;by_cases hl:2<=s'.pc
   ·refine .inr ⟨by rw[decide_eq_true hl],?_⟩
    have hs':St K w1 (bz b (aX (some (aA b2 b3 b5))) d x::bq x.vu x.fu::(Vh b ⟨b2,b3,b5,Ec,iU,bt⟩ 4 d.no s' ++ (aJ bm bc L' (acc+1)::F))):=hs.re [2,3,4,5,6,0,1] rfl;cases hok:s'.ok with
    | true=>
     refine(Mq hd hul h2 hle hsz hvu hok (hseen hok) hs').mono ?_
     rintro e w2 ⟨B',ps,rfl,hps,y8,hs2⟩;exact⟨some (sj B'),rfl,hl,.inr ⟨rfl,B',ps,rfl,hps,y8,(show St K w2 (_::_::_::_::_::_::_::_::_::_::_::_::_::F)from hs2).re [0,12,1,2,3,4,5,6,7,8,9,10,11] rfl⟩⟩
    | false=>
     refine(Ru hv hok ((show St K w1 (_::_::_::_::_::_::_::F)from hs').re [0,2,3,4,5,1,6] rfl)).mono ?_
     rintro e w2 ⟨rfl,hs2⟩;exact⟨none,rfl,hl,.inl ⟨rfl,rfl,hs2.re [0,2,1] rfl⟩⟩
   ·exact .inl ⟨by rw[decide_eq_false hl],by omega,hs.re [2,1,3,4,5,6,0] rfl⟩
  ·rintro e w1 ⟨o,rfl,⟨rfl,hl,hs⟩|⟨hl,⟨hok,rfl,hs⟩|⟨hok,B',ps,rfl,hps,y8,hs⟩⟩⟩
   ·exact⟨⟨none,hl⟩,rfl,hs⟩
   ·exact⟨⟨some none,hl,hok⟩,rfl,hs⟩
   ·exact⟨⟨some (some ⟨B',ps⟩),hl,hok,hps,y8⟩,rfl,hs⟩
 ·obtain⟨⟨y,hy⟩,rfl,hs⟩:=h
  match y,hy,hs with
  | none,hy,hs=>exact .inl ⟨hy,rfl,hs⟩
  | some none,hy,hs=>exact .inr (.inl ⟨hy.1,hy.2,rfl,hs⟩)
  | some (some z),hy,hs=>exact .inr (.inr ⟨hy.1,hy.2.1,rfl,z.1,z.2,hy.2.2.1,hy.2.2.2,hs⟩)
end
theorem Gi (tmps:Array Value)(w:World)(b:Nat)(v0 v1 v2 v3 v4 v5 v6:Value)(hp:tmps[4]?=some ((.pointer (some ⟨b,0,none⟩))))(hk:∀ k,w.cell? ⟨b,k,none⟩=(#[v0,v1,v2,v3,v4,v5,v6]:Array Value)[k]?) :
  (results Tryz.f106 tmps).run Tryz.prog w=.ok (.agg #[v0,v1,v2,v3,v4,v5,v6]) w:=by
 simp[results,Tryz.results106,go_sem,hp,hk]
theorem Bp (tmps:Array Value)(w:World)(b:Nat)(v0 v1 v2 v3 v4 v5 v6:Value)(hp:tmps[2]?=some ((.pointer (some ⟨b,0,none⟩))))(hk:∀ k,w.cell? ⟨b,k,none⟩=(#[v0,v1,v2,v3,v4,v5,v6]:Array Value)[k]?) :
  (results Tryz.f53 tmps).run Tryz.prog w=.ok (.agg #[v0,v1,v2,v3,v4,v5,v6]) w:=by
 simp[results,Tryz.results53,go_sem,hp,hk]
theorem yo (tmps:Array Value)(w:World)(b:Nat)(v0 v1 v2 v3 v4 v5 v6:Value)(hp:tmps[2]?=some ((.pointer (some ⟨b,0,none⟩))))(hk:∀ k,w.cell? ⟨b,k,none⟩=(#[v0,v1,v2,v3,v4,v5,v6]:Array Value)[k]?) :
  (results Tryz.f54 tmps).run Tryz.prog w=.ok (.agg #[v0,v1,v2,v3,v4,v5,v6]) w:=by
 simp[results,Tryz.results54,go_sem,hp,hk]
theorem Bq (w:World)(id wd az ri:Int)(a:Option Addr)(n c:Nat)(hi:ByteArray)(la:Bool):(Instr.field 45 (.agg #[.int .u64 id,.int .u64 wd,.int .i64 az,.slice a n c,.string hi,.bool la,.int .u64 ri]) 0).run Tryz.prog w=.ok (.int .u64 id) w:=by kernel_rfl
theorem Bt (w:World)(id wd az ri:Int)(a:Option Addr)(n c:Nat)(hi:ByteArray)(la:Bool):(Instr.field 45 (.agg #[.int .u64 id,.int .u64 wd,.int .i64 az,.slice a n c,.string hi,.bool la,.int .u64 ri]) 1).run Tryz.prog w=.ok (.int .u64 wd) w:=by kernel_rfl
theorem Bu (w:World)(id wd az ri:Int)(a:Option Addr)(n c:Nat)(hi:ByteArray)(la:Bool):(Instr.field 45 (.agg #[.int .u64 id,.int .u64 wd,.int .i64 az,.slice a n c,.string hi,.bool la,.int .u64 ri]) 2).run Tryz.prog w=.ok (.agg #[.int .i64 az,.slice a n c,.string hi,.bool la,.int .u64 ri]) w:=by kernel_rfl
theorem yq (w:World)(az ri:Int)(a:Option Addr)(n c:Nat)(hi:ByteArray)(la:Bool):(Instr.field 43 (.agg #[.int .i64 az,.slice a n c,.string hi,.bool la,.int .u64 ri]) 1).run Tryz.prog w=.ok (.slice a n c) w:=by kernel_rfl
attribute [go_sem] yq Bq Bt Bu
section
variable {K:aK}{w:World}{F:List aB}{b bm bc acc:Nat}{d:aR}{x:oQ}{h:cB}{L:List aP}{a:Option Addr}{c:Nat}{nx:Value}
theorem qg (hon:x.on=true)(hn:h.pg.sl.length<=1000000)(hs:St K w (bz b .nilFunc d x::bq (.slice a h.pg.sl.length c) h.pg::F)) :
  Calls Tryz.prog 106 #[(.pointer (some ⟨b,0,none⟩)),(.agg #[.int .u64 (h).id,.int .u64 (h).word,.int .i64 (h).pg.az,(.slice a h.pg.sl.length c),.string (h).pg.hi,.bool (h).pg.la,.int .u64 (h).pg.ri])] w fun e w' => ∃ va,e=.returned (.agg #[.int .u64 (h).id,.int .u64 (h).word,.int .i64 (h).pg.az,va,.string (h).pg.hi,.bool (h).pg.la,.int .u64 (h).pg.ri])/\St K w' (bq va h.pg::bz b .nilFunc d x::bq (.slice a h.pg.sl.length c) h.pg::F):=by
 obtain⟨fr,vf,fu,vu,err,le,vl,ri,vr,sep,on⟩:=x;simp only at hon;subst hon;have hs:=(hs.made (.cells #[.int .u64 (h).id,.int .u64 (h).word,.int .i64 (h).pg.az,(.slice a h.pg.sl.length c),.string (h).pg.hi,.bool (h).pg.la,.int .u64 (h).pg.ri] 45)).made (.cells #[.int .u64 0,.int .u64 0,.int .i64 0,.slice none 0 0,.string ⟨#[]⟩,.bool false,.int .u64 0] 45);rw[World.size_alloc]at hs;have Qd:=aqo (fY ((w.alloc (.cells #[.int .u64 (h).id,.int .u64 (h).word,.int .i64 (h).pg.az,(.slice a h.pg.sl.length c),.string (h).pg.hi,.bool (h).pg.la,.int .u64 (h).pg.ri] 45)).alloc (.cells #[.int .u64 0,.int .u64 0,.int .i64 0,.slice none 0 0,.string ⟨#[]⟩,.bool false,.int .u64 0] 45)) b (hs.k2 0) (hs.k2 1));have Hs:=aqo hs;clear hs;go_enter Tryz.func106,Tryz.ntmps106
 go_wp2_with fail
 refine(Qd.out).mono ?_
 clear Qd;rintro e w1 ⟨rfl,rfl⟩;go_upto_region 3 with(fail)
 obtain⟨b0,hb0⟩:∃ b0,b0=w.heap.size:=⟨_,rfl⟩;rw[← hb0]at Hs ⊢;have hs:=Hs.out;refine cR hs ?_
 clear hs Hs hb0;intro W hs;have fj:=(show St K _ (ak (.slice a h.pg.sl.length c) 69 2 h.pg.sl.length (aD h.pg.sl)::_)from hs.b3).cN (by omega)
 have Hl:=aqo (show(aD h.pg.sl).length=h.pg.sl.length*2 by rw[fE])
 have H0:Hid (a=none->h.pg.sl.length=0):=aqo (fun e=>by subst e;rw[fj.no];rfl)
 have H1:=aqo (kU h.pg.sl);obtain⟨iv,cZ,dc,dg,dh⟩:=info_parts gR;have lC:=aqo cZ;have lD:=aqo dc;have lF:=aqo dg;have lG:=aqo dh;clear cZ dc dg dh;have Hn:=aqo fj.news;obtain⟨sl,tX⟩:∃ sl,sl=aD h.pg.sl:=⟨_,rfl⟩;rw[← tX]at Hl H1 Hn;have Rh:=aqo tX;have kp:=hs.k1;have fp:=hs.b1.f0;have Hs:=aqo (hs.cD (T:=69) (size:=2));clear hs fj tX;go_wp2_with (at_builtin;refine cF _ _ 41 69 _ 0 h.pg.sl.length c 2 24 [] sl (.agg #[.string ⟨#[]⟩,.int .u64 0]) iv a Hs.out rfl rfl Tryz.underlying41 lC.out lD.out lF.out lG.out rfl (by decide) rfl rfl Hl.out H0.out Hn.out H1.out (by omega) (by decide) ?_)
 intro v' w' hs;obtain⟨ao,oK,hv,_,_⟩:=hs.aF;subst hv;clear Hs kp fp Hl H0 H1 Hn lC lD lF lG;have hs:=hs.b2;have kb:=hs.k0;have fb:=hs.f0;have hs:=hs.aI 3 (.slice ao h.pg.sl.length oK);simp only[List.set_cons_zero,List.set_cons_succ]at hs;go_upto_region 4 with(fail)
 refine cR hs ?_
 clear hs kb fb;intro W3 hs;have k1:=hs.k0;have hs:=hs.b2;have k0:=hs.k0;have f0:=hs.f0;have hs:=((((((hs.aI 0 (.int .u64 h.id)).aI 1 (.int .u64 h.word)).aI 2 (.int .i64 h.pg.az)).aI 3 (.slice ao h.pg.sl.length oK)).aI 4 (.string h.pg.hi)).aI 5 (.bool h.pg.la)).aI 6 (.int .u64 h.pg.ri);simp only[List.set_cons_zero,List.set_cons_succ]at hs;go_wp2
 rw[Rh.out]at hs;refine bodyPost_ret (Gi _ _ (b0+1) _ _ _ _ _ _ _ rfl hs.k0) rfl ⟨_,rfl,hs.tail.tail⟩
theorem Gj {P:Value->World->Prop}(q:Calls Tryz.prog 77 #[(.pointer (some ⟨b,0,none⟩)),(.pointer (some ⟨bm,0,none⟩))] w fun e w' => ∃ v,e=.returned v/\P v w')(hp:∀ v w',P v w' -> ∃ t:Bool,v=.bool t) :
  Calls Tryz.prog 48 #[(.pointer (some ⟨b,0,none⟩)),(.pointer (some ⟨bm,0,none⟩))] w fun e w' => ∃ v,e=.returned v/\P v w' := by
 have Q:=aqo q;clear q;go_enter Tryz.func48,Tryz.ntmps48
 go_wp2_with fail
 refine(Q.out).mono ?_
 rintro e w1 ⟨v,rfl,h⟩;obtain⟨t,rfl⟩:=hp v w1 h;have H:=aqo h;clear h Q hp;go_wp2
 go_ret;exact⟨.bool t,rfl,H.out⟩
theorem Gk (hon:x.on=true)(hn:x.le.pg.sl.length<=1000000)(hv:x.vl=.slice a x.le.pg.sl.length c)(hs:St K w (bz b .nilFunc d x::bq x.vl x.le.pg::F)) :
  Calls Tryz.prog 53 #[(.pointer (some ⟨b,0,none⟩))] w fun e w' => ∃ va,e=.returned (.agg #[.int .u64 (x.le).id,.int .u64 (x.le).word,.int .i64 (x.le).pg.az,va,.string (x.le).pg.hi,.bool (x.le).pg.la,.int .u64 (x.le).pg.ri])/\St K w' (bq va x.le.pg::bz b .nilFunc d x::bq x.vl x.le.pg::F):=by
 obtain⟨fr,vf,fu,vu,err,le,vl,ri,vr,sep,on⟩:=x;simp only at hv hn;subst hv;have hs:=(hs.made (.cells #[.int .u64 0,.int .u64 0,.int .i64 0,.slice none 0 0,.string ⟨#[]⟩,.bool false,.int .u64 0] 45)).u2;have Q:=aqo (qg hon hn hs);have k:=hs.k0;unfold dK vD at k;clear hs hon;go_enter Tryz.func53,Tryz.ntmps53
 go_wp2_with fail
 refine(Q.out).mono ?_
 clear Q k;generalize w.heap.size=b0;rintro e w1 ⟨va,rfl,hs⟩;obtain⟨a2,c2,rfl,_,_⟩:=hs.aF;have hs:=hs.b3;have k0:=hs.k0;have f0:=hs.f0;have hs:=((((((hs.aI 0 (.int .u64 le.id)).aI 1 (.int .u64 le.word)).aI 2 (.int .i64 le.pg.az)).aI 3 (.slice a2 le.pg.sl.length c2)).aI 4 (.string le.pg.hi)).aI 5 (.bool le.pg.la)).aI 6 (.int .u64 le.pg.ri);simp only[List.set_cons_zero,List.set_cons_succ]at hs;go_wp2
 refine bodyPost_ret (Bp _ _ b0 _ _ _ _ _ _ _ rfl hs.k0) rfl ⟨_,rfl,hs.tail⟩
theorem nG (hon:x.on=true)(hn:x.ri.pg.sl.length<=1000000)(hv:x.vr=.slice a x.ri.pg.sl.length c)(hs:St K w (bz b .nilFunc d x::bq x.vr x.ri.pg::F)) :
  Calls Tryz.prog 54 #[(.pointer (some ⟨b,0,none⟩))] w fun e w' => ∃ va,e=.returned (.agg #[.int .u64 (x.ri).id,.int .u64 (x.ri).word,.int .i64 (x.ri).pg.az,va,.string (x.ri).pg.hi,.bool (x.ri).pg.la,.int .u64 (x.ri).pg.ri])/\St K w' (bq va x.ri.pg::bz b .nilFunc d x::bq x.vr x.ri.pg::F):=by
 obtain⟨fr,vf,fu,vu,err,le,vl,ri,vr,sep,on⟩:=x;simp only at hv hn;subst hv;have hs:=(hs.made (.cells #[.int .u64 0,.int .u64 0,.int .i64 0,.slice none 0 0,.string ⟨#[]⟩,.bool false,.int .u64 0] 45)).u2;have Q:=aqo (qg hon hn hs);have k:=hs.k0;unfold dK vD at k;clear hs hon;go_enter Tryz.func54,Tryz.ntmps54
 go_wp2_with fail
 refine(Q.out).mono ?_
 clear Q k;generalize w.heap.size=b0;rintro e w1 ⟨va,rfl,hs⟩;obtain⟨a2,c2,rfl,_,_⟩:=hs.aF;have hs:=hs.b3;have k0:=hs.k0;have f0:=hs.f0;have hs:=((((((hs.aI 0 (.int .u64 ri.id)).aI 1 (.int .u64 ri.word)).aI 2 (.int .i64 ri.pg.az)).aI 3 (.slice a2 ri.pg.sl.length c2)).aI 4 (.string ri.pg.hi)).aI 5 (.bool ri.pg.la)).aI 6 (.int .u64 ri.pg.ri);simp only[List.set_cons_zero,List.set_cons_succ]at hs;go_wp2
 refine bodyPost_ret (yo _ _ b0 _ _ _ _ _ _ _ rfl hs.k0) rfl ⟨_,rfl,hs.tail⟩
end
structure lq (d:aR)(fr:cB)(fu:Pg):Prop where
 az:fu.az=fr.pg.az
 len:(fu.sl.length:Int)<=d.fa+1
 r:∀ s,s∈fu.sl->0<=s.r/\s.r<18446744073709551616
 k:∀ s,s∈fu.sl->s.k.size<=1000000
 hi:fu.hi.size<=maxLen
 la:fu.la=true->fu.hi=⟨#[]⟩
 ri:0<=fu.ri/\fu.ri<18446744073709551616
theorem yt (a b:ByteArray):∀ (f n:Nat),(eN a b f n).size<=b.size:=by
 intro f;induction f with
 | zero=>intro n;exact Nat.zero_le _
 | succ f ih=>
  intro n;unfold eN;split
  ·rw[ByteArray.size_extract];omega
  ·exact ih _
theorem wV (a b:ByteArray):(lU a b).size<=b.size:=yt a b _ _
theorem gB {d:aR}(hd:d.Ok):10<=d.cells:=by
 have h1:=bU hd (id:=1) (by omega) hd.Iw (k:=2) (by omega) (by have:=hd.fw;omega)
 have h2:=(iu d hd).2.1;omega
section
variable {d:aR}{fr:cB}{fu:Pg}{id:Int}
theorem lq.fit (h:lq d fr fu)(hle:(fu.sl.length:Int)<=d.fa):oM d fu:=
 ⟨hle,h.ri,h.r,fun s hs=>Nat.le_trans (h.k s hs) (by decide),h.hi,h.la⟩
theorem lq.sep (h:lq d fr fu):(bM fu).size<=1000000:=by
 unfold bM;split
 ·rename_i x y hx hy
  have hy:=h.k y (aqs hy);split
  ·exact Nat.le_trans (wV _ _) hy
  ·exact hy
 ·exact Nat.zero_le _
theorem lq.left (h:lq d fr fu)(hd:d.Ok)(hid:0<=id/\id<18446744073709551616):oM d (fy fu id):=by
 have h1:=hd.fw;have h2:=h.len;refine⟨?_,hid,fun s hs=>h.r s (List.mem_of_mem_take hs),fun s hs=>Nat.le_trans (h.k s (List.mem_of_mem_take hs)) (by decide),Nat.le_trans h.sep (by decide),fun e=>by cases e⟩
 show((fu.sl.take (gm fu.sl.length)).length:Int)<=d.fa
 rw[List.length_take];unfold gm;omega
theorem lq.right (h:lq d fr fu)(hd:d.Ok):oM d (dD fu):=by
 have h1:=hd.fw;have h2:=h.len;refine⟨?_,h.ri,fun s hs=>h.r s (List.mem_of_mem_drop hs),fun s hs=>Nat.le_trans (h.k s (List.mem_of_mem_drop hs)) (by decide),h.hi,h.la⟩
 show((fu.sl.drop (gm fu.sl.length)).length:Int)<=d.fa
 rw[List.length_drop];unfold gm;omega
theorem nE.len {p:Pg}{ps:List Pt}(h:nE d fr p ps):2<=ps.length/\ps.length<=p.sl.length+5:=by
 obtain⟨mid,hn,rfl⟩:=h;have:=hn.1.length_le;simp[bN,eQ]at this ⊢;omega
end
def oT (fr:cB)(vf:Value)(fu:Pg)(vu:Value):oQ:={ jt fr vf fu vu with on:=true }
def Xa (fr:cB)(vf:Value)(fu:Pg)(vu:Value)(id:Int)(va:Value):oQ:={ oT fr vf fu vu with ri:=⟨id,aO 0,dD fu⟩,vr:=va,sep:=bM fu }
section
variable (K:aK)(W:World)(b bm bc:Nat)(d:aR)(fr:cB)(vf:Value)(fu:Pg)(vu:Value)(L:List aP)(F:List aB)
end
section
variable {K:aK}{W W':World}{b bm bc j r:Nat}{d:aR}{fr:cB}{vf vu:Value}{fu:Pg}{L:List aP}{F:List aB}
end
section
variable {K:aK}{w:World}{b bm bc j r:Nat}{d:aR}{fr:cB}{af au:Option Addr}{cf cu:Nat}{fu:Pg}{L:List aP}{F:List aB}
end
end Go.Proofs.YtlpdhhhgckpcfaaGreat
