
/- zu.Wj and zu.Wl as parts of a world. -/
import Derived.Test.YtlpdhhhgckpcfaaGreatFindA
namespace Go.Proofs.YtlpdhhhgckpcfaaGreat
open Go.RowKit
set_option maxRecDepth 100000
structure oO where
 pc:Nat
 word:Int
def nu (b:Nat):Nat->Option FV
 | 0=>some ⟨152, #[(.pointer (some ⟨b,0,none⟩))], #[]⟩
 | 1=>some ⟨180, #[(.pointer (some ⟨b,0,none⟩))], #[]⟩
 | _=>none
def fT (b:Nat)(i:Int)(s:oO):aB:=blk b (.cells [(aX (nu b s.pc)),.bool true,.int .i64 i,.int .u64 s.word].toArray 199)
def bL (i:Int)(L:List aP)(s:oO):oO × List aP:=
 match s.pc with
 | 0=>(if (ah L i).n%2=1 then⟨0,s.word⟩else⟨1,aO (ah L i).n⟩,L)
 | 1=>if bW L i (aH s.word)then(⟨2,s.word⟩,aN L i ⟨s.word,⟨#[]⟩,0⟩)else(⟨0,s.word⟩,L)
 | _=>(s,L)
def mF:oO:=⟨0,0⟩
theorem Fv {b p:Nat}:(nu b p).isNone=decide (2<=p):=by
 match p with
 | 0=>rfl
 | 1=>rfl
 | n+2=>simp[nu]
theorem Ls {x:Int}(h:0<=x/\x<18446744073709551616):0<=aO x/\aO x<18446744073709551616:=by
 unfold aO;split <;> omega
section
variable (x:Int)(h0:0<=x)(h1:x<18446744073709551616)
include h0 h1
theorem Lt:(bits .and .u64 x 1 != 0)=decide (x%2=1):=by
 obtain⟨a,rfl⟩:=Int.eq_ofNat_of_zero_le h0;have:=(bits_nat .u64 64 (by decide) (fun n a b=>by rw[IntKind.wrap_u64];omega) a 1 (by omega) (by decide)).1
 rw[show((1:Nat):Int)=1 by rfl]at this
 rw[this,Nat.and_one_is_mod];by_cases h:a%2=1
 ·rw[h,decide_eq_true (by omega)];rfl
 ·rw[show a%2=0 by omega,decide_eq_false (by omega)];rfl
theorem xT (w:World):Calls Tryz.prog 43 #[.int .u64 x] w fun e w' => e=.returned (.bool (decide (x%2=1)))/\w=w' := by
 have e:=Lt x h0 h1;go_enter Tryz.func43,Tryz.ntmps43
 go_wp2
 go_ret;exact⟨rfl,rfl⟩
end
theorem Ap:Enters 152:=fun _ _=>rfl
theorem Aq:Enters 180:=fun _ _=>rfl
section
variable {K:aK}{w:World}{F:List aB}{b bm bc:Nat}{i:Int}{L:List aP}{acc:Nat}{s:oO}{nx:Value}
theorem oz (hs:St K w F):Calls Tryz.prog 116 #[.int .i64 i] w fun e w' => ∃ b,e=.returned (.pointer (some ⟨b,0,none⟩))/\St K w' (fT b i mF::F):=by
 have hs:=hs.made (.cells [.nilFunc,.bool false,.int .i64 i,.int .u64 0].toArray 199);obtain⟨b,hb⟩:∃ b,b=w.heap.size:=⟨_,rfl⟩;rw[← hb]at hs;go_enter Tryz.func116,Tryz.ntmps116
 go_wp2_with fail
 refine(bE hs (fk _ _ _ _)).mono ?_
 clear hs;rintro e w1 ⟨rfl,hs⟩;rw[← hb];clear hb;have k:=hs.k0;have kf:=hs.f0;have hs:=(hs.aI 0 (.func (.func 152) #[(.pointer (some ⟨b,0,none⟩))] #[])).aI 1 (.bool true);simp only[List.set_cons_zero,List.set_cons_succ]at hs;go_wp2
 go_ret;exact⟨b,rfl,hs⟩
theorem Fw (hL:bI L)(ha:acc<=1000000000000)(hs:St K w (blk b (.cells [nx,.bool true,.int .i64 i,.int .u64 s.word].toArray 199)::aJ bm bc L acc::F)) :
  Calls Tryz.prog 152 #[(.pointer (some ⟨b,0,none⟩)),(.pointer (some ⟨bm,0,none⟩))] w fun e w' => e=.returned (aX (nu b (if (ah L i).n%2=1 then 0 else 1)))/\St K w' (blk b (.cells [nx,.bool true,.int .i64 i,.int .u64 (if (ah L i).n%2=1 then s.word else aO (ah L i).n)].toArray 199)::aJ bm bc L (acc+1)::F):=by
 have k:=hs.k0;have hx:0<=(ah L i).n/\(ah L i).n<18446744073709551616:=hL i;have q1:=jd (i:=i) hs.b1 ha;generalize ah L i=c at *;obtain⟨n,key,m⟩:=c;simp only at hx ⊢;obtain⟨p,hp⟩:∃ p,p=if n%2=1 then 0 else 1:=⟨_,rfl⟩
 obtain⟨wd,hwd⟩:∃ wd,wd=if n%2=1 then s.word else aO n:=⟨_,rfl⟩
 rw[← hp,← hwd];have Hp:=aqo hp;have Hwd:=aqo hwd;clear hp hwd;have Q1:=aqo q1;have Q2:=aqo (fun w=>xT n hx.1 hx.2 w)
 have Q3:=aqo (fun w=>tF n hx.1 hx.2 w)
 clear q1 hs hx;go_enter Tryz.func152,Tryz.ntmps152
 go_wp2_with fail
 refine(Q1.out).mono ?_
 clear Q1 k;rintro e w1 ⟨rfl,hs⟩;go_wp2_with fail
 refine(Q2.out _).mono ?_
 clear Q2;rintro e w2 ⟨rfl,rfl⟩;rcases(by omega:n%2=0\/n%2=1)with h|h
 ·have e1:p=1:=by rw[Hp.out,if_neg (by omega)]
  have e2:wd=aO n:=by rw[Hwd.out,if_neg (by omega)]
  subst e1 e2;rw[decide_eq_false (by omega)]
  clear h;go_wp2_with fail
  refine(Q3.out _).mono ?_
  clear Q3;rintro e w3 ⟨rfl,rfl⟩;have hs:=hs.b1;have k:=hs.k0;have kf:=hs.f0;have hs:=hs.aI 3 (.int .u64 (aO n));simp only[List.set_cons_zero,List.set_cons_succ]at hs;go_wp2
  go_ret;exact⟨rfl,hs⟩
 ·have e1:p=0:=by rw[Hp.out,if_pos h]
  have e2:wd=s.word:=by rw[Hwd.out,if_pos h]
  subst e1 e2;rw[decide_eq_true h];clear h;go_wp2
  go_ret;exact⟨rfl,hs.b1⟩
theorem Fx (hw:0<=s.word/\s.word<18446744073709551616)(ha:acc<=1000000000000)(hs:St K w (blk b (.cells [nx,.bool true,.int .i64 i,.int .u64 s.word].toArray 199)::aJ bm bc L acc::F)) :
  Calls Tryz.prog 180 #[(.pointer (some ⟨b,0,none⟩)),(.pointer (some ⟨bm,0,none⟩))] w fun e w' => e=.returned (aX (nu b (if bW L i (aH s.word)then 2 else 0)))/\St K w' (blk b (.cells [nx,.bool true,.int .i64 i,.int .u64 s.word].toArray 199)::aJ bm bc (if bW L i (aH s.word)then aN L i ⟨s.word,⟨#[]⟩,0⟩else L) (acc+1)::F):=by
 obtain⟨pc,wd⟩:=s;simp only at hw hs ⊢;have Q1:=aqo (fun w=>jz wd hw.1 hw.2 w)
 have Q2:=aqo (fun W (h:St K W (blk b (.cells [nx,.bool true,.int .i64 i,.int .u64 wd].toArray 199)::aJ bm bc L acc::F))=>Vy (i:=i) (old:=aH wd) (c:=⟨wd,⟨#[]⟩,0⟩) h.b1 ha)
 clear hw;generalize bW L i (aH wd)=ok at *;have k:=hs.k0;have Hs:=aqo hs;go_enter Tryz.func180,Tryz.ntmps180
 go_upto_region 1 with(fail)
 go_cut [21]from 999 to 0 (fun v21 wx=>v21=.bool (!ok)/\St K wx (blk b (.cells [nx,.bool true,.int .i64 i,.int .u64 wd].toArray 199)::aJ bm bc (if ok then aN L i ⟨wd,⟨#[]⟩,0⟩else L) (acc+1)::F))
 case first=>
  clear hs;refine bO 15 (by kernel_rfl) (by as_aux_lemma=>kernel_rfl) ?_
  simp only[List.take_succ_cons,List.take_zero,List.drop_succ_cons,List.drop_zero];repeat (go_big_quiet_step ((go_at_call 80;exact dJ (Q1.out _))))
  refine wpQuiet_nil ?_
  intro w5 hb5;have hs:=Hs.out.same hb5;clear k hb5 Hs;go_wp2_with fail
  refine(Q2.out _ hs).mono ?_
  clear hs;rintro e w6 ⟨rfl,hs⟩;have Hs:=aqo hs.b1;clear hs;go_wp2
  go_meet;exact⟨rfl,Hs.out⟩
 case rest=>
 clear hs Hs k Q1 Q2;obtain⟨rfl,hs⟩:=hcut;apply_assumption
 cases ok with
 | true=>
  go_wp2
  go_ret;exact⟨rfl,hs⟩
 | false=>
  go_wp2
  go_ret;exact⟨rfl,hs⟩
end
section
variable {K:aK}{w:World}{F:List aB}{b bm bc:Nat}{i:Int}{L:List aP}{acc:Nat}{s:oO}
structure oO.Ok (s:oO):Prop where
 pc:s.pc<=2
 word:0<=s.word/\s.word<18446744073709551616
theorem tY (hL:bI L)(h:s.Ok):(bL i L s).1.Ok:=by
 obtain⟨pc,wd⟩:=s;obtain⟨h1,h2⟩:=h;unfold bL;match pc with
 | 0=>
  simp only;split
  ·exact⟨Nat.zero_le _,h2⟩
  ·exact⟨by show 1<=2;decide,Ls (hL i)⟩
 | 1=>
  simp only;split
  ·exact⟨Nat.le_refl _,h2⟩
  ·exact⟨Nat.zero_le _,h2⟩
 | n+2=>exact⟨h1,h2⟩
theorem Lu (hL:bI L)(ha:acc<=1000000000000)(hok:s.Ok)(h2:s.pc≠2)(hs:St K w (fT b i s::aJ bm bc L acc::F)) :
  Calls Tryz.prog 77 #[(.pointer (some ⟨b,0,none⟩)),(.pointer (some ⟨bm,0,none⟩))] w fun e w' => e=.returned (.bool (decide (2<=(bL i L s).1.pc)))/\St K w' (fT b i (bL i L s).1::aJ bm bc (bL i L s).2 (acc+1)::F):=by
 obtain⟨pc,wd⟩:=s;have hc:w.cell? ⟨b,0,none⟩=some (aX (nu b pc)):=(show St K w (blk b (.cells [(aX (nu b pc)),.bool true,.int .i64 i,.int .u64 wd].toArray 199)::_)from hs).k0 0
 rw[← Fv (b:=b)];match pc,hok,h2,hs,hc with
 | 0,hok,h2,hs,hc=>
  refine(gZ (K:=K) (α:=Unit) (f:=⟨152, #[(.pointer (some ⟨b,0,none⟩))], #[]⟩) (o:=fun _=>nu b (bL i L ⟨0,wd⟩).1.pc) (nx:=aX (nu b 0))
   (tl:=fun _=>[.bool true,.int .i64 i,.int .u64 (bL i L ⟨0,wd⟩).1.word]) (F' := fun _=>aJ bm bc (bL i L ⟨0,wd⟩).2 (acc+1)::F) (T:=199) Ap hc ?_).mono (fun e w' ⟨_,he,h⟩=>⟨he,h⟩)
  refine(Fw hL ha hs).mono ?_
  rintro e w1 ⟨rfl,hs⟩;refine⟨(),?_,?_⟩
  ·unfold bL
   simp only;split <;> rfl
  ·unfold bL
   simp only;split <;> rename_i h
   ·rw[if_pos h]at hs;exact hs
   ·rw[if_neg h]at hs;exact hs
 | 1,hok,h2,hs,hc=>
  refine(gZ (K:=K) (α:=Unit) (f:=⟨180, #[(.pointer (some ⟨b,0,none⟩))], #[]⟩) (o:=fun _=>nu b (bL i L ⟨1,wd⟩).1.pc) (nx:=aX (nu b 1))
   (tl:=fun _=>[.bool true,.int .i64 i,.int .u64 (bL i L ⟨1,wd⟩).1.word]) (F' := fun _=>aJ bm bc (bL i L ⟨1,wd⟩).2 (acc+1)::F) (T:=199) Aq hc ?_).mono (fun e w' ⟨_,he,h⟩=>⟨he,h⟩)
  refine(Fx hok.word ha hs).mono ?_
  rintro e w1 ⟨rfl,hs⟩;refine⟨(),?_,?_⟩
  ·unfold bL
   simp only;split <;> rfl
  ·unfold bL
   simp only at hs ⊢;split <;> rename_i h
   ·rw[if_pos h]at hs;exact hs
   ·rw[if_neg h]at hs;exact hs
 | n+2,hok,h2,hs,hc=>
  have:=hok.pc;simp only at this h2;omega
theorem tZ (hL:bI L)(ha:acc<=1000000000000)(hok:s.Ok)(h2:s.pc≠2)(hs:St K w (fT b i s::aJ bm bc L acc::F)) :
  Calls Tryz.prog 213 #[(.pointer (some ⟨b,0,none⟩)),(.pointer (some ⟨bm,0,none⟩))] w fun e w' => e=.returned (.bool (decide (2<=(bL i L s).1.pc)))/\St K w' (fT b i (bL i L s).1::aJ bm bc (bL i L s).2 (acc+1)::F):=by
 have Q:=aqo (Lu hL ha hok h2 hs);clear hs;go_enter Tryz.func213,Tryz.ntmps213
 go_wp2_with fail
 refine(Q.out).mono ?_
 clear Q;rintro e w1 ⟨rfl,hs⟩;go_wp2
 go_ret;exact⟨rfl,hs⟩
theorem oP (h2:s.pc=2)(hs:St K w (fT b i s::F)):Calls Tryz.prog 119 #[(.pointer (some ⟨b,0,none⟩))] w fun e w' => e=.returned (.int .u64 s.word)/\w=w' := by
 obtain⟨pc,wd⟩:=s;simp only at h2;subst h2;have hs:St K w (blk b (.cells [.nilFunc,.bool true,.int .i64 i,.int .u64 wd].toArray 199)::F):=hs;have k:=hs.k0;have Q:=aqo (fY w b (k 0) (k 1));clear hs;go_enter Tryz.func119,Tryz.ntmps119
 go_wp2_with fail
 refine(Q.out).mono ?_
 clear Q;rintro e w1 ⟨rfl,rfl⟩;go_wp2
 go_ret;exact⟨rfl,rfl⟩
end
def Ar (bi bw:Nat):Nat->Option FV
 | 0=>some ⟨78, #[], #[(.pointer (some ⟨bi,0,none⟩)),(.pointer (some ⟨bw,0,none⟩))]⟩
 | _=>none
def eZ (b bi bw:Nat)(i word:Int)(pc:Nat):List aB:=[blk b (.cells [aX (Ar bi bw pc),.bool true].toArray 131),blk bi (.cells #[.int .i64 i] 3),blk bw (.cells #[.int .u64 word] 23)]
section
variable {K:aK}{w:World}{F:List aB}{b bi bw bm bc:Nat}{i word:Int}{L:List aP}{acc:Nat}
theorem kD (hs:St K w F):Calls Tryz.prog 20 #[.int .i64 i,.int .u64 word] w fun e w' => ∃ b bi bw,e=.returned (.pointer (some ⟨b,0,none⟩))/\St K w' (eZ b bi bw i word 0++F):=by
 have hs:=(hs.made (.cells #[.int .i64 i] 3)).made (.cells #[.int .u64 word] 23);rw[World.size_alloc]at hs;go_enter Tryz.func20,Tryz.ntmps20
 go_wp2_with fail
 refine(bE hs (fk _ _ _ _)).mono ?_
 clear hs;rintro e w1 ⟨rfl,hs⟩;have hs:=hs.made (.cells [aX (Ar w.heap.size (w.heap.size+1) 0),.bool true].toArray 131);simp only[Ar,aX]at hs;go_wp2
 go_ret;exact⟨_,_,_,rfl,hs.re [0,2,1] rfl⟩
theorem Lv (hw:0<=word/\word<18446744073709551616)(ha:acc<=1000000000000)(hs:St K w (eZ b bi bw i word 0++aJ bm bc L acc::F)) :
  Calls Tryz.prog 77 #[(.pointer (some ⟨b,0,none⟩)),(.pointer (some ⟨bm,0,none⟩))] w fun e w' => e=.returned (.bool true)/\St K w' (eZ b bi bw i word 1++aJ bm bc (aN L i ⟨aH word,⟨#[]⟩,0⟩) (acc+1)::F):=by
 have hs:St K w (blk b (.cells [aX (Ar bi bw 0),.bool true].toArray 131)::blk bi (.cells #[.int .i64 i] 3)::blk bw (.cells #[.int .u64 word] 23)::aJ bm bc L acc::F):=hs;have hc:=hs.k0 0;refine(gZ (K:=K) (α:=Unit) (f:=⟨78, #[], #[(.pointer (some ⟨bi,0,none⟩)),(.pointer (some ⟨bw,0,none⟩))]⟩) (o:=fun _=>none) (nx:=aX (Ar bi bw 0))
  (tl:=fun _=>[.bool true]) (F' := fun _=>blk bi (.cells #[.int .i64 i] 3)::blk bw (.cells #[.int .u64 word] 23)::aJ bm bc (aN L i ⟨aH word,⟨#[]⟩,0⟩) (acc+1)::F) (T:=131) (fun _ _=>by kernel_rfl) hc ?_).mono (fun e w' ⟨_,he,h⟩=>⟨he,h⟩)
 show Calls Tryz.prog 78 #[(.pointer (some ⟨bm,0,none⟩)),(.pointer (some ⟨bi,0,none⟩)),(.pointer (some ⟨bw,0,none⟩))] w _
 have k1:=hs.k1;have k2:=hs.k2;have Q1:=aqo (fun w=>jz word hw.1 hw.2 w)
 have Hs:=aqo hs;clear hs;go_enter Tryz.func78,Tryz.ntmps78
 go_upto_region 1 with(fail)
 refine bO 5 (by kernel_rfl) (by as_aux_lemma=>kernel_rfl) ?_
 simp only[List.take_succ_cons,List.take_zero,List.drop_succ_cons,List.drop_zero];repeat (go_big_quiet_step ((go_at_call 80;exact dJ (Q1.out _))))
 refine wpQuiet_nil ?_
 intro w5 hb5;have hs:=Hs.out.same hb5;clear k1 k2 hb5 Hs;go_wp2_with fail
 refine(mZ (c:=⟨aH word,⟨#[]⟩,0⟩) hs.b3 ha).mono ?_
 clear hs;rintro e w6 ⟨rfl,hs⟩;go_wp2
 go_ret;exact⟨(),rfl,hs.u3⟩
theorem ia (hw:0<=word/\word<18446744073709551616)(ha:acc<=1000000000000)(hs:St K w (eZ b bi bw i word 0++aJ bm bc L acc::F)) :
  Calls Tryz.prog 22 #[(.pointer (some ⟨b,0,none⟩)),(.pointer (some ⟨bm,0,none⟩))] w fun e w' => e=.returned (.bool true)/\St K w' (eZ b bi bw i word 1++aJ bm bc (aN L i ⟨aH word,⟨#[]⟩,0⟩) (acc+1)::F):=by
 have Q:=aqo (Lv hw ha hs);clear hs;go_enter Tryz.func22,Tryz.ntmps22
 go_wp2_with fail
 refine(Q.out).mono ?_
 clear Q;rintro e w1 ⟨rfl,hs⟩;go_wp2
 go_ret;exact⟨rfl,hs⟩
end
end Go.Proofs.YtlpdhhhgckpcfaaGreat
