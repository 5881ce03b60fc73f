/- The wQ of the zN functions (layer 3. -/
import Derived.Test.YtlpdhhhgckpcfaaGreatStA
import Derived.Deep.DeepCutAuto
import Derived.Maps.AppendAt
import Derived.Laws.EntriesVeiled
import Derived.Laws.BitsLemmas
namespace Go.Proofs.YtlpdhhhgckpcfaaGreat
set_option linter.unusedSimpArgs false
set_option linter.unusedVariables false
open Go.RowKit
set_option maxHeartbeats 16000000
structure aR where
 th:Int
 sn:Int
 no:Int
 ch:Int
 re:Int
 fa:Int
 cl:Int
structure aR.Ok (c:aR):Prop where
 th1:1<=c.th
 th2:c.th<=64
 sn1:1<=c.sn
 sn2:c.sn<=8
 Jo:1<=c.no
 mJ:c.no<=4096
 ch1:1<=c.ch
 ch2:c.ch<=16384
 Zr:1<=c.re
 re2:c.re<=65536
 fo:4<=c.fa
 mK:c.fa<=32
 cl1:1<=c.cl
 cl2:c.cl<=1099511627776
def aR.A (c:aR):Int:=8+c.th*c.sn
def aR.B (c:aR):Int:=c.A+c.no*(c.fa+4)
def aR.C (c:aR):Int:=c.B+c.ch
def aR.cells (c:aR):Int:=c.C+3*c.re
theorem xV {a b m n:Int}(h0:0<=a)(h1:a<=m)(h2:0<=b)(h3:b<=n):0<=a*b/\a*b<=m*n:=
 ⟨Int.mul_nonneg h0 h2,Int.mul_le_mul h1 h3 h2 (by omega)⟩
theorem aR.Ok.ts {c:aR}(h:c.Ok):0<=c.th*c.sn/\c.th*c.sn<=512:=by
 have:=xV (a:=c.th) (b:=c.sn) (m:=64) (n:=8) (by have:=h.th1;omega) h.th2 (by have:=h.sn1;omega) h.sn2
 omega
theorem aR.Ok.nf {c:aR}(h:c.Ok):0<=c.no*(c.fa+4)/\c.no*(c.fa+4)<=147456:=by
 have:=xV (a:=c.no) (b:=c.fa+4) (m:=4096) (n:=36) (by have:=h.Jo;omega) h.mJ (by have:=h.fo;omega) (by have:=h.mK;omega)
 omega
theorem aR.Ok.eC {c:aR}(h:c.Ok):8<=c.A/\c.A<=520:=by unfold aR.A;have:=h.ts;omega
theorem aR.Ok.jU {c:aR}(h:c.Ok):c.A<=c.B/\c.B<=147976:=by unfold aR.B;have:=h.eC;have:=h.nf;omega
theorem aR.Ok.ox {c:aR}(h:c.Ok):c.B<=c.C/\c.C<=164360:=by unfold aR.C;have:=h.jU;have:=h.ch1;have:=h.ch2;omega
theorem aR.Ok.eb {c:aR}(h:c.Ok):c.C<=c.cells/\c.cells<=360968:=by unfold aR.cells;have:=h.ox;have:=h.Zr;have:=h.re2;omega
def aR.node (c:aR)(n k:Int):Int:=if 1<=n/\n<=c.no then c.A+(n-1)*(c.fa+4)+k else -1
def aR.slot (c:aR)(n i:Int):Int:=if 0<=i/\i<c.fa then c.node n (4+i)else -1
def aR.chain (c:aR)(n:Int):Int:=if 1<=n/\n<=c.ch then c.B+(n-1)else -1
def aR.record (c:aR)(n k:Int):Int:=if 1<=n/\n<=c.re then c.C+3*(n-1)+k else -1
theorem xW {k n:Int}(hn:1<=n):k%n=if k.tmod n<0 then k.tmod n+n else k.tmod n:=by
 rw[Int.tmod_eq_emod];have h1:=Int.emod_nonneg k (b:=n) (by omega)
 have h2:=Int.emod_lt_of_pos k (b:=n) (by omega)
 have h3:(n.natAbs:Int)=n:=by omega
 split <;> split <;> omega
theorem Wy {k n:Int}(hn:1<=n) : -n<k.tmod n/\k.tmod n<n:=by
 rw[Int.tmod_eq_emod];have h1:=Int.emod_nonneg k (b:=n) (by omega)
 have h2:=Int.emod_lt_of_pos k (b:=n) (by omega)
 have h3:(n.natAbs:Int)=n:=by omega
 split
 ·omega
 ·rename_i h
  have:k%n≠0:=fun hz=>h (.inr (Int.dvd_of_emod_eq_zero hz))
  omega
theorem Jp (k n:Int)(hn:1<=n)(hn2:n<=1000000)(w:World) :
  Calls Tryz.prog 25 #[.int .i64 k,.int .i64 n] w fun e w' => e=.returned (.int .i64 (k%n))/\w=w' := by
 have hn0:(n == 0)=false:=by simp;omega
 have hb:=Wy (k:=k) hn;have he:=aq3 (xW (k:=k) hn);by_cases h:k.tmod n<0
 ·go_enter Tryz.func25,Tryz.ntmps25
  go_wp2
  go_ret;exact⟨by rw[he.out,if_pos h];rfl,rfl⟩
 ·go_enter Tryz.func25,Tryz.ntmps25
  go_wp2
  go_ret;exact⟨by rw[he.out,if_neg (by omega)];rfl,rfl⟩
def btw (n lo hi:Int):Bool:=decide (lo<=n) && decide (n<=hi)
theorem rE (n lo hi:Int)(w:World) :
  Calls Tryz.prog 157 #[.int .i64 n,.int .i64 lo,.int .i64 hi] w fun e w' => e=.returned (.bool (btw n lo hi))/\w=w' := by
 unfold btw;by_cases h:lo<=n
 ·go_enter Tryz.func157,Tryz.ntmps157
  go_wp2
  go_ret;exact⟨by simp[h],rfl⟩
 ·have hd:decide (lo<=n)=false:=by simpa using h
  go_enter Tryz.func157,Tryz.ntmps157
  go_wp2
  go_ret;exact⟨by simp,rfl⟩
theorem rF (n lo hi:Int)(h1:lo<=n)(h2:n<=hi)(w:World) :
  Calls Tryz.prog 157 #[.int .i64 n,.int .i64 lo,.int .i64 hi] w fun e w' => e=.returned (.bool true)/\w=w' := by
 have e:btw n lo hi=true:=by unfold btw;simp[h1,h2]
 have h:=rE n lo hi w;rw[e]at h;exact h
theorem Fb (n lo hi:Int)(h1:n<lo\/hi<n)(w:World) :
  Calls Tryz.prog 157 #[.int .i64 n,.int .i64 lo,.int .i64 hi] w fun e w' => e=.returned (.bool false)/\w=w' := by
 have e:btw n lo hi=false:=by unfold btw;simp;omega
 have h:=rE n lo hi w;rw[e]at h;exact h
theorem oF (c:aR)(hc:c.Ok)(w:World):Calls Tryz.prog 151 #[.agg #[.int .i64 c.th,.int .i64 c.sn,.int .i64 c.no,.int .i64 c.ch,.int .i64 c.re,.int .i64 c.fa,.int .u64 c.cl]] w fun e w' => e=.returned (.int .i64 c.A)/\Below w.heap.size w w' := by
 obtain⟨h1,h2⟩:=hc.ts;go_enter Tryz.func151,Tryz.ntmps151
 go_wp2
 go_ret;exact⟨rfl,(Below.refl _ _).alloc (Nat.le_refl _) _⟩
theorem tK (c:aR)(hc:c.Ok)(w:World):Calls Tryz.prog 81 #[.agg #[.int .i64 c.th,.int .i64 c.sn,.int .i64 c.no,.int .i64 c.ch,.int .i64 c.re,.int .i64 c.fa,.int .u64 c.cl]] w fun e w' => e=.returned (.int .i64 c.A)/\Below w.heap.size w w' := by
 obtain⟨h1,h2⟩:=hc.ts;go_enter Tryz.func81,Tryz.ntmps81
 go_wp2
 go_ret;exact⟨rfl,(Below.refl _ _).alloc (Nat.le_refl _) _⟩
theorem tL (c:aR)(hc:c.Ok)(w:World):Calls Tryz.prog 179 #[.agg #[.int .i64 c.th,.int .i64 c.sn,.int .i64 c.no,.int .i64 c.ch,.int .i64 c.re,.int .i64 c.fa,.int .u64 c.cl]] w fun e w' => e=.returned (.int .i64 c.B)/\Below w.heap.size w w' := by
 obtain⟨h1,h2⟩:=hc.eC;obtain⟨h3,h4⟩:=hc.nf;have h5:=hc.fo;have h6:=hc.mK;go_enter Tryz.func179,Tryz.ntmps179
 go_wp2
 refine dA (by kernel_rfl) (by kernel_rfl) ?_
 repeat (go_big_quiet_step ((go_at_call 151;exact aX (oF c hc _))))
 refine wpQuiet_nil ?_
 intro w1 hb1;go_wp2
 go_ret;exact⟨rfl,((Below.refl _ _).alloc (Nat.le_refl _) _).trans (hb1.mono (by simp))⟩
theorem zO (c:aR)(hc:c.Ok)(w:World):Calls Tryz.prog 150 #[.agg #[.int .i64 c.th,.int .i64 c.sn,.int .i64 c.no,.int .i64 c.ch,.int .i64 c.re,.int .i64 c.fa,.int .u64 c.cl]] w fun e w' => e=.returned (.int .i64 c.B)/\Below w.heap.size w w' := by
 obtain⟨b0,b1⟩:=hc.eC;obtain⟨b2,b3⟩:=hc.nf;have h5:=hc.fo;have h6:=hc.mK;go_enter Tryz.func150,Tryz.ntmps150
 go_wp2
 refine dA (by kernel_rfl) (by kernel_rfl) ?_
 repeat (go_big_quiet_step ((go_at_call 81;exact aX (tK c hc _))))
 refine wpQuiet_nil ?_
 intro w1 hb1;go_wp2
 go_ret;exact⟨rfl,((Below.refl _ _).alloc (Nat.le_refl _) _).trans (hb1.mono (by simp))⟩
theorem su (c:aR)(hc:c.Ok)(w:World):Calls Tryz.prog 149 #[.agg #[.int .i64 c.th,.int .i64 c.sn,.int .i64 c.no,.int .i64 c.ch,.int .i64 c.re,.int .i64 c.fa,.int .u64 c.cl]] w fun e w' => e=.returned (.int .i64 c.C)/\Below w.heap.size w w' := by
 obtain⟨b0,b1⟩:=hc.eC;obtain⟨b2,b3⟩:=hc.jU;have h5:=hc.ch1;have h6:=hc.ch2;go_enter Tryz.func149,Tryz.ntmps149
 go_wp2
 refine dA (by kernel_rfl) (by kernel_rfl) ?_
 repeat (go_big_quiet_step ((go_at_call 179;exact aX (tL c hc _))))
 refine wpQuiet_nil ?_
 intro w1 hb1;go_wp2
 go_ret;exact⟨rfl,((Below.refl _ _).alloc (Nat.le_refl _) _).trans (hb1.mono (by simp))⟩
theorem zP (c:aR)(hc:c.Ok)(w:World):Calls Tryz.prog 113 #[.agg #[.int .i64 c.th,.int .i64 c.sn,.int .i64 c.no,.int .i64 c.ch,.int .i64 c.re,.int .i64 c.fa,.int .u64 c.cl]] w fun e w' => e=.returned (.int .i64 c.C)/\Below w.heap.size w w' := by
 obtain⟨b0,b1⟩:=hc.eC;obtain⟨b2,b3⟩:=hc.jU;have h5:=hc.ch1;have h6:=hc.ch2;go_enter Tryz.func113,Tryz.ntmps113
 go_wp2
 refine dA (by kernel_rfl) (by kernel_rfl) ?_
 repeat (go_big_quiet_step ((go_at_call 150;exact aX (zO c hc _))))
 refine wpQuiet_nil ?_
 intro w1 hb1;go_wp2
 go_ret;exact⟨rfl,((Below.refl _ _).alloc (Nat.le_refl _) _).trans (hb1.mono (by simp))⟩
theorem Ln (c:aR)(hc:c.Ok)(w:World):Calls Tryz.prog 110 #[.agg #[.int .i64 c.th,.int .i64 c.sn,.int .i64 c.no,.int .i64 c.ch,.int .i64 c.re,.int .i64 c.fa,.int .u64 c.cl]] w fun e w' => e=.returned (.int .i64 c.cells)/\Below w.heap.size w w' := by
 obtain⟨b0,b1⟩:=hc.eC;obtain⟨b2,b3⟩:=hc.jU;obtain⟨b4,b5⟩:=hc.ox;have h5:=hc.Zr;have h6:=hc.re2;go_enter Tryz.func110,Tryz.ntmps110
 go_wp2
 refine dA (by kernel_rfl) (by kernel_rfl) ?_
 repeat (go_big_quiet_step ((go_at_call 149;exact aX (su c hc _))))
 refine wpQuiet_nil ?_
 intro w1 hb1;go_wp2
 go_ret;exact⟨rfl,((Below.refl _ _).alloc (Nat.le_refl _) _).trans (hb1.mono (by simp))⟩
theorem xX (c:aR)(hc:c.Ok)(w:World):Calls Tryz.prog 68 #[.agg #[.int .i64 c.th,.int .i64 c.sn,.int .i64 c.no,.int .i64 c.ch,.int .i64 c.re,.int .i64 c.fa,.int .u64 c.cl]] w fun e w' => e=.returned (.int .i64 c.cells)/\Below w.heap.size w w' := by
 obtain⟨b0,b1⟩:=hc.eC;obtain⟨b2,b3⟩:=hc.jU;obtain⟨b4,b5⟩:=hc.ox;have h5:=hc.Zr;have h6:=hc.re2;go_enter Tryz.func68,Tryz.ntmps68
 go_wp2
 refine dA (by kernel_rfl) (by kernel_rfl) ?_
 repeat (go_big_quiet_step ((go_at_call 113;exact aX (zP c hc _))))
 refine wpQuiet_nil ?_
 intro w1 hb1;go_wp2
 go_ret;exact⟨rfl,((Below.refl _ _).alloc (Nat.le_refl _) _).trans (hb1.mono (by simp))⟩
theorem pY (c:aR)(w:World):Calls Tryz.prog 111 #[.agg #[.int .i64 c.th,.int .i64 c.sn,.int .i64 c.no,.int .i64 c.ch,.int .i64 c.re,.int .i64 c.fa,.int .u64 c.cl]] w fun e w' => e=.returned (.int .i64 0)/\Below w.heap.size w w' := by
 go_enter Tryz.func111,Tryz.ntmps111
 go_wp2
 go_ret;exact⟨rfl,(Below.refl _ _).alloc (Nat.le_refl _) _⟩
theorem qW (c:aR)(w:World):Calls Tryz.prog 99 #[.agg #[.int .i64 c.th,.int .i64 c.sn,.int .i64 c.no,.int .i64 c.ch,.int .i64 c.re,.int .i64 c.fa,.int .u64 c.cl]] w fun e w' => e=.returned (.int .i64 4)/\Below w.heap.size w w' := by
 go_enter Tryz.func99,Tryz.ntmps99
 go_wp2
 go_ret;exact⟨rfl,(Below.refl _ _).alloc (Nat.le_refl _) _⟩
theorem zQ (c:aR)(w:World):Calls Tryz.prog 169 #[.agg #[.int .i64 c.th,.int .i64 c.sn,.int .i64 c.no,.int .i64 c.ch,.int .i64 c.re,.int .i64 c.fa,.int .u64 c.cl]] w fun e w' => e=.returned (.int .i64 7)/\Below w.heap.size w w' := by
 go_enter Tryz.func169,Tryz.ntmps169
 go_wp2
 go_ret;exact⟨rfl,(Below.refl _ _).alloc (Nat.le_refl _) _⟩
theorem mY (c:aR)(hc:c.Ok)(n k:Int)(hn0:0<=n)(hn1:n<18446744073709551616)(hk0:0<=k)(hk1:k<=1000)(w:World):Calls Tryz.prog 114 #[.agg #[.int .i64 c.th,.int .i64 c.sn,.int .i64 c.no,.int .i64 c.ch,.int .i64 c.re,.int .i64 c.fa,.int .u64 c.cl],.int .u64 n,.int .i64 k] w fun e w' => e=.returned (.int .i64 (c.node n k))/\Below w.heap.size w w' := by
 have n1:=hc.Jo;have n2:=hc.mJ;have f1:=hc.fo;have f2:=hc.mK;by_cases h1:n<1
 ·have e:=aq3 (show c.node n k= -1 by unfold aR.node;rw[if_neg (by omega)])
  go_enter Tryz.func114,Tryz.ntmps114
  go_wp2
  go_ret;exact⟨by rw[e.out];rfl,(Below.refl _ _).alloc (Nat.le_refl _) _⟩
 ·by_cases h2:c.no<n
  ·have e:=aq3 (show c.node n k= -1 by unfold aR.node;rw[if_neg (by omega)])
   go_enter Tryz.func114,Tryz.ntmps114
   go_wp2
   go_ret;exact⟨by rw[e.out];rfl,(Below.refl _ _).alloc (Nat.le_refl _) _⟩
  ·have e:=aq3 (show c.node n k=c.A+(n-1)*(c.fa+4)+k by unfold aR.node;rw[if_pos (by omega)])
   obtain⟨m1,m2⟩:=xV (a:=n-1) (b:=c.fa+4) (m:=4096) (n:=36) (by omega) (by omega) (by omega) (by omega)
   obtain⟨b1,b2⟩:=hc.eC;go_enter Tryz.func114,Tryz.ntmps114
   go_wp2
   refine dA (by kernel_rfl) (by kernel_rfl) ?_
   repeat (go_big_quiet_step ((go_at_call 151;exact aX (oF c hc _))))
   refine wpQuiet_nil ?_
   intro w1 hb1;go_wp2
   go_ret;exact⟨by rw[e.out];rfl,((Below.refl _ _).alloc (Nat.le_refl _) _).trans (hb1.mono (by simp))⟩
theorem iw (c:aR)(hc:c.Ok)(n:Int)(hn0:0<=n)(hn1:n<18446744073709551616)(w:World):Calls Tryz.prog 69 #[.agg #[.int .i64 c.th,.int .i64 c.sn,.int .i64 c.no,.int .i64 c.ch,.int .i64 c.re,.int .i64 c.fa,.int .u64 c.cl],.int .u64 n] w fun e w' => e=.returned (.int .i64 (c.node n 0))/\Below w.heap.size w w' := by
 go_enter Tryz.func69,Tryz.ntmps69
 go_wp2_with fail
 refine(mY c hc n 0 hn0 hn1 (by omega) (by omega) _).mono ?_
 rintro e w1 ⟨rfl,hb1⟩;go_wp2
 go_ret;exact⟨rfl,((Below.refl _ _).alloc (Nat.le_refl _) _).trans (hb1.mono (by simp))⟩
theorem tM (c:aR)(hc:c.Ok)(n:Int)(hn0:0<=n)(hn1:n<18446744073709551616)(w:World):Calls Tryz.prog 129 #[.agg #[.int .i64 c.th,.int .i64 c.sn,.int .i64 c.no,.int .i64 c.ch,.int .i64 c.re,.int .i64 c.fa,.int .u64 c.cl],.int .u64 n] w fun e w' => e=.returned (.int .i64 (c.node n 1))/\Below w.heap.size w w' := by
 go_enter Tryz.func129,Tryz.ntmps129
 go_wp2_with fail
 refine(mY c hc n 1 hn0 hn1 (by omega) (by omega) _).mono ?_
 rintro e w1 ⟨rfl,hb1⟩;go_wp2
 go_ret;exact⟨rfl,((Below.refl _ _).alloc (Nat.le_refl _) _).trans (hb1.mono (by simp))⟩
theorem tN (c:aR)(hc:c.Ok)(n:Int)(hn0:0<=n)(hn1:n<18446744073709551616)(w:World):Calls Tryz.prog 112 #[.agg #[.int .i64 c.th,.int .i64 c.sn,.int .i64 c.no,.int .i64 c.ch,.int .i64 c.re,.int .i64 c.fa,.int .u64 c.cl],.int .u64 n] w fun e w' => e=.returned (.int .i64 (c.node n 2))/\Below w.heap.size w w' := by
 go_enter Tryz.func112,Tryz.ntmps112
 go_wp2_with fail
 refine(mY c hc n 2 hn0 hn1 (by omega) (by omega) _).mono ?_
 rintro e w1 ⟨rfl,hb1⟩;go_wp2
 go_ret;exact⟨rfl,((Below.refl _ _).alloc (Nat.le_refl _) _).trans (hb1.mono (by simp))⟩
theorem qX (c:aR)(hc:c.Ok)(n:Int)(hn0:0<=n)(hn1:n<18446744073709551616)(w:World):Calls Tryz.prog 128 #[.agg #[.int .i64 c.th,.int .i64 c.sn,.int .i64 c.no,.int .i64 c.ch,.int .i64 c.re,.int .i64 c.fa,.int .u64 c.cl],.int .u64 n] w fun e w' => e=.returned (.int .i64 (c.node n 3))/\Below w.heap.size w w' := by
 go_enter Tryz.func128,Tryz.ntmps128
 go_wp2_with fail
 refine(mY c hc n 3 hn0 hn1 (by omega) (by omega) _).mono ?_
 rintro e w1 ⟨rfl,hb1⟩;go_wp2
 go_ret;exact⟨rfl,((Below.refl _ _).alloc (Nat.le_refl _) _).trans (hb1.mono (by simp))⟩
theorem zR (c:aR)(hc:c.Ok)(n i:Int)(hn0:0<=n)(hn1:n<18446744073709551616)(w:World):Calls Tryz.prog 127 #[.agg #[.int .i64 c.th,.int .i64 c.sn,.int .i64 c.no,.int .i64 c.ch,.int .i64 c.re,.int .i64 c.fa,.int .u64 c.cl],.int .u64 n,.int .i64 i] w fun e w' => e=.returned (.int .i64 (c.slot n i))/\Below w.heap.size w w' := by
 have f1:=hc.fo;have f2:=hc.mK;by_cases h1:0<=i/\i<c.fa
 ·have e:=aq3 (show c.slot n i=c.node n (4+i)by unfold aR.slot;rw[if_pos h1])
  obtain⟨g1,g2⟩:=h1;go_enter Tryz.func127,Tryz.ntmps127
  go_wp2_with fail
  refine(rF _ _ _ (by omega) (by omega) _).mono ?_
  rintro e w1 ⟨rfl,rfl⟩;go_wp2_with fail
  refine(mY c hc n (4+i) hn0 hn1 (by omega) (by omega) _).mono ?_
  rintro e w1 ⟨rfl,hb1⟩;go_wp2
  go_ret;exact⟨by rw[e.out];rfl,((Below.refl _ _).alloc (Nat.le_refl _) _).trans (hb1.mono (by simp))⟩
 ·have e:=aq3 (show c.slot n i= -1 by unfold aR.slot;rw[if_neg h1])
  go_enter Tryz.func127,Tryz.ntmps127
  go_wp2_with fail
  refine(Fb _ _ _ (by omega) _).mono ?_
  rintro e w1 ⟨rfl,rfl⟩;go_wp2
  go_ret;exact⟨by rw[e.out];rfl,(Below.refl _ _).alloc (Nat.le_refl _) _⟩
theorem pZ (c:aR)(hc:c.Ok)(n:Int)(hn0:0<=n)(hn1:n<18446744073709551616)(w:World):Calls Tryz.prog 123 #[.agg #[.int .i64 c.th,.int .i64 c.sn,.int .i64 c.no,.int .i64 c.ch,.int .i64 c.re,.int .i64 c.fa,.int .u64 c.cl],.int .u64 n] w fun e w' => e=.returned (.int .i64 (c.chain n))/\Below w.heap.size w w' := by
 have n1:=hc.ch1;have n2:=hc.ch2;have f1:=hc.fo;have f2:=hc.mK;by_cases h1:n<1
 ·have e:=aq3 (show c.chain n= -1 by unfold aR.chain;rw[if_neg (by omega)])
  go_enter Tryz.func123,Tryz.ntmps123
  go_wp2
  go_ret;exact⟨by rw[e.out];rfl,(Below.refl _ _).alloc (Nat.le_refl _) _⟩
 ·by_cases h2:c.ch<n
  ·have e:=aq3 (show c.chain n= -1 by unfold aR.chain;rw[if_neg (by omega)])
   go_enter Tryz.func123,Tryz.ntmps123
   go_wp2
   go_ret;exact⟨by rw[e.out];rfl,(Below.refl _ _).alloc (Nat.le_refl _) _⟩
  ·have e:=aq3 (show c.chain n=c.B+(n-1)by unfold aR.chain;rw[if_pos (by omega)])
   obtain⟨b0,b1⟩:=hc.eC;obtain⟨b2,b3⟩:=hc.jU;go_enter Tryz.func123,Tryz.ntmps123
   go_wp2_with fail
   refine(zO c hc _).mono ?_
   rintro e w1 ⟨rfl,hb1⟩;go_wp2
   go_ret;exact⟨by rw[e.out];rfl,((Below.refl _ _).alloc (Nat.le_refl _) _).trans (hb1.mono (by simp))⟩
theorem vE (c:aR)(hc:c.Ok)(n k:Int)(hn0:0<=n)(hn1:n<18446744073709551616)(hk0:0<=k)(hk1:k<=2)(w:World):Calls Tryz.prog 155 #[.agg #[.int .i64 c.th,.int .i64 c.sn,.int .i64 c.no,.int .i64 c.ch,.int .i64 c.re,.int .i64 c.fa,.int .u64 c.cl],.int .u64 n,.int .i64 k] w fun e w' => e=.returned (.int .i64 (c.record n k))/\Below w.heap.size w w' := by
 have n1:=hc.Zr;have n2:=hc.re2;have f1:=hc.fo;have f2:=hc.mK;by_cases h1:n<1
 ·have e:=aq3 (show c.record n k= -1 by unfold aR.record;rw[if_neg (by omega)])
  go_enter Tryz.func155,Tryz.ntmps155
  go_wp2
  go_ret;exact⟨by rw[e.out];rfl,(Below.refl _ _).alloc (Nat.le_refl _) _⟩
 ·by_cases h2:c.re<n
  ·have e:=aq3 (show c.record n k= -1 by unfold aR.record;rw[if_neg (by omega)])
   go_enter Tryz.func155,Tryz.ntmps155
   go_wp2
   go_ret;exact⟨by rw[e.out];rfl,(Below.refl _ _).alloc (Nat.le_refl _) _⟩
  ·have e:=aq3 (show c.record n k=c.C+3*(n-1)+k by unfold aR.record;rw[if_pos (by omega)])
   obtain⟨b0,b1⟩:=hc.eC;obtain⟨b2,b3⟩:=hc.jU;obtain⟨b4,b5⟩:=hc.ox;go_enter Tryz.func155,Tryz.ntmps155
   go_wp2_with fail
   refine(zP c hc _).mono ?_
   rintro e w1 ⟨rfl,hb1⟩;go_wp2
   go_ret;exact⟨by rw[e.out];rfl,((Below.refl _ _).alloc (Nat.le_refl _) _).trans (hb1.mono (by simp))⟩
theorem mZ (c:aR)(hc:c.Ok)(n k:Int)(hn0:0<=n)(hn1:n<18446744073709551616)(hk0:0<=k)(hk1:k<c.fa+4)(w:World):Calls Tryz.prog 21 #[.agg #[.int .i64 c.th,.int .i64 c.sn,.int .i64 c.no,.int .i64 c.ch,.int .i64 c.re,.int .i64 c.fa,.int .u64 c.cl],.int .u64 n,.int .i64 k] w fun e w' => e=.returned (.int .i64 (c.node n k))/\Below w.heap.size w w' := by
 have n1:=hc.Jo;have n2:=hc.mJ;have f1:=hc.fo;have f2:=hc.mK;by_cases h1:n<1
 ·have e:=aq3 (show c.node n k= -1 by unfold aR.node;rw[if_neg (by omega)])
  go_enter Tryz.func21,Tryz.ntmps21
  go_wp2
  go_ret;exact⟨by rw[e.out];rfl,(Below.refl _ _).alloc (Nat.le_refl _) _⟩
 ·by_cases h2:c.no<n
  ·have e:=aq3 (show c.node n k= -1 by unfold aR.node;rw[if_neg (by omega)])
   go_enter Tryz.func21,Tryz.ntmps21
   go_wp2
   go_ret;exact⟨by rw[e.out];rfl,(Below.refl _ _).alloc (Nat.le_refl _) _⟩
  ·have e:=aq3 (show c.node n k=c.A+(n-1)*(c.fa+4)+k by unfold aR.node;rw[if_pos (by omega)])
   obtain⟨m1,m2⟩:=xV (a:=n-1) (b:=c.fa+4) (m:=4096) (n:=36) (by omega) (by omega) (by omega) (by omega)
   obtain⟨b1,b2⟩:=hc.eC;go_enter Tryz.func21,Tryz.ntmps21
   go_wp2
   refine dA (by kernel_rfl) (by kernel_rfl) ?_
   repeat (go_big_quiet_step ((go_at_call 81;exact aX (tK c hc _))))
   refine wpQuiet_nil ?_
   intro w1 hb1;go_wp2
   go_ret;exact⟨by rw[e.out];rfl,((Below.refl _ _).alloc (Nat.le_refl _) _).trans (hb1.mono (by simp))⟩
theorem Lp (c:aR)(hc:c.Ok)(w:World):Calls Tryz.prog 148 #[.agg #[.int .i64 c.th,.int .i64 c.sn,.int .i64 c.no,.int .i64 c.ch,.int .i64 c.re,.int .i64 c.fa,.int .u64 c.cl]] w fun e w' => e=.returned (.bool true)/\Below w.heap.size w w' := by
 obtain⟨a,a',b,b',d,d',e,e',f,f',g,g',h,h'⟩:=hc;go_enter Tryz.func148,Tryz.ntmps148
 go_wp2_with (go_at_call 157;refine(rF _ _ _ (by omega) (by omega) _).mono ?_;rintro e w1 ⟨rfl,rfl⟩)
 go_ret;exact⟨rfl,(Below.refl _ _).alloc (Nat.le_refl _) _⟩
theorem Xa (c:aR)(hc:c.Ok)(w:World):Calls Tryz.prog 108 #[.agg #[.int .i64 c.th,.int .i64 c.sn,.int .i64 c.no,.int .i64 c.ch,.int .i64 c.re,.int .i64 c.fa,.int .u64 c.cl]] w fun e w' => e=.returned (.tuple #[.agg #[.int .i64 c.th,.int .i64 c.sn,.int .i64 c.no,.int .i64 c.ch,.int .i64 c.re,.int .i64 c.fa,.int .u64 c.cl],.int .i64 0])/\Below w.heap.size w w' := by
 go_enter Tryz.func108,Tryz.ntmps108
 go_wp2_with fail
 refine(Lp c hc _).mono ?_
 rintro e w1 ⟨rfl,hb1⟩;obtain⟨hcc,hff⟩:=adw hb1;have hz:w.heap.size+1<w1.heap.size:=by have:=hb1.size;simp at this;omega
 go_wp2
 refine bodyPost_ret (v:= .tuple #[.agg #[.int .i64 c.th,.int .i64 c.sn,.int .i64 c.no,.int .i64 c.ch,.int .i64 c.re,.int .i64 c.fa,.int .u64 c.cl],.int .i64 0]) (by simp[results,Tryz.results108,go_sem,hcc]) rfl ⟨rfl,?_⟩
 repeat (refine Below.setCell ?_ (by simp) _)
 exact(((Below.refl _ _).alloc (Nat.le_refl _) _).alloc (by simp) _).trans (hb1.mono (by simp;omega))
def ck (d:aR):List aO:=aP (aP (aP (List.replicate d.cells.toNat aO.zero) 0 ⟨1,⟨#[]⟩,0⟩) 4 ⟨1,⟨#[]⟩,0⟩) (d.node 1 2) ⟨0,⟨#[]⟩,1⟩
def Lr (d:aR)(w:World)(e:Ending)(w':World):Prop:=
 ∃bm bc,e=.returned (.tuple #[.agg #[.int .i64 d.th,.int .i64 d.sn,.int .i64 d.no,.int .i64 d.ch,.int .i64 d.re,.int .i64 d.fa,.int .u64 d.cl],.pointer (some ⟨bm,0,none⟩),.int .i64 0])/\bR w' bm bc (ck d) 0/\Below w.heap.size w w' /\ w.heap.size<=bm/\w.heap.size<=bc
theorem Fc (tmps:Array Value)(w:World)(b:Nat)(v0 v1 v2 v3 v4 v5 v6:Value)(hp:tmps[2]?=some (.pointer (some ⟨b,0,none⟩)))(hk:∀k,w.cell? ⟨b,k,none⟩=(#[v0,v1,v2,v3,v4,v5,v6]:Array Value)[k]?) :
  (results Tryz.f66 tmps).run Tryz.prog w=.ok (.tuple #[.agg #[v0,v1,v2,v3,v4,v5,v6],tmps.getD 3 undef,tmps.getD 4 undef]) w:=by
 simp[results,Tryz.results66,go_sem,hp,hk]
theorem Ls (d:aR)(hd:d.Ok)(w:World):Calls Tryz.prog 66 #[.agg #[.int .i64 d.th,.int .i64 d.sn,.int .i64 d.no,.int .i64 d.ch,.int .i64 d.re,.int .i64 d.fa,.int .u64 d.cl]] w (Lr d w):=by
 obtain⟨n,hcells,hn,hn1,hn2⟩:∃n:Nat,(∀w,Calls Tryz.prog 110 #[.agg #[.int .i64 d.th,.int .i64 d.sn,.int .i64 d.no,.int .i64 d.ch,.int .i64 d.re,.int .i64 d.fa,.int .u64 d.cl]] w fun e w' => e=.returned (.int .i64 (n:Int))/\Below w.heap.size w w')/\d.cells.toNat=n/\1<=n/\n<=1048576:=by
  have h1:=hd.eb;have h2:=hd.ox;have h3:=hd.jU;have h4:=hd.eC;obtain⟨n,hn⟩:=Int.eq_ofNat_of_zero_le (show 0<=d.cells by omega)
  exact⟨n,fun w=>by rw[←hn];exact Ln d hd w,by omega,by omega,by omega⟩
 have Hn:=aq3 hn;clear hn;go_enter Tryz.func66,Tryz.ntmps66
 go_wp2_with fail
 refine(Xa d hd _).mono ?_
 rintro e w1 ⟨rfl,hb1⟩;have hz:w.heap.size+2<=w1.heap.size:=by have:=hb1.size;simp at this;omega
 have R1:w1.heap[w.heap.size+1]?=some (.cells #[.int .i64 0,.int .i64 0,.int .i64 0,.int .i64 0,.int .i64 0,.int .i64 0,.int .u64 0] 29):=cE hb1 (by simpa using dU (w.alloc (.cells #[.int .i64 d.th,.int .i64 d.sn,.int .i64 d.no,.int .i64 d.ch,.int .i64 d.re,.int .i64 d.fa,.int .u64 d.cl] 26)) (.cells #[.int .i64 0,.int .i64 0,.int .i64 0,.int .i64 0,.int .i64 0,.int .i64 0,.int .u64 0] 29))
 have hB1:Below w.heap.size w w1:=(((Below.refl _ _).alloc (Nat.le_refl _) _).alloc (by simp) _).trans (hb1.mono (by simp;omega))
 clear hb1;go_wp2_with fail
 refine(hcells _).mono ?_
 rintro e w2 ⟨rfl,hb2⟩;have R2:=cE hb2 (lO R1 (.cells #[.int .i64 d.th,.int .i64 d.sn,.int .i64 d.no,.int .i64 d.ch,.int .i64 d.re,.int .i64 d.fa,.int .u64 d.cl] 29));have L2:=cE hb2 (dU w1 (.cells #[.int .i64 d.th,.int .i64 d.sn,.int .i64 d.no,.int .i64 d.ch,.int .i64 d.re,.int .i64 d.fa,.int .u64 d.cl] 29));have hz2:w1.heap.size+1<=w2.heap.size:=by have:=hb2.size;simp at this;omega
 have hB2:Below w.heap.size w w2:=(hB1.alloc hB1.size _).trans (hb2.mono (by simp;omega))
 clear hb2 R1 hB1;go_wp2_with fail
 refine(Fa _ n hn1 hn2).mono ?_
 rintro e w3 ⟨rfl,M3,hb3,hs3⟩;have R3:=cE hb3 R2;have L3:=cE hb3 L2;have hB3:=hB2.trans (hb3.mono hB2.size);clear hb3 R2 L2;have kl:=bq L3;go_wp2_with fail
 refine(pY d _).mono ?_
 rintro e w4 ⟨rfl,hb4⟩;have M4:=M3.same hb4;have R4:=cE hb4 R3;have L4:=cE hb4 L3;have hB4:=hB3.trans (hb4.mono hB3.size);clear hb4 M3 R3 L3 kl;have kl:=bq L4;go_wp2_with fail
 refine(mW _ _ _ _ _ 0 ⟨1,⟨#[]⟩,0⟩ M4).mono ?_
 rintro e w5 ⟨rfl,M5,hg5⟩;have R5:=hg5.blk R4 (by simp;omega)
 have L5:=hg5.blk L4 (by simp;omega)
 have hB5:=hB4.trans (hg5.below hB4.size (by simp;omega))
 clear hg5 M4 R4 L4 kl;have kl:=bq L5;go_wp2_with fail
 refine(qW d _).mono ?_
 rintro e w6 ⟨rfl,Qk⟩;have M6:=M5.same Qk;have R6:=cE Qk R5;have L6:=cE Qk L5;have hB6:=hB5.trans (Qk.mono hB5.size);clear Qk M5 R5 L5 kl;have kl:=bq L6;go_wp2_with fail
 refine(mW _ _ _ _ _ 4 ⟨1,⟨#[]⟩,0⟩ M6).mono ?_
 rintro e w7 ⟨rfl,M7,hg7⟩;have R7:=hg7.blk R6 (by simp;omega)
 have L7:=hg7.blk L6 (by simp;omega)
 have hB7:=hB6.trans (hg7.below hB6.size (by simp;omega))
 clear hg7 M6 R6 L6 kl;have kl:=bq L7;go_wp2_with fail
 refine(tN d hd 1 (by omega) (by omega) _).mono ?_
 rintro e w8 ⟨rfl,hb8⟩;have M8:=M7.same hb8;have R8:=cE hb8 R7;have L8:=cE hb8 L7;have hB8:=hB7.trans (hb8.mono hB7.size);clear hb8 M7 R7 L7 kl;have kl:=bq L8;go_wp2_with fail
 refine(mW _ _ _ _ _ (d.node 1 2) ⟨0,⟨#[]⟩,1⟩ M8).mono ?_
 rintro e w9 ⟨rfl,M9,hg9⟩;have R9:=hg9.blk R8 (by simp;omega)
 have L9:=hg9.blk L8 (by simp;omega)
 have hB9:=hB8.trans (hg9.below hB8.size (by simp;omega))
 clear hg9 M8 R8 L8 kl;have kl:=bq L9;have kr:=bq R9;have kf:=dK R9;have hlt:=ia R9;go_wp2
 have B7:=cM (cM (cM (cM (cM (cM (cM R9 0 (.int .i64 d.th)) 1 (.int .i64 d.sn)) 2 (.int .i64 d.no)) 3 (.int .i64 d.ch)) 4 (.int .i64 d.re)) 5 (.int .i64 d.fa)) 6 (.int .u64 d.cl);simp only[List.setIfInBounds_toArray,List.set_cons_zero,List.set_cons_succ]at B7;refine bodyPost_ret (Fc _ _ (w.heap.size+1) _ _ _ _ _ _ _ rfl (bq B7)) rfl ⟨w2.heap.size+1,w2.heap.size,rfl,?_,?_,?_,?_⟩
 ·have e:ck d=aP (aP (aP (List.replicate n aO.zero) 0 ⟨1,⟨#[]⟩,0⟩) 4 ⟨1,⟨#[]⟩,0⟩) (d.node 1 2) ⟨0,⟨#[]⟩,1⟩:=by unfold ck;rw[Hn.out]
  rw[e];have hg:eI [w.heap.size+1] w9 (((((((w9.setCell ⟨w.heap.size+1,0,none⟩ (.int .i64 d.th)).setCell ⟨w.heap.size+1,1,none⟩ (.int .i64 d.sn)).setCell ⟨w.heap.size+1,2,none⟩ (.int .i64 d.no)).setCell ⟨w.heap.size+1,3,none⟩ (.int .i64 d.ch)).setCell ⟨w.heap.size+1,4,none⟩ (.int .i64 d.re)).setCell ⟨w.heap.size+1,5,none⟩ (.int .i64 d.fa)).setCell ⟨w.heap.size+1,6,none⟩ (.int .u64 d.cl)):=by
   iterate 7 refine eI.setCell ?_ (.inl (by simp)) _
   exact eI.refl _ _
  exact M9.keep hg (by simp;omega) (by simp;omega)
 ·iterate 7 refine Below.setCell ?_ (by simp) _
  exact hB9
 ·omega
 ·omega
theorem p6 {L:List aO}{i j:Int}{c:aO}(hi:0<=i)(hl:i<L.length)(hj:0<=j):ah (aP L i c) j=if j=i then c else ah L j:=by
 unfold ah aP;rw[if_pos hi,if_pos hj,if_pos hj,List.getElem?_set];by_cases h:j=i
 ·subst h
  rw[if_pos rfl,if_pos rfl,if_pos (by omega)]
  rfl
 ·rw[if_neg (by omega),if_neg h]
theorem Lt {n:Nat}(j:Int):ah (List.replicate n aO.zero) j=aO.zero:=by
 unfold ah;split
 ·rw[List.getElem?_replicate];split <;> rfl
 ·rfl
theorem iy (d:aR)(hd:d.Ok):(ck d).length=d.cells.toNat/\10<=d.node 1 2/\∀k:Int,0<=k->ah (ck d) k=if k=d.node 1 2 then⟨0,⟨#[]⟩,1⟩else if k=4 then⟨1,⟨#[]⟩,0⟩else if k=0 then⟨1,⟨#[]⟩,0⟩else aO.zero:=by
 have h1:=hd.eC;have h2:=hd.jU;have h3:=hd.ox;have h4:=hd.eb;have f1:=hd.fo;have n1:=hd.Jo;have e:d.node 1 2=d.A+2:=by unfold aR.node;rw[if_pos (by omega)];omega
 have h5:d.A+2<d.cells:=by
  have:1*(d.fa+4)<=d.no*(d.fa+4):=Int.mul_le_mul_of_nonneg_right n1 (by omega)
  have e2:d.B=d.A+d.no*(d.fa+4):=rfl;omega
 refine⟨by simp[ck,aY],by omega,fun k hk=>?_⟩
 unfold ck;rw[p6 (by omega) (by simp[aY];omega) hk,p6 (by omega) (by simp[aY];omega) hk,p6 (by omega) (by simp;omega) hk,Lt]
theorem lR (c:aR)(w:World):Calls Tryz.prog 96 #[.agg #[.int .i64 c.th,.int .i64 c.sn,.int .i64 c.no,.int .i64 c.ch,.int .i64 c.re,.int .i64 c.fa,.int .u64 c.cl]] w fun e w' => e=.returned (.agg #[.int .i64 c.th,.int .i64 c.sn,.int .i64 c.no,.int .i64 c.ch,.int .i64 c.re,.int .i64 c.fa,.int .u64 c.cl])/\Below w.heap.size w w' := by
 go_enter Tryz.func96,Tryz.ntmps96
 go_wp2
 refine bodyPost_ret (v:= .agg #[.int .i64 c.th,.int .i64 c.sn,.int .i64 c.no,.int .i64 c.ch,.int .i64 c.re,.int .i64 c.fa,.int .u64 c.cl]) (by simp[results,Tryz.results96,go_sem]) rfl ⟨rfl,?_⟩
 exact((Below.refl _ _).alloc (Nat.le_refl _) _).alloc (by simp) _
def m6 (n fa cl:Int):aR:=⟨n,2,100,100,200,fa,cl⟩
theorem zS (tmps:Array Value)(w:World)(b:Nat)(v0 v1 v2 v3 v4 v5 v6:Value)(hp:tmps[4]?=some (.pointer (some ⟨b,0,none⟩)))(hk:∀k,w.cell? ⟨b,k,none⟩=(#[v0,v1,v2,v3,v4,v5,v6]:Array Value)[k]?) :
  (results Tryz.f12 tmps).run Tryz.prog w=.ok (.agg #[v0,v1,v2,v3,v4,v5,v6]) w:=by
 simp[results,Tryz.results12,go_sem,hp,hk]
theorem oG (n fa:Int)(w:World):Calls Tryz.prog 12 #[.int .i64 n,.int .i64 fa] w fun e w' => e=.returned (.agg #[.int .i64 (m6 n (4+fa%3) 1000).th,.int .i64 (m6 n (4+fa%3) 1000).sn,.int .i64 (m6 n (4+fa%3) 1000).no,.int .i64 (m6 n (4+fa%3) 1000).ch,.int .i64 (m6 n (4+fa%3) 1000).re,.int .i64 (m6 n (4+fa%3) 1000).fa,.int .u64 (m6 n (4+fa%3) 1000).cl])/\Below w.heap.size w w' := by
 obtain⟨r,hr,zv,hr1⟩:∃r:Int,r=fa%3/\0<=r/\r<=2:=⟨_,rfl,by omega,by omega⟩
 have q:=Jp fa 3 (by omega) (by omega)
 rw[←hr]at q ⊢;have Q:=aq3 q;clear q hr;go_enter Tryz.func12,Tryz.ntmps12
 go_wp2_with fail
 refine(Q.out _).mono ?_
 rintro e w1 ⟨rfl,rfl⟩;go_wp2
 refine bodyPost_ret (v:= .agg #[.int .i64 (m6 n (4+r) 1000).th,.int .i64 (m6 n (4+r) 1000).sn,.int .i64 (m6 n (4+r) 1000).no,.int .i64 (m6 n (4+r) 1000).ch,.int .i64 (m6 n (4+r) 1000).re,.int .i64 (m6 n (4+r) 1000).fa,.int .u64 (m6 n (4+r) 1000).cl]) (zS _ _ _ _ _ _ _ _ _ _ rfl (bq (dU w _))) rfl ⟨rfl,?_⟩;exact(Below.refl _ _).alloc (Nat.le_refl _) _
theorem zT (tmps:Array Value)(w:World)(b:Nat)(v0 v1 v2 v3 v4 v5 v6:Value)(hp:tmps[2]?=some (.pointer (some ⟨b,0,none⟩)))(hk:∀k,w.cell? ⟨b,k,none⟩=(#[v0,v1,v2,v3,v4,v5,v6]:Array Value)[k]?) :
  (results Tryz.f13 tmps).run Tryz.prog w=.ok (.tuple #[.agg #[v0,v1,v2,v3,v4,v5,v6],tmps.getD 3 undef]) w:=by
 simp[results,Tryz.results13,go_sem,hp,hk]
theorem vF (d:aR)(hd:d.Ok)(w:World):Calls Tryz.prog 13 #[.agg #[.int .i64 d.th,.int .i64 d.sn,.int .i64 d.no,.int .i64 d.ch,.int .i64 d.re,.int .i64 d.fa,.int .u64 d.cl]] w fun e w' => ∃bm bc,e=.returned (.tuple #[.agg #[.int .i64 d.th,.int .i64 d.sn,.int .i64 d.no,.int .i64 d.ch,.int .i64 d.re,.int .i64 d.fa,.int .u64 d.cl],.pointer (some ⟨bm,0,none⟩)])/\bR w' bm bc (ck d) 0/\Below w.heap.size w w' /\ w.heap.size<=bm/\w.heap.size<=bc:=by
 obtain⟨p1,p2,p3⟩:=iy d hd;have hlen:((ck d).length:Int)=d.cells:=by have h1:=hd.eC;have h2:=hd.jU;have h3:=hd.ox;have h4:=hd.eb;omega
 have xY:=aq3 hlen;clear p1 p2 p3 hlen;go_enter Tryz.func13,Tryz.ntmps13
 go_wp2_with fail
 refine(Ls d hd _).mono ?_
 rintro e w2 ⟨bm,bc,rfl,M2,hb2,g1,g2⟩;obtain⟨W,hW⟩:∃W,W=w2.alloc (.cells #[.int .i64 d.th,.int .i64 d.sn,.int .i64 d.no,.int .i64 d.ch,.int .i64 d.re,.int .i64 d.fa,.int .u64 d.cl] 29):=⟨_,rfl⟩;have hz:=hb2.size;simp only[World.size_alloc]at hz g1 g2;have A1:W.heap[w.heap.size]?=some (.cells #[.int .i64 d.th,.int .i64 d.sn,.int .i64 d.no,.int .i64 d.ch,.int .i64 d.re,.int .i64 d.fa,.int .u64 d.cl] 26):=by rw[hW];exact lO (cE hb2 (lO (dU w _) _)) _
 have A2:W.heap[w.heap.size+1]?=some (.cells #[.int .i64 0,.int .i64 0,.int .i64 0,.int .i64 0,.int .i64 0,.int .i64 0,.int .u64 0] 29):=by
  have:=cE hb2 (dU (w.alloc (.cells #[.int .i64 d.th,.int .i64 d.sn,.int .i64 d.no,.int .i64 d.ch,.int .i64 d.re,.int .i64 d.fa,.int .u64 d.cl] 26)) _);rw[World.size_alloc]at this;rw[hW];exact lO this _
 have A3:W.heap[w2.heap.size]?=some (.cells #[.int .i64 d.th,.int .i64 d.sn,.int .i64 d.no,.int .i64 d.ch,.int .i64 d.re,.int .i64 d.fa,.int .u64 d.cl] 29):=by rw[hW];exact dU w2 _
 have M:bR W bm bc (ck d) 0:=by rw[hW];exact M2.alloc _
 have hB:Below w.heap.size w W:=by
  rw[hW];exact((((Below.refl _ _).alloc (Nat.le_refl _) _).alloc (by simp) _).trans (hb2.mono (by simp;omega))).alloc (by omega) _
 go_upto_region 2 with(fail)
 rw[←hW];clear hW hb2 M2;have k1:=bq A1;have Q:Hid (∀w',(∃x:Ext,w'=over W x)->Calls Tryz.prog 67 #[.pointer (some ⟨bm,0,none⟩)] w' fun e w'' => e=.returned (.int .i64 d.cells)/\w'=w''):=by
  intro w' hx;have:=pW w' bm bc _ _ (M.same (Pure.below hx));rwa [xY.out]at this
 refine bI (by kernel_rfl) (by as_aux_lemma=>kernel_rfl) ?_
 repeat (go_big_quiet_step (first|(go_at_call 67;exact dz (Q.out _ ⟨_,rfl⟩))|(go_at_call 68;exact aX (xX d hd _))))
 refine wpQuiet_nil ?_
 intro w3 hb;have C2:=cE hb A2;have C3:=cE hb A3;have M3:=M.same hb;have hB3:=hB.trans (hb.mono hB.size);clear k1 A1 A2 A3 hb M hB Q;have k2:=bq C2;have f2:=dK C2;have k3:=bq C3;go_wp2
 have B7:=cM (cM (cM (cM (cM (cM (cM C2 0 (.int .i64 d.th)) 1 (.int .i64 d.sn)) 2 (.int .i64 d.no)) 3 (.int .i64 d.ch)) 4 (.int .i64 d.re)) 5 (.int .i64 d.fa)) 6 (.int .u64 d.cl);simp only[List.setIfInBounds_toArray,List.set_cons_zero,List.set_cons_succ]at B7;have g1':w.heap.size+1+1<=bm:=by simpa using g1
 have g2':w.heap.size+1+1<=bc:=by simpa using g2
 refine bodyPost_ret (zT _ _ (w.heap.size+1) _ _ _ _ _ _ _ rfl (bq B7)) rfl ⟨bm,bc,rfl,?_,?_,?_,?_⟩
 ·have hg:eI [w.heap.size+1] w3 (((((((w3.setCell ⟨w.heap.size+1,0,none⟩ (.int .i64 d.th)).setCell ⟨w.heap.size+1,1,none⟩ (.int .i64 d.sn)).setCell ⟨w.heap.size+1,2,none⟩ (.int .i64 d.no)).setCell ⟨w.heap.size+1,3,none⟩ (.int .i64 d.ch)).setCell ⟨w.heap.size+1,4,none⟩ (.int .i64 d.re)).setCell ⟨w.heap.size+1,5,none⟩ (.int .i64 d.fa)).setCell ⟨w.heap.size+1,6,none⟩ (.int .u64 d.cl)):=by
   iterate 7 refine eI.setCell ?_ (.inl (by simp)) _
   exact eI.refl _ _
  exact M3.keep hg (by simp;omega) (by simp;omega)
 ·iterate 7 refine Below.setCell ?_ (by simp) _
  exact hB3
 ·omega
 ·omega
section
variable {K:aL}{w w':World}{c c' d e:aC}{cs F:List aC}
def aJ (bm bc:Nat)(L:List aO)(acc:Nat):aC where
 foot:=[bm,bc]
 ok:=fun w=>bR w bm bc L acc
 loc:=fun w w' h k=>⟨by rw[h bm (by simp)];exact k.hm,by rw[h bc (by simp)];exact k.hc,k.ne,k.len⟩
 dom:=fun w k b hb=>by
  simp at hb;rcases hb with rfl|rfl
  ·exact ia k.hm
  ·exact ia k.hc
theorem St.mem {bm bc:Nat}{L:List aO}{acc:Nat}(h:St K w (aJ bm bc L acc::F)):bR w bm bc L acc:=h.head
theorem St.adC {bm bc:Nat}{L:List aO}{acc:Nat}(h:St K w (c::aJ bm bc L acc::F)):bR w bm bc L acc:=h.tail.head
theorem St.xZ {bm bc:Nat}{L L':List aO}{acc acc':Nat}{S:List Nat}(h:St K w (aJ bm bc L acc::F))(hg:eI S w w')(hS:∀b,b∈S->b∈[bm,bc])(M:bR w' bm bc L' acc'):St K w' (aJ bm bc L' acc' :: F):=
 h.zM (c' := aJ bm bc L' acc') (hg.mono hS) M rfl
theorem jl {bm bc:Nat}{L:List aO}{acc:Nat}{i:Int}(hs:St K w (aJ bm bc L acc::F))(ha:acc<=1000000000000) :
  Calls Tryz.prog 141 #[.pointer (some ⟨bm,0,none⟩),.int .i64 i] w fun e w' => e=.returned (.agg #[.int .u64 (ah L i).n,.string (ah L i).k,.int .u64 (ah L i).m])/\St K w' (aJ bm bc L (acc+1)::F):=
 (tG w bm bc L acc i hs.mem (by omega) (by omega)).mono fun _ _ ⟨he,hM,hg⟩=>⟨he,hs.xZ hg (by simp) (by exact_mod_cast hM)⟩
theorem m7 {bm bc:Nat}{L:List aO}{acc:Nat}{i:Int}{c:aO}(hs:St K w (aJ bm bc L acc::F))(ha:acc<=1000000000000) :
  Calls Tryz.prog 79 #[.pointer (some ⟨bm,0,none⟩),.int .i64 i,.agg #[.int .u64 c.n,.string c.k,.int .u64 c.m]] w fun e w' => e=.returned (.tuple #[])/\St K w' (aJ bm bc (aP L i c) (acc+1)::F):=
 (Lm w bm bc L acc i c hs.mem (by omega) (by omega)).mono fun _ _ ⟨he,hM,hg⟩=>⟨he,hs.xZ hg (by simp) (by exact_mod_cast hM)⟩
theorem Xb {bm bc:Nat}{L:List aO}{acc:Nat}{i old:Int}{c:aO}(hs:St K w (aJ bm bc L acc::F))(ha:acc<=1000000000000) :
  Calls Tryz.prog 182 #[.pointer (some ⟨bm,0,none⟩),.int .i64 i,.int .u64 old,.agg #[.int .u64 c.n,.string c.k,.int .u64 c.m]] w fun e w' => e=.returned (.bool (bX L i old))/\St K w' (aJ bm bc (if bX L i old then aP L i c else L) (acc+1)::F):=
 (tH w bm bc L acc i old c hs.mem (by omega) (by omega)).mono fun _ _ ⟨he,hM,hg⟩=>⟨he,hs.xZ hg (by simp) (by exact_mod_cast hM)⟩
theorem gy {bm bc:Nat}{L:List aO}{acc:Nat}{i:Int}{c:aO}(hs:St K w (aJ bm bc L acc::F)) :
  Calls Tryz.prog 36 #[.pointer (some ⟨bm,0,none⟩),.int .i64 i,.agg #[.int .u64 c.n,.string c.k,.int .u64 c.m]] w fun e w' => e=.returned (.tuple #[])/\St K w' (aJ bm bc (aP L i c) acc::F):=
 (mW w bm bc L acc i c hs.mem).mono fun _ _ ⟨he,hM,hg⟩=>⟨he,hs.xZ hg (by simp) hM⟩
theorem Jq {bm bc:Nat}{L:List aO}{acc:Nat}{i:Int}(hs:St K w cs)(hM:bR w bm bc L acc) :
  Calls Tryz.prog 44 #[.pointer (some ⟨bm,0,none⟩),.int .i64 i] w fun e w' => e=.returned (.agg #[.int .u64 (ah L i).n,.string (ah L i).k,.int .u64 (ah L i).m])/\St K w' cs:=
 bH hs (zJ w bm bc L acc i hM)
theorem rG {bm bc:Nat}{L:List aO}{acc:Nat}(hM:bR w bm bc L acc) :
  Calls Tryz.prog 29 #[.pointer (some ⟨bm,0,none⟩)] w fun e w' => e=.returned (.int .u64 acc)/\w=w' := xU w bm bc L acc hM
def az (v:Value)(T:TypeId)(size n:Nat)(xs:List Value):aC where
 foot:=v.ownBlock.toList
 ok:=fun w=>w.ownsRow 0 T size v n xs
 loc:=fun w w' h k=>by
  refine⟨k.1,?_⟩;rcases k.2 with k|⟨g,cap,cur,hv,hB,hc,r⟩
  ·exact .inl k
  ·exact .inr ⟨g,cap,cur,hv,hB,by rw[h g (by rw[hv];simp[Value.ownBlock])];exact hc,r⟩
 dom:=fun w k b hb=>by
  rcases k.2 with⟨k,_⟩|⟨g,cap,cur,hv,hB,hc,r⟩
  ·rw[k]at hb;simp[Value.ownBlock]at hb
  ·rw[hv]at hb;simp[Value.ownBlock]at hb;subst hb;exact ia hc
theorem St.cF {T:TypeId}{size:Nat}(h:St K w cs):St K w (az (.slice none 0 0) T size 0 []::cs):=by
 refine St.vD (ms:=[]) (ms' := [az (.slice none 0 0) T size 0 []]) (F:=cs) h (eI.refl _ _) (fun c hc=>?_) (fun b hb=>?_) ?_
 ·simp at hc;subst hc;exact World.ownsRow_nil w 0 T size
 ·simp[cR,az,Value.ownBlock]at hb
 ·simp[cR,az,Value.ownBlock]
theorem St.Qo {v:Value}{T:TypeId}{size n:Nat}{xs:List Value}(h:St K w (az v T size n xs::F))(hn:0<n) :
  ∃(g cap:Nat) (cur:Array Value),v=.slice (some ⟨g,0,none⟩) n cap/\n<=cap/\cap<=maxLen/\cur.size=cap*size/\xs.length=n*size/\(∀(j:Nat) (x:Value),xs[j]?=some x->cur[j]?=some x)/\St K w (blk g (.cells cur T)::F):=by
 obtain⟨hl,k⟩:=h.head;rcases k with⟨_,h0⟩|⟨g,cap,cur,hv,hB,hc,h1,h2,h3,h4⟩
 ·omega
 ·refine⟨g,cap,cur,hv,h1,h2,h3,hl,fun j x hx=>?_,?_⟩
  ·rw[←h4,List.getElem?_take]at hx
   split at hx
   ·simpa using hx
   ·cases hx
  ·exact h.zM (c' := blk g (.cells cur T)) (eI.refl _ _) hc (by simp[az,blk,hv,Value.ownBlock])
theorem St.aH {v:Value}{T:TypeId}{size n:Nat}{xs:List Value}(h:St K w (az v T size n xs::F)) :
  ∃(a:Option Addr) (cap:Nat),v=.slice a n cap/\n<=cap/\(0<n->∃g cur,a=some ⟨g,0,none⟩/\w.heap[g]?=some (.cells cur T)/\∀(j:Nat) (x:Value),xs[j]?=some x->cur[j]?=some x):=by
 obtain⟨hl,k⟩:=h.head;rcases k with⟨hv,h0⟩|⟨g,cap,cur,hv,hB,hc,h1,h2,h3,h4⟩
 ·exact⟨none,0,by rw[hv,h0],by omega,fun h=>by omega⟩
 ·refine⟨_,cap,hv,h1,fun _=>⟨g,cur,rfl,hc,fun j x hx=>?_⟩⟩
  rw[←h4,List.getElem?_take]at hx;split at hx
  ·simpa using hx
  ·cases hx
theorem Qq (w:World)(l:List Value)(T:TypeId):∀j u,l[j]?=some u->(w.alloc (.cells l.toArray T)).cell? ((⟨w.heap.size,0,none⟩:Addr).add j)=some u:=by
 intro j u hu;have:(⟨w.heap.size,0,none⟩:Addr).add j=⟨w.heap.size,j,none⟩:=by
  unfold Addr.add;split
  ·rename_i h;rw[h]
  ·simp
 rw[this,bq (dU w _)];simpa using hu
theorem dF {ops:Array Oper}{rest:List Oper}{o:Oper}{a:Act}{Q:Exit->Act->World->Prop}(s x:Operand)(t e:TypeId)(v:Value)(n size bytes:Nat)(xs news:List Value)(z:Value)(i:TypeInfo)
  (hs:St K w (az v e size n xs::F))
  (hgd:o.guard=none) (ho:o.op=.call { callee:= .builtin .append,args:= #[s,x],argTypes:= #[t,t] })
  (ht:Tryz.prog.underlying t=some (.slice e)) (hi:Tryz.prog.info? e=some i) (hz:i.zero=some z) (hsize:i.size=size) (hby:i.bytes=bytes) (hzs:z.cells.size=size) (hsz:0<size)
  (hes:a.eval s=v) (hx:a.eval x=.slice (some ⟨w.heap.size,0,none⟩) 1 1) (hl:news.length=size) (h1:∀u,u∈news->u.oneCell'=true)
  (h63:n+1<=1099511627776) (Qu:bytes<=64)
  (h:∀v' w',St K w' (az v' e size (n+1) (xs++news)::F)->wpList Tryz.prog ops Q rest (a.put o.dst v') w'):wpList Tryz.prog ops Q (o::rest) a (w.alloc (.cells news.toArray e)):=by
 have hs2:=hs.pass (.cells news.toArray e);refine wpList_append_own_at (w.alloc (.cells news.toArray e)) hgd s x t ho 0 e i z size bytes ht hi hz hsize hby hzs hsz v n xs hes hs2.head ⟨w.heap.size,0,none⟩ 1 1 news hx (by omega) (Qq w news e) h1 (by unfold maxLen;omega) ?_ (by omega) ?_
 ·calc (n+1)*bytes<=1099511627776*64:=Nat.mul_le_mul h63 Qu
   _<=140737488355328:=by decide
 ·intro v' w' h2 hg h4 h5
  refine h v' w' ?_
  refine St.vD (ms:=[az v e size n xs]) (ms' := [az v' e size (n+1) (xs++news)]) (F:=F) hs2 ⟨hg.os,hg.tape,hg.output,hg.size,fun k hk hn=>hg.block k hk (fun e=>hn ?_)⟩ (fun c hc=>?_) (fun b hb=>?_) ?_
  ·simp[cR,az,←e]
  ·simp at hc;subst hc;exact h2
  ·have hb':b∈v'.ownBlock.toList:=by simpa[cR,az] using hb
   rcases h5 with h5|h5
   ·left;rw[h5]at hb';simpa[cR,az] using hb'
   ·rw[h5]at hb';simp at hb';subst hb';exact .inr (by simp)
  ·show(cR [az v' e size (n+1) (xs++news)]).Nodup
   simp only[cR,List.flatMap_cons,List.flatMap_nil,List.append_nil,az];cases v'.ownBlock <;> simp
theorem vG (z:Value)(n:Nat):madeCells #[z] n=Array.replicate n z:=by
 apply Array.toList_inj.1
 rw[toList_madeCells_one];simp
theorem Xc (t e:TypeId)(i:TypeInfo)(z:Value)(bytes:Nat)(ht:Tryz.prog.underlying t=some (.slice e))(hi:Tryz.prog.info? e=some i)(hz:i.zero=some z)(hsize:i.size=1)(hby:i.bytes=bytes)(hzs:z.cells= #[z])(hb:bytes<=64)(n:Nat)(hn:n<=1099511627776)(x:Int)(hx:x=n)(w:World) :
  (Instr.makeSlice t (.int .i64 x) (.int .i64 x)).run Tryz.prog w=.ok (.slice (some ⟨w.heap.size,0,none⟩) n n) (w.alloc (.cells (Array.replicate n z) e)):=by
 subst hx;have:=run_make w t e i _ ht hi hz .i64 .i64 (n:Int) n (by omega) (by omega) (by
  rw[hby];have h1:bytes*n<=64*1099511627776:=Nat.mul_le_mul hb hn;have h2:((bytes*n:Nat):Int)<=((64*1099511627776:Nat):Int):=by exact_mod_cast h1
  rw[Int.natCast_mul]at h2;omega) (by omega)
 rw[this,hsize,Int.toNat_natCast,Nat.mul_one,hzs,vG]
theorem St.new {ms:List aC}(hs:St K w cs)(hb:Below w.heap.size w w')(hok:∀c,c∈ms->c.ok w')(hf:∀b,b∈cR ms->w.heap.size<=b)(hn:(cR ms).Nodup):St K w' (ms++cs):=
 St.vD (ms:=[]) (ms' := ms) (F:=cs) hs (eI.of_below hb) hok (fun b h=> .inr (hf b h)) hn
theorem p7 {d:aR}(hd:d.Ok)(hs:St K w cs):Calls Tryz.prog 13 #[.agg #[.int .i64 d.th,.int .i64 d.sn,.int .i64 d.no,.int .i64 d.ch,.int .i64 d.re,.int .i64 d.fa,.int .u64 d.cl]] w fun e w' => ∃bm bc,e=.returned (.tuple #[.agg #[.int .i64 d.th,.int .i64 d.sn,.int .i64 d.no,.int .i64 d.ch,.int .i64 d.re,.int .i64 d.fa,.int .u64 d.cl],.pointer (some ⟨bm,0,none⟩)])/\St K w' (aJ bm bc (ck d) 0::cs):=by
 refine(vF d hd w).mono fun e w' ⟨bm,bc,he,hM,hb,h1,h2⟩=>⟨bm,bc,he,?_⟩
 refine hs.new (ms:=[aJ bm bc (ck d) 0]) hb (fun c hc=>by simp at hc;subst hc;exact hM) (fun b hb=>?_) ?_
 ·simp[cR,aJ]at hb;omega
 ·simp[cR,aJ];exact hM.ne
theorem St.cQ {a:Option Addr}{cap:Nat}{T:TypeId}{size n:Nat}{xs:List Value}(h:St K w (az (.slice a n cap) T size n xs::F)){j:Nat}{x:Value}(hx:xs[j]?=some x):∃g,a=some ⟨g,0,none⟩/\w.cell? ⟨g,j,none⟩=some x:=by
 obtain⟨a',cap',e,_,k⟩:=h.aH;have hn:0<n:=by
  rcases Nat.eq_zero_or_pos n with h0|h0
  ·have:=h.head.1
   rw[h0,Nat.zero_mul,List.length_eq_zero_iff]at this;rw[this]at hx;simp at hx
  ·exact h0
 obtain⟨g,cur,rfl,hc,hk⟩:=k hn;simp only[Value.slice.injEq]at e;exact⟨g,e.1,by rw[bq hc];exact hk j x hx⟩
theorem St.aaQ {b bm bc:Nat}{o:Obj}{L:List aO}{acc:Nat}(h:St K w (blk b o::aJ bm bc L acc::F)):b≠bm/\b≠bc:=by
 have:=h.nodup;simp only[cR,List.flatMap_cons,blk,aJ,List.cons_append,List.nil_append,List.nodup_cons,List.mem_cons,not_or]at this;exact⟨this.1.1,this.1.2.1⟩
end
def gN:aC:=⟨[],fun _=>True,fun _ _ _ _=>trivial,fun _ _ _ h=>by simp at h⟩
theorem St.empty {K:aL}{w:World}{F:List aC}(h:St K w F):St K w (gN::F):=
 h.vD (ms:=[]) (ms' := [gN]) (eI.refl _ _) (fun c hc=>by simp at hc;subst hc;trivial) (fun b hb=>by simp[cR,gN]at hb) (by simp[cR,gN])
theorem St.bK {K:aL}{w:World}{F:List aC}{g cap:Nat}{T:TypeId}{size n:Nat}{xs:List Value}(h:St K w (az (.slice (some ⟨g,0,none⟩) n cap) T size n xs::F)){j:Nat}{x:Value}(hx:xs[j]?=some x):w.cell? ⟨g,j,none⟩=some x:=by
 obtain⟨g',e,k⟩:=h.cQ hx;simp only[Option.some.injEq,Addr.mk.injEq,and_true]at e;rw[e];exact k
theorem sw {P:Program}(w:World)(t ty e:TypeId)(i:TypeInfo)(ht:P.underlying t=some (.slice e))(hi:P.info? e=some i)(b:Option Addr)(n cap c:Nat)(h:n<=cap) :
  (Builtin.append_ #[t,t] ty #[.slice b n cap,.slice none 0 c]).run P w=.ok (.slice b n cap) w:=by
 cases b <;> simp[Builtin.append_,run_underlying ht,sizeOf,typeInfo,hi,Builtin.lenOf,Builtin.firstCells,h,storeCells]
section
variable {K:aL}{w:World}{F:List aC}
theorem St.lS {b n size:Nat}{xs:List Value}{T:TypeId}(h:St K w (blk b (.cells xs.toArray T)::F))(hl:xs.length=n*size)(hn:n<=maxLen):St K w (az (.slice (some ⟨b,0,none⟩) n n) T size n xs::F):=by
 refine h.zM (c' := az (.slice (some ⟨b,0,none⟩) n n) T size n xs) (eI.refl _ _) ⟨hl,.inr ⟨b,n,xs.toArray,rfl,Nat.zero_le _,h.head,Nat.le_refl _,hn,by simpa using hl,?_⟩⟩ (by simp[az,blk,Value.ownBlock])
 rw[←hl];simp
theorem cG {ops:Array Oper}{rest:List Oper}{o:Oper}{a:Act}{Q:Exit->Act->World->Prop}(s x:Operand)(t e:TypeId)(v:Value)(n m c size bytes:Nat)(xs news:List Value)(z:Value)(i:TypeInfo)(ao:Option Addr)
  (hs:St K w (az v e size n xs::F))
  (hgd:o.guard=none) (ho:o.op=.call { callee:= .builtin .append,args:= #[s,x],argTypes:= #[t,t] })
  (ht:Tryz.prog.underlying t=some (.slice e)) (hi:Tryz.prog.info? e=some i) (hz:i.zero=some z) (hsize:i.size=size) (hby:i.bytes=bytes) (hzs:z.cells.size=size) (hsz:0<size)
  (hes:a.eval s=v) (hx:a.eval x=.slice ao m c) (hl:news.length=m*size) (h0:ao=none->m=0)
  (hnews:∀j u,news[j]?=some u->∃g off,ao=some ⟨g,off,none⟩/\w.cell? ⟨g,off+j,none⟩=some u) (h1:∀u,u∈news->u.oneCell'=true)
  (h63:n+m<=1099511627776) (Qu:bytes<=64)
  (h:∀v' w',St K w' (az v' e size (n+m) (xs++news)::F)->wpList Tryz.prog ops Q rest (a.put o.dst v') w'):wpList Tryz.prog ops Q (o::rest) a w:=by
 have hbytes:(n+m)*bytes<=140737488355328:=by
  calc (n+m)*bytes<=1099511627776*64:=Nat.mul_le_mul h63 Qu
   _<=140737488355328:=by decide
 have key:∃v' w',(Builtin.append_ #[t,t] o.type #[v,.slice ao m c]).run Tryz.prog w=.ok v' w' /\ St K w' (az v' e size (n+m) (xs++news)::F):=by
  rcases Nat.eq_zero_or_pos m with hm|hm
  ·subst hm
   have hnil:news=[]:=List.eq_nil_of_length_eq_zero (by simpa using hl)
   subst hnil;obtain⟨a',cap',rfl,hle,_⟩:=hs.aH;refine⟨.slice a' n cap',w,?_,by simpa using hs⟩
   cases ao with
   | none=>exact sw w t o.type e i ht hi a' n cap' c hle
   | some ad=>cases a' <;> simp[Builtin.append_,run_underlying ht,sizeOf,typeInfo,hi,Builtin.lenOf,Builtin.firstCells,hle,storeCells,loadCells,loadCellsFrom]
  ·have hm0:ao≠none:=fun e=>by have:=h0 e;omega
   obtain⟨ad,rfl⟩:=Option.ne_none_iff_exists'.1 hm0;obtain⟨v',w',hr,h2,hg,h4,h5⟩:=run_append_own_at (P:=Tryz.prog) w 0 t o.type e i z size bytes ht hi hz hsize hby hzs hsz v n xs hs.head ad m c news hl (fun j u hu=>by
    obtain⟨g,off,e,hc⟩:=hnews j u hu;simp only[Option.some.injEq]at e;subst e;have:(⟨g,off,none⟩:Addr).add j=⟨g,off+j,none⟩:=by
     unfold Addr.add;split
     ·rename_i h;rw[h];rfl
     ·rfl
    rw[this];exact hc) h1 (by unfold maxLen;omega) hbytes (Nat.zero_le _)
   refine⟨v',w',hr,?_⟩;refine St.vD (ms:=[az v e size n xs]) (ms' := [az v' e size (n+m) (xs++news)]) (F:=F) hs ⟨hg.os,hg.tape,hg.output,hg.size,fun k hk hn=>hg.block k hk (fun e=>hn ?_)⟩ (fun c hc=>?_) (fun b hb=>?_) ?_
   ·simp[cR,az,←e]
   ·simp at hc;subst hc;exact h2
   ·have hb':b∈v'.ownBlock.toList:=by simpa[cR,az] using hb
    rcases h5 with h5|h5
    ·left;rw[h5]at hb';simpa[cR,az] using hb'
    ·rw[h5]at hb';simp at hb';subst hb';exact .inr (by simp)
   ·show(cR [az v' e size (n+m) (xs++news)]).Nodup
    simp only[cR,List.flatMap_cons,List.flatMap_nil,List.append_nil,az];cases v'.ownBlock <;> simp
 obtain⟨v',w',hr,hs'⟩:=key;refine wpList_plain hgd fun K hK=>?_
 unfold Oper.wp execOp;simp only[ho,resolve,invoke,builtin,Sem.run_bind,Sem.run_pure,Result.andThen_ok,List.map_toArray,List.map_cons,List.map_nil,hes,hx,hr];exact hK _ _ (h v' w' hs')
end
theorem Qv (f:Nat)(x y:Array Value)(w:World):(binOp .neq 121 (.func (.func f) x y) .nilFunc).run Tryz.prog w=.ok (.bool true) w:=by kernel_rfl
theorem Ra (f:Nat)(x y:Array Value)(w:World):(binOp .eql 121 (.func (.func f) x y) .nilFunc).run Tryz.prog w=.ok (.bool false) w:=by kernel_rfl
theorem zU (w:World):(binOp .neq 121 .nilFunc .nilFunc).run Tryz.prog w=.ok (.bool false) w:=by kernel_rfl
theorem zV (w:World):(binOp .eql 121 .nilFunc .nilFunc).run Tryz.prog w=.ok (.bool true) w:=by kernel_rfl
attribute [go_sem] Qv Ra zU zV
theorem zW (n m:Int)(k:ByteArray)(w:World):(Instr.field 63 (.agg #[.int .u64 n,.string k,.int .u64 m]) 0).run Tryz.prog w=.ok (.int .u64 n) w:=by kernel_rfl
theorem zX (n m:Int)(k:ByteArray)(w:World):(Instr.field 63 (.agg #[.int .u64 n,.string k,.int .u64 m]) 1).run Tryz.prog w=.ok (.string k) w:=by kernel_rfl
theorem zY (n m:Int)(k:ByteArray)(w:World):(Instr.field 63 (.agg #[.int .u64 n,.string k,.int .u64 m]) 2).run Tryz.prog w=.ok (.int .u64 m) w:=by kernel_rfl
attribute [go_sem] zW zX zY
theorem fq (f:Nat)(x y:Array Value)(w:World):Calls Tryz.prog 73 #[.func (.func f) x y] w fun e w' => e=.returned (.agg #[.func (.func f) x y,.bool true])/\Below w.heap.size w w' := by
 go_enter Tryz.func73,Tryz.ntmps73
 go_wp2
 refine bodyPost_ret (v:= .agg #[.func (.func f) x y,.bool true]) (by simp[results,Tryz.results73,go_sem]) rfl ⟨rfl,?_⟩
 exact(Below.refl _ _).alloc (Nat.le_refl _) _
set_option maxRecDepth 100000 in
theorem p8 (w:World)(b m:Nat)(hc:w.cell? ⟨b,0,none⟩=some .nilFunc):Calls Tryz.prog 77 #[.pointer (some ⟨b,0,none⟩),.pointer (some ⟨m,0,none⟩)] w fun e w' => e=.returned (.bool true)/\w=w' := by
 go_enter Tryz.func77,Tryz.ntmps77
 go_wp2
 go_ret;exact⟨rfl,rfl⟩
def Enters (f:Nat):Prop:=∀(args:Array Value) (w:World),(callFunc f args).run Tryz.prog w=.ok (.enter f args) w
set_option maxRecDepth 100000 in
theorem tO {R:World->Prop}(w:World)(b m f g:Nat)(p:Addr)(hf:Enters f)(hc:w.cell? ⟨b,0,none⟩=some (.func (.func f) #[.pointer (some p)] #[]))
  (hcall:Calls Tryz.prog f #[.pointer (some p),.pointer (some ⟨m,0,none⟩)] w fun e w1=>e=.returned (.func (.func g) #[.pointer (some p)] #[])/\R w1)
  (hk:∀w1,R w1->∃v cs T,w1.heap[b]?=some (.cells cs T)/\cs[0]?=some v) :
  Calls Tryz.prog 77 #[.pointer (some ⟨b,0,none⟩),.pointer (some ⟨m,0,none⟩)] w fun e w' => e=.returned (.bool false)/\∃w1,R w1/\w'=w1.setCell ⟨b,0,none⟩ (.func (.func g) #[.pointer (some p)] #[]):=by
 have hf' : ∀(args:Array Value) (w:World),(callFunc f args).run Tryz.prog w=.ok (.enter f args) w:=hf;have HC:=aq3 hcall;have HK:=aq3 hk;clear hcall hk;go_enter Tryz.func77,Tryz.ntmps77
 go_wp2_with fail
 refine(HC.out).mono ?_
 rintro e w1 ⟨rfl,hR⟩;obtain⟨v,cs,T,hb,hv⟩:=HK.out w1 hR;have hcell:w1.cell? ⟨b,0,none⟩=some v:=by rw[bq hb];exact hv
 have hfr:=dK hb 0;have aaR:(w1.setCell ⟨b,0,none⟩ (.func (.func g) #[.pointer (some p)] #[])).cell? ⟨b,0,none⟩=some (.func (.func g) #[.pointer (some p)] #[]):=World.cell?_setCell_same _ _ _ hcell;clear hb hc hf' hv;go_wp2
 go_ret;exact⟨rfl,w1,hR,rfl⟩
set_option maxRecDepth 100000 in
theorem rH {R:World->Prop}(w:World)(b m f:Nat)(p:Addr)(hf:Enters f)(hc:w.cell? ⟨b,0,none⟩=some (.func (.func f) #[.pointer (some p)] #[]))
  (hcall:Calls Tryz.prog f #[.pointer (some p),.pointer (some ⟨m,0,none⟩)] w fun e w1=>e=.returned .nilFunc/\R w1)
  (hk:∀w1,R w1->∃v cs T,w1.heap[b]?=some (.cells cs T)/\cs[0]?=some v) :
  Calls Tryz.prog 77 #[.pointer (some ⟨b,0,none⟩),.pointer (some ⟨m,0,none⟩)] w fun e w' => e=.returned (.bool true)/\∃w1,R w1/\w'=w1.setCell ⟨b,0,none⟩ .nilFunc:=by
 have hf' : ∀(args:Array Value) (w:World),(callFunc f args).run Tryz.prog w=.ok (.enter f args) w:=hf;have HC:=aq3 hcall;have HK:=aq3 hk;clear hcall hk;go_enter Tryz.func77,Tryz.ntmps77
 go_wp2_with fail
 refine(HC.out).mono ?_
 rintro e w1 ⟨rfl,hR⟩;obtain⟨v,cs,T,hb,hv⟩:=HK.out w1 hR;have hcell:w1.cell? ⟨b,0,none⟩=some v:=by rw[bq hb];exact hv
 have hfr:=dK hb 0;have aaR:(w1.setCell ⟨b,0,none⟩ .nilFunc).cell? ⟨b,0,none⟩=some .nilFunc:=World.cell?_setCell_same _ _ _ hcell;clear hb hc hf' hv;go_wp2
 go_ret;exact⟨rfl,w1,hR,rfl⟩
structure FV where
 f:Nat
 x:Array Value
 y:Array Value
def aW:Option FV->Value
 | some s=> .func (.func s.f) s.x s.y
 | none=> .nilFunc
structure Left where
 o:Option FV
 K:aL
 v0:Value
 cells:List Value
 T:TypeId
 F:List aC
theorem oT {R:Left->Prop}(w:World)(b m:Nat)(s:FV)(hf:Enters s.f)(hc:w.cell? ⟨b,0,none⟩=some (aW (some s)))
  (hcall:Calls Tryz.prog s.f (s.x ++ #[.pointer (some ⟨m,0,none⟩)]++s.y) w fun e w1=>∃l,e=.returned (aW l.o)/\R l/\St l.K w1 (blk b (.cells (l.v0::l.cells).toArray l.T)::l.F)) :
  Calls Tryz.prog 77 #[.pointer (some ⟨b,0,none⟩),.pointer (some ⟨m,0,none⟩)] w fun e w' => ∃l,e=.returned (.bool l.o.isNone)/\R l/\St l.K w' (blk b (.cells (aW l.o::l.cells).toArray l.T)::l.F):=by
 have hf' : ∀(args:Array Value) (w:World),(callFunc s.f args).run Tryz.prog w=.ok (.enter s.f args) w:=hf;have HC:=aq3 hcall;obtain⟨f,x,y⟩:=s;have hc':w.cell? ⟨b,0,none⟩=some (.func (.func f) x y):=hc;clear hcall hc;go_enter Tryz.func77,Tryz.ntmps77
 go_wp2_with fail
 refine(HC.out).mono ?_
 rintro e w1 ⟨⟨o,K,v0,cells,T,F⟩,he,hR,hs⟩;have hs:St K w1 (blk b (.cells (v0::cells).toArray T)::F):=hs;have k:=hs.k0 0;rw[show(v0::cells).toArray[0]?=some v0 by simp]at k
 have kf:=hs.f0 0;have hs:=hs.aI 0 (aW o);have k' := hs.k0 0;rw[show((v0::cells).set 0 (aW o)).toArray[0]?=some (aW o)by simp]at k'
 simp only[List.set_cons_zero]at hs;clear hc' hf' HC;cases o with
 | none=>
  obtain rfl:e=.returned .nilFunc:=he;have k2:(w1.setCell ⟨b,0,none⟩ .nilFunc).cell? ⟨b,0,none⟩=some .nilFunc:=k';have Hs:=aq3 hs;clear k' hs;go_wp2
  go_ret;exact⟨⟨none,K,v0,cells,T,F⟩,rfl,hR,Hs.out⟩
 | some s=>
  obtain⟨f',x',y'⟩:=s;obtain rfl:e=.returned (.func (.func f') x' y'):=he;have k2:(w1.setCell ⟨b,0,none⟩ (.func (.func f') x' y')).cell? ⟨b,0,none⟩=some (.func (.func f') x' y'):=k';have Hs:=aq3 hs;clear k' hs;go_wp2
  go_ret;exact⟨⟨some ⟨f',x',y'⟩,K,v0,cells,T,F⟩,rfl,hR,Hs.out⟩
theorem m8 {K:aL}{w:World}{cs:List aC}{b m:Nat}(hs:St K w cs)(hc:w.cell? ⟨b,0,none⟩=some .nilFunc):Calls Tryz.prog 77 #[.pointer (some ⟨b,0,none⟩),.pointer (some ⟨m,0,none⟩)] w fun e w' => e=.returned (.bool true)/\St K w' cs:=
 mX hs (p8 w b m hc)
def bE (x:Int):Int:=if x%4<2 then x+2 else x
def p9 (x:Int):Int:=if x%4<2 then x else x-2
def dM (x:Int):Int:=IntKind.u64.wrap (p9 x+4)
def aN (x:Int):Int:=if x%2=0 then x+1 else x
def aG (x:Int):Int:=x-x%2
def bW (x:Int):Bool:=decide (2<=x%4)
theorem Jr (n:Nat):n ||| 2=if n%4<2 then n+2 else n:=by
 obtain⟨q,r,hr,rfl⟩:∃q r,r<4/\n=4*q+r:=⟨n / 4,n%4,Nat.mod_lt _ (by decide),(Nat.div_add_mod n 4).symm⟩
 have e:4*q+r=2 ^ 2*q ||| r:=Nat.two_pow_add_eq_or_of_lt (i:=2) hr q;rw[show(4*q+r)%4=r by omega]
 rw[show 4*q+r ||| 2=2 ^ 2*q ||| (r ||| 2)by rw[e,Nat.or_assoc]]
 have h4:r ||| 2<4:=Nat.or_lt_two_pow (n:=2) hr (by decide)
 rw[←Nat.two_pow_add_eq_or_of_lt (i:=2) h4 q];match r,hr with
 | 0,_=>simp
 | 1,_=>simp
 | 2,_=>simp
 | 3,_=>simp
theorem zZ (n:Nat):n &&& 2=if n%4<2 then 0 else 2:=by
 have h:n &&& 2=(n%4) &&& 2:=by
  rw[show(4:Nat)=2 ^ 2 by rfl,←Nat.and_two_pow_sub_one_eq_mod,Nat.and_assoc];rfl
 rw[h];have:n%4<4:=Nat.mod_lt _ (by decide)
 generalize n%4=r at *;match r,this with
 | 0,_=>simp
 | 1,_=>simp
 | 2,_=>simp
 | 3,_=>simp
theorem Js (n:Nat):n ||| 1=if n%2=0 then n+1 else n:=by
 obtain⟨q,r,hr,rfl⟩:∃q r,r<2/\n=2*q+r:=⟨n / 2,n%2,Nat.mod_lt _ (by decide),(Nat.div_add_mod n 2).symm⟩
 have e:2*q+r=2 ^ 1*q ||| r:=Nat.two_pow_add_eq_or_of_lt (i:=1) hr q;rw[show(2*q+r)%2=r by omega]
 rw[show 2*q+r ||| 1=2 ^ 1*q ||| (r ||| 1)by rw[e,Nat.or_assoc]]
 have h4:r ||| 1<2:=Nat.or_lt_two_pow (n:=1) hr (by decide)
 rw[←Nat.two_pow_add_eq_or_of_lt (i:=1) h4 q];match r,hr with
 | 0,_=>simp
 | 1,_=>simp
section
variable (x:Int)(h0:0<=x)(h1:x<18446744073709551616)
include h0 h1
theorem Rb:bits .or .u64 x 2=bE x:=by
 obtain⟨a,rfl⟩:=Int.eq_ofNat_of_zero_le h0;have:=(bits_nat .u64 64 (by decide) (fun n a b=>by rw[IntKind.wrap_u64];omega) a 2 (by omega) (by decide)).2
 rw[show((2:Nat):Int)=2 by rfl]at this
 rw[this,Jr];unfold bE;split <;> split <;> omega
theorem Rc:bits .or .u64 x 1=aN x:=by
 obtain⟨a,rfl⟩:=Int.eq_ofNat_of_zero_le h0;have:=(bits_nat .u64 64 (by decide) (fun n a b=>by rw[IntKind.wrap_u64];omega) a 1 (by omega) (by decide)).2
 rw[show((1:Nat):Int)=1 by rfl]at this
 rw[this,Js];unfold aN;split <;> split <;> omega
theorem Lu:(bits .and .u64 x 2 != 0)=bW x:=by
 obtain⟨a,rfl⟩:=Int.eq_ofNat_of_zero_le h0;have:=(bits_nat .u64 64 (by decide) (fun n a b=>by rw[IntKind.wrap_u64];omega) a 2 (by omega) (by decide)).1
 rw[show((2:Nat):Int)=2 by rfl]at this
 rw[this,zZ];unfold bW;split
 ·simp;omega
 ·simp;omega
omit h0 h1 in
theorem Re (a b:BitVec 64):((a &&& ~~~b) ||| (a &&& b))=a/\(a &&& ~~~b) &&& b=0#64:=by
 constructor
 ·ext i hi
  simp;cases a[i] <;> cases b[i] <;> simp
 ·ext i hi
  simp
omit h0 h1 in
theorem wS (n b:Nat)(hn:n<2 ^ 64)(hb:b<2 ^ 64):∃m:Nat,bits .andNot .u64 n b=(m:Int)/\(m ||| (n &&& b))=n/\m &&& b=0/\m<2 ^ 64:=by
 obtain⟨h1,h2⟩:=Re (BitVec.ofNat 64 n) (BitVec.ofNat 64 b);refine⟨(BitVec.ofNat 64 n &&& ~~~(BitVec.ofNat 64 b)).toNat,?_,?_,?_,BitVec.isLt _⟩
 ·simp only[bits,BitVec.ofInt_natCast]
  show IntKind.u64.wrap _=_
  rw[IntKind.wrap_u64];have:=(BitVec.ofNat 64 n &&& ~~~(BitVec.ofNat 64 b)).isLt;show((BitVec.ofNat 64 n &&& ~~~(BitVec.ofNat 64 b)).toNat:Int)%18446744073709551616=((BitVec.ofNat 64 n &&& ~~~(BitVec.ofNat 64 b)).toNat:Int)
  generalize (BitVec.ofNat 64 n &&& ~~~(BitVec.ofNat 64 b)).toNat=t at *;omega
 ·have:=congrArg BitVec.toNat h1
  rw[BitVec.toNat_or,BitVec.toNat_and (BitVec.ofNat 64 n) (BitVec.ofNat 64 b)]at this;rw[BitVec.toNat_ofNat,BitVec.toNat_ofNat,Nat.mod_eq_of_lt hn,Nat.mod_eq_of_lt hb]at this;exact this
 ·have:=congrArg BitVec.toNat h2
  rw[BitVec.toNat_and (BitVec.ofNat 64 n &&& ~~~(BitVec.ofNat 64 b)),BitVec.toNat_ofNat b 64,Nat.mod_eq_of_lt hb]at this;rw[this];rfl
theorem z8:bits .andNot .u64 x 2=p9 x:=by
 obtain⟨a,rfl⟩:=Int.eq_ofNat_of_zero_le h0;obtain⟨m,e,h2,h3,_⟩:=wS a 2 (by omega) (by decide)
 rw[show((2:Nat):Int)=2 by rfl]at e
 rw[e];rw[zZ]at h2 h3;have hm:m%4<2:=by split at h3 <;> omega
 unfold p9;split at h2
 ·simp at h2
  subst h2;split <;> omega
 ·rw[Jr,if_pos hm]at h2
  split <;> omega
theorem Aa:bits .andNot .u64 x 1=aG x:=by
 obtain⟨a,rfl⟩:=Int.eq_ofNat_of_zero_le h0;obtain⟨m,e,h2,h3,_⟩:=wS a 1 (by omega) (by decide)
 rw[show((1:Nat):Int)=1 by rfl]at e
 rw[e];rw[Nat.and_one_is_mod]at h2 h3;unfold aG;have:a%2=0\/a%2=1:=by omega
 rcases this with h|h
 ·rw[h]at h2;simp at h2;subst h2;omega
 ·rw[h,Js,if_pos h3]at h2;omega
theorem Ab (w:World):Calls Tryz.prog 92 #[.int .u64 x] w fun e w' => e=.returned (.int .u64 (bE x))/\w=w' := by
 have e:=Rb x h0 h1;go_enter Tryz.func92,Tryz.ntmps92
 go_wp2
 go_ret;exact⟨rfl,rfl⟩
theorem tP (w:World):Calls Tryz.prog 30 #[.int .u64 x] w fun e w' => e=.returned (.int .u64 (aN x))/\w=w' := by
 have e:=Rc x h0 h1;go_enter Tryz.func30,Tryz.ntmps30
 go_wp2
 go_ret;exact⟨rfl,rfl⟩
theorem jI (w:World):Calls Tryz.prog 80 #[.int .u64 x] w fun e w' => e=.returned (.int .u64 (aG x))/\w=w' := by
 have e:=Aa x h0 h1;go_enter Tryz.func80,Tryz.ntmps80
 go_wp2
 go_ret;exact⟨rfl,rfl⟩
theorem tQ (w:World):Calls Tryz.prog 190 #[.int .u64 x] w fun e w' => e=.returned (.bool (bW x))/\w=w' := by
 have e:=Lu x h0 h1;go_enter Tryz.func190,Tryz.ntmps190
 go_wp2
 go_ret;exact⟨rfl,rfl⟩
theorem Lv (w:World):Calls Tryz.prog 93 #[.int .u64 x] w fun e w' => e=.returned (.int .u64 (dM x))/\w=w' := by
 have e:=z8 x h0 h1;have e2:IntKind.u64.wrap (p9 x+4)=dM x:=rfl;go_enter Tryz.func93,Tryz.ntmps93
 go_wp2
 go_ret;exact⟨rfl,rfl⟩
theorem Fe (y:Int)(h2:0<=y)(h3:y<18446744073709551616)(w:World):Calls Tryz.prog 193 #[.int .u64 x,.int .u64 y] w fun e w' => e=.returned (.bool (aG x == aG y))/\w=w' := by
 have Q1:=fun w=>jI x h0 h1 w
 have Q2:=fun w=>jI y h2 h3 w
 go_enter Tryz.func193,Tryz.ntmps193
 go_wp2_with fail
 refine(Q1 _).mono ?_
 rintro e w1 ⟨rfl,rfl⟩;go_wp2_with fail
 refine(Q2 _).mono ?_
 rintro e w1 ⟨rfl,rfl⟩;go_wp2
 go_ret;exact⟨rfl,rfl⟩
end
end Go.Proofs.YtlpdhhhgckpcfaaGreat
