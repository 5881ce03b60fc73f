/- The xc of the Ac functions (layer 3. -/
import Derived.Test.YtlpdhhhgckpcfaaGreatStA
import Derived.Deep.DeepCutAuto
import Derived.Maps.AppendAt
import Derived.Laws.EntriesVeiled
import Derived.Laws.BitsLemmas
namespace Go.Proofs.YtlpdhhhgckpcfaaGreat
set_option linter.unusedSimpArgs false
set_option linter.unusedVariables false
open Go.RowKit
set_option maxHeartbeats 16000000
structure aU where
 th:Int
 sn:Int
 no:Int
 ch:Int
 re:Int
 fa:Int
 cl:Int
structure aU.Ok (c:aU):Prop where
 th1:1<=c.th
 th2:c.th<=64
 sn1:1<=c.sn
 sn2:c.sn<=8
 Ke:1<=c.no
 m6:c.no<=4096
 ch1:1<=c.ch
 ch2:c.ch<=16384
 re1:1<=c.re
 re2:c.re<=65536
 fy:4<=c.fa
 m7:c.fa<=32
 cl1:1<=c.cl
 cl2:c.cl<=1099511627776
def aU.A (c:aU):Int:=8+c.th*c.sn
def aU.B (c:aU):Int:=c.A+c.no*(c.fa+4)
def aU.C (c:aU):Int:=c.B+c.ch
def aU.cells (c:aU):Int:=c.C+3*c.re
theorem yf {a b m n:Int}(h0:0<=a)(h1:a<=m)(f:0<=b)(g:b<=n):0<=a*b/\a*b<=m*n:=
 ⟨Int.mul_nonneg h0 f,Int.mul_le_mul h1 g f (by omega)⟩
theorem aU.Ok.ts {c:aU}(h:c.Ok):0<=c.th*c.sn/\c.th*c.sn<=512:=by
 have:=yf (a:=c.th) (b:=c.sn) (m:=64) (n:=8) (by have:=h.th1;omega) h.th2 (by have:=h.sn1;omega) h.sn2
 omega
theorem aU.Ok.nf {c:aU}(h:c.Ok):0<=c.no*(c.fa+4)/\c.no*(c.fa+4)<=147456:=by
 have:=yf (a:=c.no) (b:=c.fa+4) (m:=4096) (n:=36) (by have:=h.Ke;omega) h.m6 (by have:=h.fy;omega) (by have:=h.m7;omega)
 omega
theorem aU.Ok.eN {c:aU}(h:c.Ok):8<=c.A/\c.A<=520:=by unfold aU.A;have:=h.ts;omega
theorem aU.Ok.jZ {c:aU}(h:c.Ok):c.A<=c.B/\c.B<=147976:=by unfold aU.B;have:=h.eN;have:=h.nf;omega
theorem aU.Ok.oD {c:aU}(h:c.Ok):c.B<=c.C/\c.C<=164360:=by unfold aU.C;have:=h.jZ;have:=h.ch1;have:=h.ch2;omega
theorem aU.Ok.eF {c:aU}(h:c.Ok):c.C<=c.cells/\c.cells<=360968:=by unfold aU.cells;have:=h.oD;have:=h.re1;have:=h.re2;omega
def aU.node (c:aU)(n k:Int):Int:=if 1<=n/\n<=c.no then c.A+(n-1)*(c.fa+4)+k else -1
def aU.slot (c:aU)(n i:Int):Int:=if 0<=i/\i<c.fa then c.node n (4+i)else -1
def aU.chain (c:aU)(n:Int):Int:=if 1<=n/\n<=c.ch then c.B+(n-1)else -1
def aU.record (c:aU)(n k:Int):Int:=if 1<=n/\n<=c.re then c.C+3*(n-1)+k else -1
theorem yg {k n:Int}(a:1<=n):k%n=if k.tmod n<0 then k.tmod n+n else k.tmod n:=by
 rw[Int.tmod_eq_emod];have h1:=Int.emod_nonneg k (b:=n) (by omega)
 have f:=Int.emod_lt_of_pos k (b:=n) (by omega)
 have g:(n.natAbs:Int)=n:=by omega
 split <;> split <;> omega
theorem Yi {k n:Int}(f:1<=n) : -n<k.tmod n/\k.tmod n<n:=by
 rw[Int.tmod_eq_emod];have h1:=Int.emod_nonneg k (b:=n) (by omega)
 have g:=Int.emod_lt_of_pos k (b:=n) (by omega)
 have i:(n.natAbs:Int)=n:=by omega
 split
 ·omega
 ·rename_i h
  have:k%n≠0:=fun a=>h (.inr (Int.dvd_of_emod_eq_zero a))
  omega
theorem Yj (k n:Int)(a:1<=n)(b:n<=1000000)(w:World) :
  Calls Tryz.prog 25 #[.int .i64 k,.int .i64 n] w fun e w' => e=.returned (.int .i64 (k%n))/\w=w' := by
 have f:(n == 0)=false:=by simp;omega
 have g:=Yi (k:=k) a;have he:=ass (yg (k:=k) a);by_cases h:k.tmod n<0
 ·go_enter Tryz.func25,Tryz.ntmps25
  go_wp2
  go_ret;exact⟨by rw[he.out,if_pos h];rfl,rfl⟩
 ·go_enter Tryz.func25,Tryz.ntmps25
  go_wp2
  go_ret;exact⟨by rw[he.out,if_neg (by omega)];rfl,rfl⟩
def btw (n lo hi:Int):Bool:=decide (lo<=n) && decide (n<=hi)
theorem rP (n lo hi:Int)(w:World) :
  Calls Tryz.prog 157 #[.int .i64 n,.int .i64 lo,.int .i64 hi] w fun e w' => e=.returned (.bool (btw n lo hi))/\w=w' := by
 unfold btw;by_cases h:lo<=n
 ·go_enter Tryz.func157,Tryz.ntmps157
  go_wp2
  go_ret;exact⟨by simp[h],rfl⟩
 ·have a:decide (lo<=n)=false:=by simpa using h
  go_enter Tryz.func157,Tryz.ntmps157
  go_wp2
  go_ret;exact⟨by simp,rfl⟩
theorem rQ (n lo hi:Int)(h1:lo<=n)(a:n<=hi)(w:World) :
  Calls Tryz.prog 157 #[.int .i64 n,.int .i64 lo,.int .i64 hi] w fun e w' => e=.returned (.bool true)/\w=w' := by
 have e:btw n lo hi=true:=by unfold btw;simp[h1,a]
 have h:=rP n lo hi w;rw[e]at h;exact h
theorem Fy (n lo hi:Int)(h1:n<lo\/hi<n)(w:World) :
  Calls Tryz.prog 157 #[.int .i64 n,.int .i64 lo,.int .i64 hi] w fun e w' => e=.returned (.bool false)/\w=w' := by
 have e:btw n lo hi=false:=by unfold btw;simp;omega
 have h:=rP n lo hi w;rw[e]at h;exact h
theorem oL (c:aU)(hc:c.Ok)(w:World):Calls Tryz.prog 151 #[.agg #[.int .i64 c.th,.int .i64 c.sn,.int .i64 c.no,.int .i64 c.ch,.int .i64 c.re,.int .i64 c.fa,.int .u64 c.cl]] w fun e w' => e=.returned (.int .i64 c.A)/\Below w.heap.size w w' := by
 obtain⟨h1,a⟩:=hc.ts;go_enter Tryz.func151,Tryz.ntmps151
 go_wp2
 go_ret;exact⟨rfl,(Below.refl _ _).alloc (Nat.le_refl _) _⟩
theorem tV (c:aU)(hc:c.Ok)(w:World):Calls Tryz.prog 81 #[.agg #[.int .i64 c.th,.int .i64 c.sn,.int .i64 c.no,.int .i64 c.ch,.int .i64 c.re,.int .i64 c.fa,.int .u64 c.cl]] w fun e w' => e=.returned (.int .i64 c.A)/\Below w.heap.size w w' := by
 obtain⟨h1,a⟩:=hc.ts;go_enter Tryz.func81,Tryz.ntmps81
 go_wp2
 go_ret;exact⟨rfl,(Below.refl _ _).alloc (Nat.le_refl _) _⟩
theorem tW (c:aU)(hc:c.Ok)(w:World):Calls Tryz.prog 179 #[.agg #[.int .i64 c.th,.int .i64 c.sn,.int .i64 c.no,.int .i64 c.ch,.int .i64 c.re,.int .i64 c.fa,.int .u64 c.cl]] w fun e w' => e=.returned (.int .i64 c.B)/\Below w.heap.size w w' := by
 obtain⟨h1,b⟩:=hc.eN;obtain⟨f,g⟩:=hc.nf;have h:=hc.fy;have i:=hc.m7;go_enter Tryz.func179,Tryz.ntmps179
 go_wp2
 refine dK (by kernel_rfl) (by kernel_rfl) ?_
 repeat (go_big_quiet_step ((go_at_call 151;exact aZ (oL c hc _))))
 refine wpQuiet_nil ?_
 intro j a;go_wp2
 go_ret;exact⟨rfl,((Below.refl _ _).alloc (Nat.le_refl _) _).trans (a.mono (by simp))⟩
theorem Ae (c:aU)(hc:c.Ok)(w:World):Calls Tryz.prog 150 #[.agg #[.int .i64 c.th,.int .i64 c.sn,.int .i64 c.no,.int .i64 c.ch,.int .i64 c.re,.int .i64 c.fa,.int .u64 c.cl]] w fun e w' => e=.returned (.int .i64 c.B)/\Below w.heap.size w w' := by
 obtain⟨b,b1⟩:=hc.eN;obtain⟨b2,b3⟩:=hc.nf;have f:=hc.fy;have g:=hc.m7;go_enter Tryz.func150,Tryz.ntmps150
 go_wp2
 refine dK (by kernel_rfl) (by kernel_rfl) ?_
 repeat (go_big_quiet_step ((go_at_call 81;exact aZ (tV c hc _))))
 refine wpQuiet_nil ?_
 intro h a;go_wp2
 go_ret;exact⟨rfl,((Below.refl _ _).alloc (Nat.le_refl _) _).trans (a.mono (by simp))⟩
theorem sQ (c:aU)(hc:c.Ok)(w:World):Calls Tryz.prog 149 #[.agg #[.int .i64 c.th,.int .i64 c.sn,.int .i64 c.no,.int .i64 c.ch,.int .i64 c.re,.int .i64 c.fa,.int .u64 c.cl]] w fun e w' => e=.returned (.int .i64 c.C)/\Below w.heap.size w w' := by
 obtain⟨b,b1⟩:=hc.eN;obtain⟨b2,b3⟩:=hc.jZ;have f:=hc.ch1;have g:=hc.ch2;go_enter Tryz.func149,Tryz.ntmps149
 go_wp2
 refine dK (by kernel_rfl) (by kernel_rfl) ?_
 repeat (go_big_quiet_step ((go_at_call 179;exact aZ (tW c hc _))))
 refine wpQuiet_nil ?_
 intro h a;go_wp2
 go_ret;exact⟨rfl,((Below.refl _ _).alloc (Nat.le_refl _) _).trans (a.mono (by simp))⟩
theorem Af (c:aU)(hc:c.Ok)(w:World):Calls Tryz.prog 113 #[.agg #[.int .i64 c.th,.int .i64 c.sn,.int .i64 c.no,.int .i64 c.ch,.int .i64 c.re,.int .i64 c.fa,.int .u64 c.cl]] w fun e w' => e=.returned (.int .i64 c.C)/\Below w.heap.size w w' := by
 obtain⟨b,b1⟩:=hc.eN;obtain⟨b2,b3⟩:=hc.jZ;have f:=hc.ch1;have g:=hc.ch2;go_enter Tryz.func113,Tryz.ntmps113
 go_wp2
 refine dK (by kernel_rfl) (by kernel_rfl) ?_
 repeat (go_big_quiet_step ((go_at_call 150;exact aZ (Ae c hc _))))
 refine wpQuiet_nil ?_
 intro h a;go_wp2
 go_ret;exact⟨rfl,((Below.refl _ _).alloc (Nat.le_refl _) _).trans (a.mono (by simp))⟩
theorem Me (c:aU)(hc:c.Ok)(w:World):Calls Tryz.prog 110 #[.agg #[.int .i64 c.th,.int .i64 c.sn,.int .i64 c.no,.int .i64 c.ch,.int .i64 c.re,.int .i64 c.fa,.int .u64 c.cl]] w fun e w' => e=.returned (.int .i64 c.cells)/\Below w.heap.size w w' := by
 obtain⟨b,b1⟩:=hc.eN;obtain⟨b2,b3⟩:=hc.jZ;obtain⟨b4,b5⟩:=hc.oD;have f:=hc.re1;have g:=hc.re2;go_enter Tryz.func110,Tryz.ntmps110
 go_wp2
 refine dK (by kernel_rfl) (by kernel_rfl) ?_
 repeat (go_big_quiet_step ((go_at_call 149;exact aZ (sQ c hc _))))
 refine wpQuiet_nil ?_
 intro h a;go_wp2
 go_ret;exact⟨rfl,((Below.refl _ _).alloc (Nat.le_refl _) _).trans (a.mono (by simp))⟩
theorem yh (c:aU)(hc:c.Ok)(w:World):Calls Tryz.prog 68 #[.agg #[.int .i64 c.th,.int .i64 c.sn,.int .i64 c.no,.int .i64 c.ch,.int .i64 c.re,.int .i64 c.fa,.int .u64 c.cl]] w fun e w' => e=.returned (.int .i64 c.cells)/\Below w.heap.size w w' := by
 obtain⟨b,b1⟩:=hc.eN;obtain⟨b2,b3⟩:=hc.jZ;obtain⟨b4,b5⟩:=hc.oD;have f:=hc.re1;have g:=hc.re2;go_enter Tryz.func68,Tryz.ntmps68
 go_wp2
 refine dK (by kernel_rfl) (by kernel_rfl) ?_
 repeat (go_big_quiet_step ((go_at_call 113;exact aZ (Af c hc _))))
 refine wpQuiet_nil ?_
 intro h a;go_wp2
 go_ret;exact⟨rfl,((Below.refl _ _).alloc (Nat.le_refl _) _).trans (a.mono (by simp))⟩
theorem pZ (c:aU)(w:World):Calls Tryz.prog 111 #[.agg #[.int .i64 c.th,.int .i64 c.sn,.int .i64 c.no,.int .i64 c.ch,.int .i64 c.re,.int .i64 c.fa,.int .u64 c.cl]] w fun e w' => e=.returned (.int .i64 0)/\Below w.heap.size w w' := by
 go_enter Tryz.func111,Tryz.ntmps111
 go_wp2
 go_ret;exact⟨rfl,(Below.refl _ _).alloc (Nat.le_refl _) _⟩
theorem qY (c:aU)(w:World):Calls Tryz.prog 99 #[.agg #[.int .i64 c.th,.int .i64 c.sn,.int .i64 c.no,.int .i64 c.ch,.int .i64 c.re,.int .i64 c.fa,.int .u64 c.cl]] w fun e w' => e=.returned (.int .i64 4)/\Below w.heap.size w w' := by
 go_enter Tryz.func99,Tryz.ntmps99
 go_wp2
 go_ret;exact⟨rfl,(Below.refl _ _).alloc (Nat.le_refl _) _⟩
theorem Ag (c:aU)(w:World):Calls Tryz.prog 169 #[.agg #[.int .i64 c.th,.int .i64 c.sn,.int .i64 c.no,.int .i64 c.ch,.int .i64 c.re,.int .i64 c.fa,.int .u64 c.cl]] w fun e w' => e=.returned (.int .i64 7)/\Below w.heap.size w w' := by
 go_enter Tryz.func169,Tryz.ntmps169
 go_wp2
 go_ret;exact⟨rfl,(Below.refl _ _).alloc (Nat.le_refl _) _⟩
theorem m8 (c:aU)(hc:c.Ok)(n k:Int)(g:0<=n)(h:n<18446744073709551616)(i:0<=k)(j:k<=1000)(w:World):Calls Tryz.prog 114 #[.agg #[.int .i64 c.th,.int .i64 c.sn,.int .i64 c.no,.int .i64 c.ch,.int .i64 c.re,.int .i64 c.fa,.int .u64 c.cl],.int .u64 n,.int .i64 k] w fun e w' => e=.returned (.int .i64 (c.node n k))/\Below w.heap.size w w' := by
 have n1:=hc.Ke;have l:=hc.m6;have f1:=hc.fy;have f2:=hc.m7;by_cases h1:n<1
 ·have e:=ass (show c.node n k= -1 by unfold aU.node;rw[if_neg (by omega)])
  go_enter Tryz.func114,Tryz.ntmps114
  go_wp2
  go_ret;exact⟨by rw[e.out];rfl,(Below.refl _ _).alloc (Nat.le_refl _) _⟩
 ·by_cases o:c.no<n
  ·have e:=ass (show c.node n k= -1 by unfold aU.node;rw[if_neg (by omega)])
   go_enter Tryz.func114,Tryz.ntmps114
   go_wp2
   go_ret;exact⟨by rw[e.out];rfl,(Below.refl _ _).alloc (Nat.le_refl _) _⟩
  ·have e:=ass (show c.node n k=c.A+(n-1)*(c.fa+4)+k by unfold aU.node;rw[if_pos (by omega)])
   obtain⟨p,q⟩:=yf (a:=n-1) (b:=c.fa+4) (m:=4096) (n:=36) (by omega) (by omega) (by omega) (by omega)
   obtain⟨b1,b2⟩:=hc.eN;go_enter Tryz.func114,Tryz.ntmps114
   go_wp2
   refine dK (by kernel_rfl) (by kernel_rfl) ?_
   repeat (go_big_quiet_step ((go_at_call 151;exact aZ (oL c hc _))))
   refine wpQuiet_nil ?_
   intro r f;go_wp2
   go_ret;exact⟨by rw[e.out];rfl,((Below.refl _ _).alloc (Nat.le_refl _) _).trans (f.mono (by simp))⟩
theorem iG (c:aU)(hc:c.Ok)(n:Int)(a:0<=n)(b:n<18446744073709551616)(w:World):Calls Tryz.prog 69 #[.agg #[.int .i64 c.th,.int .i64 c.sn,.int .i64 c.no,.int .i64 c.ch,.int .i64 c.re,.int .i64 c.fa,.int .u64 c.cl],.int .u64 n] w fun e w' => e=.returned (.int .i64 (c.node n 0))/\Below w.heap.size w w' := by
 go_enter Tryz.func69,Tryz.ntmps69
 go_wp2_with fail
 refine(m8 c hc n 0 a b (by omega) (by omega) _).mono ?_
 rintro e g ⟨rfl,f⟩;go_wp2
 go_ret;exact⟨rfl,((Below.refl _ _).alloc (Nat.le_refl _) _).trans (f.mono (by simp))⟩
theorem tX (c:aU)(hc:c.Ok)(n:Int)(a:0<=n)(b:n<18446744073709551616)(w:World):Calls Tryz.prog 129 #[.agg #[.int .i64 c.th,.int .i64 c.sn,.int .i64 c.no,.int .i64 c.ch,.int .i64 c.re,.int .i64 c.fa,.int .u64 c.cl],.int .u64 n] w fun e w' => e=.returned (.int .i64 (c.node n 1))/\Below w.heap.size w w' := by
 go_enter Tryz.func129,Tryz.ntmps129
 go_wp2_with fail
 refine(m8 c hc n 1 a b (by omega) (by omega) _).mono ?_
 rintro e g ⟨rfl,f⟩;go_wp2
 go_ret;exact⟨rfl,((Below.refl _ _).alloc (Nat.le_refl _) _).trans (f.mono (by simp))⟩
theorem tY (c:aU)(hc:c.Ok)(n:Int)(a:0<=n)(b:n<18446744073709551616)(w:World):Calls Tryz.prog 112 #[.agg #[.int .i64 c.th,.int .i64 c.sn,.int .i64 c.no,.int .i64 c.ch,.int .i64 c.re,.int .i64 c.fa,.int .u64 c.cl],.int .u64 n] w fun e w' => e=.returned (.int .i64 (c.node n 2))/\Below w.heap.size w w' := by
 go_enter Tryz.func112,Tryz.ntmps112
 go_wp2_with fail
 refine(m8 c hc n 2 a b (by omega) (by omega) _).mono ?_
 rintro e g ⟨rfl,f⟩;go_wp2
 go_ret;exact⟨rfl,((Below.refl _ _).alloc (Nat.le_refl _) _).trans (f.mono (by simp))⟩
theorem qZ (c:aU)(hc:c.Ok)(n:Int)(a:0<=n)(b:n<18446744073709551616)(w:World):Calls Tryz.prog 128 #[.agg #[.int .i64 c.th,.int .i64 c.sn,.int .i64 c.no,.int .i64 c.ch,.int .i64 c.re,.int .i64 c.fa,.int .u64 c.cl],.int .u64 n] w fun e w' => e=.returned (.int .i64 (c.node n 3))/\Below w.heap.size w w' := by
 go_enter Tryz.func128,Tryz.ntmps128
 go_wp2_with fail
 refine(m8 c hc n 3 a b (by omega) (by omega) _).mono ?_
 rintro e g ⟨rfl,f⟩;go_wp2
 go_ret;exact⟨rfl,((Below.refl _ _).alloc (Nat.le_refl _) _).trans (f.mono (by simp))⟩
theorem Ai (c:aU)(hc:c.Ok)(n i:Int)(a:0<=n)(b:n<18446744073709551616)(w:World):Calls Tryz.prog 127 #[.agg #[.int .i64 c.th,.int .i64 c.sn,.int .i64 c.no,.int .i64 c.ch,.int .i64 c.re,.int .i64 c.fa,.int .u64 c.cl],.int .u64 n,.int .i64 i] w fun e w' => e=.returned (.int .i64 (c.slot n i))/\Below w.heap.size w w' := by
 have f1:=hc.fy;have f2:=hc.m7;by_cases h1:0<=i/\i<c.fa
 ·have e:=ass (show c.slot n i=c.node n (4+i)by unfold aU.slot;rw[if_pos h1])
  obtain⟨h,j⟩:=h1;go_enter Tryz.func127,Tryz.ntmps127
  go_wp2_with fail
  refine(rQ _ _ _ (by omega) (by omega) _).mono ?_
  rintro e g ⟨rfl,rfl⟩;go_wp2_with fail
  refine(m8 c hc n (4+i) a b (by omega) (by omega) _).mono ?_
  rintro e g ⟨rfl,f⟩;go_wp2
  go_ret;exact⟨by rw[e.out];rfl,((Below.refl _ _).alloc (Nat.le_refl _) _).trans (f.mono (by simp))⟩
 ·have e:=ass (show c.slot n i= -1 by unfold aU.slot;rw[if_neg h1])
  go_enter Tryz.func127,Tryz.ntmps127
  go_wp2_with fail
  refine(Fy _ _ _ (by omega) _).mono ?_
  rintro e g ⟨rfl,rfl⟩;go_wp2
  go_ret;exact⟨by rw[e.out];rfl,(Below.refl _ _).alloc (Nat.le_refl _) _⟩
theorem p6 (c:aU)(hc:c.Ok)(n:Int)(b:0<=n)(f:n<18446744073709551616)(w:World):Calls Tryz.prog 123 #[.agg #[.int .i64 c.th,.int .i64 c.sn,.int .i64 c.no,.int .i64 c.ch,.int .i64 c.re,.int .i64 c.fa,.int .u64 c.cl],.int .u64 n] w fun e w' => e=.returned (.int .i64 (c.chain n))/\Below w.heap.size w w' := by
 have n1:=hc.ch1;have g:=hc.ch2;have f1:=hc.fy;have f2:=hc.m7;by_cases h1:n<1
 ·have e:=ass (show c.chain n= -1 by unfold aU.chain;rw[if_neg (by omega)])
  go_enter Tryz.func123,Tryz.ntmps123
  go_wp2
  go_ret;exact⟨by rw[e.out];rfl,(Below.refl _ _).alloc (Nat.le_refl _) _⟩
 ·by_cases h:c.ch<n
  ·have e:=ass (show c.chain n= -1 by unfold aU.chain;rw[if_neg (by omega)])
   go_enter Tryz.func123,Tryz.ntmps123
   go_wp2
   go_ret;exact⟨by rw[e.out];rfl,(Below.refl _ _).alloc (Nat.le_refl _) _⟩
  ·have e:=ass (show c.chain n=c.B+(n-1)by unfold aU.chain;rw[if_pos (by omega)])
   obtain⟨i,b1⟩:=hc.eN;obtain⟨b2,b3⟩:=hc.jZ;go_enter Tryz.func123,Tryz.ntmps123
   go_wp2_with fail
   refine(Ae c hc _).mono ?_
   rintro e j ⟨rfl,a⟩;go_wp2
   go_ret;exact⟨by rw[e.out];rfl,((Below.refl _ _).alloc (Nat.le_refl _) _).trans (a.mono (by simp))⟩
theorem vS (c:aU)(hc:c.Ok)(n k:Int)(b:0<=n)(f:n<18446744073709551616)(g:0<=k)(h:k<=2)(w:World):Calls Tryz.prog 155 #[.agg #[.int .i64 c.th,.int .i64 c.sn,.int .i64 c.no,.int .i64 c.ch,.int .i64 c.re,.int .i64 c.fa,.int .u64 c.cl],.int .u64 n,.int .i64 k] w fun e w' => e=.returned (.int .i64 (c.record n k))/\Below w.heap.size w w' := by
 have n1:=hc.re1;have i:=hc.re2;have f1:=hc.fy;have f2:=hc.m7;by_cases h1:n<1
 ·have e:=ass (show c.record n k= -1 by unfold aU.record;rw[if_neg (by omega)])
  go_enter Tryz.func155,Tryz.ntmps155
  go_wp2
  go_ret;exact⟨by rw[e.out];rfl,(Below.refl _ _).alloc (Nat.le_refl _) _⟩
 ·by_cases j:c.re<n
  ·have e:=ass (show c.record n k= -1 by unfold aU.record;rw[if_neg (by omega)])
   go_enter Tryz.func155,Tryz.ntmps155
   go_wp2
   go_ret;exact⟨by rw[e.out];rfl,(Below.refl _ _).alloc (Nat.le_refl _) _⟩
  ·have e:=ass (show c.record n k=c.C+3*(n-1)+k by unfold aU.record;rw[if_pos (by omega)])
   obtain⟨l,b1⟩:=hc.eN;obtain⟨b2,b3⟩:=hc.jZ;obtain⟨b4,b5⟩:=hc.oD;go_enter Tryz.func155,Tryz.ntmps155
   go_wp2_with fail
   refine(Af c hc _).mono ?_
   rintro e m ⟨rfl,a⟩;go_wp2
   go_ret;exact⟨by rw[e.out];rfl,((Below.refl _ _).alloc (Nat.le_refl _) _).trans (a.mono (by simp))⟩
theorem m9 (c:aU)(hc:c.Ok)(n k:Int)(g:0<=n)(h:n<18446744073709551616)(i:0<=k)(j:k<c.fa+4)(w:World):Calls Tryz.prog 21 #[.agg #[.int .i64 c.th,.int .i64 c.sn,.int .i64 c.no,.int .i64 c.ch,.int .i64 c.re,.int .i64 c.fa,.int .u64 c.cl],.int .u64 n,.int .i64 k] w fun e w' => e=.returned (.int .i64 (c.node n k))/\Below w.heap.size w w' := by
 have n1:=hc.Ke;have l:=hc.m6;have f1:=hc.fy;have f2:=hc.m7;by_cases h1:n<1
 ·have e:=ass (show c.node n k= -1 by unfold aU.node;rw[if_neg (by omega)])
  go_enter Tryz.func21,Tryz.ntmps21
  go_wp2
  go_ret;exact⟨by rw[e.out];rfl,(Below.refl _ _).alloc (Nat.le_refl _) _⟩
 ·by_cases o:c.no<n
  ·have e:=ass (show c.node n k= -1 by unfold aU.node;rw[if_neg (by omega)])
   go_enter Tryz.func21,Tryz.ntmps21
   go_wp2
   go_ret;exact⟨by rw[e.out];rfl,(Below.refl _ _).alloc (Nat.le_refl _) _⟩
  ·have e:=ass (show c.node n k=c.A+(n-1)*(c.fa+4)+k by unfold aU.node;rw[if_pos (by omega)])
   obtain⟨p,q⟩:=yf (a:=n-1) (b:=c.fa+4) (m:=4096) (n:=36) (by omega) (by omega) (by omega) (by omega)
   obtain⟨b1,b2⟩:=hc.eN;go_enter Tryz.func21,Tryz.ntmps21
   go_wp2
   refine dK (by kernel_rfl) (by kernel_rfl) ?_
   repeat (go_big_quiet_step ((go_at_call 81;exact aZ (tV c hc _))))
   refine wpQuiet_nil ?_
   intro r f;go_wp2
   go_ret;exact⟨by rw[e.out];rfl,((Below.refl _ _).alloc (Nat.le_refl _) _).trans (f.mono (by simp))⟩
theorem Mf (c:aU)(hc:c.Ok)(w:World):Calls Tryz.prog 148 #[.agg #[.int .i64 c.th,.int .i64 c.sn,.int .i64 c.no,.int .i64 c.ch,.int .i64 c.re,.int .i64 c.fa,.int .u64 c.cl]] w fun e w' => e=.returned (.bool true)/\Below w.heap.size w w' := by
 obtain⟨a,i,b,j,d,k,e,l,f,m,g,n,h,o⟩:=hc;go_enter Tryz.func148,Tryz.ntmps148
 go_wp2_with (go_at_call 157;refine(rQ _ _ _ (by omega) (by omega) _).mono ?_;rintro e p ⟨rfl,rfl⟩)
 go_ret;exact⟨rfl,(Below.refl _ _).alloc (Nat.le_refl _) _⟩
theorem Yk (c:aU)(hc:c.Ok)(w:World):Calls Tryz.prog 108 #[.agg #[.int .i64 c.th,.int .i64 c.sn,.int .i64 c.no,.int .i64 c.ch,.int .i64 c.re,.int .i64 c.fa,.int .u64 c.cl]] w fun e w' => e=.returned (.tuple #[.agg #[.int .i64 c.th,.int .i64 c.sn,.int .i64 c.no,.int .i64 c.ch,.int .i64 c.re,.int .i64 c.fa,.int .u64 c.cl],.int .i64 0])/\Below w.heap.size w w' := by
 go_enter Tryz.func108,Tryz.ntmps108
 go_wp2_with fail
 refine(Mf c hc _).mono ?_
 rintro e f ⟨rfl,a⟩;obtain⟨b,g⟩:=aeb a;have h:w.heap.size+1<f.heap.size:=by have:=a.size;simp at this;omega
 go_wp2
 refine bodyPost_ret (v:= .tuple #[.agg #[.int .i64 c.th,.int .i64 c.sn,.int .i64 c.no,.int .i64 c.ch,.int .i64 c.re,.int .i64 c.fa,.int .u64 c.cl],.int .i64 0]) (by simp[results,Tryz.results108,go_sem,b]) rfl ⟨rfl,?_⟩
 repeat (refine Below.setCell ?_ (by simp) _)
 exact(((Below.refl _ _).alloc (Nat.le_refl _) _).alloc (by simp) _).trans (a.mono (by simp;omega))
def cB (d:aU):List aQ:=aR (aR (aR (List.replicate d.cells.toNat aQ.zero) 0 ⟨1,⟨#[]⟩,0⟩) 4 ⟨1,⟨#[]⟩,0⟩) (d.node 1 2) ⟨0,⟨#[]⟩,1⟩
def Mg (d:aU)(w:World)(e:Ending)(w':World):Prop:=
 ∃bm bc,e=.returned (.tuple #[.agg #[.int .i64 d.th,.int .i64 d.sn,.int .i64 d.no,.int .i64 d.ch,.int .i64 d.re,.int .i64 d.fa,.int .u64 d.cl],.pointer (some ⟨bm,0,none⟩),.int .i64 0])/\bR w' bm bc (cB d) 0/\Below w.heap.size w w' /\ w.heap.size<=bm/\w.heap.size<=bc
theorem Fz (tmps:Array Value)(w:World)(b:Nat)(v0 v1 v2 v3 v4 v5 v6:Value)(hp:tmps[2]?=some (.pointer (some ⟨b,0,none⟩)))(hk:∀k,w.cell? ⟨b,k,none⟩=(#[v0,v1,v2,v3,v4,v5,v6]:Array Value)[k]?) :
  (results Tryz.f66 tmps).run Tryz.prog w=.ok (.tuple #[.agg #[v0,v1,v2,v3,v4,v5,v6],tmps.getD 3 undef,tmps.getD 4 undef]) w:=by
 simp[results,Tryz.results66,go_sem,hp,hk]
theorem Mh (d:aU)(o:d.Ok)(w:World):Calls Tryz.prog 66 #[.agg #[.int .i64 d.th,.int .i64 d.sn,.int .i64 d.no,.int .i64 d.ch,.int .i64 d.re,.int .i64 d.fa,.int .u64 d.cl]] w (Mg d w):=by
 obtain⟨n,h,v,A,B⟩:∃n:Nat,(∀w,Calls Tryz.prog 110 #[.agg #[.int .i64 d.th,.int .i64 d.sn,.int .i64 d.no,.int .i64 d.ch,.int .i64 d.re,.int .i64 d.fa,.int .u64 d.cl]] w fun e w' => e=.returned (.int .i64 (n:Int))/\Below w.heap.size w w')/\d.cells.toNat=n/\1<=n/\n<=1048576:=by
  have h1:=o.eF;have h2:=o.oD;have h3:=o.jZ;have h4:=o.eN;obtain⟨n,v⟩:=Int.eq_ofNat_of_zero_le (show 0<=d.cells by omega)
  exact⟨n,fun w=>by rw[←v];exact Me d o w,by omega,by omega,by omega⟩
 have Hn:=ass v;clear v;go_enter Tryz.func66,Tryz.ntmps66
 go_wp2_with fail
 refine(Yk d o _).mono ?_
 rintro e p ⟨rfl,i⟩;have hz:w.heap.size+2<=p.heap.size:=by have:=i.size;simp at this;omega
 have L:p.heap[w.heap.size+1]?=some (.cells #[.int .i64 0,.int .i64 0,.int .i64 0,.int .i64 0,.int .i64 0,.int .i64 0,.int .u64 0] 29):=cR i (by simpa using ea (w.alloc (.cells #[.int .i64 d.th,.int .i64 d.sn,.int .i64 d.no,.int .i64 d.ch,.int .i64 d.re,.int .i64 d.fa,.int .u64 d.cl] 26)) (.cells #[.int .i64 0,.int .i64 0,.int .i64 0,.int .i64 0,.int .i64 0,.int .i64 0,.int .u64 0] 29))
 have hB1:Below w.heap.size w p:=(((Below.refl _ _).alloc (Nat.le_refl _) _).alloc (by simp) _).trans (i.mono (by simp;omega))
 clear i;go_wp2_with fail
 refine(h _).mono ?_
 rintro e y ⟨rfl,b⟩;have R2:=cR b (lT L (.cells #[.int .i64 d.th,.int .i64 d.sn,.int .i64 d.no,.int .i64 d.ch,.int .i64 d.re,.int .i64 d.fa,.int .u64 d.cl] 29));have M:=cR b (ea p (.cells #[.int .i64 d.th,.int .i64 d.sn,.int .i64 d.no,.int .i64 d.ch,.int .i64 d.re,.int .i64 d.fa,.int .u64 d.cl] 29));have hz2:p.heap.size+1<=y.heap.size:=by have:=b.size;simp at this;omega
 have hB2:Below w.heap.size w y:=(hB1.alloc hB1.size _).trans (b.mono (by simp;omega))
 clear b L hB1;go_wp2_with fail
 refine(Fw _ n A B).mono ?_
 rintro e w3 ⟨rfl,N,j,hs3⟩;have R3:=cR j R2;have C:=cR j M;have hB3:=hB2.trans (j.mono hB2.size);clear j R2 M;have a:=bB C;go_wp2_with fail
 refine(pZ d _).mono ?_
 rintro e w4 ⟨rfl,f⟩;have O:=N.same f;have P:=cR f R3;have D:=cR f C;have hB4:=hB3.trans (f.mono hB3.size);clear f N R3 C a;have a:=bB D;go_wp2_with fail
 refine(mY _ _ _ _ _ 0 ⟨1,⟨#[]⟩,0⟩ O).mono ?_
 rintro e w5 ⟨rfl,Q,k⟩;have R:=k.blk P (by simp;omega)
 have E:=k.blk D (by simp;omega)
 have q:=hB4.trans (k.below hB4.size (by simp;omega))
 clear k O P D a;have a:=bB E;go_wp2_with fail
 refine(qY d _).mono ?_
 rintro e w6 ⟨rfl,r⟩;have S:=Q.same r;have T:=cR r R;have G:=cR r E;have s:=q.trans (r.mono q.size);clear r Q R E a;have a:=bB G;go_wp2_with fail
 refine(mY _ _ _ _ _ 4 ⟨1,⟨#[]⟩,0⟩ S).mono ?_
 rintro e w7 ⟨rfl,U,l⟩;have V:=l.blk T (by simp;omega)
 have H:=l.blk G (by simp;omega)
 have t:=s.trans (l.below s.size (by simp;omega))
 clear l S T G a;have a:=bB H;go_wp2_with fail
 refine(tY d o 1 (by omega) (by omega) _).mono ?_
 rintro e w8 ⟨rfl,g⟩;have W:=U.same g;have X:=cR g V;have I:=cR g H;have u:=t.trans (g.mono t.size);clear g U V H a;have a:=bB I;go_wp2_with fail
 refine(mY _ _ _ _ _ (d.node 1 2) ⟨0,⟨#[]⟩,1⟩ W).mono ?_
 rintro e Y ⟨rfl,M9,m⟩;have z:=m.blk X (by simp;omega)
 have L9:=m.blk I (by simp;omega)
 have J:=u.trans (m.below u.size (by simp;omega))
 clear m W X I a;have a:=bB L9;have kr:=bB z;have kf:=dQ z;have hlt:=iB z;go_wp2
 have Z:=cP (cP (cP (cP (cP (cP (cP z 0 (.int .i64 d.th)) 1 (.int .i64 d.sn)) 2 (.int .i64 d.no)) 3 (.int .i64 d.ch)) 4 (.int .i64 d.re)) 5 (.int .i64 d.fa)) 6 (.int .u64 d.cl);simp only[List.setIfInBounds_toArray,List.set_cons_zero,List.set_cons_succ]at Z;refine bodyPost_ret (Fz _ _ (w.heap.size+1) _ _ _ _ _ _ _ rfl (bB Z)) rfl ⟨y.heap.size+1,y.heap.size,rfl,?_,?_,?_,?_⟩
 ·have e:cB d=aR (aR (aR (List.replicate n aQ.zero) 0 ⟨1,⟨#[]⟩,0⟩) 4 ⟨1,⟨#[]⟩,0⟩) (d.node 1 2) ⟨0,⟨#[]⟩,1⟩:=by unfold cB;rw[Hn.out]
  rw[e];have hg:eU [w.heap.size+1] Y (((((((Y.setCell ⟨w.heap.size+1,0,none⟩ (.int .i64 d.th)).setCell ⟨w.heap.size+1,1,none⟩ (.int .i64 d.sn)).setCell ⟨w.heap.size+1,2,none⟩ (.int .i64 d.no)).setCell ⟨w.heap.size+1,3,none⟩ (.int .i64 d.ch)).setCell ⟨w.heap.size+1,4,none⟩ (.int .i64 d.re)).setCell ⟨w.heap.size+1,5,none⟩ (.int .i64 d.fa)).setCell ⟨w.heap.size+1,6,none⟩ (.int .u64 d.cl)):=by
   iterate 7 refine eU.setCell ?_ (.inl (by simp)) _
   exact eU.refl _ _
  exact M9.keep hg (by simp;omega) (by simp;omega)
 ·iterate 7 refine Below.setCell ?_ (by simp) _
  exact J
 ·omega
 ·omega
theorem p7 {L:List aQ}{i j:Int}{c:aQ}(hi:0<=i)(hl:i<L.length)(a:0<=j):ah (aR L i c) j=if j=i then c else ah L j:=by
 unfold ah aR;rw[if_pos hi,if_pos a,if_pos a,List.getElem?_set];by_cases h:j=i
 ·subst h
  rw[if_pos rfl,if_pos rfl,if_pos (by omega)]
  rfl
 ·rw[if_neg (by omega),if_neg h]
theorem Mi {n:Nat}(j:Int):ah (List.replicate n aQ.zero) j=aQ.zero:=by
 unfold ah;split
 ·rw[List.getElem?_replicate];split <;> rfl
 ·rfl
theorem iH (d:aU)(a:d.Ok):(cB d).length=d.cells.toNat/\10<=d.node 1 2/\∀k:Int,0<=k->ah (cB d) k=if k=d.node 1 2 then⟨0,⟨#[]⟩,1⟩else if k=4 then⟨1,⟨#[]⟩,0⟩else if k=0 then⟨1,⟨#[]⟩,0⟩else aQ.zero:=by
 have h1:=a.eN;have b:=a.jZ;have f:=a.oD;have g:=a.eF;have f1:=a.fy;have n1:=a.Ke;have e:d.node 1 2=d.A+2:=by unfold aU.node;rw[if_pos (by omega)];omega
 have h:d.A+2<d.cells:=by
  have:1*(d.fa+4)<=d.no*(d.fa+4):=Int.mul_le_mul_of_nonneg_right n1 (by omega)
  have e2:d.B=d.A+d.no*(d.fa+4):=rfl;omega
 refine⟨by simp[cB,bg],by omega,fun k hk=>?_⟩
 unfold cB;rw[p7 (by omega) (by simp[bg];omega) hk,p7 (by omega) (by simp[bg];omega) hk,p7 (by omega) (by simp;omega) hk,Mi]
theorem lU (c:aU)(w:World):Calls Tryz.prog 96 #[.agg #[.int .i64 c.th,.int .i64 c.sn,.int .i64 c.no,.int .i64 c.ch,.int .i64 c.re,.int .i64 c.fa,.int .u64 c.cl]] w fun e w' => e=.returned (.agg #[.int .i64 c.th,.int .i64 c.sn,.int .i64 c.no,.int .i64 c.ch,.int .i64 c.re,.int .i64 c.fa,.int .u64 c.cl])/\Below w.heap.size w w' := by
 go_enter Tryz.func96,Tryz.ntmps96
 go_wp2
 refine bodyPost_ret (v:= .agg #[.int .i64 c.th,.int .i64 c.sn,.int .i64 c.no,.int .i64 c.ch,.int .i64 c.re,.int .i64 c.fa,.int .u64 c.cl]) (by simp[results,Tryz.results96,go_sem]) rfl ⟨rfl,?_⟩
 exact((Below.refl _ _).alloc (Nat.le_refl _) _).alloc (by simp) _
def nc (n fa cl:Int):aU:=⟨n,2,100,100,200,fa,cl⟩
theorem Aj (tmps:Array Value)(w:World)(b:Nat)(v0 v1 v2 v3 v4 v5 v6:Value)(hp:tmps[4]?=some (.pointer (some ⟨b,0,none⟩)))(hk:∀k,w.cell? ⟨b,k,none⟩=(#[v0,v1,v2,v3,v4,v5,v6]:Array Value)[k]?) :
  (results Tryz.f12 tmps).run Tryz.prog w=.ok (.agg #[v0,v1,v2,v3,v4,v5,v6]) w:=by
 simp[results,Tryz.results12,go_sem,hp,hk]
theorem oM (n fa:Int)(w:World):Calls Tryz.prog 12 #[.int .i64 n,.int .i64 fa] w fun e w' => e=.returned (.agg #[.int .i64 (nc n (4+fa%3) 1000).th,.int .i64 (nc n (4+fa%3) 1000).sn,.int .i64 (nc n (4+fa%3) 1000).no,.int .i64 (nc n (4+fa%3) 1000).ch,.int .i64 (nc n (4+fa%3) 1000).re,.int .i64 (nc n (4+fa%3) 1000).fa,.int .u64 (nc n (4+fa%3) 1000).cl])/\Below w.heap.size w w' := by
 obtain⟨r,a,f,b⟩:∃r:Int,r=fa%3/\0<=r/\r<=2:=⟨_,rfl,by omega,by omega⟩
 have q:=Yj fa 3 (by omega) (by omega)
 rw[←a]at q ⊢;have Q:=ass q;clear q a;go_enter Tryz.func12,Tryz.ntmps12
 go_wp2_with fail
 refine(Q.out _).mono ?_
 rintro e g ⟨rfl,rfl⟩;go_wp2
 refine bodyPost_ret (v:= .agg #[.int .i64 (nc n (4+r) 1000).th,.int .i64 (nc n (4+r) 1000).sn,.int .i64 (nc n (4+r) 1000).no,.int .i64 (nc n (4+r) 1000).ch,.int .i64 (nc n (4+r) 1000).re,.int .i64 (nc n (4+r) 1000).fa,.int .u64 (nc n (4+r) 1000).cl]) (Aj _ _ _ _ _ _ _ _ _ _ rfl (bB (ea w _))) rfl ⟨rfl,?_⟩;exact(Below.refl _ _).alloc (Nat.le_refl _) _
theorem Ak (tmps:Array Value)(w:World)(b:Nat)(v0 v1 v2 v3 v4 v5 v6:Value)(hp:tmps[2]?=some (.pointer (some ⟨b,0,none⟩)))(hk:∀k,w.cell? ⟨b,k,none⟩=(#[v0,v1,v2,v3,v4,v5,v6]:Array Value)[k]?) :
  (results Tryz.f13 tmps).run Tryz.prog w=.ok (.tuple #[.agg #[v0,v1,v2,v3,v4,v5,v6],tmps.getD 3 undef]) w:=by
 simp[results,Tryz.results13,go_sem,hp,hk]
theorem vT (d:aU)(f:d.Ok)(w:World):Calls Tryz.prog 13 #[.agg #[.int .i64 d.th,.int .i64 d.sn,.int .i64 d.no,.int .i64 d.ch,.int .i64 d.re,.int .i64 d.fa,.int .u64 d.cl]] w fun e w' => ∃b g,e=.returned (.tuple #[.agg #[.int .i64 d.th,.int .i64 d.sn,.int .i64 d.no,.int .i64 d.ch,.int .i64 d.re,.int .i64 d.fa,.int .u64 d.cl],.pointer (some ⟨b,0,none⟩)])/\bR w' b g (cB d) 0/\Below w.heap.size w w' /\ w.heap.size<=b/\w.heap.size<=g:=by
 obtain⟨t,u,v⟩:=iH d f;have hlen:((cB d).length:Int)=d.cells:=by have h1:=f.eN;have H:=f.jZ;have I:=f.oD;have J:=f.eF;omega
 have y:=ass hlen;clear t u v hlen;go_enter Tryz.func13,Tryz.ntmps13
 go_wp2_with fail
 refine(Mh d f _).mono ?_
 rintro e j ⟨b,g,rfl,M2,a,m,n⟩;obtain⟨W,h⟩:∃W,W=j.alloc (.cells #[.int .i64 d.th,.int .i64 d.sn,.int .i64 d.no,.int .i64 d.ch,.int .i64 d.re,.int .i64 d.fa,.int .u64 d.cl] 29):=⟨_,rfl⟩;have z:=a.size;simp only[World.size_alloc]at z m n;have o:W.heap[w.heap.size]?=some (.cells #[.int .i64 d.th,.int .i64 d.sn,.int .i64 d.no,.int .i64 d.ch,.int .i64 d.re,.int .i64 d.fa,.int .u64 d.cl] 26):=by rw[h];exact lT (cR a (lT (ea w _) _)) _
 have p:W.heap[w.heap.size+1]?=some (.cells #[.int .i64 0,.int .i64 0,.int .i64 0,.int .i64 0,.int .i64 0,.int .i64 0,.int .u64 0] 29):=by
  have:=cR a (ea (w.alloc (.cells #[.int .i64 d.th,.int .i64 d.sn,.int .i64 d.no,.int .i64 d.ch,.int .i64 d.re,.int .i64 d.fa,.int .u64 d.cl] 26)) _);rw[World.size_alloc]at this;rw[h];exact lT this _
 have q:W.heap[j.heap.size]?=some (.cells #[.int .i64 d.th,.int .i64 d.sn,.int .i64 d.no,.int .i64 d.ch,.int .i64 d.re,.int .i64 d.fa,.int .u64 d.cl] 29):=by rw[h];exact ea j _
 have M:bR W b g (cB d) 0:=by rw[h];exact M2.alloc _
 have hB:Below w.heap.size w W:=by
  rw[h];exact((((Below.refl _ _).alloc (Nat.le_refl _) _).alloc (by simp) _).trans (a.mono (by simp;omega))).alloc (by omega) _
 go_upto_region 2 with(fail)
 rw[←h];clear h a M2;have k1:=bB o;have Q:Hid (∀w',(∃x:Ext,w'=over W x)->Calls Tryz.prog 67 #[.pointer (some ⟨b,0,none⟩)] w' fun e k => e=.returned (.int .i64 d.cells)/\w'=k):=by
  intro w' A;have:=pX w' b g _ _ (M.same (Pure.below A));rwa [y.out]at this
 refine bK (by kernel_rfl) (by as_aux_lemma=>kernel_rfl) ?_
 repeat (go_big_quiet_step (first|(go_at_call 67;exact ew (Q.out _ ⟨_,rfl⟩))|(go_at_call 68;exact aZ (yh d f _))))
 refine wpQuiet_nil ?_
 intro r i;have l:=cR i p;have B:=cR i q;have C:=M.same i;have hB3:=hB.trans (i.mono hB.size);clear k1 o p q i M hB Q;have k2:=bB l;have f2:=dQ l;have L:=bB B;go_wp2
 have s:=cP (cP (cP (cP (cP (cP (cP l 0 (.int .i64 d.th)) 1 (.int .i64 d.sn)) 2 (.int .i64 d.no)) 3 (.int .i64 d.ch)) 4 (.int .i64 d.re)) 5 (.int .i64 d.fa)) 6 (.int .u64 d.cl);simp only[List.setIfInBounds_toArray,List.set_cons_zero,List.set_cons_succ]at s;have D:w.heap.size+1+1<=b:=by simpa using m
 have E:w.heap.size+1+1<=g:=by simpa using n
 refine bodyPost_ret (Ak _ _ (w.heap.size+1) _ _ _ _ _ _ _ rfl (bB s)) rfl ⟨b,g,rfl,?_,?_,?_,?_⟩
 ·have G:eU [w.heap.size+1] r (((((((r.setCell ⟨w.heap.size+1,0,none⟩ (.int .i64 d.th)).setCell ⟨w.heap.size+1,1,none⟩ (.int .i64 d.sn)).setCell ⟨w.heap.size+1,2,none⟩ (.int .i64 d.no)).setCell ⟨w.heap.size+1,3,none⟩ (.int .i64 d.ch)).setCell ⟨w.heap.size+1,4,none⟩ (.int .i64 d.re)).setCell ⟨w.heap.size+1,5,none⟩ (.int .i64 d.fa)).setCell ⟨w.heap.size+1,6,none⟩ (.int .u64 d.cl)):=by
   iterate 7 refine eU.setCell ?_ (.inl (by simp)) _
   exact eU.refl _ _
  exact C.keep G (by simp;omega) (by simp;omega)
 ·iterate 7 refine Below.setCell ?_ (by simp) _
  exact hB3
 ·omega
 ·omega
section
variable {K:aM}{w w':World}{c c' d e:aC}{cs F:List aC}
def aL (bm bc:Nat)(L:List aQ)(acc:Nat):aC where
 foot:=[bm,bc]
 ok:=fun w=>bR w bm bc L acc
 loc:=fun w w' h k=>⟨by rw[h bm (by simp)];exact k.hm,by rw[h bc (by simp)];exact k.hc,k.ne,k.len⟩
 dom:=fun w k b hb=>by
  simp at hb;rcases hb with rfl|rfl
  ·exact iB k.hm
  ·exact iB k.hc
theorem St.mem {a b:Nat}{L:List aQ}{acc:Nat}(h:St K w (aL a b L acc::F)):bR w a b L acc:=h.head
theorem St.aeg {a b:Nat}{L:List aQ}{acc:Nat}(h:St K w (c::aL a b L acc::F)):bR w a b L acc:=h.tail.head
theorem St.yj {a f:Nat}{L L':List aQ}{acc acc':Nat}{S:List Nat}(h:St K w (aL a f L acc::F))(g:eU S w w')(i:∀b,b∈S->b∈[a,f])(M:bR w' a f L' acc'):St K w' (aL a f L' acc' :: F):=
 h.Fx (c' := aL a f L' acc') (g.mono i) M rfl
theorem jo {a b:Nat}{L:List aQ}{acc:Nat}{i:Int}(f:St K w (aL a b L acc::F))(j:acc<=1000000000000) :
  Calls Tryz.prog 141 #[.pointer (some ⟨a,0,none⟩),.int .i64 i] w fun e w' => e=.returned (.agg #[.int .u64 (ah L i).n,.string (ah L i).k,.int .u64 (ah L i).m])/\St K w' (aL a b L (acc+1)::F):=
 (tR w a b L acc i f.mem (by omega) (by omega)).mono fun _ _ ⟨he,g,h⟩=>⟨he,f.yj h (by simp) (by exact_mod_cast g)⟩
theorem ng {a b:Nat}{L:List aQ}{acc:Nat}{i:Int}{c:aQ}(f:St K w (aL a b L acc::F))(j:acc<=1000000000000) :
  Calls Tryz.prog 79 #[.pointer (some ⟨a,0,none⟩),.int .i64 i,.agg #[.int .u64 c.n,.string c.k,.int .u64 c.m]] w fun e w' => e=.returned (.tuple #[])/\St K w' (aL a b (aR L i c) (acc+1)::F):=
 (Md w a b L acc i c f.mem (by omega) (by omega)).mono fun _ _ ⟨he,g,h⟩=>⟨he,f.yj h (by simp) (by exact_mod_cast g)⟩
theorem Yl {a b:Nat}{L:List aQ}{acc:Nat}{i old:Int}{c:aQ}(f:St K w (aL a b L acc::F))(j:acc<=1000000000000) :
  Calls Tryz.prog 182 #[.pointer (some ⟨a,0,none⟩),.int .i64 i,.int .u64 old,.agg #[.int .u64 c.n,.string c.k,.int .u64 c.m]] w fun e w' => e=.returned (.bool (bU L i old))/\St K w' (aL a b (if bU L i old then aR L i c else L) (acc+1)::F):=
 (tS w a b L acc i old c f.mem (by omega) (by omega)).mono fun _ _ ⟨he,g,h⟩=>⟨he,f.yj h (by simp) (by exact_mod_cast g)⟩
theorem gM {a b:Nat}{L:List aQ}{acc:Nat}{i:Int}{c:aQ}(f:St K w (aL a b L acc::F)) :
  Calls Tryz.prog 36 #[.pointer (some ⟨a,0,none⟩),.int .i64 i,.agg #[.int .u64 c.n,.string c.k,.int .u64 c.m]] w fun e w' => e=.returned (.tuple #[])/\St K w' (aL a b (aR L i c) acc::F):=
 (mY w a b L acc i c f.mem).mono fun _ _ ⟨he,g,h⟩=>⟨he,f.yj h (by simp) g⟩
theorem Kf {a b:Nat}{L:List aQ}{acc:Nat}{i:Int}(f:St K w cs)(g:bR w a b L acc) :
  Calls Tryz.prog 44 #[.pointer (some ⟨a,0,none⟩),.int .i64 i] w fun e w' => e=.returned (.agg #[.int .u64 (ah L i).n,.string (ah L i).k,.int .u64 (ah L i).m])/\St K w' cs:=
 bJ f (z8 w a b L acc i g)
def az (v:Value)(T:TypeId)(size n:Nat)(xs:List Value):aC where
 foot:=v.ownBlock.toList
 ok:=fun w=>w.ownsRow 0 T size v n xs
 loc:=fun w w' h k=>by
  refine⟨k.1,?_⟩;rcases k.2 with k|⟨g,cap,cur,hv,hB,hc,r⟩
  ·exact .inl k
  ·exact .inr ⟨g,cap,cur,hv,hB,by rw[h g (by rw[hv];simp[Value.ownBlock])];exact hc,r⟩
 dom:=fun w k b hb=>by
  rcases k.2 with⟨k,_⟩|⟨g,cap,cur,hv,hB,hc,r⟩
  ·rw[k]at hb;simp[Value.ownBlock]at hb
  ·rw[hv]at hb;simp[Value.ownBlock]at hb;subst hb;exact iB hc
theorem St.cJ {T:TypeId}{size:Nat}(h:St K w cs):St K w (az (.slice none 0 0) T size 0 []::cs):=by
 refine St.zK (ms:=[]) (ms' := [az (.slice none 0 0) T size 0 []]) (F:=cs) h (eU.refl _ _) (fun c hc=>?_) (fun b a=>?_) ?_
 ·simp at hc;subst hc;exact World.ownsRow_nil w 0 T size
 ·simp[cY,az,Value.ownBlock]at a
 ·simp[cY,az,Value.ownBlock]
theorem St.Rv {v:Value}{T:TypeId}{size n:Nat}{xs:List Value}(h:St K w (az v T size n xs::F))(m:0<n) :
  ∃(g cap:Nat) (cur:Array Value),v=.slice (some ⟨g,0,none⟩) n cap/\n<=cap/\cap<=maxLen/\cur.size=cap*size/\xs.length=n*size/\(∀(j:Nat) (x:Value),xs[j]?=some x->cur[j]?=some x)/\St K w (blk g (.cells cur T)::F):=by
 obtain⟨hl,k⟩:=h.head;rcases k with⟨_,h0⟩|⟨g,cap,cur,b,hB,hc,h1,f,i,l⟩
 ·omega
 ·refine⟨g,cap,cur,b,h1,f,i,hl,fun j x a=>?_,?_⟩
  ·rw[←l,List.getElem?_take]at a
   split at a
   ·simpa using a
   ·cases a
  ·exact h.Fx (c' := blk g (.cells cur T)) (eU.refl _ _) hc (by simp[az,blk,b,Value.ownBlock])
theorem St.aJ {v:Value}{T:TypeId}{size n:Nat}{xs:List Value}(h:St K w (az v T size n xs::F)) :
  ∃(a:Option Addr) (cap:Nat),v=.slice a n cap/\n<=cap/\(0<n->∃g cur,a=some ⟨g,0,none⟩/\w.heap[g]?=some (.cells cur T)/\∀(j:Nat) (x:Value),xs[j]?=some x->cur[j]?=some x):=by
 obtain⟨hl,k⟩:=h.head;rcases k with⟨f,h0⟩|⟨g,cap,cur,f,hB,hc,h1,l,m,i⟩
 ·exact⟨none,0,by rw[f,h0],by omega,fun h=>by omega⟩
 ·refine⟨_,cap,f,h1,fun _=>⟨g,cur,rfl,hc,fun j x b=>?_⟩⟩
  rw[←i,List.getElem?_take]at b;split at b
  ·simpa using b
  ·cases b
theorem Rw (w:World)(l:List Value)(T:TypeId):∀j u,l[j]?=some u->(w.alloc (.cells l.toArray T)).cell? ((⟨w.heap.size,0,none⟩:Addr).add j)=some u:=by
 intro j u hu;have:(⟨w.heap.size,0,none⟩:Addr).add j=⟨w.heap.size,j,none⟩:=by
  unfold Addr.add;split
  ·rename_i h;rw[h]
  ·simp
 rw[this,bB (ea w _)];simpa using hu
theorem dM {ops:Array Oper}{rest:List Oper}{o:Oper}{a:Act}{Q:Exit->Act->World->Prop}(s x:Operand)(t e:TypeId)(v:Value)(n size bytes:Nat)(xs news:List Value)(z:Value)(i:TypeInfo)
  (D:St K w (az v e size n xs::F))
  (q:o.guard=none) (E:o.op=.call { callee:= .builtin .append,args:= #[s,x],argTypes:= #[t,t] })
  (G:Tryz.prog.underlying t=some (.slice e)) (hi:Tryz.prog.info? e=some i) (H:i.zero=some z) (j:i.size=size) (r:i.bytes=bytes) (y:z.cells.size=size) (A:0<size)
  (B:a.eval s=v) (I:a.eval x=.slice (some ⟨w.heap.size,0,none⟩) 1 1) (hl:news.length=size) (h1:∀u,u∈news->u.oneCell'=true)
  (C:n+1<=1099511627776) (J:bytes<=64)
  (h:∀g w',St K w' (az g e size (n+1) (xs++news)::F)->wpList Tryz.prog ops Q rest (a.put o.dst g) w'):wpList Tryz.prog ops Q (o::rest) a (w.alloc (.cells news.toArray e)):=by
 have l:=D.pass (.cells news.toArray e);refine wpList_append_own_at (w.alloc (.cells news.toArray e)) q s x t E 0 e i z size bytes G hi H j r y A v n xs B l.head ⟨w.heap.size,0,none⟩ 1 1 news I (by omega) (Rw w news e) h1 (by unfold maxLen;omega) ?_ (by omega) ?_
 ·calc (n+1)*bytes<=1099511627776*64:=Nat.mul_le_mul C J
   _<=140737488355328:=by decide
 ·intro g w' L m O p
  refine h g w' ?_
  refine St.zK (ms:=[az v e size n xs]) (ms' := [az g e size (n+1) (xs++news)]) (F:=F) l ⟨m.os,m.tape,m.output,m.size,fun k hk M=>m.block k hk (fun e=>M ?_)⟩ (fun c hc=>?_) (fun b N=>?_) ?_
  ·simp[cY,az,←e]
  ·simp at hc;subst hc;exact L
  ·have f:b∈g.ownBlock.toList:=by simpa[cY,az] using N
   rcases p with p|p
   ·left;rw[p]at f;simpa[cY,az] using f
   ·rw[p]at f;simp at f;subst f;exact .inr (by simp)
  ·show(cY [az g e size (n+1) (xs++news)]).Nodup
   simp only[cY,List.flatMap_cons,List.flatMap_nil,List.append_nil,az];cases g.ownBlock <;> simp
theorem vU (z:Value)(n:Nat):madeCells #[z] n=Array.replicate n z:=by
 apply Array.toList_inj.1
 rw[toList_madeCells_one];simp
theorem Ym (t e:TypeId)(i:TypeInfo)(z:Value)(bytes:Nat)(g:Tryz.prog.underlying t=some (.slice e))(hi:Tryz.prog.info? e=some i)(h:i.zero=some z)(a:i.size=1)(b:i.bytes=bytes)(f:z.cells= #[z])(j:bytes<=64)(n:Nat)(k:n<=1099511627776)(x:Int)(l:x=n)(w:World) :
  (Instr.makeSlice t (.int .i64 x) (.int .i64 x)).run Tryz.prog w=.ok (.slice (some ⟨w.heap.size,0,none⟩) n n) (w.alloc (.cells (Array.replicate n z) e)):=by
 subst l;have:=run_make w t e i _ g hi h .i64 .i64 (n:Int) n (by omega) (by omega) (by
  rw[b];have h1:bytes*n<=64*1099511627776:=Nat.mul_le_mul j k;have m:((bytes*n:Nat):Int)<=((64*1099511627776:Nat):Int):=by exact_mod_cast h1
  rw[Int.natCast_mul]at m;omega) (by omega)
 rw[this,a,Int.toNat_natCast,Nat.mul_one,f,vU]
theorem St.new {ms:List aC}(a:St K w cs)(f:Below w.heap.size w w')(hok:∀c,c∈ms->c.ok w')(g:∀b,b∈cY ms->w.heap.size<=b)(i:(cY ms).Nodup):St K w' (ms++cs):=
 St.zK (ms:=[]) (ms' := ms) (F:=cs) a (eU.of_below f) hok (fun b h=> .inr (g b h)) i
theorem p8 {d:aU}(i:d.Ok)(j:St K w cs):Calls Tryz.prog 13 #[.agg #[.int .i64 d.th,.int .i64 d.sn,.int .i64 d.no,.int .i64 d.ch,.int .i64 d.re,.int .i64 d.fa,.int .u64 d.cl]] w fun e w' => ∃a f,e=.returned (.tuple #[.agg #[.int .i64 d.th,.int .i64 d.sn,.int .i64 d.no,.int .i64 d.ch,.int .i64 d.re,.int .i64 d.fa,.int .u64 d.cl],.pointer (some ⟨a,0,none⟩)])/\St K w' (aL a f (cB d) 0::cs):=by
 refine(vT d i w).mono fun e w' ⟨a,f,he,h,g,h1,k⟩=>⟨a,f,he,?_⟩
 refine j.new (ms:=[aL a f (cB d) 0]) g (fun c hc=>by simp at hc;subst hc;exact h) (fun b g=>?_) ?_
 ·simp[cY,aL]at g;omega
 ·simp[cY,aL];exact h.ne
theorem St.cQ {a:Option Addr}{cap:Nat}{T:TypeId}{size n:Nat}{xs:List Value}(h:St K w (az (.slice a n cap) T size n xs::F)){j:Nat}{x:Value}(b:xs[j]?=some x):∃g,a=some ⟨g,0,none⟩/\w.cell? ⟨g,j,none⟩=some x:=by
 obtain⟨l,f,e,_,k⟩:=h.aJ;have i:0<n:=by
  rcases Nat.eq_zero_or_pos n with h0|h0
  ·have:=h.head.1
   rw[h0,Nat.zero_mul,List.length_eq_zero_iff]at this;rw[this]at b;simp at b
  ·exact h0
 obtain⟨g,cur,rfl,hc,hk⟩:=k i;simp only[Value.slice.injEq]at e;exact⟨g,e.1,by rw[bB hc];exact hk j x b⟩
theorem St.abr {b a f:Nat}{o:Obj}{L:List aQ}{acc:Nat}(h:St K w (blk b o::aL a f L acc::F)):b≠a/\b≠f:=by
 have:=h.nodup;simp only[cY,List.flatMap_cons,blk,aL,List.cons_append,List.nil_append,List.nodup_cons,List.mem_cons,not_or]at this;exact⟨this.1.1,this.1.2.1⟩
end
def gW:aC:=⟨[],fun _=>True,fun _ _ _ _=>trivial,fun _ _ _ h=>by simp at h⟩
theorem St.empty {K:aM}{w:World}{F:List aC}(h:St K w F):St K w (gW::F):=
 h.zK (ms:=[]) (ms' := [gW]) (eU.refl _ _) (fun c hc=>by simp at hc;subst hc;trivial) (fun b a=>by simp[cY,gW]at a) (by simp[cY,gW])
theorem St.bG {K:aM}{w:World}{F:List aC}{g cap:Nat}{T:TypeId}{size n:Nat}{xs:List Value}(h:St K w (az (.slice (some ⟨g,0,none⟩) n cap) T size n xs::F)){j:Nat}{x:Value}(a:xs[j]?=some x):w.cell? ⟨g,j,none⟩=some x:=by
 obtain⟨b,e,k⟩:=h.cQ a;simp only[Option.some.injEq,Addr.mk.injEq,and_true]at e;rw[e];exact k
theorem sS {P:Program}(w:World)(t ty e:TypeId)(i:TypeInfo)(a:P.underlying t=some (.slice e))(hi:P.info? e=some i)(b:Option Addr)(n cap c:Nat)(h:n<=cap) :
  (Builtin.append_ #[t,t] ty #[.slice b n cap,.slice none 0 c]).run P w=.ok (.slice b n cap) w:=by
 cases b <;> simp[Builtin.append_,run_underlying a,sizeOf,typeInfo,hi,Builtin.lenOf,Builtin.firstCells,h,storeCells]
section
variable {K:aM}{w:World}{F:List aC}
theorem St.lV {b n size:Nat}{xs:List Value}{T:TypeId}(h:St K w (blk b (.cells xs.toArray T)::F))(hl:xs.length=n*size)(a:n<=maxLen):St K w (az (.slice (some ⟨b,0,none⟩) n n) T size n xs::F):=by
 refine h.Fx (c' := az (.slice (some ⟨b,0,none⟩) n n) T size n xs) (eU.refl _ _) ⟨hl,.inr ⟨b,n,xs.toArray,rfl,Nat.zero_le _,h.head,Nat.le_refl _,a,by simpa using hl,?_⟩⟩ (by simp[az,blk,Value.ownBlock])
 rw[←hl];simp
theorem cK {ops:Array Oper}{rest:List Oper}{o:Oper}{a:Act}{Q:Exit->Act->World->Prop}(s x:Operand)(t e:TypeId)(v:Value)(n m c size bytes:Nat)(xs news:List Value)(z:Value)(i:TypeInfo)(A:Option Addr)
  (E:St K w (az v e size n xs::F))
  (G:o.guard=none) (V:o.op=.call { callee:= .builtin .append,args:= #[s,x],argTypes:= #[t,t] })
  (H:Tryz.prog.underlying t=some (.slice e)) (hi:Tryz.prog.info? e=some i) (W:i.zero=some z) (r:i.size=size) (I:i.bytes=bytes) (J:z.cells.size=size) (L:0<size)
  (M:a.eval s=v) (X:a.eval x=.slice A m c) (hl:news.length=m*size) (h0:A=none->m=0)
  (y:∀j u,news[j]?=some u->∃g off,A=some ⟨g,off,none⟩/\w.cell? ⟨g,off+j,none⟩=some u) (h1:∀u,u∈news->u.oneCell'=true)
  (N:n+m<=1099511627776) (Y:bytes<=64)
  (h:∀f w',St K w' (az f e size (n+m) (xs++news)::F)->wpList Tryz.prog ops Q rest (a.put o.dst f) w'):wpList Tryz.prog ops Q (o::rest) a w:=by
 have p:(n+m)*bytes<=140737488355328:=by
  calc (n+m)*bytes<=1099511627776*64:=Nat.mul_le_mul N Y
   _<=140737488355328:=by decide
 have key:∃f w',(Builtin.append_ #[t,t] o.type #[v,.slice A m c]).run Tryz.prog w=.ok f w' /\ St K w' (az f e size (n+m) (xs++news)::F):=by
  rcases Nat.eq_zero_or_pos m with hm|hm
  ·subst hm
   have B:news=[]:=List.eq_nil_of_length_eq_zero (by simpa using hl)
   subst B;obtain⟨O,q,rfl,hle,_⟩:=E.aJ;refine⟨.slice O n q,w,?_,by simpa using E⟩
   cases A with
   | none=>exact sS w t o.type e i H hi O n q c hle
   | some U=>cases O <;> simp[Builtin.append_,run_underlying H,sizeOf,typeInfo,hi,Builtin.lenOf,Builtin.firstCells,hle,storeCells,loadCells,loadCellsFrom]
  ·have R:A≠none:=fun e=>by have:=h0 e;omega
   obtain⟨U,rfl⟩:=Option.ne_none_iff_exists'.1 R;obtain⟨f,w',S,Z,C,h4,D⟩:=run_append_own_at (P:=Tryz.prog) w 0 t o.type e i z size bytes H hi W r I J L v n xs E.head U m c news hl (fun j u hu=>by
    obtain⟨g,off,e,hc⟩:=y j u hu;simp only[Option.some.injEq]at e;subst e;have:(⟨g,off,none⟩:Addr).add j=⟨g,off+j,none⟩:=by
     unfold Addr.add;split
     ·rename_i h;rw[h];rfl
     ·rfl
    rw[this];exact hc) h1 (by unfold maxLen;omega) p (Nat.zero_le _)
   refine⟨f,w',S,?_⟩;refine St.zK (ms:=[az v e size n xs]) (ms' := [az f e size (n+m) (xs++news)]) (F:=F) E ⟨C.os,C.tape,C.output,C.size,fun k hk hn=>C.block k hk (fun e=>hn ?_)⟩ (fun c hc=>?_) (fun b hb=>?_) ?_
   ·simp[cY,az,←e]
   ·simp at hc;subst hc;exact Z
   ·have l:b∈f.ownBlock.toList:=by simpa[cY,az] using hb
    rcases D with D|D
    ·left;rw[D]at l;simpa[cY,az] using l
    ·rw[D]at l;simp at l;subst l;exact .inr (by simp)
   ·show(cY [az f e size (n+m) (xs++news)]).Nodup
    simp only[cY,List.flatMap_cons,List.flatMap_nil,List.append_nil,az];cases f.ownBlock <;> simp
 obtain⟨f,w',S,T⟩:=key;refine wpList_plain G fun K hK=>?_
 unfold Oper.wp execOp;simp only[V,resolve,invoke,builtin,Sem.run_bind,Sem.run_pure,Result.andThen_ok,List.map_toArray,List.map_cons,List.map_nil,M,X,S];exact hK _ _ (h f w' T)
end
theorem Ry (f:Nat)(x y:Array Value)(w:World):(binOp .neq 121 (.func (.func f) x y) .nilFunc).run Tryz.prog w=.ok (.bool true) w:=by kernel_rfl
theorem Rz (f:Nat)(x y:Array Value)(w:World):(binOp .eql 121 (.func (.func f) x y) .nilFunc).run Tryz.prog w=.ok (.bool false) w:=by kernel_rfl
theorem Al (w:World):(binOp .neq 121 .nilFunc .nilFunc).run Tryz.prog w=.ok (.bool false) w:=by kernel_rfl
theorem Am (w:World):(binOp .eql 121 .nilFunc .nilFunc).run Tryz.prog w=.ok (.bool true) w:=by kernel_rfl
attribute [go_sem] Ry Rz Al Am
theorem Ao (n m:Int)(k:ByteArray)(w:World):(Instr.field 63 (.agg #[.int .u64 n,.string k,.int .u64 m]) 0).run Tryz.prog w=.ok (.int .u64 n) w:=by kernel_rfl
theorem Ap (n m:Int)(k:ByteArray)(w:World):(Instr.field 63 (.agg #[.int .u64 n,.string k,.int .u64 m]) 1).run Tryz.prog w=.ok (.string k) w:=by kernel_rfl
theorem Aq (n m:Int)(k:ByteArray)(w:World):(Instr.field 63 (.agg #[.int .u64 n,.string k,.int .u64 m]) 2).run Tryz.prog w=.ok (.int .u64 m) w:=by kernel_rfl
attribute [go_sem] Ao Ap Aq
theorem fJ (f:Nat)(x y:Array Value)(w:World):Calls Tryz.prog 73 #[.func (.func f) x y] w fun e w' => e=.returned (.agg #[.func (.func f) x y,.bool true])/\Below w.heap.size w w' := by
 go_enter Tryz.func73,Tryz.ntmps73
 go_wp2
 refine bodyPost_ret (v:= .agg #[.func (.func f) x y,.bool true]) (by simp[results,Tryz.results73,go_sem]) rfl ⟨rfl,?_⟩
 exact(Below.refl _ _).alloc (Nat.le_refl _) _
set_option maxRecDepth 100000 in
theorem p9 (w:World)(b m:Nat)(hc:w.cell? ⟨b,0,none⟩=some .nilFunc):Calls Tryz.prog 77 #[.pointer (some ⟨b,0,none⟩),.pointer (some ⟨m,0,none⟩)] w fun e w' => e=.returned (.bool true)/\w=w' := by
 go_enter Tryz.func77,Tryz.ntmps77
 go_wp2
 go_ret;exact⟨rfl,rfl⟩
def Enters (f:Nat):Prop:=∀(args:Array Value) (w:World),(callFunc f args).run Tryz.prog w=.ok (.enter f args) w
set_option maxRecDepth 100000 in
theorem tZ {R:World->Prop}(w:World)(b m f g:Nat)(p:Addr)(n:Enters f)(hc:w.cell? ⟨b,0,none⟩=some (.func (.func f) #[.pointer (some p)] #[]))
  (h:Calls Tryz.prog f #[.pointer (some p),.pointer (some ⟨m,0,none⟩)] w fun e a=>e=.returned (.func (.func g) #[.pointer (some p)] #[])/\R a)
  (hk:∀a,R a->∃v cs T,a.heap[b]?=some (.cells cs T)/\cs[0]?=some v) :
  Calls Tryz.prog 77 #[.pointer (some ⟨b,0,none⟩),.pointer (some ⟨m,0,none⟩)] w fun e w' => e=.returned (.bool false)/\∃a,R a/\w'=a.setCell ⟨b,0,none⟩ (.func (.func g) #[.pointer (some p)] #[]):=by
 have j : ∀(args:Array Value) (w:World),(callFunc f args).run Tryz.prog w=.ok (.enter f args) w:=n;have HC:=ass h;have o:=ass hk;clear h hk;go_enter Tryz.func77,Tryz.ntmps77
 go_wp2_with fail
 refine(HC.out).mono ?_
 rintro e a ⟨rfl,hR⟩;obtain⟨v,cs,T,k,l⟩:=o.out a hR;have i:a.cell? ⟨b,0,none⟩=some v:=by rw[bB k];exact l
 have q:=dQ k 0;have r:(a.setCell ⟨b,0,none⟩ (.func (.func g) #[.pointer (some p)] #[])).cell? ⟨b,0,none⟩=some (.func (.func g) #[.pointer (some p)] #[]):=World.cell?_setCell_same _ _ _ i;clear k hc j l;go_wp2
 go_ret;exact⟨rfl,a,hR,rfl⟩
set_option maxRecDepth 100000 in
theorem rR {R:World->Prop}(w:World)(b m f:Nat)(p:Addr)(l:Enters f)(hc:w.cell? ⟨b,0,none⟩=some (.func (.func f) #[.pointer (some p)] #[]))
  (g:Calls Tryz.prog f #[.pointer (some p),.pointer (some ⟨m,0,none⟩)] w fun e a=>e=.returned .nilFunc/\R a)
  (hk:∀a,R a->∃v cs T,a.heap[b]?=some (.cells cs T)/\cs[0]?=some v) :
  Calls Tryz.prog 77 #[.pointer (some ⟨b,0,none⟩),.pointer (some ⟨m,0,none⟩)] w fun e w' => e=.returned (.bool true)/\∃a,R a/\w'=a.setCell ⟨b,0,none⟩ .nilFunc:=by
 have i : ∀(args:Array Value) (w:World),(callFunc f args).run Tryz.prog w=.ok (.enter f args) w:=l;have HC:=ass g;have n:=ass hk;clear g hk;go_enter Tryz.func77,Tryz.ntmps77
 go_wp2_with fail
 refine(HC.out).mono ?_
 rintro e a ⟨rfl,hR⟩;obtain⟨v,cs,T,j,k⟩:=n.out a hR;have h:a.cell? ⟨b,0,none⟩=some v:=by rw[bB j];exact k
 have o:=dQ j 0;have q:(a.setCell ⟨b,0,none⟩ .nilFunc).cell? ⟨b,0,none⟩=some .nilFunc:=World.cell?_setCell_same _ _ _ h;clear j hc i k;go_wp2
 go_ret;exact⟨rfl,a,hR,rfl⟩
structure FV where
 f:Nat
 x:Array Value
 y:Array Value
def aY:Option FV->Value
 | some s=> .func (.func s.f) s.x s.y
 | none=> .nilFunc
structure Left where
 o:Option FV
 K:aM
 v0:Value
 cells:List Value
 T:TypeId
 F:List aC
theorem oY {R:Left->Prop}(w:World)(b m:Nat)(s:FV)(t:Enters s.f)(hc:w.cell? ⟨b,0,none⟩=some (aY (some s)))
  (g:Calls Tryz.prog s.f (s.x ++ #[.pointer (some ⟨m,0,none⟩)]++s.y) w fun e h=>∃l,e=.returned (aY l.o)/\R l/\St l.K h (blk b (.cells (l.v0::l.cells).toArray l.T)::l.F)) :
  Calls Tryz.prog 77 #[.pointer (some ⟨b,0,none⟩),.pointer (some ⟨m,0,none⟩)] w fun e w' => ∃l,e=.returned (.bool l.o.isNone)/\R l/\St l.K w' (blk b (.cells (aY l.o::l.cells).toArray l.T)::l.F):=by
 have p : ∀(args:Array Value) (w:World),(callFunc s.f args).run Tryz.prog w=.ok (.enter s.f args) w:=t;have HC:=ass g;obtain⟨f,x,y⟩:=s;have q:w.cell? ⟨b,0,none⟩=some (.func (.func f) x y):=hc;clear g hc;go_enter Tryz.func77,Tryz.ntmps77
 go_wp2_with fail
 refine(HC.out).mono ?_
 rintro e h ⟨⟨o,K,v0,cells,T,F⟩,he,hR,a⟩;have a:St K h (blk b (.cells (v0::cells).toArray T)::F):=a;have k:=a.k0 0;rw[show(v0::cells).toArray[0]?=some v0 by simp]at k
 have u:=a.f0 0;have a:=a.aK 0 (aY o);have k' := a.k0 0;rw[show((v0::cells).set 0 (aY o)).toArray[0]?=some (aY o)by simp]at k'
 simp only[List.set_cons_zero]at a;clear q p HC;cases o with
 | none=>
  obtain rfl:e=.returned .nilFunc:=he;have k2:(h.setCell ⟨b,0,none⟩ .nilFunc).cell? ⟨b,0,none⟩=some .nilFunc:=k';have r:=ass a;clear k' a;go_wp2
  go_ret;exact⟨⟨none,K,v0,cells,T,F⟩,rfl,hR,r.out⟩
 | some s=>
  obtain⟨i,j,n⟩:=s;obtain rfl:e=.returned (.func (.func i) j n):=he;have k2:(h.setCell ⟨b,0,none⟩ (.func (.func i) j n)).cell? ⟨b,0,none⟩=some (.func (.func i) j n):=k';have r:=ass a;clear k' a;go_wp2
  go_ret;exact⟨⟨some ⟨i,j,n⟩,K,v0,cells,T,F⟩,rfl,hR,r.out⟩
theorem nh {K:aM}{w:World}{cs:List aC}{b m:Nat}(a:St K w cs)(hc:w.cell? ⟨b,0,none⟩=some .nilFunc):Calls Tryz.prog 77 #[.pointer (some ⟨b,0,none⟩),.pointer (some ⟨m,0,none⟩)] w fun e w' => e=.returned (.bool true)/\St K w' cs:=
 mZ a (p9 w b m hc)
def bH (x:Int):Int:=if x%4<2 then x+2 else x
def qd (x:Int):Int:=if x%4<2 then x else x-2
def dW (x:Int):Int:=IntKind.u64.wrap (qd x+4)
def aT (x:Int):Int:=if x%2=0 then x+1 else x
def aH (x:Int):Int:=x-x%2
def cg (x:Int):Bool:=decide (2<=x%4)
theorem Kg (n:Nat):n ||| 2=if n%4<2 then n+2 else n:=by
 obtain⟨q,r,a,rfl⟩:∃q r,r<4/\n=4*q+r:=⟨n / 4,n%4,Nat.mod_lt _ (by decide),(Nat.div_add_mod n 4).symm⟩
 have e:4*q+r=2 ^ 2*q ||| r:=Nat.two_pow_add_eq_or_of_lt (i:=2) a q;rw[show(4*q+r)%4=r by omega]
 rw[show 4*q+r ||| 2=2 ^ 2*q ||| (r ||| 2)by rw[e,Nat.or_assoc]]
 have b:r ||| 2<4:=Nat.or_lt_two_pow (n:=2) a (by decide)
 rw[←Nat.two_pow_add_eq_or_of_lt (i:=2) b q];match r,a with
 | 0,_=>simp
 | 1,_=>simp
 | 2,_=>simp
 | 3,_=>simp
theorem Ar (n:Nat):n &&& 2=if n%4<2 then 0 else 2:=by
 have h:n &&& 2=(n%4) &&& 2:=by
  rw[show(4:Nat)=2 ^ 2 by rfl,←Nat.and_two_pow_sub_one_eq_mod,Nat.and_assoc];rfl
 rw[h];have:n%4<4:=Nat.mod_lt _ (by decide)
 generalize n%4=r at *;match r,this with
 | 0,_=>simp
 | 1,_=>simp
 | 2,_=>simp
 | 3,_=>simp
theorem Kh (n:Nat):n ||| 1=if n%2=0 then n+1 else n:=by
 obtain⟨q,r,a,rfl⟩:∃q r,r<2/\n=2*q+r:=⟨n / 2,n%2,Nat.mod_lt _ (by decide),(Nat.div_add_mod n 2).symm⟩
 have e:2*q+r=2 ^ 1*q ||| r:=Nat.two_pow_add_eq_or_of_lt (i:=1) a q;rw[show(2*q+r)%2=r by omega]
 rw[show 2*q+r ||| 1=2 ^ 1*q ||| (r ||| 1)by rw[e,Nat.or_assoc]]
 have b:r ||| 1<2:=Nat.or_lt_two_pow (n:=1) a (by decide)
 rw[←Nat.two_pow_add_eq_or_of_lt (i:=1) b q];match r,a with
 | 0,_=>simp
 | 1,_=>simp
section
variable (x:Int)(h0:0<=x)(h1:x<18446744073709551616)
include h0 h1
theorem Sa:bits .or .u64 x 2=bH x:=by
 obtain⟨a,rfl⟩:=Int.eq_ofNat_of_zero_le h0;have:=(bits_nat .u64 64 (by decide) (fun n a b=>by rw[IntKind.wrap_u64];omega) a 2 (by omega) (by decide)).2
 rw[show((2:Nat):Int)=2 by rfl]at this
 rw[this,Kg];unfold bH;split <;> split <;> omega
theorem Sb:bits .or .u64 x 1=aT x:=by
 obtain⟨a,rfl⟩:=Int.eq_ofNat_of_zero_le h0;have:=(bits_nat .u64 64 (by decide) (fun n a b=>by rw[IntKind.wrap_u64];omega) a 1 (by omega) (by decide)).2
 rw[show((1:Nat):Int)=1 by rfl]at this
 rw[this,Kh];unfold aT;split <;> split <;> omega
theorem Mj:(bits .and .u64 x 2 != 0)=cg x:=by
 obtain⟨a,rfl⟩:=Int.eq_ofNat_of_zero_le h0;have:=(bits_nat .u64 64 (by decide) (fun n a b=>by rw[IntKind.wrap_u64];omega) a 2 (by omega) (by decide)).1
 rw[show((2:Nat):Int)=2 by rfl]at this
 rw[this,Ar];unfold cg;split
 ·simp;omega
 ·simp;omega
omit h0 h1 in
theorem Sc (a b:BitVec 64):((a &&& ~~~b) ||| (a &&& b))=a/\(a &&& ~~~b) &&& b=0#64:=by
 constructor
 ·ext i hi
  simp;cases a[i] <;> cases b[i] <;> simp
 ·ext i hi
  simp
omit h0 h1 in
theorem xd (n b:Nat)(f:n<2 ^ 64)(a:b<2 ^ 64):∃m:Nat,bits .andNot .u64 n b=(m:Int)/\(m ||| (n &&& b))=n/\m &&& b=0/\m<2 ^ 64:=by
 obtain⟨h1,g⟩:=Sc (BitVec.ofNat 64 n) (BitVec.ofNat 64 b);refine⟨(BitVec.ofNat 64 n &&& ~~~(BitVec.ofNat 64 b)).toNat,?_,?_,?_,BitVec.isLt _⟩
 ·simp only[bits,BitVec.ofInt_natCast]
  show IntKind.u64.wrap _=_
  rw[IntKind.wrap_u64];have:=(BitVec.ofNat 64 n &&& ~~~(BitVec.ofNat 64 b)).isLt;show((BitVec.ofNat 64 n &&& ~~~(BitVec.ofNat 64 b)).toNat:Int)%18446744073709551616=((BitVec.ofNat 64 n &&& ~~~(BitVec.ofNat 64 b)).toNat:Int)
  generalize (BitVec.ofNat 64 n &&& ~~~(BitVec.ofNat 64 b)).toNat=t at *;omega
 ·have:=congrArg BitVec.toNat h1
  rw[BitVec.toNat_or,BitVec.toNat_and (BitVec.ofNat 64 n) (BitVec.ofNat 64 b)]at this;rw[BitVec.toNat_ofNat,BitVec.toNat_ofNat,Nat.mod_eq_of_lt f,Nat.mod_eq_of_lt a]at this;exact this
 ·have:=congrArg BitVec.toNat g
  rw[BitVec.toNat_and (BitVec.ofNat 64 n &&& ~~~(BitVec.ofNat 64 b)),BitVec.toNat_ofNat b 64,Nat.mod_eq_of_lt a]at this;rw[this];rfl
theorem Au:bits .andNot .u64 x 2=qd x:=by
 obtain⟨a,rfl⟩:=Int.eq_ofNat_of_zero_le h0;obtain⟨m,e,b,f,_⟩:=xd a 2 (by omega) (by decide)
 rw[show((2:Nat):Int)=2 by rfl]at e
 rw[e];rw[Ar]at b f;have hm:m%4<2:=by split at f <;> omega
 unfold qd;split at b
 ·simp at b
  subst b;split <;> omega
 ·rw[Kg,if_pos hm]at b
  split <;> omega
theorem Av:bits .andNot .u64 x 1=aH x:=by
 obtain⟨a,rfl⟩:=Int.eq_ofNat_of_zero_le h0;obtain⟨m,e,b,f,_⟩:=xd a 1 (by omega) (by decide)
 rw[show((1:Nat):Int)=1 by rfl]at e
 rw[e];rw[Nat.and_one_is_mod]at b f;unfold aH;have:a%2=0\/a%2=1:=by omega
 rcases this with h|h
 ·rw[h]at b;simp at b;subst b;omega
 ·rw[h,Kh,if_pos f]at b;omega
theorem Aw (w:World):Calls Tryz.prog 92 #[.int .u64 x] w fun e w' => e=.returned (.int .u64 (bH x))/\w=w' := by
 have e:=Sa x h0 h1;go_enter Tryz.func92,Tryz.ntmps92
 go_wp2
 go_ret;exact⟨rfl,rfl⟩
theorem ua (w:World):Calls Tryz.prog 30 #[.int .u64 x] w fun e w' => e=.returned (.int .u64 (aT x))/\w=w' := by
 have e:=Sb x h0 h1;go_enter Tryz.func30,Tryz.ntmps30
 go_wp2
 go_ret;exact⟨rfl,rfl⟩
theorem jK (w:World):Calls Tryz.prog 80 #[.int .u64 x] w fun e w' => e=.returned (.int .u64 (aH x))/\w=w' := by
 have e:=Av x h0 h1;go_enter Tryz.func80,Tryz.ntmps80
 go_wp2
 go_ret;exact⟨rfl,rfl⟩
theorem ub (w:World):Calls Tryz.prog 190 #[.int .u64 x] w fun e w' => e=.returned (.bool (cg x))/\w=w' := by
 have e:=Mj x h0 h1;go_enter Tryz.func190,Tryz.ntmps190
 go_wp2
 go_ret;exact⟨rfl,rfl⟩
theorem Mk (w:World):Calls Tryz.prog 93 #[.int .u64 x] w fun e w' => e=.returned (.int .u64 (dW x))/\w=w' := by
 have e:=Au x h0 h1;have e2:IntKind.u64.wrap (qd x+4)=dW x:=rfl;go_enter Tryz.func93,Tryz.ntmps93
 go_wp2
 go_ret;exact⟨rfl,rfl⟩
theorem Gc (y:Int)(a:0<=y)(b:y<18446744073709551616)(w:World):Calls Tryz.prog 193 #[.int .u64 x,.int .u64 y] w fun e w' => e=.returned (.bool (aH x == aH y))/\w=w' := by
 have f:=fun w=>jK x h0 h1 w
 have g:=fun w=>jK y a b w
 go_enter Tryz.func193,Tryz.ntmps193
 go_wp2_with fail
 refine(f _).mono ?_
 rintro e h ⟨rfl,rfl⟩;go_wp2_with fail
 refine(g _).mono ?_
 rintro e h ⟨rfl,rfl⟩;go_wp2
 go_ret;exact⟨rfl,rfl⟩
end
end Go.Proofs.YtlpdhhhgckpcfaaGreat
