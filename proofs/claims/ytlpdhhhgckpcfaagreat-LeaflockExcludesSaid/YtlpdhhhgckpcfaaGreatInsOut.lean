
/- What Insert leaves; what a law asks of it (Err, Separator, View.Latch), the halves of a page. -/
import Derived.Test.YtlpdhhhgckpcfaaGreatInsLaw
import Derived.Test.YtlpdhhhgckpcfaaGreatViewA
import Derived.Test.YtlpdhhhgckpcfaaGreatRefIns
import Derived.Test.YtlpdhhhgckpcfaaGreatCelSame
namespace Go.Proofs.YtlpdhhhgckpcfaaGreat
open Go.RowKit
set_option maxRecDepth 100000
section
variable {K : Know} {w : World} {F : List Comp} {b : Nat} {d : Cfg} {x : InX} {nx : Value}
end
section
variable {K : Know} {w : World} {F : List Comp} {b : Nat} {d : Cfg} {fr : InH} {fu : Pg} {vu : Value} {af : Option Addr} {cf : Nat} {nx : Value}
end
section
variable {K : Know} {w : World} {F : List Comp} {b : Nat} {d : Cfg} {fr : InH} {fu p : Pg} {L L' : List Cel} {x : InX} {sp : Bool}
end
theorem viewLatch_any {d : Cfg} {L : List Cel} {g : Nat} (hd : d.Ok) (id : Int) (hid : 0 ≤ id ∧ id < 18446744073709551616) (w : World) (hv : VAt w g L) :
    Calls Tryz.prog 31 #[.agg #[.int .i64 (d).th, .int .i64 (d).sn, .int .i64 (d).no, .int .i64 (d).ch, .int .i64 (d).re, .int .i64 (d).fa, .int .u64 (d).cl, .slice (some ⟨g, 0, none⟩) L.length L.length], .int .u64 id] w fun e w' => e = .returned (.int .u64 (getC L (d.node id 0)).n) ∧ Below w.heap.size w w' := by
  have f1 := hd.fa1
  have hs := (St.start w).made (.cells #[.int .i64 (d).th, .int .i64 (d).sn, .int .i64 (d).no, .int .i64 (d).ch, .int .i64 (d).re, .int .i64 (d).fa, .int .u64 (d).cl, .slice (some ⟨g, 0, none⟩) L.length L.length] 52)
  have q := viewPart_any hd id 0 hid ⟨by omega, by omega⟩ (w.alloc (.cells #[.int .i64 (d).th, .int .i64 (d).sn, .int .i64 (d).no, .int .i64 (d).ch, .int .i64 (d).re, .int .i64 (d).fa, .int .u64 (d).cl, .slice (some ⟨g, 0, none⟩) L.length L.length] 52)) (hv.same ((Below.refl _ _).alloc (Nat.le_refl _) _))
  generalize getC L (d.node id 0) = c at *
  obtain ⟨n, k, m⟩ := c
  generalize L.length = nn at *
  have Q := Lib.hid q
  clear q hv f1
  have k := hs.k0
  go_enter Tryz.func31, Tryz.ntmps31
  go_wp2_with fail
  refine (calls_same hs Q.out).mono ?_
  clear hs k Q
  rintro e w1 ⟨rfl, hs⟩
  go_wp2
  go_ret
  exact ⟨rfl, hs.below (Know.Le.refl _)⟩
section
variable {d : Cfg} {id : Int} {L : List Cel} {pg : Pg}
end
end Go.Proofs.YtlpdhhhgckpcfaaGreat
