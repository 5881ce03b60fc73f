/- clock.NewAllocate. -/
import Derived.Test.YtfoojallpmibfaaAlloc6
namespace Go.Proofs.Ytfoojallpmibfaa
open Go.RowKit
set_option maxRecDepth 100000

theorem field_cfg6 (v0 v1 v2 v3 v4 v5 v6 : Value) (w : World) : (Instr.field 24 (.agg #[v0, v1, v2, v3, v4, v5, v6]) 6).run Try.prog w = .ok v6 w := by kernel_rfl
attribute [go_sem] field_cfg6

theorem newAllocate_any (c : Cfg) (w : World) : Calls Try.prog 61 #[.agg #[.int .i64 c.th, .int .i64 c.sn, .int .i64 c.no, .int .i64 c.ch, .int .i64 c.re, .int .i64 c.fa, .int .u64 c.cl]] w fun e w' => ∃ ba bt, e = .returned (.pointer (some ⟨ba, 0, none⟩)) ∧ w.heap.size ≤ ba ∧ w.heap.size ≤ bt ∧ ba ≠ bt ∧ AllocAt w' ba bt c.cl ⟨0, 0, false⟩ ∧ Below w.heap.size w w' := by
  go_enter Try.func61, Try.ntmps61
  go_wp2_with fail
  refine region_tail 5 (by kernel_rfl) (by kernel_rfl) ?_
  simp only [List.take_succ_cons, List.take_zero, List.drop_succ_cons, List.drop_zero]
  have A1 := blk_alloc w (.cells #[.int .i64 c.th, .int .i64 c.sn, .int .i64 c.no, .int .i64 c.ch, .int .i64 c.re, .int .i64 c.fa, .int .u64 c.cl] 27)
  have k := blk_cell A1
  repeat (go_big_quiet_step (first | (go_at_call 31; exact pure_of (allocated_any c _)) | (go_at_call 52; exact pure_of (config_any c _))))
  refine wpQuiet_nil ?_
  intro w1 hb
  have hB1 : Below w.heap.size w w1 := ((Below.refl _ _).alloc (Nat.le_refl _) _).trans (hb.mono (by simp))
  clear hb k A1
  go_wp2_with fail
  refine (newTake_any w1 1 c.cl).mono ?_
  rintro e w2 ⟨rfl, hT, hb, hz⟩
  have hz1 := hB1.size
  go_wp2
  go_ret
  refine ⟨_, _, rfl, by omega, hz1, by omega, ⟨blk_alloc _ _, blk_old hT _⟩, ?_⟩
  exact (hB1.trans (hb.mono hz1)).alloc (by omega) _
end Go.Proofs.Ytfoojallpmibfaa
