/- The walk of LayoutValidates. -/
import Derived.Test.YtfoojallpmibfaaLaw3d
namespace Go.Proofs.Ytfoojallpmibfaa
open Go.RowKit

theorem layoutValidates_walk (c : Cfg) (_ : 0 ≤ c.cl) (w : World) : Calls Try.prog 7 #[.agg #[.int .i64 c.th, .int .i64 c.sn, .int .i64 c.no, .int .i64 c.ch, .int .i64 c.re, .int .i64 c.fa, .int .u64 c.cl]] w fun e w' => e = .returned (.bool true) ∧ Below w.heap.size w w' := by
  by_cases hc : c.Ok
  · go_enter Try.func7, Try.ntmps7
    go_wp2_with fail
    refine (refValid_yes c hc _).mono ?_
    rintro e w1 ⟨rfl, hb1⟩
    have B1 := blk_same hb1 (blk_alloc w (.cells #[.int .i64 c.th, .int .i64 c.sn, .int .i64 c.no, .int .i64 c.ch, .int .i64 c.re, .int .i64 c.fa, .int .u64 c.cl] 24))
    have k1 := blk_cell B1
    go_wp2_with fail
    refine (new_yes c hc _).mono ?_
    rintro e w2 ⟨rfl, hb2⟩
    clear k1
    obtain ⟨W, hW⟩ : ∃ W, W = w2.alloc (.cells #[.int .i64 c.th, .int .i64 c.sn, .int .i64 c.no, .int .i64 c.ch, .int .i64 c.re, .int .i64 c.fa, .int .u64 c.cl] 27) := ⟨_, rfl⟩
    have A1 : W.heap[w.heap.size]? = some (.cells #[.int .i64 c.th, .int .i64 c.sn, .int .i64 c.no, .int .i64 c.ch, .int .i64 c.re, .int .i64 c.fa, .int .u64 c.cl] 24) := by rw [hW]; exact blk_old (blk_same hb2 B1) _
    have A2 : W.heap[w2.heap.size]? = some (.cells #[.int .i64 c.th, .int .i64 c.sn, .int .i64 c.no, .int .i64 c.ch, .int .i64 c.re, .int .i64 c.fa, .int .u64 c.cl] 27) := by rw [hW]; exact blk_alloc w2 _
    have hB : Below w.heap.size w W := by
      have s1 := hb1.size
      simp only [World.size_alloc] at s1
      rw [hW]
      exact ((((Below.refl _ _).alloc (Nat.le_refl _) _).trans (hb1.mono (by simp))).trans (hb2.mono (by omega))).alloc (by have := hb2.size; omega) _
    go_upto_region 3 with (fail)
    rw [← hW]
    clear hW hb1 hb2 B1
    have k1 := blk_cell A1
    have k2 := blk_cell A2
    refine region_pure (by kernel_rfl) (by as_aux_lemma => kernel_rfl) ?_
    repeat (go_big_quiet_step (first | (go_at_call 51; exact pure_of (valid_yes c hc _)) | (go_at_call 52; exact pure_of (config_any c _))))
    refine wpQuiet_nil ?_
    intro w3 hb3
    clear k1 k2
    go_wp2_with fail
    refine (awake_any _).mono ?_
    rintro e w4 ⟨rfl, hb4⟩
    go_wp2
    go_ret
    exact ⟨rfl, (hB.trans (hb3.mono hB.size)).trans (hb4.mono (Nat.le_trans hB.size hb3.size))⟩
  · go_enter Try.func7, Try.ntmps7
    go_wp2_with fail
    refine (refValid_no c hc _).mono ?_
    rintro e w1 ⟨rfl, hb1⟩
    have B1 := blk_same hb1 (blk_alloc w (.cells #[.int .i64 c.th, .int .i64 c.sn, .int .i64 c.no, .int .i64 c.ch, .int .i64 c.re, .int .i64 c.fa, .int .u64 c.cl] 24))
    have k1 := blk_cell B1
    go_wp2_with fail
    refine (new_no c hc _).mono ?_
    rintro e w2 ⟨rfl, hb2⟩
    clear k1
    obtain ⟨W, hW⟩ : ∃ W, W = w2.alloc (.cells #[.int .i64 0, .int .i64 0, .int .i64 0, .int .i64 0, .int .i64 0, .int .i64 0, .int .u64 0] 27) := ⟨_, rfl⟩
    have A1 : W.heap[w.heap.size]? = some (.cells #[.int .i64 c.th, .int .i64 c.sn, .int .i64 c.no, .int .i64 c.ch, .int .i64 c.re, .int .i64 c.fa, .int .u64 c.cl] 24) := by rw [hW]; exact blk_old (blk_same hb2 B1) _
    have hB : Below w.heap.size w W := by
      have s1 := hb1.size
      simp only [World.size_alloc] at s1
      rw [hW]
      exact ((((Below.refl _ _).alloc (Nat.le_refl _) _).trans (hb1.mono (by simp))).trans (hb2.mono (by omega))).alloc (by have := hb2.size; omega) _
    go_upto_region 3 with (fail)
    rw [← hW]
    clear hW hb1 hb2 B1
    have k1 := blk_cell A1
    refine region_pure (by kernel_rfl) (by as_aux_lemma => kernel_rfl) ?_
    repeat (go_big_quiet_step ((go_at_call 51; exact pure_of (valid_no c hc _))))
    refine wpQuiet_nil ?_
    intro w3 hb3
    have k1 := blk_cell (blk_same hb3 A1)
    go_wp2_with fail
    refine (start_no c hc _).mono ?_
    rintro e w4 ⟨rfl, hb4⟩
    clear k1
    go_wp2_with fail
    refine (awake_any _).mono ?_
    rintro e w5 ⟨rfl, hb5⟩
    go_wp2
    go_ret
    refine ⟨rfl, ?_⟩
    have s1 := hB.size; have s2 := hb3.size; have s3 := hb4.size
    exact (((hB.trans (hb3.mono s1)).trans (hb4.mono (by omega))).alloc (by omega) _).trans (hb5.mono (by simp; omega))
end Go.Proofs.Ytfoojallpmibfaa
