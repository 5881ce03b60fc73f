/- The walk of LayoutAddresses. -/
import Derived.Test.YtfoojallpmibfaaLaw3a
namespace Go.Proofs.Ytfoojallpmibfaa
open Go.RowKit

set_option maxRecDepth 100000 in
set_option maxHeartbeats 2000000 in
theorem layoutAddresses_walk (c : Cfg) (h0 : 0 ≤ c.cl) (t j i n : Int) (hn : 0 ≤ n ∧ n < 18446744073709551616) (w : World) :
    Calls Try.prog 4 #[.agg #[.int .i64 c.th, .int .i64 c.sn, .int .i64 c.no, .int .i64 c.ch, .int .i64 c.re, .int .i64 c.fa, .int .u64 c.cl], .int .i64 t, .int .i64 j, .int .i64 i, .int .u64 n] w fun e w' => e = .returned (.bool true) ∧ Below w.heap.size w w' := by
  obtain ⟨d, hs, hd⟩ : ∃ d : Cfg, (∀ w, Calls Try.prog 14 #[.agg #[.int .i64 c.th, .int .i64 c.sn, .int .i64 c.no, .int .i64 c.ch, .int .i64 c.re, .int .i64 c.fa, .int .u64 c.cl]] w fun e w' => e = .returned (.agg #[.int .i64 d.th, .int .i64 d.sn, .int .i64 d.no, .int .i64 d.ch, .int .i64 d.re, .int .i64 d.fa, .int .u64 d.cl]) ∧ Below w.heap.size w w') ∧ d.Ok := ⟨smallC c, small_any c h0, small_ok c⟩
  have t1 := hd.th1; have t2 := hd.th2; have s1 := hd.sn1; have s2 := hd.sn2; have n1 := hd.no1; have n2 := hd.no2; have c1 := hd.ch1; have c2 := hd.ch2; have r1 := hd.re1; have r2 := hd.re2; have f1 := hd.fa1; have f2 := hd.fa2
  have z1 : (d.no + 2 == 0) = false := by simp; omega
  go_enter Try.func4, Try.ntmps4
  go_wp2_with fail
  refine (hs _).mono ?_
  rintro e w1 ⟨rfl, hb1⟩
  go_wp2_with fail
  refine (new_yes d hd _).mono ?_
  rintro e w2 ⟨rfl, hb2⟩
  go_upto_region 3 with (fail)
  have B1 := blk_old (blk_same hb2 (blk_alloc w1 (.cells #[.int .i64 d.th, .int .i64 d.sn, .int .i64 d.no, .int .i64 d.ch, .int .i64 d.re, .int .i64 d.fa, .int .u64 d.cl] 24))) (.cells #[.int .i64 d.th, .int .i64 d.sn, .int .i64 d.no, .int .i64 d.ch, .int .i64 d.re, .int .i64 d.fa, .int .u64 d.cl] 27)
  have B2 := blk_alloc w2 (.cells #[.int .i64 d.th, .int .i64 d.sn, .int .i64 d.no, .int .i64 d.ch, .int .i64 d.re, .int .i64 d.fa, .int .u64 d.cl] 27)
  have hz2 := hb2.size
  obtain ⟨W, hW⟩ : ∃ W, W = w2.alloc (.cells #[.int .i64 d.th, .int .i64 d.sn, .int .i64 d.no, .int .i64 d.ch, .int .i64 d.re, .int .i64 d.fa, .int .u64 d.cl] 27) := ⟨_, rfl⟩
  have hB0 : Below w.heap.size w W := by
    have s1 := hb1.size
    simp only [World.size_alloc] at s1 hz2
    rw [hW]
    exact ((((Below.refl _ _).alloc (Nat.le_refl _) _).trans (hb1.mono (by simp))).alloc (by omega) _).trans (hb2.mono (by simp; omega)) |>.alloc (by omega) _
  rw [← hW] at B1 B2 ⊢
  clear hs hb1 hb2 hW hz2
  have k1 := blk_cell B1
  have k2 := blk_cell B2
  refine region_pure (by kernel_rfl) (by as_aux_lemma => kernel_rfl) ?_
  repeat (go_big_quiet_step (first | (go_at_call 16; exact pure_of (awake_any _)) | (go_at_call 28; exact pure_of (cells_any d hd _)) | (go_at_call 29; exact pure_of (refCells_any d hd _)) | (go_at_call 30; exact pure_of (root_any d _)) | (go_at_call 31; exact pure_of (allocated_any d _)) | (go_at_call 32; exact pure_of (published_any d _)) | (go_at_call 33; exact pure_of (floor_any d _)) | (go_at_call 34; exact pure_of (nodes_any d _)) | (go_at_call 35; exact pure_of (chains_any d _)) | (go_at_call 36; exact pure_of (records_any d _)) | (go_at_call 37; exact pure_of (grow_any d _))))
  refine wpQuiet_nil ?_
  intro w3 hb3
  have C1 := blk_same hb3 B1
  have C2 := blk_same hb3 B2
  have hB := hB0.trans (hb3.mono hB0.size)
  clear hb3 hB0 B1 B2 k1 k2
  go_wp2
  go_loopw [1, 2, 3, 4, 14] (fun vt vj vi vn vk wr => ∃ (k : Nat) (t j i n : Int), k ≤ 2 ∧ 0 ≤ n ∧ n < 18446744073709551616 ∧ vt = .int .i64 t ∧ vj = .int .i64 j ∧ vi = .int .i64 i ∧ vn = .int .u64 n ∧ vk = .int .i64 k ∧
      wr.heap[w1.heap.size]? = some (.cells #[.int .i64 d.th, .int .i64 d.sn, .int .i64 d.no, .int .i64 d.ch, .int .i64 d.re, .int .i64 d.fa, .int .u64 d.cl] 24) ∧ wr.heap[w2.heap.size]? = some (.cells #[.int .i64 d.th, .int .i64 d.sn, .int .i64 d.no, .int .i64 d.ch, .int .i64 d.re, .int .i64 d.fa, .int .u64 d.cl] 27) ∧ Below w.heap.size w wr) (fun _ _ _ _ vk _ => 2 - (intOf vk).toNat)
  case atStart => exact ⟨0, t, j, i, n, by omega, hn.1, hn.2, rfl, rfl, rfl, rfl, rfl, C1, C2, hB⟩
  case round =>
    clear C1 C2 hB
    obtain ⟨k, t, j, i, n, hk, hn0, hn1, rfl, rfl, rfl, rfl, rfl, C1, C2, hB⟩ := hrel
    by_cases hlt : k < 2
    · go_upto_region 8 with (fail)
      have k1 := blk_cell C1
      have k2 := blk_cell C2
      refine region_pure (by kernel_rfl) (by as_aux_lemma => kernel_rfl) ?_
      simp only [List.append_eq, List.cons_append, List.nil_append]
      repeat (go_big_quiet_step (first | (go_at_call 19; exact pure_of (snapshot_any d hd _ _ _)) | (go_at_call 38; exact pure_of (refSnapshot_any d hd _ _ _)) | (go_at_call 18; exact pure_of (latch_any d hd _ hn0 hn1 _)) | (go_at_call 20; exact pure_of (head_any d hd _ hn0 hn1 _)) | (go_at_call 21; exact pure_of (high_any d hd _ hn0 hn1 _)) | (go_at_call 22; exact pure_of (right_any d hd _ hn0 hn1 _)) | (go_at_call 24; exact pure_of (chain_any d hd _ hn0 hn1 _)) | (go_at_call 25; exact pure_of (stamp_any d hd _ hn0 hn1 _)) | (go_at_call 26; exact pure_of (value_any d hd _ hn0 hn1 _)) | (go_at_call 27; exact pure_of (next_any d hd _ hn0 hn1 _)) | (go_at_call 39; exact pure_of (refNode_any d hd _ _ hn0 hn1 (by omega) (by omega) _)) | (go_at_call 40; exact pure_of (refChain_any d hd _ hn0 hn1 _)) | (go_at_call 41; exact pure_of (refRecord_any d hd _ _ hn0 hn1 (by omega) (by omega) _))))
      refine wpQuiet_nil ?_
      intro w4 hb4
      have D1 := blk_same hb4 C1
      have D2 := blk_same hb4 C2
      have m1 := blk_cell D1
      have m2 := blk_cell D2
      clear k1 k2 C1 C2
      by_cases hi : 0 ≤ i ∧ i < d.fa
      · have q := slot_any d hd n i hn0 hn1
        rw [show d.slot n i = d.node n (4 + i) by unfold Cfg.slot; rw [if_pos hi]] at q
        have Q := Lib.hid q
        clear q
        obtain ⟨g1, g2⟩ := hi
        go_wp2_with fail
        refine (refNode_any d hd n (4 + i) hn0 hn1 (by omega) (by omega) _).mono ?_
        rintro e w5 ⟨rfl, hb5⟩
        have E1 := blk_same hb5 D1
        have E2 := blk_same hb5 D2
        clear m1 m2 D1 D2
        have m1 := blk_cell E1
        have m2 := blk_cell E2
        go_wp2_with fail
        refine (Q.out _).mono ?_
        rintro e w6 ⟨rfl, hb6⟩
        replace E1 := blk_same hb6 E1
        replace E2 := blk_same hb6 E2
        clear m1 m2
        have m1 := blk_cell E1
        have m2 := blk_cell E2
        go_upto_region 15 with (fail)
        have hB5 := hB.trans ((hb4.mono hB.size).trans ((hb5.mono (Nat.le_trans hB.size hb4.size)).trans (hb6.mono (Nat.le_trans hB.size (Nat.le_trans hb4.size hb5.size)))))
        refine region_pure (by kernel_rfl) (by as_aux_lemma => kernel_rfl) ?_
        repeat (go_big_quiet_step ((go_at_call 17; exact pure_of_same (mod_any _ _ (by omega) (by omega) _))))
        refine wpQuiet_nil ?_
        intro w7 hb7
        go_wp2
        go_roundw
        case rel => exact ⟨k + 1, _, _, _, _, by omega, Int.emod_nonneg n (by omega), Int.lt_of_lt_of_le (Int.emod_lt_of_pos n (by omega)) (by omega), rfl, rfl, rfl, rfl, by go_num, blk_same hb7 E1, blk_same hb7 E2, hB5.trans (hb7.mono hB5.size)⟩
        case measure => simp [intOf]; omega

      · have q := slot_any d hd n i hn0 hn1
        rw [show d.slot n i = -1 by unfold Cfg.slot; rw [if_neg hi]] at q
        have Q := Lib.hid q
        clear q
        have hi' : i < 0 ∨ (0 ≤ i ∧ d.fa ≤ i) := by omega
        clear hi
        rcases hi' with g1 | ⟨g1, g2⟩
        all_goals
          go_wp2_with fail
          refine (Q.out _).mono ?_
          rintro e w6 ⟨rfl, hb6⟩
          have E1 := blk_same hb6 D1
          have E2 := blk_same hb6 D2
          clear m1 m2
          have m1 := blk_cell E1
          have m2 := blk_cell E2
          go_upto_region 15 with (fail)
          have hB5 := hB.trans ((hb4.mono hB.size).trans (hb6.mono (Nat.le_trans hB.size hb4.size)))
          refine region_pure (by kernel_rfl) (by as_aux_lemma => kernel_rfl) ?_
          repeat (go_big_quiet_step ((go_at_call 17; exact pure_of_same (mod_any _ _ (by omega) (by omega) _))))
          refine wpQuiet_nil ?_
          intro w7 hb7
          go_wp2
          go_roundw
          case rel => exact ⟨k + 1, _, _, _, _, by omega, Int.emod_nonneg n (by omega), Int.lt_of_lt_of_le (Int.emod_lt_of_pos n (by omega)) (by omega), rfl, rfl, rfl, rfl, by go_num, blk_same hb7 E1, blk_same hb7 E2, hB5.trans (hb7.mono hB5.size)⟩
          case measure => simp [intOf]; omega

    · go_wp2
      go_ret
      exact ⟨rfl, hB⟩
end Go.Proofs.Ytfoojallpmibfaa
