/- The sanity check of layer 3, and LayoutRegions. -/
import Derived.Test.YtfoojallpmibfaaLay3
import Derived.Test.YtfoojallpmibfaaFast
import Derived.Deep.Cut
namespace Go.Proofs.Ytfoojallpmibfaa
open Go.RowKit

def awC : Cfg := ⟨2, 1, 3, 2, 2, 4, 9⟩
theorem awOk : awC.Ok := by constructor <;> decide
theorem awNew (w : World) : Calls Try.prog 15 #[.agg #[.int .i64 2, .int .i64 1, .int .i64 3, .int .i64 2, .int .i64 2, .int .i64 4, .int .u64 9]] w fun e w' => e = .returned (.tuple #[.agg #[.int .i64 2, .int .i64 1, .int .i64 3, .int .i64 2, .int .i64 2, .int .i64 4, .int .u64 9], .int .i64 0]) ∧ Below w.heap.size w w' := new_yes awC awOk w
theorem awSnap (w : World) : Calls Try.prog 19 #[.agg #[.int .i64 2, .int .i64 1, .int .i64 3, .int .i64 2, .int .i64 2, .int .i64 4, .int .u64 9], .int .i64 1, .int .i64 0] w fun e w' => e = .returned (.int .i64 9) ∧ Below w.heap.size w w' := snapshot_any awC awOk 1 0 w
theorem awLatch (w : World) : Calls Try.prog 18 #[.agg #[.int .i64 2, .int .i64 1, .int .i64 3, .int .i64 2, .int .i64 2, .int .i64 4, .int .u64 9], .int .u64 1] w fun e w' => e = .returned (.int .i64 10) ∧ Below w.heap.size w w' := latch_any awC awOk 1 (by omega) (by omega) w
theorem awSlot (w : World) : Calls Try.prog 23 #[.agg #[.int .i64 2, .int .i64 1, .int .i64 3, .int .i64 2, .int .i64 2, .int .i64 4, .int .u64 9], .int .u64 1, .int .i64 3] w fun e w' => e = .returned (.int .i64 17) ∧ Below w.heap.size w w' := slot_any awC awOk 1 3 (by omega) (by omega) w
theorem awChain (w : World) : Calls Try.prog 24 #[.agg #[.int .i64 2, .int .i64 1, .int .i64 3, .int .i64 2, .int .i64 2, .int .i64 4, .int .u64 9], .int .u64 1] w fun e w' => e = .returned (.int .i64 34) ∧ Below w.heap.size w w' := chain_any awC awOk 1 (by omega) (by omega) w

theorem awake_any (w : World) : Calls Try.prog 16 #[] w fun e w' => e = .returned (.bool true) ∧ Below w.heap.size w w' := by
  go_enter Try.func16, Try.ntmps16
  go_wp2_with fail
  refine (awNew _).mono ?_
  rintro e w1 ⟨rfl, hb1⟩
  go_upto_region 2 with (fail)
  refine wp_region_pure_seq ?_
  repeat (go_big_quiet_step (first | (go_at_call 19; exact pure_of (awSnap _)) | (go_at_call 18; exact pure_of (awLatch _)) | (go_at_call 23; exact pure_of (awSlot _)) | (go_at_call 24; exact pure_of (awChain _))))
  refine wpQuiet_nil ?_
  intro w2 hb2
  go_wp2
  go_ret
  exact ⟨rfl, (hb1.alloc hb1.size _).trans (hb2.mono (by have := hb1.size; simp; omega))⟩

theorem regions_plain (d : Cfg) (hd : d.Ok) (t j i n h r : Int) (ht : 0 ≤ t ∧ t < d.th) (hj : 0 ≤ j ∧ j < d.sn) (hi : 0 ≤ i ∧ i < d.fa) (hn : 1 ≤ n ∧ n ≤ d.no) (hh : 1 ≤ h ∧ h ≤ d.ch) (hr : 1 ≤ r ∧ r ≤ d.re) :
    7 < d.snap t j ∧ d.snap t j < d.node n 0 ∧ d.node n 1 = d.node n 0 + 1 ∧ d.node n 2 = d.node n 0 + 2 ∧ d.node n 3 = d.node n 0 + 3 ∧ d.slot n i = d.node n 0 + 4 + i ∧ d.node n 0 + 4 + i < d.chain h ∧ d.chain h < d.record r 0 ∧ d.record r 1 = d.record r 0 + 1 ∧ d.record r 2 = d.record r 0 + 2 ∧ d.record r 0 + 2 < d.cells ∧ d.cells ≤ 360968 := by
  have h1 := hd.cells_bd
  have h2 : t * d.sn + j < d.th * d.sn := by
    have : (t + 1) * d.sn ≤ d.th * d.sn := Int.mul_le_mul_of_nonneg_right (by omega) (by omega)
    rw [Int.add_mul] at this
    omega
  have h3 : 0 ≤ t * d.sn := Int.mul_nonneg (by omega) (by omega)
  have f1 := hd.fa1
  have h4 : (n - 1) * (d.fa + 4) + (d.fa + 4) ≤ d.no * (d.fa + 4) := by
    have : (n - 1 + 1) * (d.fa + 4) ≤ d.no * (d.fa + 4) := Int.mul_le_mul_of_nonneg_right (by omega) (by omega)
    rw [Int.add_mul, Int.one_mul] at this
    exact this
  have h5 : 0 ≤ (n - 1) * (d.fa + 4) := Int.mul_nonneg (by omega) (by omega)
  simp only [Cfg.snap, Cfg.slot, Cfg.node, Cfg.chain, Cfg.record, Cfg.cells, Cfg.C, Cfg.B, Cfg.A] at h1 ⊢
  rw [if_pos (by omega), if_pos (by omega), if_pos (by omega), if_pos (by omega), if_pos (by omega), if_pos (by omega), if_pos (by omega)]
  rw [if_pos (by omega), if_pos (by omega), if_pos (by omega)]
  omega

set_option maxHeartbeats 1000000 in
theorem layoutRegions_walk (c : Cfg) (h0 : 0 ≤ c.cl) (t j i n h r : Int) (hn : 0 ≤ n ∧ n < 18446744073709551616) (hh : 0 ≤ h ∧ h < 18446744073709551616) (hr : 0 ≤ r ∧ r < 18446744073709551616) (w : World) :
    Calls Try.prog 3 #[.agg #[.int .i64 c.th, .int .i64 c.sn, .int .i64 c.no, .int .i64 c.ch, .int .i64 c.re, .int .i64 c.fa, .int .u64 c.cl], .int .i64 t, .int .i64 j, .int .i64 i, .int .u64 n, .int .u64 h, .int .u64 r] w fun e w' => e = .returned (.bool true) ∧ Below w.heap.size w w' := by
  obtain ⟨d, hs, hd⟩ : ∃ d : Cfg, (∀ w, Calls Try.prog 14 #[.agg #[.int .i64 c.th, .int .i64 c.sn, .int .i64 c.no, .int .i64 c.ch, .int .i64 c.re, .int .i64 c.fa, .int .u64 c.cl]] w fun e w' => e = .returned (.agg #[.int .i64 d.th, .int .i64 d.sn, .int .i64 d.no, .int .i64 d.ch, .int .i64 d.re, .int .i64 d.fa, .int .u64 d.cl]) ∧ Below w.heap.size w w') ∧ d.Ok := ⟨smallC c, small_any c h0, small_ok c⟩
  have t1 := hd.th1; have t2 := hd.th2; have s1 := hd.sn1; have s2 := hd.sn2; have n1 := hd.no1; have n2 := hd.no2; have c1 := hd.ch1; have c2 := hd.ch2; have r1 := hd.re1; have r2 := hd.re2; have f1 := hd.fa1; have f2 := hd.fa2
  go_enter Try.func3, Try.ntmps3
  go_wp2_with fail
  refine (hs _).mono ?_
  rintro e w1 ⟨rfl, hb1⟩
  go_wp2_with fail
  refine (new_yes d hd _).mono ?_
  rintro e w2 ⟨rfl, hb2⟩
  go_wp2_with fail
  refine (awake_any _).mono ?_
  rintro e w3 ⟨rfl, hb3⟩
  go_upto_region 5 with (fail)
  have B1 := blk_same hb3 (blk_old (blk_same hb2 (blk_alloc w1 _)) _)
  have B2 := blk_same hb3 (blk_alloc w2 _)
  have k1 := blk_cell B1
  have k2 := blk_cell B2
  obtain ⟨t', ht, ht1, ht2⟩ : ∃ t' : Int, (∀ w, Calls Try.prog 17 #[.int .i64 t, .int .i64 d.th] w fun e w' => e = .returned (.int .i64 t') ∧ w = w') ∧ 0 ≤ t' ∧ t' < d.th := ⟨t % d.th, mod_any t d.th (by omega) (by omega), Int.emod_nonneg _ (by omega), Int.emod_lt_of_pos _ (by omega)⟩
  obtain ⟨j', hj, hj1, hj2⟩ : ∃ j' : Int, (∀ w, Calls Try.prog 17 #[.int .i64 j, .int .i64 d.sn] w fun e w' => e = .returned (.int .i64 j') ∧ w = w') ∧ 0 ≤ j' ∧ j' < d.sn := ⟨j % d.sn, mod_any j d.sn (by omega) (by omega), Int.emod_nonneg _ (by omega), Int.emod_lt_of_pos _ (by omega)⟩
  obtain ⟨i', hi, hi1, hi2⟩ : ∃ i' : Int, (∀ w, Calls Try.prog 17 #[.int .i64 i, .int .i64 d.fa] w fun e w' => e = .returned (.int .i64 i') ∧ w = w') ∧ 0 ≤ i' ∧ i' < d.fa := ⟨i % d.fa, mod_any i d.fa (by omega) (by omega), Int.emod_nonneg _ (by omega), Int.emod_lt_of_pos _ (by omega)⟩
  refine wp_region_pure (by kernel_rfl) (by kernel_rfl) ?_
  repeat (go_big_quiet_step (first | (go_at_call 17; first | with_reducible exact pure_of_same (ht _) | with_reducible exact pure_of_same (hj _) | with_reducible exact pure_of_same (hi _))))
  refine wpQuiet_nil ?_
  intro w4 hb4
  have k1 := blk_cell (blk_same hb4 B1)
  have k2 := blk_cell (blk_same hb4 B2)
  go_upto_region 6 with (fail)
  have z1 : (d.no == 0) = false := by simp; omega
  have z2 : (d.ch == 0) = false := by simp; omega
  have z3 : (d.re == 0) = false := by simp; omega
  have z4 := Int.emod_nonneg n (b := d.no) (by omega)
  have z5 := Int.emod_lt_of_pos n (b := d.no) (by omega)
  have z6 := Int.emod_nonneg h (b := d.ch) (by omega)
  have z7 := Int.emod_lt_of_pos h (b := d.ch) (by omega)
  have z8 := Int.emod_nonneg r (b := d.re) (by omega)
  have z9 := Int.emod_lt_of_pos r (b := d.re) (by omega)
  refine wp_region_pure (by kernel_rfl) (by kernel_rfl) ?_
  repeat (go_big_quiet_step (fail))
  refine wpQuiet_nil ?_
  intro w5 hb5
  have k2 := blk_cell (blk_same hb5 (blk_same hb4 B2))
  generalize n % d.no = n' at *
  generalize h % d.ch = h' at *
  generalize r % d.re = r' at *
  have hp := regions_plain d hd t' j' i' (1 + n') (1 + h') (1 + r') ⟨ht1, ht2⟩ ⟨hj1, hj2⟩ ⟨hi1, hi2⟩ (by omega) (by omega) (by omega)
  have q1 := snapshot_any d hd t' j'
  have q2 := latch_any d hd (1 + n') (by omega) (by omega)
  have q3 := head_any d hd (1 + n') (by omega) (by omega)
  have q4 := high_any d hd (1 + n') (by omega) (by omega)
  have q5 := right_any d hd (1 + n') (by omega) (by omega)
  have q6 := slot_any d hd (1 + n') i' (by omega) (by omega)
  have q7 := chain_any d hd (1 + h') (by omega) (by omega)
  have q8 := stamp_any d hd (1 + r') (by omega) (by omega)
  have q9 := value_any d hd (1 + r') (by omega) (by omega)
  have q10 := next_any d hd (1 + r') (by omega) (by omega)
  have q11 := cells_any d hd
  clear ht hj hi hs k1
  obtain ⟨p1, p2, p3, p4, p5, p6, p7, p8, p9, p10, p11, p12⟩ := hp
  rw [p3] at q3; rw [p4] at q4; rw [p5] at q5; rw [p6] at q6; rw [p9] at q9; rw [p10] at q10
  clear p3 p4 p5 p6 p9 p10
  generalize d.snap t' j' = sv at *
  generalize d.node (1 + n') 0 = av at *
  generalize d.chain (1 + h') = xv at *
  generalize d.record (1 + r') 0 = yv at *
  generalize d.cells = zv at *
  have Q1 := Lib.hid q1; have Q2 := Lib.hid q2; have Q3 := Lib.hid q3; have Q4 := Lib.hid q4; have Q5 := Lib.hid q5; have Q6 := Lib.hid q6; have Q7 := Lib.hid q7; have Q8 := Lib.hid q8; have Q9 := Lib.hid q9; have Q10 := Lib.hid q10; have Q11 := Lib.hid q11
  clear q1 q2 q3 q4 q5 q6 q7 q8 q9 q10 q11
  go_upto_region 7 with (fail)
  refine wp_region_pure_seq ?_
  repeat (go_big_quiet_step (first | (go_at_call 19; exact pure_of (Q1.out _)) | (go_at_call 18; exact pure_of (Q2.out _)) | (go_at_call 20; exact pure_of (Q3.out _)) | (go_at_call 21; exact pure_of (Q4.out _)) | (go_at_call 22; exact pure_of (Q5.out _)) | (go_at_call 23; exact pure_of (Q6.out _)) | (go_at_call 24; exact pure_of (Q7.out _)) | (go_at_call 25; exact pure_of (Q8.out _)) | (go_at_call 26; exact pure_of (Q9.out _)) | (go_at_call 27; exact pure_of (Q10.out _)) | (go_at_call 28; exact pure_of (Q11.out _))))
  refine wpQuiet_nil ?_
  intro w6 hb6
  have k2 := blk_cell (blk_same hb6 (blk_same hb5 (blk_same hb4 B2)))
  go_upto_region 8 with (fail)
  refine region_pure (by kernel_rfl) (by as_aux_lemma => kernel_rfl) ?_
  simp only [List.append_eq, List.cons_append, List.nil_append]
  repeat (go_big_quiet_step (first | (go_at_call 19; exact pure_of (Q1.out _)) | (go_at_call 18; exact pure_of (Q2.out _)) | (go_at_call 20; exact pure_of (Q3.out _)) | (go_at_call 21; exact pure_of (Q4.out _)) | (go_at_call 22; exact pure_of (Q5.out _)) | (go_at_call 23; exact pure_of (Q6.out _)) | (go_at_call 24; exact pure_of (Q7.out _)) | (go_at_call 25; exact pure_of (Q8.out _)) | (go_at_call 26; exact pure_of (Q9.out _)) | (go_at_call 27; exact pure_of (Q10.out _)) | (go_at_call 28; exact pure_of (Q11.out _))))
  refine wpQuiet_nil ?_
  intro w7 hb7
  go_wp2
  go_ret
  refine ⟨rfl, ?_⟩
  have s1 := hb1.size; have s2 := hb2.size; have s3 := hb3.size; have s4 := hb4.size; have s5 := hb5.size; have s6 := hb6.size
  simp only [World.size_alloc] at s1 s2 s3
  exact ((((((((Below.refl _ _).alloc (Nat.le_refl _) _).trans (hb1.mono (by simp))).alloc (by omega) _).trans (hb2.mono (by simp; omega))).alloc (by omega) _).trans (hb3.mono (by simp; omega))).trans (hb4.mono (by omega))).trans ((hb5.mono (by omega)).trans ((hb6.mono (by omega)).trans (hb7.mono (by omega))))
end Go.Proofs.Ytfoojallpmibfaa
