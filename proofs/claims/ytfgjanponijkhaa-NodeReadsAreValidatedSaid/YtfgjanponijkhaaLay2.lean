
/- The contracts of the layout's functions (layer 3), second part. -/
import Derived.Test.YtfgjanponijkhaaLay
namespace Go.Proofs.Ytfgjanponijkhaa
open Go.RowKit
theorem latch_any (c : Cfg) (hc : c.Ok) (n : Int) (hn0 : 0 ≤ n) (hn1 : n < 18446744073709551616) (w : World) : Calls Try.prog 115 #[.agg #[.int .i64 c.th, .int .i64 c.sn, .int .i64 c.no, .int .i64 c.ch, .int .i64 c.re, .int .i64 c.fa, .int .u64 c.cl], .int .u64 n] w fun e w' => e = .returned (.int .i64 (c.node n 0)) ∧ Below w.heap.size w w' := by
  go_enter Try.func115, Try.ntmps115
  go_wp2_with fail
  refine (node_any c hc n 0 hn0 hn1 (by omega) (by omega) _).mono ?_
  rintro e w1 ⟨rfl, hb1⟩
  go_wp2
  go_ret
  exact ⟨rfl, ((Below.refl _ _).alloc (Nat.le_refl _) _).trans (hb1.mono (by simp))⟩
theorem head_any (c : Cfg) (hc : c.Ok) (n : Int) (hn0 : 0 ≤ n) (hn1 : n < 18446744073709551616) (w : World) : Calls Try.prog 118 #[.agg #[.int .i64 c.th, .int .i64 c.sn, .int .i64 c.no, .int .i64 c.ch, .int .i64 c.re, .int .i64 c.fa, .int .u64 c.cl], .int .u64 n] w fun e w' => e = .returned (.int .i64 (c.node n 1)) ∧ Below w.heap.size w w' := by
  go_enter Try.func118, Try.ntmps118
  go_wp2_with fail
  refine (node_any c hc n 1 hn0 hn1 (by omega) (by omega) _).mono ?_
  rintro e w1 ⟨rfl, hb1⟩
  go_wp2
  go_ret
  exact ⟨rfl, ((Below.refl _ _).alloc (Nat.le_refl _) _).trans (hb1.mono (by simp))⟩
theorem high_any (c : Cfg) (hc : c.Ok) (n : Int) (hn0 : 0 ≤ n) (hn1 : n < 18446744073709551616) (w : World) : Calls Try.prog 119 #[.agg #[.int .i64 c.th, .int .i64 c.sn, .int .i64 c.no, .int .i64 c.ch, .int .i64 c.re, .int .i64 c.fa, .int .u64 c.cl], .int .u64 n] w fun e w' => e = .returned (.int .i64 (c.node n 2)) ∧ Below w.heap.size w w' := by
  go_enter Try.func119, Try.ntmps119
  go_wp2_with fail
  refine (node_any c hc n 2 hn0 hn1 (by omega) (by omega) _).mono ?_
  rintro e w1 ⟨rfl, hb1⟩
  go_wp2
  go_ret
  exact ⟨rfl, ((Below.refl _ _).alloc (Nat.le_refl _) _).trans (hb1.mono (by simp))⟩
theorem right_any (c : Cfg) (hc : c.Ok) (n : Int) (hn0 : 0 ≤ n) (hn1 : n < 18446744073709551616) (w : World) : Calls Try.prog 120 #[.agg #[.int .i64 c.th, .int .i64 c.sn, .int .i64 c.no, .int .i64 c.ch, .int .i64 c.re, .int .i64 c.fa, .int .u64 c.cl], .int .u64 n] w fun e w' => e = .returned (.int .i64 (c.node n 3)) ∧ Below w.heap.size w w' := by
  go_enter Try.func120, Try.ntmps120
  go_wp2_with fail
  refine (node_any c hc n 3 hn0 hn1 (by omega) (by omega) _).mono ?_
  rintro e w1 ⟨rfl, hb1⟩
  go_wp2
  go_ret
  exact ⟨rfl, ((Below.refl _ _).alloc (Nat.le_refl _) _).trans (hb1.mono (by simp))⟩
theorem slot_any (c : Cfg) (hc : c.Ok) (n i : Int) (hn0 : 0 ≤ n) (hn1 : n < 18446744073709551616) (w : World) : Calls Try.prog 121 #[.agg #[.int .i64 c.th, .int .i64 c.sn, .int .i64 c.no, .int .i64 c.ch, .int .i64 c.re, .int .i64 c.fa, .int .u64 c.cl], .int .u64 n, .int .i64 i] w fun e w' => e = .returned (.int .i64 (c.slot n i)) ∧ Below w.heap.size w w' := by
  have f1 := hc.fa1; have f2 := hc.fa2
  by_cases h1 : 0 ≤ i ∧ i < c.fa
  · have e := Lib.hid (show c.slot n i = c.node n (4 + i) by unfold Cfg.slot; rw [if_pos h1])
    obtain ⟨g1, g2⟩ := h1
    go_enter Try.func121, Try.ntmps121
    go_wp2_with fail
    refine (between_yes _ _ _ (by omega) (by omega) _).mono ?_
    rintro e w1 ⟨rfl, rfl⟩
    go_wp2_with fail
    refine (node_any c hc n (4 + i) hn0 hn1 (by omega) (by omega) _).mono ?_
    rintro e w1 ⟨rfl, hb1⟩
    go_wp2
    go_ret
    exact ⟨by rw [e.out]; rfl, ((Below.refl _ _).alloc (Nat.le_refl _) _).trans (hb1.mono (by simp))⟩
  · have e := Lib.hid (show c.slot n i = -1 by unfold Cfg.slot; rw [if_neg h1])
    go_enter Try.func121, Try.ntmps121
    go_wp2_with fail
    refine (between_no _ _ _ (by omega) _).mono ?_
    rintro e w1 ⟨rfl, rfl⟩
    go_wp2
    go_ret
    exact ⟨by rw [e.out]; rfl, (Below.refl _ _).alloc (Nat.le_refl _) _⟩
theorem chain_any (c : Cfg) (hc : c.Ok) (n : Int) (hn0 : 0 ≤ n) (hn1 : n < 18446744073709551616) (w : World) : Calls Try.prog 108 #[.agg #[.int .i64 c.th, .int .i64 c.sn, .int .i64 c.no, .int .i64 c.ch, .int .i64 c.re, .int .i64 c.fa, .int .u64 c.cl], .int .u64 n] w fun e w' => e = .returned (.int .i64 (c.chain n)) ∧ Below w.heap.size w w' := by
  have n1 := hc.ch1; have n2 := hc.ch2; have f1 := hc.fa1; have f2 := hc.fa2
  by_cases h1 : n < 1
  · have e := Lib.hid (show c.chain n = -1 by unfold Cfg.chain; rw [if_neg (by omega)])
    go_enter Try.func108, Try.ntmps108
    go_wp2
    go_ret
    exact ⟨by rw [e.out]; rfl, (Below.refl _ _).alloc (Nat.le_refl _) _⟩
  · by_cases h2 : c.ch < n
    · have e := Lib.hid (show c.chain n = -1 by unfold Cfg.chain; rw [if_neg (by omega)])
      go_enter Try.func108, Try.ntmps108
      go_wp2
      go_ret
      exact ⟨by rw [e.out]; rfl, (Below.refl _ _).alloc (Nat.le_refl _) _⟩
    · have e := Lib.hid (show c.chain n = c.B + (n - 1) by unfold Cfg.chain; rw [if_pos (by omega)])
      obtain ⟨b0, b1⟩ := hc.A_bd
      obtain ⟨b2, b3⟩ := hc.B_bd
      go_enter Try.func108, Try.ntmps108
      go_wp2_with fail
      refine (firstChain_any c hc _).mono ?_
      rintro e w1 ⟨rfl, hb1⟩
      go_wp2
      go_ret
      exact ⟨by rw [e.out]; rfl, ((Below.refl _ _).alloc (Nat.le_refl _) _).trans (hb1.mono (by simp))⟩
theorem record_any (c : Cfg) (hc : c.Ok) (n k : Int) (hn0 : 0 ≤ n) (hn1 : n < 18446744073709551616) (hk0 : 0 ≤ k) (hk1 : k ≤ 2) (w : World) : Calls Try.prog 155 #[.agg #[.int .i64 c.th, .int .i64 c.sn, .int .i64 c.no, .int .i64 c.ch, .int .i64 c.re, .int .i64 c.fa, .int .u64 c.cl], .int .u64 n, .int .i64 k] w fun e w' => e = .returned (.int .i64 (c.record n k)) ∧ Below w.heap.size w w' := by
  have n1 := hc.re1; have n2 := hc.re2; have f1 := hc.fa1; have f2 := hc.fa2
  by_cases h1 : n < 1
  · have e := Lib.hid (show c.record n k = -1 by unfold Cfg.record; rw [if_neg (by omega)])
    go_enter Try.func155, Try.ntmps155
    go_wp2
    go_ret
    exact ⟨by rw [e.out]; rfl, (Below.refl _ _).alloc (Nat.le_refl _) _⟩
  · by_cases h2 : c.re < n
    · have e := Lib.hid (show c.record n k = -1 by unfold Cfg.record; rw [if_neg (by omega)])
      go_enter Try.func155, Try.ntmps155
      go_wp2
      go_ret
      exact ⟨by rw [e.out]; rfl, (Below.refl _ _).alloc (Nat.le_refl _) _⟩
    · have e := Lib.hid (show c.record n k = c.C + 3 * (n - 1) + k by unfold Cfg.record; rw [if_pos (by omega)])
      obtain ⟨b0, b1⟩ := hc.A_bd
      obtain ⟨b2, b3⟩ := hc.B_bd
      obtain ⟨b4, b5⟩ := hc.C_bd
      go_enter Try.func155, Try.ntmps155
      go_wp2_with fail
      refine (firstRecord_any c hc _).mono ?_
      rintro e w1 ⟨rfl, hb1⟩
      go_wp2
      go_ret
      exact ⟨by rw [e.out]; rfl, ((Below.refl _ _).alloc (Nat.le_refl _) _).trans (hb1.mono (by simp))⟩
theorem stamp_any (c : Cfg) (hc : c.Ok) (n : Int) (hn0 : 0 ≤ n) (hn1 : n < 18446744073709551616) (w : World) : Calls Try.prog 107 #[.agg #[.int .i64 c.th, .int .i64 c.sn, .int .i64 c.no, .int .i64 c.ch, .int .i64 c.re, .int .i64 c.fa, .int .u64 c.cl], .int .u64 n] w fun e w' => e = .returned (.int .i64 (c.record n 0)) ∧ Below w.heap.size w w' := by
  go_enter Try.func107, Try.ntmps107
  go_wp2_with fail
  refine (record_any c hc n 0 hn0 hn1 (by omega) (by omega) _).mono ?_
  rintro e w1 ⟨rfl, hb1⟩
  go_wp2
  go_ret
  exact ⟨rfl, ((Below.refl _ _).alloc (Nat.le_refl _) _).trans (hb1.mono (by simp))⟩
theorem value_any (c : Cfg) (hc : c.Ok) (n : Int) (hn0 : 0 ≤ n) (hn1 : n < 18446744073709551616) (w : World) : Calls Try.prog 111 #[.agg #[.int .i64 c.th, .int .i64 c.sn, .int .i64 c.no, .int .i64 c.ch, .int .i64 c.re, .int .i64 c.fa, .int .u64 c.cl], .int .u64 n] w fun e w' => e = .returned (.int .i64 (c.record n 1)) ∧ Below w.heap.size w w' := by
  go_enter Try.func111, Try.ntmps111
  go_wp2_with fail
  refine (record_any c hc n 1 hn0 hn1 (by omega) (by omega) _).mono ?_
  rintro e w1 ⟨rfl, hb1⟩
  go_wp2
  go_ret
  exact ⟨rfl, ((Below.refl _ _).alloc (Nat.le_refl _) _).trans (hb1.mono (by simp))⟩
theorem next_any (c : Cfg) (hc : c.Ok) (n : Int) (hn0 : 0 ≤ n) (hn1 : n < 18446744073709551616) (w : World) : Calls Try.prog 110 #[.agg #[.int .i64 c.th, .int .i64 c.sn, .int .i64 c.no, .int .i64 c.ch, .int .i64 c.re, .int .i64 c.fa, .int .u64 c.cl], .int .u64 n] w fun e w' => e = .returned (.int .i64 (c.record n 2)) ∧ Below w.heap.size w w' := by
  go_enter Try.func110, Try.ntmps110
  go_wp2_with fail
  refine (record_any c hc n 2 hn0 hn1 (by omega) (by omega) _).mono ?_
  rintro e w1 ⟨rfl, hb1⟩
  go_wp2
  go_ret
  exact ⟨rfl, ((Below.refl _ _).alloc (Nat.le_refl _) _).trans (hb1.mono (by simp))⟩
theorem refNode_any (c : Cfg) (hc : c.Ok) (n k : Int) (hn0 : 0 ≤ n) (hn1 : n < 18446744073709551616) (hk0 : 0 ≤ k) (hk1 : k < c.fa + 4) (w : World) : Calls Try.prog 22 #[.agg #[.int .i64 c.th, .int .i64 c.sn, .int .i64 c.no, .int .i64 c.ch, .int .i64 c.re, .int .i64 c.fa, .int .u64 c.cl], .int .u64 n, .int .i64 k] w fun e w' => e = .returned (.int .i64 (c.node n k)) ∧ Below w.heap.size w w' := by
  have n1 := hc.no1; have n2 := hc.no2; have f1 := hc.fa1; have f2 := hc.fa2
  by_cases h1 : n < 1
  · have e := Lib.hid (show c.node n k = -1 by unfold Cfg.node; rw [if_neg (by omega)])
    go_enter Try.func22, Try.ntmps22
    go_wp2
    go_ret
    exact ⟨by rw [e.out]; rfl, (Below.refl _ _).alloc (Nat.le_refl _) _⟩
  · by_cases h2 : c.no < n
    · have e := Lib.hid (show c.node n k = -1 by unfold Cfg.node; rw [if_neg (by omega)])
      go_enter Try.func22, Try.ntmps22
      go_wp2
      go_ret
      exact ⟨by rw [e.out]; rfl, (Below.refl _ _).alloc (Nat.le_refl _) _⟩
    · have e := Lib.hid (show c.node n k = c.A + (n - 1) * (c.fa + 4) + k by unfold Cfg.node; rw [if_pos (by omega)])
      obtain ⟨m1, m2⟩ := mul_bd (a := n - 1) (b := c.fa + 4) (m := 4096) (n := 36) (by omega) (by omega) (by omega) (by omega)
      obtain ⟨b1, b2⟩ := hc.A_bd
      go_enter Try.func22, Try.ntmps22
      go_wp2
      refine wp_region_pure (by kernel_rfl) (by kernel_rfl) ?_
      repeat (go_big_quiet_step ((go_at_call 99; exact pure_of (refA_any c hc _))))
      refine wpQuiet_nil ?_
      intro w1 hb1
      go_wp2
      go_ret
      exact ⟨by rw [e.out]; rfl, ((Below.refl _ _).alloc (Nat.le_refl _) _).trans (hb1.mono (by simp))⟩
end Go.Proofs.Ytfgjanponijkhaa
