
/- The contracts of the layout's functions (layer 3), for valid configurations and any other arguments. The contracts of the layout's functions (layer 3), second part. The contracts of the layout's functions (layer 3), third part: Valid, New; what makes a configuration small. -/
import Derived.Test.YtfgjanponijkhaaOver
import Derived.Test.YtfgjanponijkhaaTail
namespace Go.Proofs.Ytfgjanponijkhaa
open Go.RowKit

/-! ### Plain numbers -/
structure Cfg where
  th : Int
  sn : Int
  no : Int
  ch : Int
  re : Int
  fa : Int
  cl : Int

structure Cfg.Ok (c : Cfg) : Prop where
  th1 : 1 ≤ c.th
  th2 : c.th ≤ 64
  sn1 : 1 ≤ c.sn
  sn2 : c.sn ≤ 8
  no1 : 1 ≤ c.no
  no2 : c.no ≤ 4096
  ch1 : 1 ≤ c.ch
  ch2 : c.ch ≤ 16384
  re1 : 1 ≤ c.re
  re2 : c.re ≤ 65536
  fa1 : 4 ≤ c.fa
  fa2 : c.fa ≤ 32
  cl1 : 1 ≤ c.cl
  cl2 : c.cl ≤ 1099511627776

def Cfg.A (c : Cfg) : Int := 8 + c.th * c.sn
def Cfg.B (c : Cfg) : Int := c.A + c.no * (c.fa + 4)
def Cfg.C (c : Cfg) : Int := c.B + c.ch
def Cfg.cells (c : Cfg) : Int := c.C + 3 * c.re

theorem mul_bd {a b m n : Int} (h0 : 0 ≤ a) (h1 : a ≤ m) (h2 : 0 ≤ b) (h3 : b ≤ n) : 0 ≤ a * b ∧ a * b ≤ m * n :=
  ⟨Int.mul_nonneg h0 h2, Int.mul_le_mul h1 h3 h2 (by omega)⟩

theorem Cfg.Ok.ts {c : Cfg} (h : c.Ok) : 0 ≤ c.th * c.sn ∧ c.th * c.sn ≤ 512 := by
  have := mul_bd (a := c.th) (b := c.sn) (m := 64) (n := 8) (by have := h.th1; omega) h.th2 (by have := h.sn1; omega) h.sn2
  omega
theorem Cfg.Ok.nf {c : Cfg} (h : c.Ok) : 0 ≤ c.no * (c.fa + 4) ∧ c.no * (c.fa + 4) ≤ 147456 := by
  have := mul_bd (a := c.no) (b := c.fa + 4) (m := 4096) (n := 36) (by have := h.no1; omega) h.no2 (by have := h.fa1; omega) (by have := h.fa2; omega)
  omega
theorem Cfg.Ok.A_bd {c : Cfg} (h : c.Ok) : 8 ≤ c.A ∧ c.A ≤ 520 := by unfold Cfg.A; have := h.ts; omega
theorem Cfg.Ok.B_bd {c : Cfg} (h : c.Ok) : c.A ≤ c.B ∧ c.B ≤ 147976 := by unfold Cfg.B; have := h.A_bd; have := h.nf; omega
theorem Cfg.Ok.C_bd {c : Cfg} (h : c.Ok) : c.B ≤ c.C ∧ c.C ≤ 164360 := by unfold Cfg.C; have := h.B_bd; have := h.ch1; have := h.ch2; omega
theorem Cfg.Ok.cells_bd {c : Cfg} (h : c.Ok) : c.C ≤ c.cells ∧ c.cells ≤ 360968 := by unfold Cfg.cells; have := h.C_bd; have := h.re1; have := h.re2; omega

def Cfg.snap (c : Cfg) (t j : Int) : Int := if 0 ≤ t ∧ t < c.th ∧ 0 ≤ j ∧ j < c.sn then 8 + t * c.sn + j else -1
def Cfg.node (c : Cfg) (n k : Int) : Int := if 1 ≤ n ∧ n ≤ c.no then c.A + (n - 1) * (c.fa + 4) + k else -1
def Cfg.slot (c : Cfg) (n i : Int) : Int := if 0 ≤ i ∧ i < c.fa then c.node n (4 + i) else -1
def Cfg.chain (c : Cfg) (n : Int) : Int := if 1 ≤ n ∧ n ≤ c.ch then c.B + (n - 1) else -1
def Cfg.record (c : Cfg) (n k : Int) : Int := if 1 ≤ n ∧ n ≤ c.re then c.C + 3 * (n - 1) + k else -1

theorem emod_of_tmod {k n : Int} (hn : 1 ≤ n) : k % n = if k.tmod n < 0 then k.tmod n + n else k.tmod n := by
  rw [Int.tmod_eq_emod]
  have h1 := Int.emod_nonneg k (b := n) (by omega)
  have h2 := Int.emod_lt_of_pos k (b := n) (by omega)
  have h3 : (n.natAbs : Int) = n := by omega
  split <;> split <;> omega

theorem tmod_bd {k n : Int} (hn : 1 ≤ n) : -n < k.tmod n ∧ k.tmod n < n := by
  rw [Int.tmod_eq_emod]
  have h1 := Int.emod_nonneg k (b := n) (by omega)
  have h2 := Int.emod_lt_of_pos k (b := n) (by omega)
  have h3 : (n.natAbs : Int) = n := by omega
  split
  · omega
  · rename_i h
    have : k % n ≠ 0 := fun hz => h (.inr (Int.dvd_of_emod_eq_zero hz))
    omega

/-! ### The walks -/
theorem mod_any (k n : Int) (hn : 1 ≤ n) (hn2 : n ≤ 1000000) (w : World) :
    Calls Try.prog 62 #[.int .i64 k, .int .i64 n] w fun e w' => e = .returned (.int .i64 (k % n)) ∧ w = w' := by
  have hn0 : (n == 0) = false := by simp; omega
  have hb := tmod_bd (k := k) hn
  have he := Lib.hid (emod_of_tmod (k := k) hn)
  by_cases h : k.tmod n < 0
  · go_enter Try.func62, Try.ntmps62
    go_wp2
    go_ret
    exact ⟨by rw [he.out, if_pos h]; rfl, rfl⟩
  · go_enter Try.func62, Try.ntmps62
    go_wp2
    go_ret
    exact ⟨by rw [he.out, if_neg (by omega)]; rfl, rfl⟩

def btw (n lo hi : Int) : Bool := decide (lo ≤ n) && decide (n ≤ hi)

theorem between_any (n lo hi : Int) (w : World) :
    Calls Try.prog 160 #[.int .i64 n, .int .i64 lo, .int .i64 hi] w fun e w' => e = .returned (.bool (btw n lo hi)) ∧ w = w' := by
  unfold btw
  by_cases h : lo ≤ n
  · go_enter Try.func160, Try.ntmps160
    go_wp2
    go_ret
    exact ⟨by simp [h], rfl⟩
  · have hd : decide (lo ≤ n) = false := by simpa using h
    go_enter Try.func160, Try.ntmps160
    go_wp2
    go_ret
    exact ⟨by simp, rfl⟩
theorem between_yes (n lo hi : Int) (h1 : lo ≤ n) (h2 : n ≤ hi) (w : World) :
    Calls Try.prog 160 #[.int .i64 n, .int .i64 lo, .int .i64 hi] w fun e w' => e = .returned (.bool true) ∧ w = w' := by
  have e : btw n lo hi = true := by unfold btw; simp [h1, h2]
  have h := between_any n lo hi w
  rw [e] at h
  exact h
theorem between_no (n lo hi : Int) (h1 : n < lo ∨ hi < n) (w : World) :
    Calls Try.prog 160 #[.int .i64 n, .int .i64 lo, .int .i64 hi] w fun e w' => e = .returned (.bool false) ∧ w = w' := by
  have e : btw n lo hi = false := by unfold btw; simp; omega
  have h := between_any n lo hi w
  rw [e] at h
  exact h

theorem firstNode_any (c : Cfg) (hc : c.Ok) (w : World) : Calls Try.prog 182 #[.agg #[.int .i64 c.th, .int .i64 c.sn, .int .i64 c.no, .int .i64 c.ch, .int .i64 c.re, .int .i64 c.fa, .int .u64 c.cl]] w fun e w' => e = .returned (.int .i64 c.A) ∧ Below w.heap.size w w' := by
  obtain ⟨h1, h2⟩ := hc.ts
  go_enter Try.func182, Try.ntmps182
  go_wp2
  go_ret
  exact ⟨rfl, (Below.refl _ _).alloc (Nat.le_refl _) _⟩
theorem refA_any (c : Cfg) (hc : c.Ok) (w : World) : Calls Try.prog 99 #[.agg #[.int .i64 c.th, .int .i64 c.sn, .int .i64 c.no, .int .i64 c.ch, .int .i64 c.re, .int .i64 c.fa, .int .u64 c.cl]] w fun e w' => e = .returned (.int .i64 c.A) ∧ Below w.heap.size w w' := by
  obtain ⟨h1, h2⟩ := hc.ts
  go_enter Try.func99, Try.ntmps99
  go_wp2
  go_ret
  exact ⟨rfl, (Below.refl _ _).alloc (Nat.le_refl _) _⟩

theorem firstChain_any (c : Cfg) (hc : c.Ok) (w : World) : Calls Try.prog 156 #[.agg #[.int .i64 c.th, .int .i64 c.sn, .int .i64 c.no, .int .i64 c.ch, .int .i64 c.re, .int .i64 c.fa, .int .u64 c.cl]] w fun e w' => e = .returned (.int .i64 c.B) ∧ Below w.heap.size w w' := by
  obtain ⟨h1, h2⟩ := hc.A_bd
  obtain ⟨h3, h4⟩ := hc.nf
  have h5 := hc.fa1; have h6 := hc.fa2
  go_enter Try.func156, Try.ntmps156
  go_wp2
  refine wp_region_pure (by kernel_rfl) (by kernel_rfl) ?_
  repeat (go_big_quiet_step ((go_at_call 182; exact pure_of (firstNode_any c hc _))))
  refine wpQuiet_nil ?_
  intro w1 hb1
  go_wp2
  go_ret
  exact ⟨rfl, ((Below.refl _ _).alloc (Nat.le_refl _) _).trans (hb1.mono (by simp))⟩
theorem refB_any (c : Cfg) (hc : c.Ok) (w : World) : Calls Try.prog 180 #[.agg #[.int .i64 c.th, .int .i64 c.sn, .int .i64 c.no, .int .i64 c.ch, .int .i64 c.re, .int .i64 c.fa, .int .u64 c.cl]] w fun e w' => e = .returned (.int .i64 c.B) ∧ Below w.heap.size w w' := by
  obtain ⟨b0, b1⟩ := hc.A_bd
  obtain ⟨b2, b3⟩ := hc.nf
  have h5 := hc.fa1; have h6 := hc.fa2
  go_enter Try.func180, Try.ntmps180
  go_wp2
  refine wp_region_pure (by kernel_rfl) (by kernel_rfl) ?_
  repeat (go_big_quiet_step ((go_at_call 99; exact pure_of (refA_any c hc _))))
  refine wpQuiet_nil ?_
  intro w1 hb1
  go_wp2
  go_ret
  exact ⟨rfl, ((Below.refl _ _).alloc (Nat.le_refl _) _).trans (hb1.mono (by simp))⟩
theorem firstRecord_any (c : Cfg) (hc : c.Ok) (w : World) : Calls Try.prog 179 #[.agg #[.int .i64 c.th, .int .i64 c.sn, .int .i64 c.no, .int .i64 c.ch, .int .i64 c.re, .int .i64 c.fa, .int .u64 c.cl]] w fun e w' => e = .returned (.int .i64 c.C) ∧ Below w.heap.size w w' := by
  obtain ⟨b0, b1⟩ := hc.A_bd
  obtain ⟨b2, b3⟩ := hc.B_bd
  have h5 := hc.ch1; have h6 := hc.ch2
  go_enter Try.func179, Try.ntmps179
  go_wp2
  refine wp_region_pure (by kernel_rfl) (by kernel_rfl) ?_
  repeat (go_big_quiet_step ((go_at_call 156; exact pure_of (firstChain_any c hc _))))
  refine wpQuiet_nil ?_
  intro w1 hb1
  go_wp2
  go_ret
  exact ⟨rfl, ((Below.refl _ _).alloc (Nat.le_refl _) _).trans (hb1.mono (by simp))⟩
theorem refC_any (c : Cfg) (hc : c.Ok) (w : World) : Calls Try.prog 150 #[.agg #[.int .i64 c.th, .int .i64 c.sn, .int .i64 c.no, .int .i64 c.ch, .int .i64 c.re, .int .i64 c.fa, .int .u64 c.cl]] w fun e w' => e = .returned (.int .i64 c.C) ∧ Below w.heap.size w w' := by
  obtain ⟨b0, b1⟩ := hc.A_bd
  obtain ⟨b2, b3⟩ := hc.B_bd
  have h5 := hc.ch1; have h6 := hc.ch2
  go_enter Try.func150, Try.ntmps150
  go_wp2
  refine wp_region_pure (by kernel_rfl) (by kernel_rfl) ?_
  repeat (go_big_quiet_step ((go_at_call 180; exact pure_of (refB_any c hc _))))
  refine wpQuiet_nil ?_
  intro w1 hb1
  go_wp2
  go_ret
  exact ⟨rfl, ((Below.refl _ _).alloc (Nat.le_refl _) _).trans (hb1.mono (by simp))⟩
theorem cells_any (c : Cfg) (hc : c.Ok) (w : World) : Calls Try.prog 148 #[.agg #[.int .i64 c.th, .int .i64 c.sn, .int .i64 c.no, .int .i64 c.ch, .int .i64 c.re, .int .i64 c.fa, .int .u64 c.cl]] w fun e w' => e = .returned (.int .i64 c.cells) ∧ Below w.heap.size w w' := by
  obtain ⟨b0, b1⟩ := hc.A_bd
  obtain ⟨b2, b3⟩ := hc.B_bd
  obtain ⟨b4, b5⟩ := hc.C_bd
  have h5 := hc.re1; have h6 := hc.re2
  go_enter Try.func148, Try.ntmps148
  go_wp2
  refine wp_region_pure (by kernel_rfl) (by kernel_rfl) ?_
  repeat (go_big_quiet_step ((go_at_call 179; exact pure_of (firstRecord_any c hc _))))
  refine wpQuiet_nil ?_
  intro w1 hb1
  go_wp2
  go_ret
  exact ⟨rfl, ((Below.refl _ _).alloc (Nat.le_refl _) _).trans (hb1.mono (by simp))⟩
theorem refCells_any (c : Cfg) (hc : c.Ok) (w : World) : Calls Try.prog 98 #[.agg #[.int .i64 c.th, .int .i64 c.sn, .int .i64 c.no, .int .i64 c.ch, .int .i64 c.re, .int .i64 c.fa, .int .u64 c.cl]] w fun e w' => e = .returned (.int .i64 c.cells) ∧ Below w.heap.size w w' := by
  obtain ⟨b0, b1⟩ := hc.A_bd
  obtain ⟨b2, b3⟩ := hc.B_bd
  obtain ⟨b4, b5⟩ := hc.C_bd
  have h5 := hc.re1; have h6 := hc.re2
  go_enter Try.func98, Try.ntmps98
  go_wp2
  refine wp_region_pure (by kernel_rfl) (by kernel_rfl) ?_
  repeat (go_big_quiet_step ((go_at_call 150; exact pure_of (refC_any c hc _))))
  refine wpQuiet_nil ?_
  intro w1 hb1
  go_wp2
  go_ret
  exact ⟨rfl, ((Below.refl _ _).alloc (Nat.le_refl _) _).trans (hb1.mono (by simp))⟩
theorem root_any (c : Cfg) (w : World) : Calls Try.prog 149 #[.agg #[.int .i64 c.th, .int .i64 c.sn, .int .i64 c.no, .int .i64 c.ch, .int .i64 c.re, .int .i64 c.fa, .int .u64 c.cl]] w fun e w' => e = .returned (.int .i64 0) ∧ Below w.heap.size w w' := by
  go_enter Try.func149, Try.ntmps149
  go_wp2
  go_ret
  exact ⟨rfl, (Below.refl _ _).alloc (Nat.le_refl _) _⟩
theorem nodes_any (c : Cfg) (w : World) : Calls Try.prog 139 #[.agg #[.int .i64 c.th, .int .i64 c.sn, .int .i64 c.no, .int .i64 c.ch, .int .i64 c.re, .int .i64 c.fa, .int .u64 c.cl]] w fun e w' => e = .returned (.int .i64 4) ∧ Below w.heap.size w w' := by
  go_enter Try.func139, Try.ntmps139
  go_wp2
  go_ret
  exact ⟨rfl, (Below.refl _ _).alloc (Nat.le_refl _) _⟩
theorem node_any (c : Cfg) (hc : c.Ok) (n k : Int) (hn0 : 0 ≤ n) (hn1 : n < 18446744073709551616) (hk0 : 0 ≤ k) (hk1 : k ≤ 1000) (w : World) : Calls Try.prog 158 #[.agg #[.int .i64 c.th, .int .i64 c.sn, .int .i64 c.no, .int .i64 c.ch, .int .i64 c.re, .int .i64 c.fa, .int .u64 c.cl], .int .u64 n, .int .i64 k] w fun e w' => e = .returned (.int .i64 (c.node n k)) ∧ Below w.heap.size w w' := by
  have n1 := hc.no1; have n2 := hc.no2; have f1 := hc.fa1; have f2 := hc.fa2
  by_cases h1 : n < 1
  · have e := Lib.hid (show c.node n k = -1 by unfold Cfg.node; rw [if_neg (by omega)])
    go_enter Try.func158, Try.ntmps158
    go_wp2
    go_ret
    exact ⟨by rw [e.out]; rfl, (Below.refl _ _).alloc (Nat.le_refl _) _⟩
  · by_cases h2 : c.no < n
    · have e := Lib.hid (show c.node n k = -1 by unfold Cfg.node; rw [if_neg (by omega)])
      go_enter Try.func158, Try.ntmps158
      go_wp2
      go_ret
      exact ⟨by rw [e.out]; rfl, (Below.refl _ _).alloc (Nat.le_refl _) _⟩
    · have e := Lib.hid (show c.node n k = c.A + (n - 1) * (c.fa + 4) + k by unfold Cfg.node; rw [if_pos (by omega)])
      obtain ⟨m1, m2⟩ := mul_bd (a := n - 1) (b := c.fa + 4) (m := 4096) (n := 36) (by omega) (by omega) (by omega) (by omega)
      obtain ⟨b1, b2⟩ := hc.A_bd
      go_enter Try.func158, Try.ntmps158
      go_wp2
      refine wp_region_pure (by kernel_rfl) (by kernel_rfl) ?_
      repeat (go_big_quiet_step ((go_at_call 182; exact pure_of (firstNode_any c hc _))))
      refine wpQuiet_nil ?_
      intro w1 hb1
      go_wp2
      go_ret
      exact ⟨by rw [e.out]; rfl, ((Below.refl _ _).alloc (Nat.le_refl _) _).trans (hb1.mono (by simp))⟩
end Go.Proofs.Ytfgjanponijkhaa

namespace Go.Proofs.Ytfgjanponijkhaa
open Go.RowKit
theorem latch_any (c : Cfg) (hc : c.Ok) (n : Int) (hn0 : 0 ≤ n) (hn1 : n < 18446744073709551616) (w : World) : Calls Try.prog 115 #[.agg #[.int .i64 c.th, .int .i64 c.sn, .int .i64 c.no, .int .i64 c.ch, .int .i64 c.re, .int .i64 c.fa, .int .u64 c.cl], .int .u64 n] w fun e w' => e = .returned (.int .i64 (c.node n 0)) ∧ Below w.heap.size w w' := by
  go_enter Try.func115, Try.ntmps115
  go_wp2_with fail
  refine (node_any c hc n 0 hn0 hn1 (by omega) (by omega) _).mono ?_
  rintro e w1 ⟨rfl, hb1⟩
  go_wp2
  go_ret
  exact ⟨rfl, ((Below.refl _ _).alloc (Nat.le_refl _) _).trans (hb1.mono (by simp))⟩
theorem head_any (c : Cfg) (hc : c.Ok) (n : Int) (hn0 : 0 ≤ n) (hn1 : n < 18446744073709551616) (w : World) : Calls Try.prog 118 #[.agg #[.int .i64 c.th, .int .i64 c.sn, .int .i64 c.no, .int .i64 c.ch, .int .i64 c.re, .int .i64 c.fa, .int .u64 c.cl], .int .u64 n] w fun e w' => e = .returned (.int .i64 (c.node n 1)) ∧ Below w.heap.size w w' := by
  go_enter Try.func118, Try.ntmps118
  go_wp2_with fail
  refine (node_any c hc n 1 hn0 hn1 (by omega) (by omega) _).mono ?_
  rintro e w1 ⟨rfl, hb1⟩
  go_wp2
  go_ret
  exact ⟨rfl, ((Below.refl _ _).alloc (Nat.le_refl _) _).trans (hb1.mono (by simp))⟩
theorem high_any (c : Cfg) (hc : c.Ok) (n : Int) (hn0 : 0 ≤ n) (hn1 : n < 18446744073709551616) (w : World) : Calls Try.prog 119 #[.agg #[.int .i64 c.th, .int .i64 c.sn, .int .i64 c.no, .int .i64 c.ch, .int .i64 c.re, .int .i64 c.fa, .int .u64 c.cl], .int .u64 n] w fun e w' => e = .returned (.int .i64 (c.node n 2)) ∧ Below w.heap.size w w' := by
  go_enter Try.func119, Try.ntmps119
  go_wp2_with fail
  refine (node_any c hc n 2 hn0 hn1 (by omega) (by omega) _).mono ?_
  rintro e w1 ⟨rfl, hb1⟩
  go_wp2
  go_ret
  exact ⟨rfl, ((Below.refl _ _).alloc (Nat.le_refl _) _).trans (hb1.mono (by simp))⟩
theorem right_any (c : Cfg) (hc : c.Ok) (n : Int) (hn0 : 0 ≤ n) (hn1 : n < 18446744073709551616) (w : World) : Calls Try.prog 120 #[.agg #[.int .i64 c.th, .int .i64 c.sn, .int .i64 c.no, .int .i64 c.ch, .int .i64 c.re, .int .i64 c.fa, .int .u64 c.cl], .int .u64 n] w fun e w' => e = .returned (.int .i64 (c.node n 3)) ∧ Below w.heap.size w w' := by
  go_enter Try.func120, Try.ntmps120
  go_wp2_with fail
  refine (node_any c hc n 3 hn0 hn1 (by omega) (by omega) _).mono ?_
  rintro e w1 ⟨rfl, hb1⟩
  go_wp2
  go_ret
  exact ⟨rfl, ((Below.refl _ _).alloc (Nat.le_refl _) _).trans (hb1.mono (by simp))⟩
theorem slot_any (c : Cfg) (hc : c.Ok) (n i : Int) (hn0 : 0 ≤ n) (hn1 : n < 18446744073709551616) (w : World) : Calls Try.prog 121 #[.agg #[.int .i64 c.th, .int .i64 c.sn, .int .i64 c.no, .int .i64 c.ch, .int .i64 c.re, .int .i64 c.fa, .int .u64 c.cl], .int .u64 n, .int .i64 i] w fun e w' => e = .returned (.int .i64 (c.slot n i)) ∧ Below w.heap.size w w' := by
  have f1 := hc.fa1; have f2 := hc.fa2
  by_cases h1 : 0 ≤ i ∧ i < c.fa
  · have e := Lib.hid (show c.slot n i = c.node n (4 + i) by unfold Cfg.slot; rw [if_pos h1])
    obtain ⟨g1, g2⟩ := h1
    go_enter Try.func121, Try.ntmps121
    go_wp2_with fail
    refine (between_yes _ _ _ (by omega) (by omega) _).mono ?_
    rintro e w1 ⟨rfl, rfl⟩
    go_wp2_with fail
    refine (node_any c hc n (4 + i) hn0 hn1 (by omega) (by omega) _).mono ?_
    rintro e w1 ⟨rfl, hb1⟩
    go_wp2
    go_ret
    exact ⟨by rw [e.out]; rfl, ((Below.refl _ _).alloc (Nat.le_refl _) _).trans (hb1.mono (by simp))⟩
  · have e := Lib.hid (show c.slot n i = -1 by unfold Cfg.slot; rw [if_neg h1])
    go_enter Try.func121, Try.ntmps121
    go_wp2_with fail
    refine (between_no _ _ _ (by omega) _).mono ?_
    rintro e w1 ⟨rfl, rfl⟩
    go_wp2
    go_ret
    exact ⟨by rw [e.out]; rfl, (Below.refl _ _).alloc (Nat.le_refl _) _⟩
theorem chain_any (c : Cfg) (hc : c.Ok) (n : Int) (hn0 : 0 ≤ n) (hn1 : n < 18446744073709551616) (w : World) : Calls Try.prog 108 #[.agg #[.int .i64 c.th, .int .i64 c.sn, .int .i64 c.no, .int .i64 c.ch, .int .i64 c.re, .int .i64 c.fa, .int .u64 c.cl], .int .u64 n] w fun e w' => e = .returned (.int .i64 (c.chain n)) ∧ Below w.heap.size w w' := by
  have n1 := hc.ch1; have n2 := hc.ch2; have f1 := hc.fa1; have f2 := hc.fa2
  by_cases h1 : n < 1
  · have e := Lib.hid (show c.chain n = -1 by unfold Cfg.chain; rw [if_neg (by omega)])
    go_enter Try.func108, Try.ntmps108
    go_wp2
    go_ret
    exact ⟨by rw [e.out]; rfl, (Below.refl _ _).alloc (Nat.le_refl _) _⟩
  · by_cases h2 : c.ch < n
    · have e := Lib.hid (show c.chain n = -1 by unfold Cfg.chain; rw [if_neg (by omega)])
      go_enter Try.func108, Try.ntmps108
      go_wp2
      go_ret
      exact ⟨by rw [e.out]; rfl, (Below.refl _ _).alloc (Nat.le_refl _) _⟩
    · have e := Lib.hid (show c.chain n = c.B + (n - 1) by unfold Cfg.chain; rw [if_pos (by omega)])
      obtain ⟨b0, b1⟩ := hc.A_bd
      obtain ⟨b2, b3⟩ := hc.B_bd
      go_enter Try.func108, Try.ntmps108
      go_wp2_with fail
      refine (firstChain_any c hc _).mono ?_
      rintro e w1 ⟨rfl, hb1⟩
      go_wp2
      go_ret
      exact ⟨by rw [e.out]; rfl, ((Below.refl _ _).alloc (Nat.le_refl _) _).trans (hb1.mono (by simp))⟩
theorem record_any (c : Cfg) (hc : c.Ok) (n k : Int) (hn0 : 0 ≤ n) (hn1 : n < 18446744073709551616) (hk0 : 0 ≤ k) (hk1 : k ≤ 2) (w : World) : Calls Try.prog 155 #[.agg #[.int .i64 c.th, .int .i64 c.sn, .int .i64 c.no, .int .i64 c.ch, .int .i64 c.re, .int .i64 c.fa, .int .u64 c.cl], .int .u64 n, .int .i64 k] w fun e w' => e = .returned (.int .i64 (c.record n k)) ∧ Below w.heap.size w w' := by
  have n1 := hc.re1; have n2 := hc.re2; have f1 := hc.fa1; have f2 := hc.fa2
  by_cases h1 : n < 1
  · have e := Lib.hid (show c.record n k = -1 by unfold Cfg.record; rw [if_neg (by omega)])
    go_enter Try.func155, Try.ntmps155
    go_wp2
    go_ret
    exact ⟨by rw [e.out]; rfl, (Below.refl _ _).alloc (Nat.le_refl _) _⟩
  · by_cases h2 : c.re < n
    · have e := Lib.hid (show c.record n k = -1 by unfold Cfg.record; rw [if_neg (by omega)])
      go_enter Try.func155, Try.ntmps155
      go_wp2
      go_ret
      exact ⟨by rw [e.out]; rfl, (Below.refl _ _).alloc (Nat.le_refl _) _⟩
    · have e := Lib.hid (show c.record n k = c.C + 3 * (n - 1) + k by unfold Cfg.record; rw [if_pos (by omega)])
      obtain ⟨b0, b1⟩ := hc.A_bd
      obtain ⟨b2, b3⟩ := hc.B_bd
      obtain ⟨b4, b5⟩ := hc.C_bd
      go_enter Try.func155, Try.ntmps155
      go_wp2_with fail
      refine (firstRecord_any c hc _).mono ?_
      rintro e w1 ⟨rfl, hb1⟩
      go_wp2
      go_ret
      exact ⟨by rw [e.out]; rfl, ((Below.refl _ _).alloc (Nat.le_refl _) _).trans (hb1.mono (by simp))⟩
theorem stamp_any (c : Cfg) (hc : c.Ok) (n : Int) (hn0 : 0 ≤ n) (hn1 : n < 18446744073709551616) (w : World) : Calls Try.prog 107 #[.agg #[.int .i64 c.th, .int .i64 c.sn, .int .i64 c.no, .int .i64 c.ch, .int .i64 c.re, .int .i64 c.fa, .int .u64 c.cl], .int .u64 n] w fun e w' => e = .returned (.int .i64 (c.record n 0)) ∧ Below w.heap.size w w' := by
  go_enter Try.func107, Try.ntmps107
  go_wp2_with fail
  refine (record_any c hc n 0 hn0 hn1 (by omega) (by omega) _).mono ?_
  rintro e w1 ⟨rfl, hb1⟩
  go_wp2
  go_ret
  exact ⟨rfl, ((Below.refl _ _).alloc (Nat.le_refl _) _).trans (hb1.mono (by simp))⟩
theorem value_any (c : Cfg) (hc : c.Ok) (n : Int) (hn0 : 0 ≤ n) (hn1 : n < 18446744073709551616) (w : World) : Calls Try.prog 111 #[.agg #[.int .i64 c.th, .int .i64 c.sn, .int .i64 c.no, .int .i64 c.ch, .int .i64 c.re, .int .i64 c.fa, .int .u64 c.cl], .int .u64 n] w fun e w' => e = .returned (.int .i64 (c.record n 1)) ∧ Below w.heap.size w w' := by
  go_enter Try.func111, Try.ntmps111
  go_wp2_with fail
  refine (record_any c hc n 1 hn0 hn1 (by omega) (by omega) _).mono ?_
  rintro e w1 ⟨rfl, hb1⟩
  go_wp2
  go_ret
  exact ⟨rfl, ((Below.refl _ _).alloc (Nat.le_refl _) _).trans (hb1.mono (by simp))⟩
theorem next_any (c : Cfg) (hc : c.Ok) (n : Int) (hn0 : 0 ≤ n) (hn1 : n < 18446744073709551616) (w : World) : Calls Try.prog 110 #[.agg #[.int .i64 c.th, .int .i64 c.sn, .int .i64 c.no, .int .i64 c.ch, .int .i64 c.re, .int .i64 c.fa, .int .u64 c.cl], .int .u64 n] w fun e w' => e = .returned (.int .i64 (c.record n 2)) ∧ Below w.heap.size w w' := by
  go_enter Try.func110, Try.ntmps110
  go_wp2_with fail
  refine (record_any c hc n 2 hn0 hn1 (by omega) (by omega) _).mono ?_
  rintro e w1 ⟨rfl, hb1⟩
  go_wp2
  go_ret
  exact ⟨rfl, ((Below.refl _ _).alloc (Nat.le_refl _) _).trans (hb1.mono (by simp))⟩
theorem refNode_any (c : Cfg) (hc : c.Ok) (n k : Int) (hn0 : 0 ≤ n) (hn1 : n < 18446744073709551616) (hk0 : 0 ≤ k) (hk1 : k < c.fa + 4) (w : World) : Calls Try.prog 22 #[.agg #[.int .i64 c.th, .int .i64 c.sn, .int .i64 c.no, .int .i64 c.ch, .int .i64 c.re, .int .i64 c.fa, .int .u64 c.cl], .int .u64 n, .int .i64 k] w fun e w' => e = .returned (.int .i64 (c.node n k)) ∧ Below w.heap.size w w' := by
  have n1 := hc.no1; have n2 := hc.no2; have f1 := hc.fa1; have f2 := hc.fa2
  by_cases h1 : n < 1
  · have e := Lib.hid (show c.node n k = -1 by unfold Cfg.node; rw [if_neg (by omega)])
    go_enter Try.func22, Try.ntmps22
    go_wp2
    go_ret
    exact ⟨by rw [e.out]; rfl, (Below.refl _ _).alloc (Nat.le_refl _) _⟩
  · by_cases h2 : c.no < n
    · have e := Lib.hid (show c.node n k = -1 by unfold Cfg.node; rw [if_neg (by omega)])
      go_enter Try.func22, Try.ntmps22
      go_wp2
      go_ret
      exact ⟨by rw [e.out]; rfl, (Below.refl _ _).alloc (Nat.le_refl _) _⟩
    · have e := Lib.hid (show c.node n k = c.A + (n - 1) * (c.fa + 4) + k by unfold Cfg.node; rw [if_pos (by omega)])
      obtain ⟨m1, m2⟩ := mul_bd (a := n - 1) (b := c.fa + 4) (m := 4096) (n := 36) (by omega) (by omega) (by omega) (by omega)
      obtain ⟨b1, b2⟩ := hc.A_bd
      go_enter Try.func22, Try.ntmps22
      go_wp2
      refine wp_region_pure (by kernel_rfl) (by kernel_rfl) ?_
      repeat (go_big_quiet_step ((go_at_call 99; exact pure_of (refA_any c hc _))))
      refine wpQuiet_nil ?_
      intro w1 hb1
      go_wp2
      go_ret
      exact ⟨by rw [e.out]; rfl, ((Below.refl _ _).alloc (Nat.le_refl _) _).trans (hb1.mono (by simp))⟩
end Go.Proofs.Ytfgjanponijkhaa

namespace Go.Proofs.Ytfgjanponijkhaa
open Go.RowKit

def smallC (c : Cfg) : Cfg := ⟨1 + c.th % 6, 1 + c.sn % 8, 1 + c.no % 12, 1 + c.ch % 20, 1 + c.re % 20, 4 + c.fa % 6, 1 + c.cl % 1000⟩
theorem small_ok (c : Cfg) : (smallC c).Ok := by constructor <;> simp only [smallC] <;> omega

/-- 'Valid' as a Bool. -/
def vld (c : Cfg) : Bool := btw c.th 1 64 && btw c.sn 1 8 && btw c.no 1 4096 && btw c.ch 1 16384 && btw c.re 1 65536 && btw c.fa 4 32 && btw c.cl 1 1099511627776
theorem vld_iff (c : Cfg) : vld c = true ↔ c.Ok := by
  unfold vld btw
  simp only [Bool.and_eq_true, decide_eq_true_eq]
  constructor
  · rintro ⟨⟨⟨⟨⟨⟨⟨a, a'⟩, b, b'⟩, d, d'⟩, e, e'⟩, f, f'⟩, g, g'⟩, h, h'⟩
    exact ⟨a, a', b, b', d, d', e, e', f, f', g, g', h, h'⟩
  · intro h
    exact ⟨⟨⟨⟨⟨⟨⟨h.th1, h.th2⟩, h.sn1, h.sn2⟩, h.no1, h.no2⟩, h.ch1, h.ch2⟩, h.re1, h.re2⟩, h.fa1, h.fa2⟩, h.cl1, h.cl2⟩

theorem valid_yes (c : Cfg) (hc : c.Ok) (w : World) : Calls Try.prog 178 #[.agg #[.int .i64 c.th, .int .i64 c.sn, .int .i64 c.no, .int .i64 c.ch, .int .i64 c.re, .int .i64 c.fa, .int .u64 c.cl]] w fun e w' => e = .returned (.bool true) ∧ Below w.heap.size w w' := by
  obtain ⟨a, a', b, b', d, d', e, e', f, f', g, g', h, h'⟩ := hc
  go_enter Try.func178, Try.ntmps178
  go_wp2_with (go_at_call 160; refine (between_yes _ _ _ (by omega) (by omega) _).mono ?_; rintro e w1 ⟨rfl, rfl⟩)
  go_ret
  exact ⟨rfl, (Below.refl _ _).alloc (Nat.le_refl _) _⟩

theorem new_yes (c : Cfg) (hc : c.Ok) (w : World) : Calls Try.prog 146 #[.agg #[.int .i64 c.th, .int .i64 c.sn, .int .i64 c.no, .int .i64 c.ch, .int .i64 c.re, .int .i64 c.fa, .int .u64 c.cl]] w fun e w' => e = .returned (.tuple #[.agg #[.int .i64 c.th, .int .i64 c.sn, .int .i64 c.no, .int .i64 c.ch, .int .i64 c.re, .int .i64 c.fa, .int .u64 c.cl], .int .i64 0]) ∧ Below w.heap.size w w' := by
  go_enter Try.func146, Try.ntmps146
  go_wp2_with fail
  refine (valid_yes c hc _).mono ?_
  rintro e w1 ⟨rfl, hb1⟩
  obtain ⟨hcc, hff⟩ := bcell hb1
  have hz : w.heap.size + 1 < w1.heap.size := by have := hb1.size; simp at this; omega
  go_wp2
  refine bodyPost_ret (v := .tuple #[.agg #[.int .i64 c.th, .int .i64 c.sn, .int .i64 c.no, .int .i64 c.ch, .int .i64 c.re, .int .i64 c.fa, .int .u64 c.cl], .int .i64 0]) (by simp [results, Try.results146, go_sem, hcc]) rfl ⟨rfl, ?_⟩
  repeat (refine Below.setCell ?_ (by simp) _)
  exact (((Below.refl _ _).alloc (Nat.le_refl _) _).alloc (by simp) _).trans (hb1.mono (by simp; omega))
end Go.Proofs.Ytfgjanponijkhaa
