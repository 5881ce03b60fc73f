/- The words of latches (package latch): version, 'changing' (2), 'locked' (1). -/
import Derived.Test.YtfgjanponijkhaaBase
import Derived.Test.YtfgjanponijkhaaRun
import Derived.Laws.BitsLemmas
namespace Go.Proofs.Ytfgjanponijkhaa
open Go.RowKit
set_option maxRecDepth 100000

/-- A word with the bit 'changing'. -/
def ltBegin (x : Int) : Int := if x % 4 < 2 then x + 2 else x
/-- .. without it. -/
def ltClear (x : Int) : Int := if x % 4 < 2 then x else x - 2
/-- The word behind a change. -/
def ltEnd (x : Int) : Int := IntKind.u64.wrap (ltClear x + 4)
def ltLock (x : Int) : Int := if x % 2 = 0 then x + 1 else x
def ltUnlock (x : Int) : Int := x - x % 2
def ltChg (x : Int) : Bool := decide (2 ≤ x % 4)

theorem nat_or2 (n : Nat) : n ||| 2 = if n % 4 < 2 then n + 2 else n := by
  obtain ⟨q, r, hr, rfl⟩ : ∃ q r, r < 4 ∧ n = 4 * q + r := ⟨n / 4, n % 4, Nat.mod_lt _ (by decide), (Nat.div_add_mod n 4).symm⟩
  have e : 4 * q + r = 2 ^ 2 * q ||| r := Nat.two_pow_add_eq_or_of_lt (i := 2) hr q
  rw [show (4 * q + r) % 4 = r by omega]
  rw [show 4 * q + r ||| 2 = 2 ^ 2 * q ||| (r ||| 2) by rw [e, Nat.or_assoc]]
  have h4 : r ||| 2 < 4 := Nat.or_lt_two_pow (n := 2) hr (by decide)
  rw [← Nat.two_pow_add_eq_or_of_lt (i := 2) h4 q]
  match r, hr with
  | 0, _ => simp
  | 1, _ => simp
  | 2, _ => simp
  | 3, _ => simp
theorem nat_and2 (n : Nat) : n &&& 2 = if n % 4 < 2 then 0 else 2 := by
  have h : n &&& 2 = (n % 4) &&& 2 := by
    rw [show (4 : Nat) = 2 ^ 2 by rfl, ← Nat.and_two_pow_sub_one_eq_mod, Nat.and_assoc]; rfl
  rw [h]
  have : n % 4 < 4 := Nat.mod_lt _ (by decide)
  generalize n % 4 = r at *
  match r, this with
  | 0, _ => simp
  | 1, _ => simp
  | 2, _ => simp
  | 3, _ => simp
theorem nat_or1 (n : Nat) : n ||| 1 = if n % 2 = 0 then n + 1 else n := by
  obtain ⟨q, r, hr, rfl⟩ : ∃ q r, r < 2 ∧ n = 2 * q + r := ⟨n / 2, n % 2, Nat.mod_lt _ (by decide), (Nat.div_add_mod n 2).symm⟩
  have e : 2 * q + r = 2 ^ 1 * q ||| r := Nat.two_pow_add_eq_or_of_lt (i := 1) hr q
  rw [show (2 * q + r) % 2 = r by omega]
  rw [show 2 * q + r ||| 1 = 2 ^ 1 * q ||| (r ||| 1) by rw [e, Nat.or_assoc]]
  have h4 : r ||| 1 < 2 := Nat.or_lt_two_pow (n := 1) hr (by decide)
  rw [← Nat.two_pow_add_eq_or_of_lt (i := 1) h4 q]
  match r, hr with
  | 0, _ => simp
  | 1, _ => simp

section
variable (x : Int) (h0 : 0 ≤ x) (h1 : x < 18446744073709551616)
include h0 h1
theorem bits_or2 : bits .or .u64 x 2 = ltBegin x := by
  obtain ⟨a, rfl⟩ := Int.eq_ofNat_of_zero_le h0
  have := (bits_nat .u64 64 (by decide) (fun n a b => by rw [IntKind.wrap_u64]; omega) a 2 (by omega) (by decide)).2
  rw [show ((2 : Nat) : Int) = 2 by rfl] at this
  rw [this, nat_or2]
  unfold ltBegin
  split <;> split <;> omega
theorem bits_or1 : bits .or .u64 x 1 = ltLock x := by
  obtain ⟨a, rfl⟩ := Int.eq_ofNat_of_zero_le h0
  have := (bits_nat .u64 64 (by decide) (fun n a b => by rw [IntKind.wrap_u64]; omega) a 1 (by omega) (by decide)).2
  rw [show ((1 : Nat) : Int) = 1 by rfl] at this
  rw [this, nat_or1]
  unfold ltLock
  split <;> split <;> omega
theorem bits_and2 : (bits .and .u64 x 2 != 0) = ltChg x := by
  obtain ⟨a, rfl⟩ := Int.eq_ofNat_of_zero_le h0
  have := (bits_nat .u64 64 (by decide) (fun n a b => by rw [IntKind.wrap_u64]; omega) a 2 (by omega) (by decide)).1
  rw [show ((2 : Nat) : Int) = 2 by rfl] at this
  rw [this, nat_and2]
  unfold ltChg
  split
  · simp; omega
  · simp; omega
omit h0 h1 in
theorem bv_clear (a b : BitVec 64) : ((a &&& ~~~b) ||| (a &&& b)) = a ∧ (a &&& ~~~b) &&& b = 0#64 := by
  constructor
  · ext i hi
    simp
    cases a[i] <;> cases b[i] <;> simp
  · ext i hi
    simp
omit h0 h1 in
theorem nat_clear (n b : Nat) (hn : n < 2 ^ 64) (hb : b < 2 ^ 64) : ∃ m : Nat, bits .andNot .u64 n b = (m : Int) ∧ (m ||| (n &&& b)) = n ∧ m &&& b = 0 ∧ m < 2 ^ 64 := by
  obtain ⟨h1, h2⟩ := bv_clear (BitVec.ofNat 64 n) (BitVec.ofNat 64 b)
  refine ⟨(BitVec.ofNat 64 n &&& ~~~(BitVec.ofNat 64 b)).toNat, ?_, ?_, ?_, BitVec.isLt _⟩
  · simp only [bits, BitVec.ofInt_natCast]
    show IntKind.u64.wrap _ = _
    rw [IntKind.wrap_u64]
    have := (BitVec.ofNat 64 n &&& ~~~(BitVec.ofNat 64 b)).isLt
    show ((BitVec.ofNat 64 n &&& ~~~(BitVec.ofNat 64 b)).toNat : Int) % 18446744073709551616 = ((BitVec.ofNat 64 n &&& ~~~(BitVec.ofNat 64 b)).toNat : Int)
    generalize (BitVec.ofNat 64 n &&& ~~~(BitVec.ofNat 64 b)).toNat = t at *
    omega
  · have := congrArg BitVec.toNat h1
    rw [BitVec.toNat_or, BitVec.toNat_and (BitVec.ofNat 64 n) (BitVec.ofNat 64 b)] at this
    rw [BitVec.toNat_ofNat, BitVec.toNat_ofNat, Nat.mod_eq_of_lt hn, Nat.mod_eq_of_lt hb] at this
    exact this
  · have := congrArg BitVec.toNat h2
    rw [BitVec.toNat_and (BitVec.ofNat 64 n &&& ~~~(BitVec.ofNat 64 b)), BitVec.toNat_ofNat b 64, Nat.mod_eq_of_lt hb] at this
    rw [this]; rfl
theorem bits_clear2 : bits .andNot .u64 x 2 = ltClear x := by
  obtain ⟨a, rfl⟩ := Int.eq_ofNat_of_zero_le h0
  obtain ⟨m, e, h2, h3, _⟩ := nat_clear a 2 (by omega) (by decide)
  rw [show ((2 : Nat) : Int) = 2 by rfl] at e
  rw [e]
  rw [nat_and2] at h2 h3
  have hm : m % 4 < 2 := by split at h3 <;> omega
  unfold ltClear
  split at h2
  · simp at h2
    subst h2
    split <;> omega
  · rw [nat_or2, if_pos hm] at h2
    split <;> omega
theorem bits_clear1 : bits .andNot .u64 x 1 = ltUnlock x := by
  obtain ⟨a, rfl⟩ := Int.eq_ofNat_of_zero_le h0
  obtain ⟨m, e, h2, h3, _⟩ := nat_clear a 1 (by omega) (by decide)
  rw [show ((1 : Nat) : Int) = 1 by rfl] at e
  rw [e]
  rw [Nat.and_one_is_mod] at h2 h3
  unfold ltUnlock
  have : a % 2 = 0 ∨ a % 2 = 1 := by omega
  rcases this with h | h
  · rw [h] at h2; simp at h2; subst h2; omega
  · rw [h, nat_or1, if_pos h3] at h2; omega

theorem ltBegin_any (w : World) : Calls Try.prog 24 #[.int .u64 x] w fun e w' => e = .returned (.int .u64 (ltBegin x)) ∧ w = w' := by
  have e := bits_or2 x h0 h1
  go_enter Try.func24, Try.ntmps24
  go_wp2
  go_ret
  exact ⟨rfl, rfl⟩
theorem ltLock_any (w : World) : Calls Try.prog 45 #[.int .u64 x] w fun e w' => e = .returned (.int .u64 (ltLock x)) ∧ w = w' := by
  have e := bits_or1 x h0 h1
  go_enter Try.func45, Try.ntmps45
  go_wp2
  go_ret
  exact ⟨rfl, rfl⟩
theorem ltUnlock_any (w : World) : Calls Try.prog 197 #[.int .u64 x] w fun e w' => e = .returned (.int .u64 (ltUnlock x)) ∧ w = w' := by
  have e := bits_clear1 x h0 h1
  go_enter Try.func197, Try.ntmps197
  go_wp2
  go_ret
  exact ⟨rfl, rfl⟩
theorem ltChanging_any (w : World) : Calls Try.prog 52 #[.int .u64 x] w fun e w' => e = .returned (.bool (ltChg x)) ∧ w = w' := by
  have e := bits_and2 x h0 h1
  go_enter Try.func52, Try.ntmps52
  go_wp2
  go_ret
  exact ⟨rfl, rfl⟩
theorem ltEnd_any (w : World) : Calls Try.prog 27 #[.int .u64 x] w fun e w' => e = .returned (.int .u64 (ltEnd x)) ∧ w = w' := by
  have e := bits_clear2 x h0 h1
  have e2 : IntKind.u64.wrap (ltClear x + 4) = ltEnd x := rfl
  go_enter Try.func27, Try.ntmps27
  go_wp2
  go_ret
  exact ⟨rfl, rfl⟩
theorem ltSame_any (y : Int) (h2 : 0 ≤ y) (h3 : y < 18446744073709551616) (w : World) : Calls Try.prog 181 #[.int .u64 x, .int .u64 y] w fun e w' => e = .returned (.bool (ltUnlock x == ltUnlock y)) ∧ w = w' := by
  have Q1 := fun w => ltUnlock_any x h0 h1 w
  have Q2 := fun w => ltUnlock_any y h2 h3 w
  go_enter Try.func181, Try.ntmps181
  go_wp2_with fail
  refine (Q1 _).mono ?_
  rintro e w1 ⟨rfl, rfl⟩
  go_wp2_with fail
  refine (Q2 _).mono ?_
  rintro e w1 ⟨rfl, rfl⟩
  go_wp2
  go_ret
  exact ⟨rfl, rfl⟩
end
end Go.Proofs.Ytfgjanponijkhaa
