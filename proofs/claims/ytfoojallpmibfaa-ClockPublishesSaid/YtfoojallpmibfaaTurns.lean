/- Turns: how often a machine has been picked when all are picked in turn. Plain numbers. -/
import Derived.Test.YtfoojallpmibfaaOver
namespace Go.Proofs.Ytfoojallpmibfaa

/-- How many of the picks below k, in turn among n, were machine j's. -/
def turns (n j k : Nat) : Nat := (k + (n - 1 - j)) / n

theorem turns_next (n j k : Nat) (hj : j < n) : turns n j (k + 1) = turns n j k + if k % n = j then 1 else 0 := by
  unfold turns
  have hn : 0 < n := by omega
  obtain ⟨q, r, hr, hk⟩ : ∃ q r, r < n ∧ k = n * q + r := ⟨k / n, k % n, Nat.mod_lt _ hn, (Nat.div_add_mod k n).symm⟩
  subst hk
  rw [Nat.mul_add_mod, Nat.mod_eq_of_lt hr]
  have e1 : (n * q + r + 1 + (n - 1 - j)) / n = q + (r + 1 + (n - 1 - j)) / n := by
    rw [show n * q + r + 1 + (n - 1 - j) = (r + 1 + (n - 1 - j)) + n * q by omega, Nat.add_mul_div_left _ _ hn]; omega
  have e2 : (n * q + r + (n - 1 - j)) / n = q + (r + (n - 1 - j)) / n := by
    rw [show n * q + r + (n - 1 - j) = (r + (n - 1 - j)) + n * q by omega, Nat.add_mul_div_left _ _ hn]; omega
  rw [e1, e2]
  have d0 : ∀ x, x < n → x / n = 0 := fun x hx => Nat.div_eq_of_lt hx
  have d1 : ∀ x, n ≤ x → x < 2 * n → x / n = 1 := fun x h1 h2 => by
    rw [show x = (x - n) + n by omega, Nat.add_div_right _ hn, d0 _ (by omega)]
  by_cases h1 : r < j
  · rw [d0 _ (by omega), d0 _ (by omega), if_neg (by omega)]
  · by_cases h2 : r = j
    · rw [d1 _ (by omega) (by omega), d0 _ (by omega), if_pos h2]
    · rw [d1 _ (by omega) (by omega), d1 _ (by omega) (by omega), if_neg h2]

theorem turns_rounds (n j k q : Nat) (hj : j < n) : turns n j (k + q * n) = turns n j k + q := by
  unfold turns
  rw [show k + q * n + (n - 1 - j) = k + (n - 1 - j) + q * n by omega, Nat.add_mul_div_right _ _ (by omega)]

theorem turns_mono (n j : Nat) {a b : Nat} (h : a ≤ b) : turns n j a ≤ turns n j b := Nat.div_le_div_right (by omega)
end Go.Proofs.Ytfoojallpmibfaa
