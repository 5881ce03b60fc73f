
/- The walk of DescentFinds. -/
import Derived.Test.YtlpdhhhgckpcfaaGreatLaw11b
import Derived.Test.YtlpdhhhgckpcfaaGreatLevA
import Derived.Test.YtlpdhhhgckpcfaaGreatCelSame
namespace Go.Proofs.YtlpdhhhgckpcfaaGreat
open Go.RowKit
set_option maxRecDepth 100000
/-- What the level's nodes say of the node that Find has found: wv i is what the first i nodes give. -/
theorem want_of {d : Cfg} {L : List Cel} {t : List (List Nd)} {key : ByteArray} {k : Nat} {s : FdS} (hd : d.Ok) (ht : TreeOk d L t) (hr : FdRes t key k s) (hk : k ≤ t.length) :
    ∃ (l : List Nd) (wv : Nat → Int), lvIds t k = l.map (·.id) ∧ l.length ≤ 100 ∧ (∀ nd : Nd, nd ∈ l → NdOk d L nd) ∧ wv 0 = 0 ∧ (∀ (i : Nat) (nd : Nd), l[i]? = some nd → wv (i + 1) = if (!klt key nd.low && (nd.pg.la || klt key nd.pg.hi)) then nd.id else wv i) ∧ wv l.length = s.id ∧
      (s.id = 0 ∨ (s.id ≠ 0 ∧ ∃ nd : Nd, nd ∈ l ∧ s.id = nd.id ∧ s.pg = nd.pg)) ∧ (∀ (i : Nat) (nd : Nd), l[i]? = some nd → (lowsOf l)[i]? = some nd.low) ∧ s.pg.sl.length ≤ 1000000 := by
  rcases Nat.lt_or_ge k t.length with h | h
  · obtain ⟨l, i, nd, hl, hi, hid, hpg, hlow, hcov⟩ := hr.1 h
    have hrow := ht.rows k l hl
    have hN := ht.nodes k l hl
    have hnd := hN nd (List.mem_of_getElem? hi)
    have hil := (List.getElem?_eq_some_iff.1 hi).1
    have hll := List.sum_le_of_mem' hl
    have hc := ht.count
    refine ⟨l, fun j => if i < j then nd.id else 0, by unfold lvIds; rw [hl], by omega, hN, by simp, fun j x hj => ?_, by show (if i < l.length then nd.id else 0) = s.id; rw [if_pos hil, hid], .inr ⟨by have := hnd.id.1; omega, nd, List.mem_of_getElem? hi, hid, hpg⟩, fun j x hj => hrow.lows_at hj, by rw [hpg]; have := hnd.page.le; have := hd.fa2; omega⟩
    by_cases hij : j = i
    · subst hij
      rw [hi] at hj
      cases hj
      rw [hlow, hcov]
      simp
    · have hcf : (!klt key x.low && (x.pg.la || klt key x.pg.hi)) = false := by
        cases e : (!klt key x.low && (x.pg.la || klt key x.pg.hi)) with
        | false => rfl
        | true =>
          rw [Bool.and_eq_true, Bool.not_eq_true'] at e
          exact absurd (hrow.cover_one hj hi e.1 e.2 hlow hcov) hij
      rw [hcf]
      simp only [Bool.false_eq_true, if_false]
      by_cases h2 : i < j
      · rw [if_pos (by omega), if_pos h2]
      · rw [if_neg (by omega), if_neg h2]
  · obtain ⟨h1, h2⟩ := hr.2 h
    have hn : t[k]? = none := List.getElem?_eq_none (by omega)
    exact ⟨[], fun _ => 0, by unfold lvIds; rw [hn]; rfl, by simp, fun nd h => (by cases h), rfl, fun i nd h => by simp at h, h1.symm, .inl h1, fun i nd h => by simp at h, by rw [h2]; exact Nat.zero_le _⟩
end Go.Proofs.YtlpdhhhgckpcfaaGreat
