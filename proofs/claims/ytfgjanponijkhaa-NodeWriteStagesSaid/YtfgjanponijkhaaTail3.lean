/- A region that ends in a call, the making of a block and a store ('x := m.Load(..)'): the block may be made at any time. -/
import Derived.Test.YtfgjanponijkhaaTail2
namespace Go.Proofs.Ytfgjanponijkhaa
open Go.RowKit

section
variable {P : Program} {n : Nat} {ops ops' : Array Oper} {C : World → Prop}

/-- The two texts differ in what the operation n + 1 waits for, and in nothing else. -/
structure Twin (n : Nat) (ops ops' : Array Oper) : Prop where
  size : ops.size = n + 3
  size' : ops'.size = n + 3
  same : ∀ i, i ≠ n + 1 → ops[i]? = ops'[i]?
  dst : (ops[n + 1]?).bind (·.dst) = (ops'[n + 1]?).bind (·.dst)
  free : ∀ o, ops[n + 1]? = some o → o.after = #[]
  low : ∀ i o e, i ≤ n → ops'[i]? = some o → e ∈ o.after → e.on ≠ n + 1
  last : ∃ o e, ops'[n + 2]? = some o ∧ e ∈ o.after ∧ Region.binds .any e = true ∧ e.on = n

theorem Twin.yield (h : Twin n ops ops') (tmps : Array Value) : yielded ops tmps = yielded ops' tmps := by
  funext g
  unfold yielded
  by_cases hg : g = n + 1
  · subst hg; rw [h.dst]
  · rw [h.same g hg]
theorem Twin.qOp_iff (h : Twin n ops ops') {i : Nat} (hi : i ≠ n + 1) (K : Act → Prop) (a : Act) : qOp P ops' C i K a = qOp P ops C i K a := by
  unfold qOp
  rw [h.same i hi, h.yield]
theorem Twin.ready (h : Twin n ops ops') {Z : Array Bool} {j : Nat} (hj : j ≠ n + 1) : j ∈ Region.ready .any ops Z ↔ j ∈ Region.ready .any ops' Z := by
  rw [mem_ready, mem_ready, h.same j hj]
theorem Twin.ready_low (h : Twin n ops ops') {Z : Array Bool} {j : Nat} (hj : j ≤ n) : j ∈ Region.ready .any ops' (Z.setIfInBounds (n + 1) true) ↔ j ∈ Region.ready .any ops' Z := by
  rw [mem_ready, mem_ready, getD_set_ne true (by omega)]
  constructor
  · rintro ⟨h0, o, ho, hall⟩
    exact ⟨h0, o, ho, fun e he hb => by have := hall e he hb; rwa [getD_set_ne false (Ne.symm (h.low j o e hj ho he))] at this⟩
  · rintro ⟨h0, o, ho, hall⟩
    exact ⟨h0, o, ho, fun e he hb => by rw [getD_set_ne false (Ne.symm (h.low j o e hj ho he))]; exact hall e he hb⟩

/-- A slot that the operation neither reads nor writes. -/
theorem qOp_beside {j : Nat} {oj : Oper} {d : Tmp} {v : Value} {K : Act → Prop} {a : Act} (hj : ops[j]? = some oj) (h1 : d ∉ oj.looksAt ops) (h2 : oj.dst ≠ some d) (hs : ∀ cs b, oj.op ≠ .select cs b) (h : qOp P ops C j K a) :
    qOp P ops C j (fun a' => ∃ a0, a' = a0.put (some d) v ∧ K a0) (a.put (some d) v) := by
  have e1 := execOp_put oj hs a (some d) v (fun x hx => by cases hx; exact h1)
  have e2 := wanted_put oj a (some d) v (fun x hx => by cases hx; exact h1)
  have e3 : ∀ u, (a.put (some d) v).put oj.dst u = (a.put oj.dst u).put (some d) v := fun u => Act.put_comm a v u (x := some d) (y := oj.dst) (fun x hx => by simp only [Option.some.injEq] at hx; subst hx; exact h2)
  unfold qOp at *
  simp only [hj] at *
  rw [e2]
  split
  · rename_i hw
    simp only [hw, if_true] at h
    obtain ⟨u, k1, k2⟩ := h
    refine ⟨u, fun w hw => ?_, _, e3 u, k2⟩
    have := k1 w hw
    unfold Oper.quietAt at this ⊢
    rw [e1]
    exact this
  · rename_i hw
    simp only [hw] at h
    exact ⟨_, e3 _, h⟩
end
end Go.Proofs.Ytfgjanponijkhaa
