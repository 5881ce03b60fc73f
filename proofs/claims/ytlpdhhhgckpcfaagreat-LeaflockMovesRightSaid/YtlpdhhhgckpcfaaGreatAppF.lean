
/- x.f = append(x.f, T..) in a region that draws: the load (e0), the literal's block (e1), append (e2), the store (e3). -/
import Derived.Test.YtlpdhhhgckpcfaaGreatCallVar
import Derived.Test.YtlpdhhhgckpcfaaGreatNodeW
namespace Go.Proofs.YtlpdhhhgckpcfaaGreat
open Go.RowKit
set_option maxRecDepth 100000
def ApR (K : Know) (REST : List Comp) (bp : Nat) (cf : Value → List Value) (TP T : TypeId) (v0 : Value) (size n : Nat) (xs lit : List Value) (e0 e1 e2 e3 : Nat) (ρ : Nat → Option Value) (W : World) : Prop :=
  ∃ (b : Nat) (v' : Value), (∀ v, ρ e0 = some v → v = v0) ∧ (∀ v, ρ e1 = some v → v = .slice (some ⟨b, 0, none⟩) 1 1) ∧ (∀ v, ρ e2 = some v → v = v') ∧
    St K W (optC (ρ e1) (blk b (.cells lit.toArray T)) :: rowP (ρ e2) (rowC v0 T size n xs) (rowC v' T size (n + 1) (xs ++ lit)) :: blk bp (.cells (cf (if (ρ e3).isSome then v' else v0)).toArray TP) :: REST)
section
variable {K : Know} {REST : List Comp} {bp : Nat} {cf : Value → List Value} {TP T : TypeId} {v0 : Value} {size n : Nat} {xs lit : List Value} {e0 e1 e2 e3 : Nat} {ρ : Nat → Option Value} {W : World} {u1 u2 : Value}
theorem ApR.start (hs : St K W (rowC v0 T size n xs :: blk bp (.cells (cf v0).toArray TP) :: REST)) : ApR K REST bp cf TP T v0 size n xs lit e0 e1 e2 e3 (fun _ => none) W :=
  ⟨0, undef, fun v h => (by cases h), fun v h => (by cases h), fun v h => (by cases h), hs.empty⟩
theorem ApR.same {W' : World} (h : ApR K REST bp cf TP T v0 size n xs lit e0 e1 e2 e3 ρ W) (hb : Below W.heap.size W W') : ApR K REST bp cf TP T v0 size n xs lit e0 e1 e2 e3 ρ W' := by
  obtain ⟨b, v', q0, q1, q2, hs⟩ := h
  exact ⟨b, v', q0, q1, q2, hs.same hb⟩
theorem ApR.rest (h : ApR K REST bp cf TP T v0 size n xs lit e0 e1 e2 e3 ρ W) : St K W REST := by
  obtain ⟨b, v', q0, q1, q2, hs⟩ := h
  exact hs.tail.tail.tail
theorem ApR.made (h : ApR K REST bp cf TP T v0 size n xs lit e0 e1 e2 e3 ρ W) (h01 : e0 ≠ e1) (h12 : e1 ≠ e2) (h13 : e1 ≠ e3) (h1 : ρ e1 = none) : ApR K REST bp cf TP T v0 size n xs lit e0 e1 e2 e3 (upd ρ e1 (.slice (some ⟨W.heap.size, 0, none⟩) 1 1)) (W.alloc (.cells lit.toArray T)) := by
  obtain ⟨b, v', q0, q1, q2, hs⟩ := h
  rw [h1] at hs
  refine ⟨W.heap.size, v', fun v hv => q0 v (by rwa [upd_ne h01] at hv), fun v hv => by rw [upd_eq] at hv; exact (Option.some.inj hv).symm, fun v hv => q2 v (by rwa [upd_ne (Ne.symm h12)] at hv), ?_⟩
  rw [upd_eq, upd_ne (Ne.symm h12), upd_ne (Ne.symm h13)]
  exact hs.tail.made _
theorem ApR.store (h : ApR K REST bp cf TP T v0 size n xs lit e0 e1 e2 e3 ρ W) (h03 : e0 ≠ e3) (h13 : e1 ≠ e3) (h23 : e2 ≠ e3) (h2 : ρ e2 = some u2) (h3 : ρ e3 = none) : ∃ R', St K W (blk bp (.cells (cf v0).toArray TP) :: R') ∧ (∃ a c, u2 = .slice a (n + 1) c) ∧
    ∀ W', St K W' (blk bp (.cells (cf u2).toArray TP) :: R') → ApR K REST bp cf TP T v0 size n xs lit e0 e1 e2 e3 (upd ρ e3 undef) W' := by
  obtain ⟨b, v', q0, q1, q2, hs⟩ := h
  rw [h2, h3] at hs
  obtain rfl := q2 u2 h2
  obtain ⟨a, c, hv, _, _⟩ := (show St K W (rowC u2 T size (n + 1) (xs ++ lit) :: _) from hs.b1).row_read
  refine ⟨_, hs.b2, ⟨a, c, hv⟩, fun W' hs' => ⟨b, u2, fun v hv => q0 v (by rwa [upd_ne h03] at hv), fun v hv => q1 v (by rwa [upd_ne h13] at hv), fun v hv => q2 v (by rwa [upd_ne h23] at hv), ?_⟩⟩
  rw [upd_ne h13, upd_ne h23, upd_eq, h2]
  exact hs'.u2
theorem ApR.last (h : ApR K REST bp cf TP T v0 size n xs lit e0 e1 e2 e3 ρ W) (hall : ∀ e, e ∈ [e0, e1, e2, e3] → (ρ e).isSome = true) : ∃ (a : Option Addr) (c : Nat), ρ e0 = some v0 ∧ (∃ v, ρ e1 = some v) ∧ ρ e2 = some (.slice a (n + 1) c) ∧ (∃ v, ρ e3 = some v) ∧
    St K W (rowC (.slice a (n + 1) c) T size (n + 1) (xs ++ lit) :: blk bp (.cells (cf (.slice a (n + 1) c)).toArray TP) :: REST) := by
  obtain ⟨v0', h0⟩ := Option.isSome_iff_exists.1 (hall e0 (by simp))
  obtain ⟨v1, h1⟩ := Option.isSome_iff_exists.1 (hall e1 (by simp))
  obtain ⟨v2, h2⟩ := Option.isSome_iff_exists.1 (hall e2 (by simp))
  obtain ⟨v3, h3⟩ := Option.isSome_iff_exists.1 (hall e3 (by simp))
  obtain ⟨b, v', q0, q1, q2, hs⟩ := h
  rw [h1, h2, h3] at hs
  obtain rfl := q2 v2 h2
  have hs := hs.tail
  obtain ⟨a, c, rfl, _, _⟩ := (show St K W (rowC v2 T size (n + 1) (xs ++ lit) :: _) from hs).row_read
  exact ⟨a, c, by rw [h0, q0 _ h0], ⟨v1, h1⟩, h2, ⟨v3, h3⟩, hs⟩
end
end Go.Proofs.YtlpdhhhgckpcfaaGreat
