/- A slice of integers that came in, as a function of the index. -/
import Derived.Test.YtfgjanponijkhaaFrame
namespace Go.Proofs.Ytfgjanponijkhaa
open Go.ChangeShapes Go.WideShapes Go.ChangeAt Go.RowKit

def RowIn (k : IntKind) (w : World) (a : Option Addr) (len : Nat) (f : Nat → Int) : Prop :=
  len ≤ maxLen ∧ ∀ i, i < len → ∃ b off, a = some ⟨b, off, none⟩ ∧ b < w.heap.size ∧ w.cell? ⟨b, off + i, none⟩ = some (.int k (f i)) ∧ (Lit.int k (f i)).wf = true

theorem open_row {H : Type} {enc : TypeId × Value → H} {P : Program} {w : World} {base : Nat} {spare : Nat → Bool} {held : Bool} {t e : TypeId} {k : IntKind} {a : Option Addr} {len cap : Nat} {d : DataW H} {p : List MemPlace}
    (ht : P.underlying t = some (.slice e)) (he : P.underlying e = some (.int k)) (hc : P.cellsOf e = 1) (h : DataW.Trod enc P w base spare held t (.slice a len cap) d p) :
    ∃ f : Nat → Int, RowIn k w a len f := by
  obtain ⟨fuel, hf⟩ := h
  rcases open_ints ht he hc hf with ⟨hcs, _⟩ | ⟨x, l, c, zs, hcs, _, hl, hm, hz, _, hcell, hwz⟩
  · simp [Value.cells] at hcs
    obtain ⟨rfl, rfl, rfl⟩ := hcs
    exact ⟨fun _ => 0, by simp [maxLen], fun i hi => by omega⟩
  · simp [Value.cells] at hcs
    obtain ⟨rfl, rfl, rfl⟩ := hcs
    refine ⟨fun i => zs.getD i 0, by omega, fun i hi => ?_⟩
    have hzl : len ≤ zs.length := by rw [hz]; split <;> omega
    have h0 := hcell 0 (by omega)
    rw [show x.add 0 = x from rfl] at h0
    have hsp : x.spot = none := by
      cases hs : x.spot with
      | none => rfl
      | some s =>
        simp only [World.cell?, hs] at h0
        split at h0 <;> simp at h0
    obtain ⟨b, off, sp⟩ := x
    simp only at hsp
    subst hsp
    refine ⟨b, off, rfl, World.block_lt_of_cell? _ _ h0, ?_, ?_⟩
    · have hi' := hcell i (by omega)
      by_cases h00 : i = 0
      · subst h00; exact h0
      · simpa [Addr.add, h00] using hi'
    · have hlt : i < zs.length := by omega
      have : zs.getD i 0 = zs[i] := by simp [List.getD_eq_getElem?_getD, List.getElem?_eq_getElem hlt]
      show (Lit.int k (zs.getD i 0)).wf = true
      rw [this]
      exact hwz _ (List.getElem_mem _)

theorem RowIn.keep {k : IntKind} {w w' : World} {a : Option Addr} {len : Nat} {f : Nat → Int} (h : RowIn k w a len f) (hb : Below w.heap.size w w') : RowIn k w' a len f :=
  ⟨h.1, fun i hi => by
    obtain ⟨b, off, e, hlt, hc, hw⟩ := h.2 i hi
    exact ⟨b, off, e, Nat.lt_of_lt_of_le hlt hb.size, by rw [hb.cell (p := ⟨b, off + i, none⟩) hlt]; exact hc, hw⟩⟩
end Go.Proofs.Ytfgjanponijkhaa
