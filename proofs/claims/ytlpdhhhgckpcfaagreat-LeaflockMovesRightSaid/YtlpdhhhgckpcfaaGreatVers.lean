
/- Rows of versions; slices of versions that are only read; blinktreeref9.Check. -/
import Derived.Test.YtlpdhhhgckpcfaaGreatNodeB
import Derived.Test.YtlpdhhhgckpcfaaGreatPageA
namespace Go.Proofs.YtlpdhhhgckpcfaaGreat
open Go.RowKit
set_option maxRecDepth 100000

/-- A slice of versions. -/
def VersAt (w : World) (a : Option Addr) (vs : List Ver) : Prop := vs.length ≤ 1000000000 ∧ ∀ (i : Nat) (v : Ver), vs[i]? = some v →
  ∃ b off, a = some ⟨b, off, none⟩ ∧ b < w.heap.size ∧ w.cell? ⟨b, off + i * 3, none⟩ = some (.int .u64 v.st) ∧ w.cell? ⟨b, off + i * 3 + 1, none⟩ = some (.string v.k) ∧ w.cell? ⟨b, off + i * 3 + 2, none⟩ = some (.bool v.del)
theorem VersAt.same {w w' : World} {a : Option Addr} {vs : List Ver} (h : VersAt w a vs) (hb : Below w.heap.size w w') : VersAt w' a vs :=
  ⟨h.1, fun i v hv => by
    obtain ⟨b, off, e, hlt, c0, c1, c2⟩ := h.2 i v hv
    exact ⟨b, off, e, Nat.lt_of_lt_of_le hlt hb.size, by rw [hb.cell (p := ⟨b, _, none⟩) hlt]; exact c0, by rw [hb.cell (p := ⟨b, _, none⟩) hlt]; exact c1, by rw [hb.cell (p := ⟨b, _, none⟩) hlt]; exact c2⟩⟩

/-- Versions as they must be when nothing is in progress. -/
def V9 (N : Int) (vs : List Ver) : Prop := ∀ (i : Nat) (v : Ver), vs[i]? = some v → 0 < v.st ∧ v.st ≤ N ∧ (v.del = true → v.k = ⟨#[]⟩) ∧ ∀ u, vs[i + 1]? = some u → u.st < v.st
end Go.Proofs.YtlpdhhhgckpcfaaGreat
