
/- The shape of a tree in which numbers have been taken that are not in it yet (pure). -/
import Derived.Test.YtlpdhhhgckpcfaaGreatTreePut
namespace Go.Proofs.YtlpdhhhgckpcfaaGreat
set_option maxRecDepth 100000
theorem Shp.mono {N N' : Int} {t : List (List Nd)} (h : Shp N t) (hN : N ≤ N') : Shp N' t :=
  ⟨h.ne, h.rows, fun k l hk nd hn => by
    obtain ⟨⟨q1, q2⟩, q3⟩ := h.nodes k l hk nd hn
    exact ⟨⟨q1, by omega⟩, q3⟩, h.down, h.inj, by have := h.count; omega⟩
end Go.Proofs.YtlpdhhhgckpcfaaGreat
