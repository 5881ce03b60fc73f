
/- The walk of DescentLevels. -/
import Derived.Test.YtlpdhhhgckpcfaaGreatLaw11a
import Derived.Test.YtlpdhhhgckpcfaaGreatTreeB
namespace Go.Proofs.YtlpdhhhgckpcfaaGreat
open Go.RowKit
set_option maxRecDepth 100000
theorem rows_ge : ∀ t : List (List Nd), (∀ l, l ∈ t → 0 < l.length) → t.length ≤ (t.map List.length).sum
  | [], _ => Nat.le_refl _
  | l :: t, h => by
    have := rows_ge t (fun x hx => h x (List.mem_cons_of_mem _ hx))
    have := h l List.mem_cons_self
    simp only [List.length_cons, List.map_cons, List.sum_cons]
    omega
theorem TreeOk.tall {d : Cfg} {L : List Cel} {t : List (List Nd)} (ht : TreeOk d L t) (hd : d.Ok) : t.length ≤ 4096 := by
  refine Nat.le_trans (rows_ge t fun l hl => ?_) (by have := ht.count; have := ht.n4; have := hd.no2; omega)
  obtain ⟨k, hk⟩ := List.getElem?_of_mem hl
  exact (ht.rows k l hk).ne
end Go.Proofs.YtlpdhhhgckpcfaaGreat
