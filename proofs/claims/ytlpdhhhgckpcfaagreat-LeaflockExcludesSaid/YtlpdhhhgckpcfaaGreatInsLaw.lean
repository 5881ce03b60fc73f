
/- The cells behind Insert (pure). -/
import Derived.Test.YtlpdhhhgckpcfaaGreatInsB
import Derived.Test.YtlpdhhhgckpcfaaGreatTreeB
namespace Go.Proofs.YtlpdhhhgckpcfaaGreat
open Go.RowKit
set_option linter.unusedSectionVars false
section
variable {d : Cfg} (hd : d.Ok) {fr : InH} {fu p : Pg} {L : List Cel} {ps : List Pt} {id : Int}
include hd
/-- A write stays in its node. -/
theorem WrPs.addr (h : WrPs d fr p ps) (h1 : 1 ≤ fr.id) (h2 : fr.id ≤ d.no) (hle : (p.sl.length : Int) ≤ d.fa) : ∀ q, q ∈ ps → ∃ k : Int, 0 ≤ k ∧ k < d.fa + 4 ∧ q.i = d.node fr.id k := by
  have f1 := hd.fa1
  obtain ⟨mid, hn, rfl⟩ := h
  intro q hq
  simp only [List.cons_append, List.mem_cons, List.mem_append, List.not_mem_nil, or_false] at hq
  rcases hq with rfl | hq | rfl
  · exact ⟨0, by omega, by omega, rfl⟩
  · obtain ⟨k, k1, k2, e⟩ := pgPts_addr hd h1 h2 hle q (hn.1.subset hq)
    exact ⟨k, by omega, k2, e⟩
  · exact ⟨0, by omega, by omega, rfl⟩
/-- What a write leaves: the page and the word; nothing else changes. -/
theorem wr_end (hw : WrPs d fr p ps) (h1 : 1 ≤ fr.id) (h2 : fr.id ≤ d.no) (hle : (p.sl.length : Int) ≤ d.fa) (hlen : (L.length : Int) = d.cells) (hx : Holds L (pgPts d fr.id fr.pg)) :
    Holds (putAll L ps) (pgPts d fr.id p) ∧ (getC (putAll L ps) (d.node fr.id 0)).n = ltEnd (ltBegin fr.word) ∧ ∀ j : Int, (∀ k : Int, 0 ≤ k → k < d.fa + 4 → j ≠ d.node fr.id k) → getC (putAll L ps) j = getC L j := by
  have ha := hw.addr hd h1 h2 hle
  obtain ⟨mid, hn, rfl⟩ := hw
  refine ⟨stage_end hd h1 h2 hx hn hlen hle, ?_, fun j hj => putAll_other _ _ _ fun q hq => ?_⟩
  · rw [stage_last hd h1 h2 hlen]
  · obtain ⟨k, k1, k2, e⟩ := ha q hq
    rw [e]
    exact hj k k1 k2
end
theorem node_not4 {d : Cfg} (hd : d.Ok) {id : Int} (h1 : 1 ≤ id) (h2 : id ≤ d.no) : ∀ k : Int, 0 ≤ k → k < d.fa + 4 → (4 : Int) ≠ d.node id k := fun k k1 k2 => by
  have hA := hd.A_bd
  have f1 := hd.fa1
  have h := node_in hd h1 h2 k1 k2
  have h0 : 0 ≤ (id - 1) * (d.fa + 4) := Int.mul_nonneg (by omega) (by omega)
  omega
end Go.Proofs.YtlpdhhhgckpcfaaGreat
