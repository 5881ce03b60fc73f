
/- The cells behind Insert (pure). -/
import Derived.Test.YtlpdhhhgckpcfaaGreatInsB
import Derived.Test.YtlpdhhhgckpcfaaGreatTreeB
namespace Go.Proofs.YtlpdhhhgckpcfaaGreat
open Go.RowKit
set_option linter.unusedSectionVars false
section
variable {d : Cfg} (hd : d.Ok) {fr : InH} {fu p : Pg} {L : List Cel} {ps : List Pt} {id : Int}
include hd
/-- A write stays in its node. -/
theorem WrPs.addr (h : WrPs d fr p ps) (h1 : 1 ≤ fr.id) (h2 : fr.id ≤ d.no) (hle : (p.sl.length : Int) ≤ d.fa) : ∀ q, q ∈ ps → ∃ k : Int, 0 ≤ k ∧ k < d.fa + 4 ∧ q.i = d.node fr.id k := by
  have f1 := hd.fa1
  obtain ⟨mid, hn, rfl⟩ := h
  intro q hq
  simp only [List.cons_append, List.mem_cons, List.mem_append, List.not_mem_nil, or_false] at hq
  rcases hq with rfl | hq | rfl
  · exact ⟨0, by omega, by omega, rfl⟩
  · obtain ⟨k, k1, k2, e⟩ := pgPts_addr hd h1 h2 hle q (hn.1.subset hq)
    exact ⟨k, by omega, k2, e⟩
  · exact ⟨0, by omega, by omega, rfl⟩
/-- What a write leaves: the page and the word; nothing else changes. -/
theorem wr_end (hw : WrPs d fr p ps) (h1 : 1 ≤ fr.id) (h2 : fr.id ≤ d.no) (hle : (p.sl.length : Int) ≤ d.fa) (hlen : (L.length : Int) = d.cells) (hx : Holds L (pgPts d fr.id fr.pg)) :
    Holds (putAll L ps) (pgPts d fr.id p) ∧ (getC (putAll L ps) (d.node fr.id 0)).n = ltEnd (ltBegin fr.word) ∧ ∀ j : Int, (∀ k : Int, 0 ≤ k → k < d.fa + 4 → j ≠ d.node fr.id k) → getC (putAll L ps) j = getC L j := by
  have ha := hw.addr hd h1 h2 hle
  obtain ⟨mid, hn, rfl⟩ := hw
  refine ⟨stage_end hd h1 h2 hx hn hlen hle, ?_, fun j hj => putAll_other _ _ _ fun q hq => ?_⟩
  · rw [stage_last hd h1 h2 hlen]
  · obtain ⟨k, k1, k2, e⟩ := ha q hq
    rw [e]
    exact hj k k1 k2
end
theorem slPts_cels {d : Cfg} {id : Int} : ∀ (l : List Sl) (i : Nat), (∀ s, s ∈ l → 0 ≤ s.r ∧ s.r < 18446744073709551616) → ∀ q, q ∈ slPts d id i l → CelOk q.c
  | [], _, _, q, h => by cases h
  | s :: l, i, hr, q, h => by
    rcases List.mem_cons.1 h with rfl | h
    · exact hr s List.mem_cons_self
    · exact slPts_cels l (i + 1) (fun s hs => hr s (List.mem_cons_of_mem _ hs)) q h
theorem pgPts_cels {d : Cfg} {id : Int} {pg : Pg} (hd : d.Ok) (h : PgOk d pg) : ∀ q, q ∈ pgPts d id pg → CelOk q.c := fun q hq => by
  have f2 := hd.fa2
  have hle := h.le
  rcases List.mem_append.1 hq with hq | hq
  · exact slPts_cels pg.sl 0 h.r q hq
  · simp only [List.mem_cons, List.not_mem_nil, or_false] at hq
    rcases hq with rfl | rfl | rfl
    · show CelOk (hiCel pg)
      unfold hiCel
      cases pg.la
      · exact ⟨by show (0 : Int) ≤ 0; omega, by show (0 : Int) < 18446744073709551616; omega⟩
      · exact ⟨by show (0 : Int) ≤ 0; omega, by show (0 : Int) < 18446744073709551616; omega⟩
    · exact h.ri
    · exact ⟨by show (0 : Int) ≤ pg.sl.length; omega, by show (pg.sl.length : Int) < _; omega⟩
theorem wrPs_cels {d : Cfg} {fr : InH} {p : Pg} {ps : List Pt} (hd : d.Ok) (hfr : fr.Ok d) (hp : PgOk d p) (hw : WrPs d fr p ps) : ∀ q, q ∈ ps → CelOk q.c := by
  obtain ⟨mid, hn, rfl⟩ := hw
  intro q hq
  have hb := hfr.word
  simp only [List.cons_append, List.mem_cons, List.mem_append, List.not_mem_nil, or_false] at hq
  rcases hq with rfl | hq | rfl
  · show 0 ≤ ltBegin fr.word ∧ ltBegin fr.word < 18446744073709551616
    unfold ltBegin
    split <;> omega
  · exact pgPts_cels hd hp q (hn.1.subset hq)
  · show 0 ≤ ltEnd (ltBegin fr.word) ∧ ltEnd (ltBegin fr.word) < 18446744073709551616
    unfold ltEnd
    rw [IntKind.wrap_u64]
    omega
theorem node_not4 {d : Cfg} (hd : d.Ok) {id : Int} (h1 : 1 ≤ id) (h2 : id ≤ d.no) : ∀ k : Int, 0 ≤ k → k < d.fa + 4 → (4 : Int) ≠ d.node id k := fun k k1 k2 => by
  have hA := hd.A_bd
  have f1 := hd.fa1
  have h := node_in hd h1 h2 k1 k2
  have h0 : 0 ≤ (id - 1) * (d.fa + 4) := Int.mul_nonneg (by omega) (by omega)
  omega
theorem insSl_mem {l : List Sl} {key : ByteArray} {r : Int} {s : Sl} (h : s ∈ insSl l key r) : s ∈ l ∨ s = ⟨key, r⟩ := by
  unfold insSl at h
  rcases List.mem_append.1 h with h | h
  · exact .inl (List.mem_of_mem_take h)
  · rcases List.mem_cons.1 h with h | h
    · exact .inr h
    · exact .inl (List.mem_of_mem_drop h)
theorem FuOk.ins {d : Cfg} {fr : InH} {key : ByteArray} {r : Int} (hpg : PgOk d fr.pg) (hk : ∀ s, s ∈ fr.pg.sl → s.k.size ≤ 1000000) (hkey : key.size ≤ 1000000) (hr : 0 ≤ r ∧ r < 18446744073709551616) : FuOk d fr (insPg fr.pg key r) := by
  refine ⟨rfl, ?_, fun s hs => ?_, fun s hs => ?_, hpg.hi, hpg.la, hpg.ri⟩
  · show ((insSl fr.pg.sl key r).length : Int) ≤ _
    rw [insSl_length]
    have := hpg.le
    omega
  · rcases insSl_mem hs with h | h
    · exact hpg.r s h
    · rw [h]; exact hr
  · rcases insSl_mem hs with h | h
    · exact hk s h
    · rw [h]; exact hkey
end Go.Proofs.YtlpdhhhgckpcfaaGreat
