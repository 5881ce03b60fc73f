/- A reader with nobody else running, from the start and behind a change of the latch (pure). -/
import Derived.Test.YtfgjanponijkhaaNodeLaw2
namespace Go.Proofs.Ytfgjanponijkhaa
open Go.RowKit

theorem ltBegin_chg {x : Int} : ltChg (ltBegin x) = true := by
  unfold ltChg ltBegin
  rw [decide_eq_true_eq]
  split <;> omega
theorem ltBegin_bd {x : Int} (h0 : 0 ≤ x) (h1 : x < 18446744073709551616) : 0 ≤ ltBegin x ∧ ltBegin x < 18446744073709551616 := by
  unfold ltBegin
  split <;> omega
theorem ltEnd_bd (x : Int) : 0 ≤ ltEnd x ∧ ltEnd x < 18446744073709551616 := by
  unfold ltEnd
  rw [IntKind.wrap_u64]
  omega
theorem ltEnd_chg {x : Int} (h0 : 0 ≤ x) : ltChg (ltEnd x) = false := by
  have h : (ltEnd x) % 4 < 2 := by
    unfold ltEnd ltClear
    rw [IntKind.wrap_u64]
    split <;> omega
  have h2 : 0 ≤ (ltEnd x) % 4 := by omega
  unfold ltChg
  rw [decide_eq_false_iff_not]
  omega

theorem putSl_ok {d : Cfg} {id : Int} : ∀ (sl : List Sl) (i : Nat) (L : List Cel), CelsOk L → (∀ s, s ∈ sl → 0 ≤ s.r ∧ s.r < 18446744073709551616) → CelsOk (putSl d id i sl L) := by
  intro sl
  induction sl with
  | nil => intro i L h _; exact h
  | cons s sl ih =>
    intro i L h hr
    exact ih (i + 1) _ (h.put (hr s (by simp))) (fun s' hs' => hr s' (by simp [hs']))
theorem putPg_ok {d : Cfg} {id : Int} {pg : Pg} {L : List Cel} (h : CelsOk L) (hle : (pg.sl.length : Int) ≤ 1000000) (hri : 0 ≤ pg.ri ∧ pg.ri < 18446744073709551616) (hr : ∀ s, s ∈ pg.sl → 0 ≤ s.r ∧ s.r < 18446744073709551616) : CelsOk (putPg d id pg L) := by
  unfold putPg put3
  refine putSl_ok _ _ _ ?_ hr
  refine CelsOk.put (CelsOk.put (CelsOk.put h ⟨?_, ?_⟩) ⟨?_, ?_⟩) hri
  · show (0 : Int) ≤ pg.sl.length; omega
  · show (pg.sl.length : Int) < _; omega
  · show (0 : Int) ≤ 0; omega
  · show (0 : Int) < _; omega
theorem putPg_length {d : Cfg} {id : Int} {pg : Pg} {L : List Cel} : (putPg d id pg L).length = L.length := by
  unfold putPg put3
  rw [putSl_length, putC_length, putC_length, putC_length]

section
variable {d : Cfg} (hd : d.Ok) {id : Int} (h1 : 1 ≤ id) (h2 : id ≤ d.no)
include hd h1 h2
/-- The latch is no part of the page. -/
theorem PageAt.latch {L : List Cel} {pg : Pg} {c : Cel} (h : PageAt d id L pg) : PageAt d id (putC L (d.node id 0) c) pg := by
  have f1 := hd.fa1
  have ne : ∀ k : Int, 1 ≤ k → k < d.fa + 4 → getC (putC L (d.node id 0) c) (d.node id k) = getC L (d.node id k) := fun k a b => getC_ne (node_ne hd h1 h2 (by omega) b (by omega) (by omega) (by omega))
  refine ⟨by rw [ne 1 (by omega) (by omega)]; exact h.n, by rw [ne 1 (by omega) (by omega)]; exact h.lev, by rw [ne 2 (by omega) (by omega)]; exact h.hi, by rw [ne 2 (by omega) (by omega)]; exact h.la, by rw [ne 3 (by omega) (by omega)]; exact h.ri, h.le, fun i s hs => ?_⟩
  have hi : i < pg.sl.length := (List.getElem?_eq_some_iff.1 hs).1
  have := h.le
  have es : d.slot id i = d.node id (4 + (i : Int)) := by
    unfold Cfg.slot
    rw [if_pos ⟨by omega, by omega⟩]
  rw [es, ne _ (by omega) (by omega), ← es]
  exact h.sl i s hs
theorem latch_at {L : List Cel} {c : Cel} (hlen : (L.length : Int) = d.cells) : getC (putC L (d.node id 0) c) (d.node id 0) = c := by
  have f1 := hd.fa1
  have n0 := node_in hd h1 h2 (k := 0) (by omega) (by omega)
  exact getC_eq n0.2.1 (by omega)
end

section
variable {d : Cfg} {id : Int} {L : List Cel} {pg : Pg}
theorem rd_page (h : PageAt d id L pg) (hc : ltChg (getC L (d.node id 0)).n = false) {s : RdS} (hs : s.pc = 0) {n : Nat} (h6 : (it (rdStep d id L) n s).pc = 6) : (it (rdStep d id L) n s).pg = pg := by
  have h3 := rd_final h hc hs (N := n + (pg.sl.length + 5)) (by omega)
  rw [it_add, it_fix (rd_fix h6)] at h3
  exact h3.2
theorem rd_oks (hd : d.Ok) (hL : CelsOk L) {s : RdS} (h : s.Ok d) (n : Nat) : (it (rdStep d id L) n s).Ok d := by
  induction n with
  | zero => exact h
  | succ n ih => rw [it_succ]; exact rdStep_ok hd hL ih

/-- The fresh memory: an empty page in node 1. -/
theorem start_page (hd : d.Ok) : PageAt d 1 (startL d) ⟨0, [], ⟨#[]⟩, true, 0⟩ ∧ (getC (startL d) (d.node 1 0)) = Cel.zero ∧ CelsOk (startL d) ∧ ((startL d).length : Int) = d.cells := by
  obtain ⟨p1, p2, p3⟩ := start_cells d hd
  have f1 := hd.fa1
  have n1 := hd.no1
  have hA := hd.A_bd
  have hcl := hd.cells_bd
  have n : ∀ k : Int, 0 ≤ k → k < d.fa + 4 → d.node 1 k = d.A + k := fun k a b => by
    have := (node_in hd (id := 1) (by omega) n1 a b).1
    omega
  have z : ∀ k : Int, 0 ≤ k → k < d.fa + 4 → k ≠ 2 → getC (startL d) (d.node 1 k) = Cel.zero := by
    intro k a b c
    have e2 := n 2 (by omega) (by omega)
    have ek := n k a b
    rw [p3 _ (by omega), if_neg (by omega), if_neg (by omega), if_neg (by omega)]
  have e2 : getC (startL d) (d.node 1 2) = ⟨0, ⟨#[]⟩, 1⟩ := by rw [p3 _ (by omega), if_pos rfl]
  refine ⟨⟨by rw [z 1 (by omega) (by omega) (by omega)]; rfl, by rw [z 1 (by omega) (by omega) (by omega)]; show wrap64 0 = 0; unfold wrap64; omega, by rw [e2], by rw [e2]; rfl, by rw [z 3 (by omega) (by omega) (by omega)]; rfl, by simp; omega, fun i s hs => by simp at hs⟩, z 0 (by omega) (by omega) (by omega), fun k => ?_, by rw [p1]; have := hd.A_bd; have h5 := hd.B_bd; have h6 := hd.C_bd; omega⟩
  by_cases hk : 0 ≤ k
  · rw [p3 k hk]
    split
    · exact ⟨by decide, by decide⟩
    · split
      · exact ⟨by decide, by decide⟩
      · split <;> exact ⟨by decide, by decide⟩
  · rw [getC_neg (by omega)]; exact ⟨by decide, by decide⟩
/-- An empty page takes five steps. -/
theorem rd_empty (h : PageAt d id L pg) (hsl : pg.sl = []) (hc : ltChg (getC L (d.node id 0)).n = false) {s : RdS} (hs : s.pc = 0) :
    (it (rdStep d id L) 1 s).pc = 1 ∧ (it (rdStep d id L) 2 s).pc = 2 ∧ (it (rdStep d id L) 3 s).pc = 3 ∧ (it (rdStep d id L) 4 s).pc = 5 ∧ (it (rdStep d id L) 5 s).pc = 6 := by
  have h5 := (rd_final h hc hs (N := 5) (by rw [hsl]; simp)).1
  obtain ⟨pc, spg, left, word, t⟩ := s
  simp only at hs
  subst hs
  have hleft : leftOf d (getC L (d.node id 1)) = 0 := by
    have := h.le
    unfold leftOf
    rw [h.n, hsl, Int.min_eq_left (by rw [hsl] at this; exact this)]
    rfl
  have e0 : rdStep d id L ⟨0, spg, left, word, t⟩ = ⟨1, spg, left, (getC L (d.node id 0)).n, true⟩ := by simp only [rdStep, hc]; rfl
  refine ⟨?_, ?_, ?_, ?_, h5⟩
  · show (rdStep d id L ⟨0, spg, left, word, t⟩).pc = 1
    rw [e0]
  · show (rdStep d id L (rdStep d id L ⟨0, spg, left, word, t⟩)).pc = 2
    rw [e0]; rfl
  · show (rdStep d id L (rdStep d id L (rdStep d id L ⟨0, spg, left, word, t⟩))).pc = 3
    rw [e0]; rfl
  · show (rdStep d id L (rdStep d id L (rdStep d id L (rdStep d id L ⟨0, spg, left, word, t⟩)))).pc = 5
    rw [e0]
    simp only [rdStep, hleft]
    rfl
end
end Go.Proofs.Ytfgjanponijkhaa
