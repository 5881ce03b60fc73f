/- What Put makes of the cells (pure). A reader with nobody else running, from the start and behind a change of the latch (pure). -/
import Derived.Test.YtfgjanponijkhaaNodeLaw
import Derived.Test.YtfgjanponijkhaaNodePut
namespace Go.Proofs.Ytfgjanponijkhaa
open Go.RowKit

section
variable {d : Cfg} (hd : d.Ok) {id : Int} (h1 : 1 ≤ id) (h2 : id ≤ d.no)
include hd h1 h2
theorem node_in {k : Int} (hk : 0 ≤ k) (hk2 : k < d.fa + 4) : d.node id k = d.A + (id - 1) * (d.fa + 4) + k ∧ 0 ≤ d.node id k ∧ d.node id k < d.cells := by
  have e : d.node id k = d.A + (id - 1) * (d.fa + 4) + k := by unfold Cfg.node; rw [if_pos ⟨h1, h2⟩]
  have hA := hd.A_bd; have hB := hd.B_bd; have hC := hd.C_bd; have hcl := hd.cells_bd
  have f1 := hd.fa1
  have m1 : (id - 1) * (d.fa + 4) + (d.fa + 4) = id * (d.fa + 4) := by rw [Int.sub_mul]; omega
  have m2 : id * (d.fa + 4) ≤ d.no * (d.fa + 4) := Int.mul_le_mul_of_nonneg_right h2 (by omega)
  have m3 : 0 ≤ (id - 1) * (d.fa + 4) := Int.mul_nonneg (by omega) (by omega)
  have eB : d.B = d.A + d.no * (d.fa + 4) := rfl
  refine ⟨e, by omega, ?_⟩
  have : d.B ≤ d.cells := by unfold Cfg.cells Cfg.C; have := hd.ch1; have := hd.re1; omega
  omega
theorem node_ne {k k' : Int} (hk : 0 ≤ k) (hk2 : k < d.fa + 4) (hk' : 0 ≤ k') (hk2' : k' < d.fa + 4) (h : k ≠ k') : d.node id k ≠ d.node id k' := by
  have a := node_in hd h1 h2 hk hk2
  have b := node_in hd h1 h2 hk' hk2'
  omega
omit hd h1 h2 in
theorem putSl_length : ∀ (sl : List Sl) (i : Nat) (L : List Cel), (putSl d id i sl L).length = L.length := by
  intro sl
  induction sl with
  | nil => intro i L; rfl
  | cons s sl ih => intro i L; show (putSl d id (i + 1) sl _).length = _; rw [ih, putC_length]
omit hd h1 h2 in
/-- Other cells stay. -/
theorem putSl_other : ∀ (sl : List Sl) (i : Nat) (L : List Cel) (j : Int), (∀ k : Nat, i ≤ k → k < i + sl.length → j ≠ d.node id (4 + (k : Int))) → getC (putSl d id i sl L) j = getC L j := by
  intro sl
  induction sl with
  | nil => intro i L j _; rfl
  | cons s sl ih =>
    intro i L j h
    show getC (putSl d id (i + 1) sl _) j = _
    rw [ih (i + 1) _ j (fun k a b => h k (by omega) (by simp; omega))]
    exact getC_ne (h i (by omega) (by simp))
theorem putSl_at : ∀ (sl : List Sl) (i : Nat) (L : List Cel), (L.length : Int) = d.cells → (i + sl.length : Int) ≤ d.fa → ∀ (m : Nat) (s : Sl), sl[m]? = some s → getC (putSl d id i sl L) (d.node id (4 + ((i + m : Nat) : Int))) = ⟨s.r, s.k, 0⟩ := by
  intro sl
  induction sl with
  | nil => intro i L _ _ m s h; simp at h
  | cons x sl ih =>
    intro i L hlen hle m s h
    simp only [List.length_cons] at hle
    show getC (putSl d id (i + 1) sl (putC L (d.node id (4 + (i : Int))) ⟨x.r, x.k, 0⟩)) _ = _
    cases m with
    | zero =>
      simp only [List.getElem?_cons_zero, Option.some.injEq] at h
      subst h
      have hi := node_in hd h1 h2 (k := 4 + (i : Int)) (by omega) (by omega)
      rw [putSl_other _ _ _ _ (fun k a b => by
        simp only [Nat.add_zero]
        exact node_ne hd h1 h2 (by omega) (by omega) (by omega) (by omega) (by omega))]
      rw [Nat.add_zero]
      exact getC_eq hi.2.1 (by omega)
    | succ m =>
      rw [show i + (m + 1) = (i + 1) + m by omega]
      exact ih (i + 1) _ (by rw [putC_length]; exact hlen) (by omega) m s (by simpa using h)

/-- Put lays the page down. -/
theorem putPg_at {L : List Cel} {pg : Pg} (hlen : (L.length : Int) = d.cells) (hlev : 0 ≤ pg.lev ∧ pg.lev < 1000000) (hle : (pg.sl.length : Int) ≤ d.fa) : PageAt d id (putPg d id pg L) pg := by
  have f1 := hd.fa1
  have n1 := node_in hd h1 h2 (k := 1) (by omega) (by omega)
  have n2 := node_in hd h1 h2 (k := 2) (by omega) (by omega)
  have n3 := node_in hd h1 h2 (k := 3) (by omega) (by omega)
  have ne : ∀ (k : Int) (m : Nat), 0 ≤ k → k ≤ 3 → 0 ≤ m → m < 0 + pg.sl.length → d.node id k ≠ d.node id (4 + (m : Int)) := fun k m a b _ c => node_ne hd h1 h2 a (by omega) (by omega) (by omega) (by omega)
  have e1 : getC (putPg d id pg L) (d.node id 1) = ⟨pg.sl.length, ⟨#[]⟩, pg.lev⟩ := by
    unfold putPg
    rw [putSl_other _ _ _ _ (fun k a b => ne 1 k (by omega) (by omega) a b)]
    unfold put3
    rw [getC_ne (node_ne hd h1 h2 (by omega) (by omega) (by omega) (by omega) (by omega)), getC_ne (node_ne hd h1 h2 (by omega) (by omega) (by omega) (by omega) (by omega)), getC_eq n1.2.1 (by omega)]
  have e2 : getC (putPg d id pg L) (d.node id 2) = ⟨0, pg.hi, b01 pg.la⟩ := by
    unfold putPg
    rw [putSl_other _ _ _ _ (fun k a b => ne 2 k (by omega) (by omega) a b)]
    unfold put3
    rw [getC_ne (node_ne hd h1 h2 (by omega) (by omega) (by omega) (by omega) (by omega)), getC_eq n2.2.1 (by rw [putC_length]; omega)]
  have e3 : getC (putPg d id pg L) (d.node id 3) = ⟨pg.ri, ⟨#[]⟩, 0⟩ := by
    unfold putPg
    rw [putSl_other _ _ _ _ (fun k a b => ne 3 k (by omega) (by omega) a b)]
    unfold put3
    rw [getC_eq n3.2.1 (by rw [putC_length, putC_length]; omega)]
  refine ⟨by rw [e1], ?_, by rw [e2], ?_, by rw [e3], hle, fun i s hs => ?_⟩
  · rw [e1]; show wrap64 pg.lev = pg.lev
    unfold wrap64; omega
  · rw [e2]; cases pg.la <;> rfl
  · have hi : i < pg.sl.length := (List.getElem?_eq_some_iff.1 hs).1
    have es : d.slot id i = d.node id (4 + ((0 + i : Nat) : Int)) := by
      unfold Cfg.slot
      rw [if_pos ⟨by omega, by omega⟩, Nat.zero_add]
    rw [es]
    unfold putPg
    have hl3 : ((put3 d id pg L).length : Int) = d.cells := by unfold put3; rw [putC_length, putC_length, putC_length]; exact hlen
    rw [putSl_at hd h1 h2 pg.sl 0 _ hl3 (by omega) i s hs]
    exact ⟨rfl, rfl⟩
/-- .. and leaves the latch. -/
theorem putPg_latch {L : List Cel} {pg : Pg} (hle : (pg.sl.length : Int) ≤ d.fa) : getC (putPg d id pg L) (d.node id 0) = getC L (d.node id 0) := by
  have f1 := hd.fa1
  unfold putPg
  rw [putSl_other _ _ _ _ (fun k a b => node_ne hd h1 h2 (by omega) (by omega) (by omega) (by omega) (by omega))]
  unfold put3
  rw [getC_ne (node_ne hd h1 h2 (by omega) (by omega) (by omega) (by omega) (by omega)), getC_ne (node_ne hd h1 h2 (by omega) (by omega) (by omega) (by omega) (by omega)), getC_ne (node_ne hd h1 h2 (by omega) (by omega) (by omega) (by omega) (by omega))]
end
end Go.Proofs.Ytfgjanponijkhaa

namespace Go.Proofs.Ytfgjanponijkhaa
open Go.RowKit

theorem ltBegin_chg {x : Int} : ltChg (ltBegin x) = true := by
  unfold ltChg ltBegin
  rw [decide_eq_true_eq]
  split <;> omega
theorem ltBegin_bd {x : Int} (h0 : 0 ≤ x) (h1 : x < 18446744073709551616) : 0 ≤ ltBegin x ∧ ltBegin x < 18446744073709551616 := by
  unfold ltBegin
  split <;> omega
theorem ltEnd_bd (x : Int) : 0 ≤ ltEnd x ∧ ltEnd x < 18446744073709551616 := by
  unfold ltEnd
  rw [IntKind.wrap_u64]
  omega
theorem ltEnd_chg {x : Int} (h0 : 0 ≤ x) : ltChg (ltEnd x) = false := by
  have h : (ltEnd x) % 4 < 2 := by
    unfold ltEnd ltClear
    rw [IntKind.wrap_u64]
    split <;> omega
  have h2 : 0 ≤ (ltEnd x) % 4 := by omega
  unfold ltChg
  rw [decide_eq_false_iff_not]
  omega

theorem putSl_ok {d : Cfg} {id : Int} : ∀ (sl : List Sl) (i : Nat) (L : List Cel), CelsOk L → (∀ s, s ∈ sl → 0 ≤ s.r ∧ s.r < 18446744073709551616) → CelsOk (putSl d id i sl L) := by
  intro sl
  induction sl with
  | nil => intro i L h _; exact h
  | cons s sl ih =>
    intro i L h hr
    exact ih (i + 1) _ (h.put (hr s (by simp))) (fun s' hs' => hr s' (by simp [hs']))
theorem putPg_ok {d : Cfg} {id : Int} {pg : Pg} {L : List Cel} (h : CelsOk L) (hle : (pg.sl.length : Int) ≤ 1000000) (hri : 0 ≤ pg.ri ∧ pg.ri < 18446744073709551616) (hr : ∀ s, s ∈ pg.sl → 0 ≤ s.r ∧ s.r < 18446744073709551616) : CelsOk (putPg d id pg L) := by
  unfold putPg put3
  refine putSl_ok _ _ _ ?_ hr
  refine CelsOk.put (CelsOk.put (CelsOk.put h ⟨?_, ?_⟩) ⟨?_, ?_⟩) hri
  · show (0 : Int) ≤ pg.sl.length; omega
  · show (pg.sl.length : Int) < _; omega
  · show (0 : Int) ≤ 0; omega
  · show (0 : Int) < _; omega
theorem putPg_length {d : Cfg} {id : Int} {pg : Pg} {L : List Cel} : (putPg d id pg L).length = L.length := by
  unfold putPg put3
  rw [putSl_length, putC_length, putC_length, putC_length]

section
variable {d : Cfg} (hd : d.Ok) {id : Int} (h1 : 1 ≤ id) (h2 : id ≤ d.no)
include hd h1 h2
/-- The latch is no part of the page. -/
theorem PageAt.latch {L : List Cel} {pg : Pg} {c : Cel} (h : PageAt d id L pg) : PageAt d id (putC L (d.node id 0) c) pg := by
  have f1 := hd.fa1
  have ne : ∀ k : Int, 1 ≤ k → k < d.fa + 4 → getC (putC L (d.node id 0) c) (d.node id k) = getC L (d.node id k) := fun k a b => getC_ne (node_ne hd h1 h2 (by omega) b (by omega) (by omega) (by omega))
  refine ⟨by rw [ne 1 (by omega) (by omega)]; exact h.n, by rw [ne 1 (by omega) (by omega)]; exact h.lev, by rw [ne 2 (by omega) (by omega)]; exact h.hi, by rw [ne 2 (by omega) (by omega)]; exact h.la, by rw [ne 3 (by omega) (by omega)]; exact h.ri, h.le, fun i s hs => ?_⟩
  have hi : i < pg.sl.length := (List.getElem?_eq_some_iff.1 hs).1
  have := h.le
  have es : d.slot id i = d.node id (4 + (i : Int)) := by
    unfold Cfg.slot
    rw [if_pos ⟨by omega, by omega⟩]
  rw [es, ne _ (by omega) (by omega), ← es]
  exact h.sl i s hs
theorem latch_at {L : List Cel} {c : Cel} (hlen : (L.length : Int) = d.cells) : getC (putC L (d.node id 0) c) (d.node id 0) = c := by
  have f1 := hd.fa1
  have n0 := node_in hd h1 h2 (k := 0) (by omega) (by omega)
  exact getC_eq n0.2.1 (by omega)
end

section
variable {d : Cfg} {id : Int} {L : List Cel} {pg : Pg}
theorem rd_page (h : PageAt d id L pg) (hc : ltChg (getC L (d.node id 0)).n = false) {s : RdS} (hs : s.pc = 0) {n : Nat} (h6 : (it (rdStep d id L) n s).pc = 6) : (it (rdStep d id L) n s).pg = pg := by
  have h3 := rd_final h hc hs (N := n + (pg.sl.length + 5)) (by omega)
  rw [it_add, it_fix (rd_fix h6)] at h3
  exact h3.2
theorem rd_oks (hd : d.Ok) (hL : CelsOk L) {s : RdS} (h : s.Ok d) (n : Nat) : (it (rdStep d id L) n s).Ok d := by
  induction n with
  | zero => exact h
  | succ n ih => rw [it_succ]; exact rdStep_ok hd hL ih

/-- The fresh memory: an empty page in node 1. -/
theorem start_page (hd : d.Ok) : PageAt d 1 (startL d) ⟨0, [], ⟨#[]⟩, true, 0⟩ ∧ (getC (startL d) (d.node 1 0)) = Cel.zero ∧ CelsOk (startL d) ∧ ((startL d).length : Int) = d.cells := by
  obtain ⟨p1, p2, p3⟩ := start_cells d hd
  have f1 := hd.fa1
  have n1 := hd.no1
  have hA := hd.A_bd
  have hcl := hd.cells_bd
  have n : ∀ k : Int, 0 ≤ k → k < d.fa + 4 → d.node 1 k = d.A + k := fun k a b => by
    have := (node_in hd (id := 1) (by omega) n1 a b).1
    omega
  have z : ∀ k : Int, 0 ≤ k → k < d.fa + 4 → k ≠ 2 → getC (startL d) (d.node 1 k) = Cel.zero := by
    intro k a b c
    have e2 := n 2 (by omega) (by omega)
    have ek := n k a b
    rw [p3 _ (by omega), if_neg (by omega), if_neg (by omega), if_neg (by omega)]
  have e2 : getC (startL d) (d.node 1 2) = ⟨0, ⟨#[]⟩, 1⟩ := by rw [p3 _ (by omega), if_pos rfl]
  refine ⟨⟨by rw [z 1 (by omega) (by omega) (by omega)]; rfl, by rw [z 1 (by omega) (by omega) (by omega)]; show wrap64 0 = 0; unfold wrap64; omega, by rw [e2], by rw [e2]; rfl, by rw [z 3 (by omega) (by omega) (by omega)]; rfl, by simp; omega, fun i s hs => by simp at hs⟩, z 0 (by omega) (by omega) (by omega), fun k => ?_, by rw [p1]; have := hd.A_bd; have h5 := hd.B_bd; have h6 := hd.C_bd; omega⟩
  by_cases hk : 0 ≤ k
  · rw [p3 k hk]
    split
    · exact ⟨by decide, by decide⟩
    · split
      · exact ⟨by decide, by decide⟩
      · split <;> exact ⟨by decide, by decide⟩
  · rw [getC_neg (by omega)]; exact ⟨by decide, by decide⟩
/-- An empty page takes five steps. -/
theorem rd_empty (h : PageAt d id L pg) (hsl : pg.sl = []) (hc : ltChg (getC L (d.node id 0)).n = false) {s : RdS} (hs : s.pc = 0) :
    (it (rdStep d id L) 1 s).pc = 1 ∧ (it (rdStep d id L) 2 s).pc = 2 ∧ (it (rdStep d id L) 3 s).pc = 3 ∧ (it (rdStep d id L) 4 s).pc = 5 ∧ (it (rdStep d id L) 5 s).pc = 6 := by
  have h5 := (rd_final h hc hs (N := 5) (by rw [hsl]; simp)).1
  obtain ⟨pc, spg, left, word, t⟩ := s
  simp only at hs
  subst hs
  have hleft : leftOf d (getC L (d.node id 1)) = 0 := by
    have := h.le
    unfold leftOf
    rw [h.n, hsl, Int.min_eq_left (by rw [hsl] at this; exact this)]
    rfl
  have e0 : rdStep d id L ⟨0, spg, left, word, t⟩ = ⟨1, spg, left, (getC L (d.node id 0)).n, true⟩ := by simp only [rdStep, hc]; rfl
  refine ⟨?_, ?_, ?_, ?_, h5⟩
  · show (rdStep d id L ⟨0, spg, left, word, t⟩).pc = 1
    rw [e0]
  · show (rdStep d id L (rdStep d id L ⟨0, spg, left, word, t⟩)).pc = 2
    rw [e0]; rfl
  · show (rdStep d id L (rdStep d id L (rdStep d id L ⟨0, spg, left, word, t⟩))).pc = 3
    rw [e0]; rfl
  · show (rdStep d id L (rdStep d id L (rdStep d id L (rdStep d id L ⟨0, spg, left, word, t⟩)))).pc = 5
    rw [e0]
    simp only [rdStep, hleft]
    rfl
end
end Go.Proofs.Ytfgjanponijkhaa
