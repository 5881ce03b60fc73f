/- What Put makes of the cells (pure). -/
import Derived.Test.YtfgjanponijkhaaNodeLaw
import Derived.Test.YtfgjanponijkhaaNodePut
namespace Go.Proofs.Ytfgjanponijkhaa
open Go.RowKit

section
variable {d : Cfg} (hd : d.Ok) {id : Int} (h1 : 1 ≤ id) (h2 : id ≤ d.no)
include hd h1 h2
theorem node_in {k : Int} (hk : 0 ≤ k) (hk2 : k < d.fa + 4) : d.node id k = d.A + (id - 1) * (d.fa + 4) + k ∧ 0 ≤ d.node id k ∧ d.node id k < d.cells := by
  have e : d.node id k = d.A + (id - 1) * (d.fa + 4) + k := by unfold Cfg.node; rw [if_pos ⟨h1, h2⟩]
  have hA := hd.A_bd; have hB := hd.B_bd; have hC := hd.C_bd; have hcl := hd.cells_bd
  have f1 := hd.fa1
  have m1 : (id - 1) * (d.fa + 4) + (d.fa + 4) = id * (d.fa + 4) := by rw [Int.sub_mul]; omega
  have m2 : id * (d.fa + 4) ≤ d.no * (d.fa + 4) := Int.mul_le_mul_of_nonneg_right h2 (by omega)
  have m3 : 0 ≤ (id - 1) * (d.fa + 4) := Int.mul_nonneg (by omega) (by omega)
  have eB : d.B = d.A + d.no * (d.fa + 4) := rfl
  refine ⟨e, by omega, ?_⟩
  have : d.B ≤ d.cells := by unfold Cfg.cells Cfg.C; have := hd.ch1; have := hd.re1; omega
  omega
theorem node_ne {k k' : Int} (hk : 0 ≤ k) (hk2 : k < d.fa + 4) (hk' : 0 ≤ k') (hk2' : k' < d.fa + 4) (h : k ≠ k') : d.node id k ≠ d.node id k' := by
  have a := node_in hd h1 h2 hk hk2
  have b := node_in hd h1 h2 hk' hk2'
  omega
omit hd h1 h2 in
theorem putSl_length : ∀ (sl : List Sl) (i : Nat) (L : List Cel), (putSl d id i sl L).length = L.length := by
  intro sl
  induction sl with
  | nil => intro i L; rfl
  | cons s sl ih => intro i L; show (putSl d id (i + 1) sl _).length = _; rw [ih, putC_length]
omit hd h1 h2 in
/-- Other cells stay. -/
theorem putSl_other : ∀ (sl : List Sl) (i : Nat) (L : List Cel) (j : Int), (∀ k : Nat, i ≤ k → k < i + sl.length → j ≠ d.node id (4 + (k : Int))) → getC (putSl d id i sl L) j = getC L j := by
  intro sl
  induction sl with
  | nil => intro i L j _; rfl
  | cons s sl ih =>
    intro i L j h
    show getC (putSl d id (i + 1) sl _) j = _
    rw [ih (i + 1) _ j (fun k a b => h k (by omega) (by simp; omega))]
    exact getC_ne (h i (by omega) (by simp))
theorem putSl_at : ∀ (sl : List Sl) (i : Nat) (L : List Cel), (L.length : Int) = d.cells → (i + sl.length : Int) ≤ d.fa → ∀ (m : Nat) (s : Sl), sl[m]? = some s → getC (putSl d id i sl L) (d.node id (4 + ((i + m : Nat) : Int))) = ⟨s.r, s.k, 0⟩ := by
  intro sl
  induction sl with
  | nil => intro i L _ _ m s h; simp at h
  | cons x sl ih =>
    intro i L hlen hle m s h
    simp only [List.length_cons] at hle
    show getC (putSl d id (i + 1) sl (putC L (d.node id (4 + (i : Int))) ⟨x.r, x.k, 0⟩)) _ = _
    cases m with
    | zero =>
      simp only [List.getElem?_cons_zero, Option.some.injEq] at h
      subst h
      have hi := node_in hd h1 h2 (k := 4 + (i : Int)) (by omega) (by omega)
      rw [putSl_other _ _ _ _ (fun k a b => by
        simp only [Nat.add_zero]
        exact node_ne hd h1 h2 (by omega) (by omega) (by omega) (by omega) (by omega))]
      rw [Nat.add_zero]
      exact getC_eq hi.2.1 (by omega)
    | succ m =>
      rw [show i + (m + 1) = (i + 1) + m by omega]
      exact ih (i + 1) _ (by rw [putC_length]; exact hlen) (by omega) m s (by simpa using h)

/-- Put lays the page down. -/
theorem putPg_at {L : List Cel} {pg : Pg} (hlen : (L.length : Int) = d.cells) (hlev : 0 ≤ pg.lev ∧ pg.lev < 1000000) (hle : (pg.sl.length : Int) ≤ d.fa) : PageAt d id (putPg d id pg L) pg := by
  have f1 := hd.fa1
  have n1 := node_in hd h1 h2 (k := 1) (by omega) (by omega)
  have n2 := node_in hd h1 h2 (k := 2) (by omega) (by omega)
  have n3 := node_in hd h1 h2 (k := 3) (by omega) (by omega)
  have ne : ∀ (k : Int) (m : Nat), 0 ≤ k → k ≤ 3 → 0 ≤ m → m < 0 + pg.sl.length → d.node id k ≠ d.node id (4 + (m : Int)) := fun k m a b _ c => node_ne hd h1 h2 a (by omega) (by omega) (by omega) (by omega)
  have e1 : getC (putPg d id pg L) (d.node id 1) = ⟨pg.sl.length, ⟨#[]⟩, pg.lev⟩ := by
    unfold putPg
    rw [putSl_other _ _ _ _ (fun k a b => ne 1 k (by omega) (by omega) a b)]
    unfold put3
    rw [getC_ne (node_ne hd h1 h2 (by omega) (by omega) (by omega) (by omega) (by omega)), getC_ne (node_ne hd h1 h2 (by omega) (by omega) (by omega) (by omega) (by omega)), getC_eq n1.2.1 (by omega)]
  have e2 : getC (putPg d id pg L) (d.node id 2) = ⟨0, pg.hi, b01 pg.la⟩ := by
    unfold putPg
    rw [putSl_other _ _ _ _ (fun k a b => ne 2 k (by omega) (by omega) a b)]
    unfold put3
    rw [getC_ne (node_ne hd h1 h2 (by omega) (by omega) (by omega) (by omega) (by omega)), getC_eq n2.2.1 (by rw [putC_length]; omega)]
  have e3 : getC (putPg d id pg L) (d.node id 3) = ⟨pg.ri, ⟨#[]⟩, 0⟩ := by
    unfold putPg
    rw [putSl_other _ _ _ _ (fun k a b => ne 3 k (by omega) (by omega) a b)]
    unfold put3
    rw [getC_eq n3.2.1 (by rw [putC_length, putC_length]; omega)]
  refine ⟨by rw [e1], ?_, by rw [e2], ?_, by rw [e3], hle, fun i s hs => ?_⟩
  · rw [e1]; show wrap64 pg.lev = pg.lev
    unfold wrap64; omega
  · rw [e2]; cases pg.la <;> rfl
  · have hi : i < pg.sl.length := (List.getElem?_eq_some_iff.1 hs).1
    have es : d.slot id i = d.node id (4 + ((0 + i : Nat) : Int)) := by
      unfold Cfg.slot
      rw [if_pos ⟨by omega, by omega⟩, Nat.zero_add]
    rw [es]
    unfold putPg
    have hl3 : ((put3 d id pg L).length : Int) = d.cells := by unfold put3; rw [putC_length, putC_length, putC_length]; exact hlen
    rw [putSl_at hd h1 h2 pg.sl 0 _ hl3 (by omega) i s hs]
    exact ⟨rfl, rfl⟩
/-- .. and leaves the latch. -/
theorem putPg_latch {L : List Cel} {pg : Pg} (hle : (pg.sl.length : Int) ≤ d.fa) : getC (putPg d id pg L) (d.node id 0) = getC L (d.node id 0) := by
  have f1 := hd.fa1
  unfold putPg
  rw [putSl_other _ _ _ _ (fun k a b => node_ne hd h1 h2 (by omega) (by omega) (by omega) (by omega) (by omega))]
  unfold put3
  rw [getC_ne (node_ne hd h1 h2 (by omega) (by omega) (by omega) (by omega) (by omega)), getC_ne (node_ne hd h1 h2 (by omega) (by omega) (by omega) (by omega) (by omega)), getC_ne (node_ne hd h1 h2 (by omega) (by omega) (by omega) (by omega) (by omega))]
end
end Go.Proofs.Ytfgjanponijkhaa
