/- The reader of a node with nobody else running. A reader that goes on has not made all its steps. -/
import Derived.Test.YtfgjanponijkhaaNode6
namespace Go.Proofs.Ytfgjanponijkhaa
open Go.RowKit

/-- What the cells of a node say of its page. -/
structure PageAt (d : Cfg) (id : Int) (L : List Cel) (pg : Pg) : Prop where
  n : (getC L (d.node id 1)).n = pg.sl.length
  lev : wrap64 (getC L (d.node id 1)).m = pg.lev
  hi : (getC L (d.node id 2)).k = pg.hi
  la : decide ((getC L (d.node id 2)).m = 1) = pg.la
  ri : (getC L (d.node id 3)).n = pg.ri
  le : (pg.sl.length : Int) ≤ d.fa
  sl : ∀ (i : Nat) (s : Sl), pg.sl[i]? = some s → (getC L (d.slot id i)).k = s.k ∧ (getC L (d.slot id i)).n = s.r

section
variable {d : Cfg} {id : Int} {L : List Cel} {pg : Pg}

/-- The slots, one after the other. -/
theorem rd_slots (h : PageAt d id L pg) : ∀ (m : Nat) (sl : List Sl) (s : RdS), sl ++ pg.sl.drop sl.length = pg.sl → m = (pg.sl.drop sl.length).length → 0 < m → s.pc = 4 → s.left = m → s.pg = ⟨pg.lev, sl, pg.hi, pg.la, pg.ri⟩ →
    it (rdStep d id L) m s = ⟨5, pg, 0, s.word, s.t⟩ := by
  intro m
  induction m with
  | zero => intro sl s _ _ h0; omega
  | succ m ih =>
    intro sl s happ hm _ hpc hleft hpg
    obtain ⟨pc, spg, left, word, t⟩ := s
    simp only at hpc hleft hpg
    subst hpc hleft hpg
    have hlt : sl.length < pg.sl.length := by simp at hm; omega
    obtain ⟨x, hx⟩ : ∃ x, pg.sl[sl.length]? = some x := ⟨_, List.getElem?_eq_getElem hlt⟩
    obtain ⟨hk, hr⟩ := h.sl _ _ hx
    have hd : pg.sl.drop sl.length = x :: pg.sl.drop (sl.length + 1) := by
      rw [List.drop_eq_getElem_cons hlt]
      congr 1
      rw [List.getElem?_eq_getElem hlt] at hx
      exact Option.some.inj hx
    have e : rdStep d id L ⟨4, ⟨pg.lev, sl, pg.hi, pg.la, pg.ri⟩, m + 1, word, t⟩ = ⟨if m = 0 then 5 else 4, ⟨pg.lev, sl ++ [x], pg.hi, pg.la, pg.ri⟩, m, word, t⟩ := by
      simp only [rdStep, Pg.push, hk, hr]
      rw [show m + 1 - 1 = m by omega]
    show it (rdStep d id L) m (rdStep d id L _) = _
    rw [e]
    have happ2 : (sl ++ [x]) ++ pg.sl.drop (sl ++ [x]).length = pg.sl := by
      rw [List.length_append, List.length_singleton, List.append_assoc, List.singleton_append, ← hd]
      exact happ
    by_cases hm0 : m = 0
    · subst hm0
      have hnil : pg.sl.drop (sl.length + 1) = [] := by
        rw [hd] at hm
        simp only [List.length_cons] at hm
        exact List.eq_nil_of_length_eq_zero (by omega)
      have : sl ++ [x] = pg.sl := by
        rw [hd, hnil] at happ
        exact happ
      rw [if_pos rfl, this]
      rfl
    · rw [if_neg hm0]
      exact ih (sl ++ [x]) _ happ2 (by rw [hd] at hm; simp only [List.length_cons] at hm; rw [List.length_append, List.length_singleton]; omega) (by omega) rfl rfl rfl

theorem rd_fix {s : RdS} (h : s.pc = 6) : rdStep d id L s = s := by
  obtain ⟨pc, pg, left, word, t⟩ := s
  simp only at h; subst h; rfl

/-- Nobody writes: the page is read and found unchanged. -/
theorem rd_final (h : PageAt d id L pg) (hc : ltChg (getC L (d.node id 0)).n = false) {s : RdS} (hs : s.pc = 0) {N : Nat} (hN : pg.sl.length + 5 ≤ N) :
    (it (rdStep d id L) N s).pc = 6 ∧ (it (rdStep d id L) N s).pg = pg := by
  obtain ⟨pc, spg, left, word, t⟩ := s
  simp only at hs
  subst hs
  have hleft : leftOf d (getC L (d.node id 1)) = pg.sl.length := by
    have := h.le
    unfold leftOf
    rw [h.n, Int.min_eq_left this]
    omega
  have e4 : it (rdStep d id L) 4 ⟨0, spg, left, word, t⟩ = ⟨if pg.sl.length = 0 then 5 else 4, ⟨pg.lev, [], pg.hi, pg.la, pg.ri⟩, pg.sl.length, (getC L (d.node id 0)).n, true⟩ := by
    show rdStep d id L (rdStep d id L (rdStep d id L (rdStep d id L ⟨0, spg, left, word, t⟩))) = _
    have e0 : rdStep d id L ⟨0, spg, left, word, t⟩ = ⟨1, spg, left, (getC L (d.node id 0)).n, true⟩ := by simp only [rdStep, hc]; rfl
    rw [e0]
    simp only [rdStep, Pg.high, Pg.right, hleft, h.lev, h.hi, h.la, h.ri]
  have e5 : it (rdStep d id L) (4 + pg.sl.length) ⟨0, spg, left, word, t⟩ = ⟨5, pg, 0, (getC L (d.node id 0)).n, true⟩ := by
    rw [it_add, e4]
    by_cases h0 : pg.sl.length = 0
    · have hnil : pg.sl = [] := List.eq_nil_of_length_eq_zero h0
      rw [if_pos h0, h0]
      show (⟨5, ⟨pg.lev, [], pg.hi, pg.la, pg.ri⟩, 0, _, true⟩ : RdS) = _
      obtain ⟨lev, sl, hi, la, ri⟩ := pg
      simp only at hnil
      subst hnil
      rfl
    · rw [if_neg h0]
      exact rd_slots h _ [] _ (by simp) (by simp) (by omega) rfl rfl rfl
  have e6 : it (rdStep d id L) (4 + pg.sl.length + 1) ⟨0, spg, left, word, t⟩ = ⟨6, pg, 0, (getC L (d.node id 0)).n, true⟩ := by
    rw [it_succ, e5]
    simp only [rdStep]
    rw [if_pos (by simp)]
  have := it_rest e6 (rd_fix rfl) (show 4 + pg.sl.length + 1 ≤ N by omega)
  rw [this]
  exact ⟨rfl, rfl⟩
/-- While the latch is changing a reader stays where it began. -/
theorem rd_wait (hc : ltChg (getC L (d.node id 0)).n = true) (n : Nat) {s : RdS} (hs : s.pc = 0) : (it (rdStep d id L) n s).pc = 0 := by
  induction n with
  | zero => exact hs
  | succ n ih =>
    rw [it_succ]
    generalize it (rdStep d id L) n s = r at ih ⊢
    obtain ⟨pc, pg, left, word, t⟩ := r
    simp only at ih
    subst ih
    simp only [rdStep, hc]
    rfl
end
end Go.Proofs.Ytfgjanponijkhaa

namespace Go.Proofs.Ytfgjanponijkhaa
open Go.RowKit
section
variable {d : Cfg} {id : Int} {L : List Cel} {pg : Pg}
theorem rd_more (h : PageAt d id L pg) (hc : ltChg (getC L (d.node id 0)).n = false) {s : RdS} (hs : s.pc = 0) {n : Nat} (h6 : (it (rdStep d id L) n s).pc < 6) : n < pg.sl.length + 5 := by
  rcases Nat.lt_or_ge n (pg.sl.length + 5) with h1 | h1
  · exact h1
  · have := (rd_final h hc hs h1).1
    omega
end
end Go.Proofs.Ytfgjanponijkhaa
