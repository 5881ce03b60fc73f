
/- The reader of a locked node (package node: Own). -/
import Derived.Test.YtlpdhhhgckpcfaaGreatFindA
import Derived.Test.YtlpdhhhgckpcfaaGreatNodeLawB
import Derived.Test.YtlpdhhhgckpcfaaGreatPageA
namespace Go.Proofs.YtlpdhhhgckpcfaaGreat
open Go.RowKit
set_option maxRecDepth 100000

/-- Own: 1 head, 2 high, 3 right, 4 slot, 6 done. -/
def ownStep (d : Cfg) (id : Int) (L : List Cel) (s : RdS) : RdS :=
  match s.pc with
  | 1 => ⟨2, ⟨wrap64 (getC L (d.node id 1)).m, [], ⟨#[]⟩, false, 0⟩, leftOf d (getC L (d.node id 1)), s.word, false⟩
  | 2 => ⟨3, s.pg.high (getC L (d.node id 2)), s.left, s.word, false⟩
  | 3 => ⟨if s.left = 0 then 6 else 4, s.pg.right (getC L (d.node id 3)), s.left, s.word, false⟩
  | 4 => ⟨if s.left - 1 = 0 then 6 else 4, s.pg.push (getC L (d.slot id s.pg.sl.length)), s.left - 1, s.word, false⟩
  | _ => s
def own0 (word : Int) : RdS := ⟨1, pg0, 0, word, false⟩
structure RdS.OkO (d : Cfg) (s : RdS) : Prop where
  pc : s.pc = 1 ∨ s.pc = 2 ∨ s.pc = 3 ∨ s.pc = 4 ∨ s.pc = 6
  len : s.pc = 1 ∨ (s.pg.sl.length + s.left : Int) ≤ d.fa
  left : s.pc = 4 → 0 < s.left
theorem own0_ok (d : Cfg) (word : Int) : (own0 word).OkO d := ⟨.inl rfl, .inl rfl, by intro h; cases h⟩
theorem ownStep_ok {d : Cfg} (hd : d.Ok) {id : Int} {L : List Cel} (hL : CelsOk L) {s : RdS} (h : s.OkO d) : (ownStep d id L s).OkO d := by
  obtain ⟨pc, pg, left, word, t⟩ := s
  have h1 := h.pc; have h2 := h.len; have h3 := h.left
  simp only at h1 h2 h3
  rcases h1 with rfl | rfl | rfl | rfl | rfl
  · exact ⟨.inr (.inl rfl), .inr (by simpa [ownStep] using leftOf_le hd (hL _)), by intro h; cases h⟩
  · exact ⟨.inr (.inr (.inl rfl)), .inr (by simpa [ownStep, Pg.high] using h2), by intro h; cases h⟩
  · have h2' : (pg.sl.length : Int) + left ≤ d.fa := by simpa using h2
    simp only [ownStep]
    refine ⟨?_, .inr (by simpa [Pg.right] using h2'), ?_⟩
    · simp only; split <;> simp
    · simp only; split <;> omega
  · have h2' : (pg.sl.length : Int) + left ≤ d.fa := by simpa using h2
    have hl : 0 < left := h3 rfl
    simp only [ownStep]
    refine ⟨?_, .inr ?_, ?_⟩
    · simp only; split <;> simp
    · simp only [Pg.push, List.length_append, List.length_singleton]; omega
    · simp only; split <;> omega
  · exact h
theorem own_fix {d : Cfg} {id : Int} {L : List Cel} {s : RdS} (h : s.pc = 6) : ownStep d id L s = s := by
  obtain ⟨pc, pg, left, word, t⟩ := s
  simp only at h; subst h; rfl

section
variable {d : Cfg} {id : Int} {L : List Cel} {pg : Pg}
theorem own_slots (h : PageAt d id L pg) : ∀ (m : Nat) (sl : List Sl) (s : RdS), sl ++ pg.sl.drop sl.length = pg.sl → m = (pg.sl.drop sl.length).length → 0 < m → s.pc = 4 → s.left = m → s.pg = ⟨pg.lev, sl, pg.hi, pg.la, pg.ri⟩ →
    it (ownStep d id L) m s = ⟨6, pg, 0, s.word, false⟩ := by
  intro m
  induction m with
  | zero => intro sl s _ _ h0; omega
  | succ m ih =>
    intro sl s happ hm _ hpc hleft hpg
    obtain ⟨pc, spg, left, word, t⟩ := s
    simp only at hpc hleft hpg
    subst hpc hleft hpg
    have hlt : sl.length < pg.sl.length := by simp at hm; omega
    obtain ⟨x, hx⟩ : ∃ x, pg.sl[sl.length]? = some x := ⟨_, List.getElem?_eq_getElem hlt⟩
    obtain ⟨hk, hr⟩ := h.sl _ _ hx
    have hd : pg.sl.drop sl.length = x :: pg.sl.drop (sl.length + 1) := by
      rw [List.drop_eq_getElem_cons hlt]
      congr 1
      rw [List.getElem?_eq_getElem hlt] at hx
      exact Option.some.inj hx
    have e : ownStep d id L ⟨4, ⟨pg.lev, sl, pg.hi, pg.la, pg.ri⟩, m + 1, word, t⟩ = ⟨if m = 0 then 6 else 4, ⟨pg.lev, sl ++ [x], pg.hi, pg.la, pg.ri⟩, m, word, false⟩ := by
      simp only [ownStep, Pg.push, hk, hr]
      rw [show m + 1 - 1 = m by omega]
    show it (ownStep d id L) m (ownStep d id L _) = _
    rw [e]
    have happ2 : (sl ++ [x]) ++ pg.sl.drop (sl ++ [x]).length = pg.sl := by
      rw [List.length_append, List.length_singleton, List.append_assoc, List.singleton_append, ← hd]
      exact happ
    by_cases hm0 : m = 0
    · subst hm0
      have hnil : pg.sl.drop (sl.length + 1) = [] := by
        rw [hd] at hm
        simp only [List.length_cons] at hm
        exact List.eq_nil_of_length_eq_zero (by omega)
      have : sl ++ [x] = pg.sl := by
        rw [hd, hnil] at happ
        exact happ
      rw [if_pos rfl, this]
      rfl
    · rw [if_neg hm0]
      exact ih (sl ++ [x]) _ happ2 (by rw [hd] at hm; simp only [List.length_cons] at hm; rw [List.length_append, List.length_singleton]; omega) (by omega) rfl rfl rfl
/-- The page is read. -/
theorem own_final (h : PageAt d id L pg) {word : Int} : it (ownStep d id L) (pg.sl.length + 3) (own0 word) = ⟨6, pg, 0, word, false⟩ := by
  have hleft : leftOf d (getC L (d.node id 1)) = pg.sl.length := by
    have := h.le
    unfold leftOf
    rw [h.n, Int.min_eq_left this]
    omega
  have e3 : it (ownStep d id L) 3 (own0 word) = ⟨if pg.sl.length = 0 then 6 else 4, ⟨pg.lev, [], pg.hi, pg.la, pg.ri⟩, pg.sl.length, word, false⟩ := by
    show ownStep d id L (ownStep d id L (ownStep d id L (own0 word))) = _
    simp only [own0, ownStep, Pg.high, Pg.right, hleft, h.lev, h.hi, h.la, h.ri]
  rw [Nat.add_comm, it_add, e3]
  by_cases h0 : pg.sl.length = 0
  · have hnil : pg.sl = [] := List.eq_nil_of_length_eq_zero h0
    rw [if_pos h0, h0]
    show (⟨6, ⟨pg.lev, [], pg.hi, pg.la, pg.ri⟩, 0, word, false⟩ : RdS) = _
    obtain ⟨lev, sl, hi, la, ri⟩ := pg
    simp only at hnil
    subst hnil
    rfl
  · rw [if_neg h0]
    exact own_slots h _ [] _ (by simp) (by simp) (by omega) rfl rfl rfl
end

section
variable {K : Know} {w : World} {F : List Comp} {b bm bc : Nat} {L : List Cel} {acc : Nat} {va : Value} {d : Cfg} {id : Int} {s : RdS}

end
end Go.Proofs.YtlpdhhhgckpcfaaGreat
