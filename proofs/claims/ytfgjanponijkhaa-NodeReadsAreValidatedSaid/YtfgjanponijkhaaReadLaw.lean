/- A reader beside a writer: what it can have collected between two equal words of the latch. -/
import Derived.Test.YtfgjanponijkhaaNodeLawA
import Derived.Test.YtfgjanponijkhaaNodeStage
namespace Go.Proofs.Ytfgjanponijkhaa
open Go.RowKit
set_option linter.unusedSectionVars false

/-- The latch's words: one for each page that the node had. -/
def wd : Nat → Int
  | 0 => ltLock 0
  | n + 1 => ltEnd (ltBegin (wd n))
theorem wd_facts : ∀ i, i < 9 → (0 ≤ wd i ∧ wd i < 18446744073709551616) ∧ ltChg (wd i) = false ∧ ltChg (ltBegin (wd i)) = true := by decide +kernel
theorem wd_inj : ∀ i, i < 9 → ∀ j, j < 9 → ltUnlock (wd i) = ltUnlock (wd j) → i = j := by decide +kernel
theorem wd_begin : ∀ i, i < 9 → ∀ j, j < 9 → ltUnlock (wd i) ≠ ltUnlock (ltBegin (wd j)) := by decide +kernel

/-- How far a reader of the page x has come. -/
def Part (x : Pg) (s : RdS) : Prop := match s.pc with
  | 2 => s.pg = ⟨x.lev, [], ⟨#[]⟩, false, 0⟩ ∧ s.left = x.sl.length
  | 3 => s.pg = ⟨x.lev, [], x.hi, x.la, 0⟩ ∧ s.left = x.sl.length
  | 4 => ∃ i, i < x.sl.length ∧ s.pg = ⟨x.lev, x.sl.take i, x.hi, x.la, x.ri⟩ ∧ s.left = x.sl.length - i
  | 5 => s.pg = x
  | _ => True
/-- A reader that began when the page was number `fr`; the last page that was written whole is number c, x; the latch's word is `now`. -/
def RdInv (x : Pg) (fr c : Nat) (now : Int) (s : RdS) : Prop :=
  s.pc = 0 ∨ (1 ≤ s.pc ∧ s.pc ≤ 5 ∧ ∃ j, fr ≤ j ∧ j ≤ c ∧ s.word = wd j ∧ (now = wd j → Part x s))

section
variable {d : Cfg} {L : List Cel} {x : Pg} {fr c : Nat} {s : RdS}
theorem part_step (h : PageAt d 1 L x) (hp : 1 ≤ s.pc ∧ s.pc ≤ 4) (hs : Part x s) : (1 ≤ (rdStep d 1 L s).pc ∧ (rdStep d 1 L s).pc ≤ 5 ∧ (rdStep d 1 L s).word = s.word) ∧ Part x (rdStep d 1 L s) := by
  obtain ⟨pc, pg, left, word, t⟩ := s
  have hleft : leftOf d (getC L (d.node 1 1)) = x.sl.length := by
    have := h.le
    unfold leftOf
    rw [h.n, Int.min_eq_left this]
    omega
  simp only at hp
  obtain rfl | rfl | rfl | rfl : pc = 1 ∨ pc = 2 ∨ pc = 3 ∨ pc = 4 := by omega
  · refine ⟨⟨by show 1 ≤ 2; omega, by show 2 ≤ 5; omega, rfl⟩, ?_⟩
    simp only [Part, rdStep, hleft, h.lev, and_self]
  · obtain ⟨rfl, rfl⟩ := hs
    refine ⟨⟨by show 1 ≤ 3; omega, by show 3 ≤ 5; omega, rfl⟩, ?_⟩
    simp only [Part, rdStep, Pg.high, h.hi, h.la, and_self]
  · obtain ⟨h1, h2⟩ := hs
    simp only at h1 h2
    subst h1 h2
    refine ⟨⟨by simp only [rdStep]; split <;> omega, by simp only [rdStep]; split <;> omega, rfl⟩, ?_⟩
    by_cases h0 : x.sl.length = 0
    · have hnil : x.sl = [] := List.eq_nil_of_length_eq_zero h0
      simp only [Part, rdStep, Pg.right, h0, if_true, h.ri]
      obtain ⟨lev, sl, hi, la, ri⟩ := x
      simp only at hnil
      rw [hnil]
    · simp only [Part, rdStep, Pg.right, h0, if_false, h.ri]
      exact ⟨0, by omega, by simp, rfl⟩
  · obtain ⟨i, hi, h1, h2⟩ := hs
    simp only at h1 h2
    subst h1 h2
    obtain ⟨q, hq⟩ : ∃ q, x.sl[i]? = some q := ⟨_, List.getElem?_eq_getElem hi⟩
    obtain ⟨hk, hr⟩ := h.sl i q hq
    have hlen : (x.sl.take i).length = i := by rw [List.length_take]; omega
    have htk : x.sl.take i ++ [q] = x.sl.take (i + 1) := by rw [List.take_add_one, hq]; rfl
    refine ⟨⟨by simp only [rdStep]; split <;> omega, by simp only [rdStep]; split <;> omega, rfl⟩, ?_⟩
    by_cases h0 : x.sl.length - i - 1 = 0
    · have e : x.sl.take (i + 1) = x.sl := List.take_of_length_le (by omega)
      simp only [Part, rdStep, Pg.push, h0, if_true, hlen, hk, hr]
      rw [show (⟨q.k, q.r⟩ : Sl) = q from rfl, htk, e]
    · simp only [Part, rdStep, Pg.push, h0, if_false, hlen, hk, hr]
      exact ⟨i + 1, by omega, by rw [show (⟨q.k, q.r⟩ : Sl) = q from rfl, htk], by omega⟩

/-- Between two pages. -/
theorem rd_stable (h : PageAt d 1 L x) (hc : c < 9) (hfr : fr ≤ c) (hw : (getC L (d.node 1 0)).n = wd c) (hs : RdInv x fr c (wd c) s) :
    RdInv x fr c (wd c) (rdStep d 1 L s) ∨ ((rdStep d 1 L s).pc = 6 ∧ (rdStep d 1 L s).pg = x) := by
  have hchg := (wd_facts c hc).2.1
  rcases hs with h0 | ⟨h1, h5, j, hj1, hj2, hjw, hjp⟩
  · left
    obtain ⟨pc, pg, left, word, t⟩ := s
    simp only at h0
    subst h0
    right
    simp only [rdStep, hw, hchg, Bool.false_eq_true, if_false]
    exact ⟨by omega, by omega, c, hfr, Nat.le_refl _, rfl, fun _ => trivial⟩
  · by_cases h4 : s.pc ≤ 4
    · left; right
      by_cases hjc : wd c = wd j
      · obtain ⟨⟨a, b, e⟩, p⟩ := part_step h ⟨h1, h4⟩ (hjp hjc)
        exact ⟨a, b, j, hj1, hj2, e.trans hjw, fun _ => p⟩
      · obtain ⟨pc, pg, left, word, t⟩ := s
        simp only at h1 h4 hjw
        subst hjw
        refine ⟨?_, ?_, j, hj1, hj2, ?_, fun e => absurd e hjc⟩ <;> obtain rfl | rfl | rfl | rfl : pc = 1 ∨ pc = 2 ∨ pc = 3 ∨ pc = 4 := (by omega) <;> simp only [rdStep] <;> (try split) <;> (try omega) <;> rfl
    · obtain ⟨pc, pg, left, word, t⟩ := s
      simp only at h1 h4 h5 hjw hjp
      obtain rfl : pc = 5 := by omega
      by_cases he : ltUnlock word = ltUnlock (wd c)
      · right
        subst hjw
        obtain rfl := wd_inj j (by omega) c hc he
        have hp : pg = x := hjp rfl
        subst hp
        simp only [rdStep, hw, beq_self_eq_true, if_true, and_self]
      · left; left
        simp only [rdStep, hw, beq_iff_eq, he, if_false]
/-- While a page is written. -/
theorem rd_changing (hc : c < 9) (hw : (getC L (d.node 1 0)).n = ltBegin (wd c)) (hs : RdInv x fr c (ltBegin (wd c)) s) :
    RdInv x fr c (ltBegin (wd c)) (rdStep d 1 L s) := by
  have hchg := (wd_facts c hc).2.2
  rcases hs with h0 | ⟨h1, h5, j, hj1, hj2, hjw, _⟩
  · left
    obtain ⟨pc, pg, left, word, t⟩ := s
    simp only at h0
    subst h0
    simp only [rdStep, hw, hchg, if_true]
  · have hne : ltBegin (wd c) ≠ wd j := fun e => by
      have := (wd_facts j (by omega)).2.1
      rw [← e, hchg] at this
      cases this
    obtain ⟨pc, pg, left, word, t⟩ := s
    simp only at h1 h5 hjw
    subst hjw
    by_cases h4 : pc ≤ 4
    · right
      refine ⟨?_, ?_, j, hj1, hj2, ?_, fun e => absurd e hne⟩ <;> obtain rfl | rfl | rfl | rfl : pc = 1 ∨ pc = 2 ∨ pc = 3 ∨ pc = 4 := (by omega) <;> simp only [rdStep] <;> (try split) <;> (try omega) <;> rfl
    · obtain rfl : pc = 5 := by omega
      left
      simp only [rdStep, hw, beq_iff_eq, wd_begin j (by omega) c hc, if_false]
/-- The writer begins. -/
theorem rd_begin (hc : c < 9) (hs : RdInv x fr c (wd c) s) : RdInv x fr c (ltBegin (wd c)) s := by
  rcases hs with h0 | ⟨h1, h5, j, hj1, hj2, hjw, _⟩
  · exact .inl h0
  · exact .inr ⟨h1, h5, j, hj1, hj2, hjw, fun e => by
      have := (wd_facts j (by omega)).2.1
      rw [← e, (wd_facts c hc).2.2] at this
      cases this⟩
/-- The writer ends. -/
theorem rd_end {y : Pg} (hc : c + 1 < 9) (hs : RdInv x fr c (ltBegin (wd c)) s) : RdInv y fr (c + 1) (wd (c + 1)) s := by
  rcases hs with h0 | ⟨h1, h5, j, hj1, hj2, hjw, _⟩
  · exact .inl h0
  · exact .inr ⟨h1, h5, j, hj1, by omega, hjw, fun e => by
      have := wd_inj (c + 1) hc j (by omega) (by rw [e])
      omega⟩
end
end Go.Proofs.Ytfgjanponijkhaa
