/- Raisers of one counter: plain. -/
import Derived.Test.YtfoojallpmibfaaTakeLaw
import Derived.Test.YtfoojallpmibfaaRaise
namespace Go.Proofs.Ytfoojallpmibfaa

/-- The five things that a step may do. -/
inductive RStep (to x : Int) (s : RaiseS) : RaiseS → Int → Prop
  | rest (h : 2 ≤ s.pc) : RStep to x s s x
  | full (h : s.pc = 0) (hx : to ≤ x) : RStep to x s ⟨2, x, s.ok⟩ x
  | look (h : s.pc = 0) (hx : x < to) : RStep to x s ⟨1, x, s.ok⟩ x
  | took (h : s.pc = 1) (hx : x = s.seen) : RStep to x s ⟨2, s.seen, true⟩ to
  | lost (h : s.pc = 1) (hx : x ≠ s.seen) : RStep to x s ⟨0, s.seen, s.ok⟩ x

theorem raiseStep_CL (to x : Int) (s : RaiseS) : ∃ s' x', raiseStep 0 to (CL x) s = (s', CL x') ∧ RStep to x s s' x' := by
  obtain ⟨pc, seen, ok⟩ := s
  match pc with
  | 0 =>
    by_cases h : to ≤ x
    · exact ⟨_, _, by simp [raiseStep, getC_CL, h], .full rfl h⟩
    · exact ⟨_, _, by simp [raiseStep, getC_CL, h], .look rfl (by omega)⟩
  | 1 =>
    by_cases h : x = seen
    · exact ⟨_, _, by simp [raiseStep, swapOk_CL, h, putC_CL], .took rfl h⟩
    · exact ⟨_, _, by simp [raiseStep, swapOk_CL, h], .lost rfl h⟩
  | n + 2 => exact ⟨_, _, rfl, .rest (by simp)⟩

structure GoodR (to x : Int) (s : RaiseS) : Prop where
  pc : s.pc ≤ 2
  ok : s.ok = true → s.pc = 2
  one : s.pc = 1 → s.seen < to
  two : s.pc = 2 → to ≤ x

def rbusy (S : List RaiseS) : Nat := S.countP (fun s => decide (s.pc < 2))

/-- 'tos': what each raises to; 'want': the greatest of all. -/
structure RInv (first want x : Int) (tos : List Int) (S : List RaiseS) : Prop where
  lo : first ≤ x
  hi : x ≤ want
  each : ∀ (j : Nat) (s : RaiseS) (to : Int), S[j]? = some s → tos[j]? = some to → GoodR to x s
  tos : ∀ to, to ∈ tos → to ≤ want

theorem RStep.mono {to x x' : Int} {s s' : RaiseS} (g : GoodR to x s) (h : RStep to x s s' x') : x ≤ x' := by
  cases h with
  | took h1 h2 => have := g.one h1; omega
  | rest => exact Int.le_refl _
  | full => exact Int.le_refl _
  | look => exact Int.le_refl _
  | lost => exact Int.le_refl _

theorem GoodR.up {to x x' : Int} {s : RaiseS} (g : GoodR to x s) (h : x ≤ x') : GoodR to x' s := ⟨g.pc, g.ok, g.one, fun h2 => Int.le_trans (g.two h2) h⟩

theorem GoodR.step {to x x' : Int} {s s' : RaiseS} (g : GoodR to x s) (h : RStep to x s s' x') : GoodR to x' s' := by
  have hok : s.pc ≠ 2 → s.ok = false := fun hne => by
    cases ho : s.ok with
    | false => rfl
    | true => exact absurd (g.ok ho) hne
  cases h with
  | rest => exact g
  | full h0 hx => exact ⟨by simp, fun _ => rfl, fun h1 => (by simp at h1), fun _ => hx⟩
  | look h0 hx => exact ⟨by simp, fun h1 => (by have := hok (by omega); simp [this] at h1), fun _ => hx, fun h1 => (by simp at h1)⟩
  | took h0 hx => exact ⟨by simp, fun _ => rfl, fun h1 => (by simp at h1), fun _ => Int.le_refl _⟩
  | lost h0 hx => exact ⟨by simp, fun h1 => (by have := hok (by omega); simp [this] at h1), fun h1 => (by simp at h1), fun h1 => (by simp at h1)⟩

theorem RInv.step {first want x x' to : Int} {tos : List Int} {S : List RaiseS} {j : Nat} {s s' : RaiseS} (h : RInv first want x tos S) (hj : S[j]? = some s) (hto : tos[j]? = some to) (hs : RStep to x s s' x') : RInv first want x' tos (S.set j s') := by
  have g := h.each j s to hj hto
  have hm := hs.mono g
  have ht := h.tos to (List.mem_of_getElem? hto)
  have h1 := h.lo
  have h2 := h.hi
  refine ⟨by omega, ?_, fun l t tl hl htl => ?_, h.tos⟩
  · cases hs with
    | took => exact ht
    | rest => exact h2
    | full => exact h2
    | look => exact h2
    | lost => exact h2
  · rw [List.getElem?_set] at hl
    by_cases hjl : j = l
    · subst hjl
      rw [if_pos rfl] at hl
      split at hl
      · simp only [Option.some.injEq] at hl
        subst hl
        rw [hto] at htl
        simp only [Option.some.injEq] at htl
        subst htl
        exact g.step hs
      · cases hl
    · rw [if_neg hjl] at hl
      exact (h.each l t tl hl htl).up hm

/-- How many steps of its own a taker may still need. -/
def rpot (x : Int) (S : List RaiseS) (s : RaiseS) : Nat := 2 * rbusy S + (if s.pc = 0 then 1 else if s.seen = x then 0 else 2)

/-- After the picks below k (those from p on in turn), each taker has finished or has few steps to go. -/
def RLive (p k : Nat) (x : Int) (S : List RaiseS) : Prop :=
  ∀ (j : Nat) (s : RaiseS), S[j]? = some s → 2 ≤ s.pc ∨ rpot x S s + (turns S.length j k - turns S.length j p) ≤ 14

theorem rbusy_le (S : List RaiseS) : rbusy S ≤ S.length := List.countP_le_length

theorem rpot_le {x : Int} {S : List RaiseS} (h6 : S.length ≤ 6) (s : RaiseS) : rpot x S s ≤ 14 := by
  have := rbusy_le S
  unfold rpot
  split
  · omega
  · split <;> omega

theorem RLive.start {p : Nat} {x : Int} {S : List RaiseS} (h6 : S.length ≤ 6) : RLive p 0 x S := by
  intro j s _
  right
  have h1 := turns_mono S.length j (Nat.zero_le p)
  have := rpot_le (x := x) h6 s
  omega

theorem RLive.step {p k : Nat} {to x x' : Int} {S : List RaiseS} {j : Nat} {s s' : RaiseS} (h6 : S.length ≤ 6) (h : RLive p k x S) (hj : S[j]? = some s) (hs : RStep to x s s' x')
    (hturn : p ≤ k → k % S.length = j) : RLive p (k + 1) x' (S.set j s') := by
  intro l t ht
  have hjl : j < S.length := (List.getElem?_eq_some_iff.1 hj).1
  have hll : l < S.length := by have := (List.getElem?_eq_some_iff.1 ht).1; simpa using this
  rw [List.length_set]
  by_cases hk : p ≤ k
  · have hm := hturn hk
    have h1 := turns_next S.length l k hll
    have h2 := turns_mono S.length l hk
    have cb := countP_one (fun s => decide (s.pc < 2)) S j s s' hj
    by_cases hjl' : l = j
    · subst hjl'
      rw [List.getElem?_set, if_pos rfl, if_pos hjl] at ht
      have ht' : s' = t := by simpa using ht
      subst ht'
      rw [if_pos hm] at h1
      have hl := h l s hj
      cases hs with
      | rest h2' => exact .inl h2'
      | full => exact .inl (by simp)
      | took => exact .inl (by simp)
      | look h0 hx =>
        right
        simp only [rpot, rbusy] at hl ⊢
        simp [h0] at hl cb ⊢
        omega
      | lost h0 hx =>
        right
        simp only [rpot, rbusy] at hl ⊢
        have hx' : ¬ s.seen = x := fun e => hx e.symm
        simp [h0, hx'] at hl cb ⊢
        omega
    · rw [List.getElem?_set, if_neg (by omega)] at ht
      rw [if_neg (by omega)] at h1
      rcases h l t ht with hd | hl
      · exact .inl hd
      · right
        have hrbusy : rbusy (S.set j s') ≤ rbusy S ∧ (x' ≠ x → rbusy (S.set j s') + 1 ≤ rbusy S) := by
          unfold rbusy
          cases hs with
          | rest h2' => rw [set_self hj]; exact ⟨Nat.le_refl _, fun hne => absurd rfl hne⟩
          | full h0 => simp [h0] at cb ⊢; omega
          | took h0 => simp [h0] at cb ⊢; omega
          | look h0 => simp [h0] at cb ⊢; omega
          | lost h0 => simp [h0] at cb ⊢; omega
        have : rpot x' (S.set j s') t ≤ rpot x S t := by
          unfold rpot
          by_cases hxx : x' = x
          · subst hxx; omega
          · have := hrbusy.2 hxx
            split
            · omega
            · split <;> split <;> omega
        omega
  · right
    have h1 : turns S.length l (k + 1) ≤ turns S.length l p := turns_mono S.length l (by omega)
    have := rpot_le (x := x') (S := S.set j s') (by simpa using h6) t
    omega

/-- After thirty rounds all have finished. -/
theorem RLive.done {p : Nat} {x : Int} {S : List RaiseS} (h : RLive p (p + 30 * S.length) x S) : ∀ s, s ∈ S → 2 ≤ s.pc := by
  intro s hs
  obtain ⟨j, hj⟩ := List.mem_iff_getElem?.1 hs
  have hjl : j < S.length := (List.getElem?_eq_some_iff.1 hj).1
  rcases h j s hj with h1 | h1
  · exact h1
  · rw [turns_rounds _ _ _ _ hjl] at h1
    omega
end Go.Proofs.Ytfoojallpmibfaa
