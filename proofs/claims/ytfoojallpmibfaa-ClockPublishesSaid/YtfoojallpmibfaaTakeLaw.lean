/- Takers of one counter: plain. -/
import Derived.Test.YtfoojallpmibfaaTake
import Derived.Test.YtfoojallpmibfaaTurns
namespace Go.Proofs.Ytfoojallpmibfaa

/-- One cell with a counter. -/
def CL (x : Int) : List Cel := [⟨x, ⟨#[]⟩, 0⟩]
theorem getC_CL (x : Int) : (getC (CL x) 0).n = x := rfl
theorem swapOk_CL (x s : Int) : swapOk (CL x) 0 s = decide (x = s) := by simp [swapOk, CL, getC]
theorem putC_CL (x y : Int) : putC (CL x) 0 ⟨y, ⟨#[]⟩, 0⟩ = CL y := rfl

/-- The five things that a step may do. -/
inductive TStep (lim x : Int) (s : TakeS) : TakeS → Int → Prop
  | rest (h : 2 ≤ s.pc) : TStep lim x s s x
  | full (h : s.pc = 0) (hx : lim ≤ x) : TStep lim x s ⟨2, x, s.ok⟩ x
  | look (h : s.pc = 0) (hx : x < lim) : TStep lim x s ⟨1, x, s.ok⟩ x
  | took (h : s.pc = 1) (hx : x = s.seen) : TStep lim x s ⟨2, s.seen, true⟩ (x + 1)
  | lost (h : s.pc = 1) (hx : x ≠ s.seen) : TStep lim x s ⟨0, s.seen, s.ok⟩ x

theorem takeStep_CL (lim x : Int) (s : TakeS) : ∃ s' x', takeStep 0 lim (CL x) s = (s', CL x') ∧ TStep lim x s s' x' := by
  obtain ⟨pc, seen, ok⟩ := s
  match pc with
  | 0 =>
    by_cases h : lim ≤ x
    · exact ⟨_, _, by simp [takeStep, getC_CL, h], .full rfl h⟩
    · exact ⟨_, _, by simp [takeStep, getC_CL, h], .look rfl (by omega)⟩
  | 1 =>
    by_cases h : x = seen
    · exact ⟨_, _, by simp [takeStep, swapOk_CL, h, putC_CL]; exact ⟨rfl, rfl⟩, by rw [h]; exact .took rfl rfl⟩
    · exact ⟨_, _, by simp [takeStep, swapOk_CL, h], .lost rfl h⟩
  | n + 2 => exact ⟨_, _, rfl, .rest (by simp)⟩

structure GoodT (lim x : Int) (s : TakeS) : Prop where
  pc : s.pc ≤ 2
  ok : s.ok = true → s.pc = 2 ∧ 0 ≤ s.seen ∧ s.seen < lim
  one : s.pc = 1 → 0 ≤ s.seen ∧ s.seen < lim
  two : s.pc = 2 → s.ok = false → lim ≤ x

def oks (S : List TakeS) : Nat := S.countP (·.ok)
def busy (S : List TakeS) : Nat := S.countP (fun s => decide (s.pc < 2))

structure TInv (first lim x : Int) (S : List TakeS) : Prop where
  val : x = first + oks S
  pos : 0 ≤ first
  each : ∀ s, s ∈ S → GoodT lim x s
  top : x ≤ lim ∨ oks S = 0

theorem countP_one {α : Type} (p : α → Bool) (S : List α) (j : Nat) (s s' : α) (h : S[j]? = some s) : (S.set j s').countP p + (if p s then 1 else 0) = S.countP p + (if p s' then 1 else 0) := by
  induction S generalizing j with
  | nil => simp at h
  | cons a S ih =>
    cases j with
    | zero =>
      simp at h
      subst h
      simp only [List.set_cons_zero, List.countP_cons]
      omega
    | succ j =>
      have := ih j (by simpa using h)
      simp only [List.set_cons_succ, List.countP_cons]
      omega

theorem countP_pos' {α : Type} (p : α → Bool) (S : List α) (j : Nat) (s : α) (h : S[j]? = some s) (hp : p s = true) : 1 ≤ S.countP p := by
  have := List.countP_pos_iff.2 ⟨s, List.mem_of_getElem? h, hp⟩
  omega

theorem mem_set_iff {α : Type} {S : List α} {j : Nat} {a b : α} (h : a ∈ S.set j b) : a ∈ S ∨ a = b := by
  rcases List.mem_or_eq_of_mem_set h with h | h
  · exact .inl h
  · exact .inr h

theorem set_self {α : Type} {S : List α} {j : Nat} {s : α} (h : S[j]? = some s) : S.set j s = S := by
  apply List.ext_getElem?
  intro k
  rw [List.getElem?_set]
  by_cases hk : j = k
  · subst hk; rw [if_pos rfl, if_pos (List.getElem?_eq_some_iff.1 h).1, h]
  · rw [if_neg hk]

theorem TInv.step {first lim x x' : Int} {S : List TakeS} {j : Nat} {s s' : TakeS} (h : TInv first lim x S) (hj : S[j]? = some s) (hs : TStep lim x s s' x') : TInv first lim x' (S.set j s') := by
  have g := h.each s (List.mem_of_getElem? hj)
  have c := countP_one (·.ok) S j s s' hj
  have hv := h.val
  have hp := h.pos
  have ht := h.top
  unfold oks at hv ht
  have hok : s.pc ≠ 2 → s.ok = false := fun hne => by
    cases ho : s.ok with
    | false => rfl
    | true => exact absurd (g.ok ho).1 hne
  cases hs with
  | rest hpc =>
    rw [set_self hj]
    exact h
  | full hpc hx =>
    have o := hok (by omega)
    simp only [o] at c
    refine ⟨by unfold oks; simp only [o] ; omega, hp, fun a ha => ?_, by unfold oks; simp only [o]; omega⟩
    rcases mem_set_iff ha with ha | rfl
    · exact h.each a ha
    · exact ⟨by simp, fun ho => (by rw [o] at ho; cases ho), fun h1 => (by simp at h1), fun _ _ => hx⟩
  | look hpc hx =>
    have o := hok (by omega)
    simp only [o] at c
    refine ⟨by unfold oks; simp only [o]; omega, hp, fun a ha => ?_, by unfold oks; simp only [o]; omega⟩
    rcases mem_set_iff ha with ha | rfl
    · exact h.each a ha
    · exact ⟨by simp, fun ho => (by rw [o] at ho; cases ho), fun _ => ⟨(by show 0 ≤ x; omega), hx⟩, fun h1 => (by simp at h1)⟩
  | took hpc hx =>
    have o := hok (by omega)
    simp only [o] at c
    obtain ⟨g1, g2⟩ := g.one hpc
    refine ⟨by unfold oks; simp at c; omega, hp, fun a ha => ?_, .inl (by omega)⟩
    rcases mem_set_iff ha with ha | rfl
    · have g' := h.each a ha
      exact ⟨g'.pc, g'.ok, g'.one, fun a1 a2 => (by have := g'.two a1 a2; omega)⟩
    · exact ⟨by simp, fun _ => ⟨rfl, g1, g2⟩, fun h1 => (by simp at h1), fun _ h2 => (by simp at h2)⟩
  | lost hpc hx =>
    have o := hok (by omega)
    simp only [o] at c
    refine ⟨by unfold oks; simp only [o]; omega, hp, fun a ha => ?_, by unfold oks; simp only [o]; omega⟩
    rcases mem_set_iff ha with ha | rfl
    · exact h.each a ha
    · exact ⟨by simp, fun ho => (by rw [o] at ho; cases ho), fun h1 => (by simp at h1), fun h1 => (by simp at h1)⟩

/-- How many steps of its own a taker may still need. -/
def tpot (x : Int) (S : List TakeS) (s : TakeS) : Nat := 2 * busy S + (if s.pc = 0 then 1 else if s.seen = x then 0 else 2)

/-- After the picks below k (those from p on in turn), each taker has finished or has few steps to go. -/
def TLive (p k : Nat) (x : Int) (S : List TakeS) : Prop :=
  ∀ (j : Nat) (s : TakeS), S[j]? = some s → 2 ≤ s.pc ∨ tpot x S s + (turns S.length j k - turns S.length j p) ≤ 14

theorem busy_le (S : List TakeS) : busy S ≤ S.length := List.countP_le_length

theorem tpot_le {x : Int} {S : List TakeS} (h6 : S.length ≤ 6) (s : TakeS) : tpot x S s ≤ 14 := by
  have := busy_le S
  unfold tpot
  split
  · omega
  · split <;> omega

theorem TLive.start {p : Nat} {x : Int} {S : List TakeS} (h6 : S.length ≤ 6) : TLive p 0 x S := by
  intro j s _
  right
  have h1 := turns_mono S.length j (Nat.zero_le p)
  have := tpot_le (x := x) h6 s
  omega

theorem TLive.step {p k : Nat} {lim x x' : Int} {S : List TakeS} {j : Nat} {s s' : TakeS} (h6 : S.length ≤ 6) (h : TLive p k x S) (hj : S[j]? = some s) (hs : TStep lim x s s' x')
    (hturn : p ≤ k → k % S.length = j) : TLive p (k + 1) x' (S.set j s') := by
  intro l t ht
  have hjl : j < S.length := (List.getElem?_eq_some_iff.1 hj).1
  have hll : l < S.length := by have := (List.getElem?_eq_some_iff.1 ht).1; simpa using this
  rw [List.length_set]
  by_cases hk : p ≤ k
  · have hm := hturn hk
    have h1 := turns_next S.length l k hll
    have h2 := turns_mono S.length l hk
    have cb := countP_one (fun s => decide (s.pc < 2)) S j s s' hj
    by_cases hjl' : l = j
    · subst hjl'
      rw [List.getElem?_set, if_pos rfl, if_pos hjl] at ht
      have ht' : s' = t := by simpa using ht
      subst ht'
      rw [if_pos hm] at h1
      have hl := h l s hj
      cases hs with
      | rest h2' => exact .inl h2'
      | full => exact .inl (by simp)
      | took => exact .inl (by simp)
      | look h0 hx =>
        right
        simp only [tpot, busy] at hl ⊢
        simp [h0] at hl cb ⊢
        omega
      | lost h0 hx =>
        right
        simp only [tpot, busy] at hl ⊢
        have hx' : ¬ s.seen = x := fun e => hx e.symm
        simp [h0, hx'] at hl cb ⊢
        omega
    · rw [List.getElem?_set, if_neg (by omega)] at ht
      rw [if_neg (by omega)] at h1
      rcases h l t ht with hd | hl
      · exact .inl hd
      · right
        have hbusy : busy (S.set j s') ≤ busy S ∧ (x' ≠ x → busy (S.set j s') + 1 ≤ busy S) := by
          unfold busy
          cases hs with
          | rest h2' => rw [set_self hj]; exact ⟨Nat.le_refl _, fun hne => absurd rfl hne⟩
          | full h0 => simp [h0] at cb ⊢; omega
          | took h0 => simp [h0] at cb ⊢; omega
          | look h0 => simp [h0] at cb ⊢; omega
          | lost h0 => simp [h0] at cb ⊢; omega
        have : tpot x' (S.set j s') t ≤ tpot x S t := by
          unfold tpot
          by_cases hxx : x' = x
          · subst hxx; omega
          · have := hbusy.2 hxx
            split
            · omega
            · split <;> split <;> omega
        omega
  · right
    have h1 : turns S.length l (k + 1) ≤ turns S.length l p := turns_mono S.length l (by omega)
    have := tpot_le (x := x') (S := S.set j s') (by simpa using h6) t
    omega

/-- After thirty rounds all have finished. -/
theorem TLive.done {p : Nat} {x : Int} {S : List TakeS} (h : TLive p (p + 30 * S.length) x S) : ∀ s, s ∈ S → 2 ≤ s.pc := by
  intro s hs
  obtain ⟨j, hj⟩ := List.mem_iff_getElem?.1 hs
  have hjl : j < S.length := (List.getElem?_eq_some_iff.1 hj).1
  rcases h j s hj with h1 | h1
  · exact h1
  · rw [turns_rounds _ _ _ _ hjl] at h1
    omega
end Go.Proofs.Ytfoojallpmibfaa
