/- Takers and raisers of one counter: plain. -/
import Derived.Test.YtfoojallpmibfaaRaiseLaw
namespace Go.Proofs.Ytfoojallpmibfaa

def conv (s : TakeS) : RaiseS := ⟨s.pc, s.seen, s.ok⟩
theorem TStep.conv {lim x x' : Int} {s s' : TakeS} (h : TStep lim x s s' x') : ∃ to, RStep to x (conv s) (conv s') x' := by
  cases h with
  | rest h => exact ⟨0, .rest h⟩
  | full h hx => exact ⟨x, .full h (Int.le_refl _)⟩
  | look h hx => exact ⟨lim, .look h hx⟩
  | took h hx => exact ⟨x + 1, .took h hx⟩
  | lost h hx => exact ⟨0, .lost h hx⟩

theorem GoodT.up {lim x x' : Int} {s : TakeS} (g : GoodT lim x s) (h : x ≤ x') : GoodT lim x' s := ⟨g.pc, g.ok, g.one, fun h1 h2 => Int.le_trans (g.two h1 h2) h⟩
theorem TStep.mono {lim x x' : Int} {s s' : TakeS} (h : TStep lim x s s' x') : x ≤ x' := by
  cases h <;> omega
theorem GoodT.step {lim x x' : Int} {s s' : TakeS} (g : GoodT lim x s) (h0 : 0 ≤ x) (h : TStep lim x s s' x') : GoodT lim x' s' := by
  have hok : s.pc ≠ 2 → s.ok = false := fun hne => by
    cases ho : s.ok with
    | false => rfl
    | true => exact absurd (g.ok ho).1 hne
  cases h with
  | rest => exact g
  | full h1 hx => exact ⟨by simp, fun h => (by have := hok (by omega); simp [this] at h), fun h => (by simp at h), fun _ _ => hx⟩
  | look h1 hx => exact ⟨by simp, fun h => (by have := hok (by omega); simp [this] at h), fun _ => ⟨h0, hx⟩, fun h => (by simp at h)⟩
  | took h1 hx => exact ⟨by simp, fun _ => ⟨rfl, (g.one h1).1, (g.one h1).2⟩, fun h => (by simp at h), fun _ h => (by simp at h)⟩
  | lost h1 hx => exact ⟨by simp, fun h => (by have := hok (by omega); simp [this] at h), fun h => (by simp at h), fun h => (by simp at h)⟩

structure PInv (p k : Nat) (tos : List Int) (x : Int) (S : List TakeS) (R : List RaiseS) (seen : List Int) : Prop where
  x0 : 0 ≤ x
  top : x ≤ 255 + oks S
  take : ∀ s, s ∈ S → GoodT 1000 x s
  raise : ∀ (j : Nat) (s : RaiseS) (to : Int), R[j]? = some s → tos[j]? = some to → GoodR to x s ∧ to ≤ 255
  lenS : S.length ≤ 3
  lenR : R.length ≤ 3
  tos : tos.length = R.length
  seen : ∀ y, y ∈ seen → y ≤ x
  live : RLive p k x (S.map conv ++ R)

theorem oks_set {S : List TakeS} {i : Nat} {s s' : TakeS} (h : S[i]? = some s) : oks (S.set i s') + (if s.ok then 1 else 0) = oks S + (if s'.ok then 1 else 0) := countP_one (fun s : TakeS => s.ok) S i s s' h

theorem PInv.stepT {p k : Nat} {tos : List Int} {x x' : Int} {S : List TakeS} {R : List RaiseS} {seen : List Int} {i : Nat} {s s' : TakeS} (h : PInv p k tos x S R seen) (hi : S[i]? = some s) (hs : TStep 1000 x s s' x') (ht : p ≤ k → k % (S.length + R.length) = i) :
    PInv p (k + 1) tos x' (S.set i s') R seen := by
  have hm := hs.mono
  have hx0 := h.x0
  have g := h.take s (List.mem_of_getElem? hi)
  obtain ⟨to, hc⟩ := hs.conv
  have hl := (List.getElem?_eq_some_iff.1 hi).1
  refine ⟨by omega, ?_, fun a ha => ?_, fun j a to hj ht => ?_, by simpa using h.lenS, h.lenR, h.tos, fun y hy => by have := h.seen y hy; omega, ?_⟩
  · have := oks_set (s' := s') hi
    have := h.top
    cases hs with
    | rest => rw [set_self hi]; omega
    | full h1 => simp at *; omega
    | look h1 => simp at *; omega
    | lost h1 => simp at *; omega
    | took h1 h2 =>
      have hok : s.ok = false := by
        cases ho : s.ok with
        | false => rfl
        | true => have := (g.ok ho).1; omega
      simp [hok] at this ⊢; omega
  · rcases mem_set_iff ha with ha | rfl
    · exact (h.take a ha).up hm
    · exact g.step hx0 hs
  · exact ⟨(h.raise j a to hj ht).1.up hm, (h.raise j a to hj ht).2⟩
  · have := h.live.step (j := i) (s := conv s) (s' := conv s') (by have h1 := h.lenS; have h2 := h.lenR; simp; omega) (by rw [List.getElem?_append_left (by simpa using hl)]; simp [hi]) hc (by simpa using ht)
    rwa [List.set_append_left _ _ (by simpa using hl), ← List.map_set] at this
theorem PInv.stepR {p k : Nat} {tos : List Int} {x x' to : Int} {S : List TakeS} {R : List RaiseS} {seen : List Int} {i : Nat} {s s' : RaiseS} (h : PInv p k tos x S R seen) (hi : R[i]? = some s) (hto : tos[i]? = some to) (hs : RStep to x s s' x') (ht : p ≤ k → k % (S.length + R.length) = S.length + i) :
    PInv p (k + 1) tos x' S (R.set i s') seen ∧ x ≤ x' := by
  obtain ⟨g, g2⟩ := h.raise i s to hi hto
  have hm := hs.mono g
  have hx0 := h.x0
  have hl := (List.getElem?_eq_some_iff.1 hi).1
  refine ⟨⟨by omega, ?_, fun a ha => (h.take a ha).up hm, fun j a t hj ht => ?_, h.lenS, by simpa using h.lenR, by simpa using h.tos, fun y hy => by have := h.seen y hy; omega, ?_⟩, hm⟩
  · have := h.top
    cases hs <;> omega
  · rw [List.getElem?_set] at hj
    by_cases hij : i = j
    · subst hij
      rw [if_pos rfl, if_pos hl] at hj
      simp only [Option.some.injEq] at hj
      subst hj
      rw [hto] at ht
      simp only [Option.some.injEq] at ht
      subst ht
      exact ⟨g.step hs, g2⟩
    · rw [if_neg hij] at hj
      exact ⟨(h.raise j a t hj ht).1.up hm, (h.raise j a t hj ht).2⟩
  · have := h.live.step (j := S.length + i) (s := s) (s' := s') (by have h1 := h.lenS; have h2 := h.lenR; simp; omega) (by rw [List.getElem?_append_right (by simp)]; simpa using hi) hs (by simpa using ht)
    rwa [List.set_append_right _ _ (by simp), show S.length + i - (S.map conv).length = i by simp] at this
theorem PInv.saw {p k : Nat} {tos : List Int} {x : Int} {S : List TakeS} {R : List RaiseS} {seen : List Int} (h : PInv p k tos x S R seen) : PInv p k tos x S R (seen ++ [x]) :=
  ⟨h.x0, h.top, h.take, h.raise, h.lenS, h.lenR, h.tos, fun y hy => by
    rcases List.mem_append.1 hy with hy | hy
    · exact h.seen y hy
    · simp at hy; omega, h.live⟩
theorem PInv.x1 {p k : Nat} {tos : List Int} {x : Int} {S : List TakeS} {R : List RaiseS} {seen : List Int} (h : PInv p k tos x S R seen) : x ≤ 258 := by
  have h1 := h.top
  have h2 : oks S ≤ S.length := List.countP_le_length
  have h3 := h.lenS
  omega

/-- What a step shows: nothing but a number that was taken is new. -/
theorem TStep.see {lim x x' : Int} {s s' : TakeS} (h : TStep lim x s s' x') (hl : x < lim) : (s.pc < 2 ∧ s'.pc = 2 ∧ s'.ok = true ∧ s'.seen = x ∧ x' = x + 1) ∨ (decide (2 ≤ s'.pc) && !decide (2 ≤ s.pc)) = false := by
  cases h with
  | rest h => right; simp [h]
  | full h hx => omega
  | look h => right; simp
  | took h hx => left; exact ⟨by omega, rfl, rfl, by simp [hx], rfl⟩
  | lost h => right; simp

theorem RLive.done' {p q : Nat} {x : Int} {S : List RaiseS} (hq : 14 < q) (h : RLive p (p + q * S.length) x S) : ∀ s, s ∈ S → 2 ≤ s.pc := by
  intro s hs
  obtain ⟨j, hj⟩ := List.mem_iff_getElem?.1 hs
  have hjl : j < S.length := (List.getElem?_eq_some_iff.1 hj).1
  rcases h j s hj with h1 | h1
  · exact h1
  · rw [turns_rounds _ _ _ _ hjl] at h1
    omega
theorem PInv.end {p k : Nat} {tos : List Int} {x : Int} {S : List TakeS} {R : List RaiseS} {seen : List Int} (h : PInv p k tos x S R seen) (hk : k = p + 40 * (S.length + R.length)) : (∀ s, s ∈ S → 2 ≤ s.pc) ∧ (∀ s, s ∈ R → 2 ≤ s.pc) ∧ ∀ (j : Nat) (to : Int), tos[j]? = some to → to ≤ x := by
  subst hk
  have hd := RLive.done' (p := p) (q := 40) (x := x) (S := S.map conv ++ R) (by omega) (by simpa using h.live)
  have hR : ∀ s, s ∈ R → 2 ≤ s.pc := fun s hs => hd s (by simp [hs])
  refine ⟨fun s hs => hd (conv s) (by simp; exact .inl ⟨s, hs, rfl⟩), hR, fun j to hj => ?_⟩
  have hjl : j < R.length := by have := (List.getElem?_eq_some_iff.1 hj).1; have e := h.tos; omega
  have e : R[j]? = some R[j] := List.getElem?_eq_getElem hjl
  have g := (h.raise j _ to e hj).1
  exact g.two (by have := g.pc; have := hR _ (List.mem_of_getElem? e); omega)
theorem PInv.start {p : Nat} {tos : List Int} {n : Nat} (hn : n ≤ 3) (hk : tos.length ≤ 3) (ht : ∀ to, to ∈ tos → to ≤ 255) : PInv p 0 tos 0 (List.replicate n ⟨0, 0, false⟩) (List.replicate tos.length ⟨0, 0, false⟩) [] := by
  refine ⟨by omega, by omega, fun s hs => ?_, fun j s to hj h => ?_, by simpa, by simpa, by simp, fun y hy => by simp at hy, RLive.start (by simp; omega)⟩
  · rw [List.eq_of_mem_replicate hs]
    exact ⟨by simp, fun h => (by simp at h), fun h => (by simp at h), fun h => (by simp at h)⟩
  · rw [List.eq_of_mem_replicate (List.mem_of_getElem? hj)]
    exact ⟨⟨by simp, fun h => (by simp at h), fun h => (by simp at h), fun h => (by simp at h)⟩, ht to (List.mem_of_getElem? h)⟩
end Go.Proofs.Ytfoojallpmibfaa
