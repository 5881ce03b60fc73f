/- Threads that allocate a timestamp and publish it: plain. -/
import Derived.Test.YtfoojallpmibfaaBothLaw
import Derived.Test.YtfoojallpmibfaaAw6
namespace Go.Proofs.Ytfoojallpmibfaa

/-- A thread: it allocates (0), publishes (1) or has finished (2). -/
structure Th where
  st : Nat
  t : TakeS
  pc : Nat

/-- How many of the picks from p on were thread j's. -/
def since (n p j k : Nat) : Nat := turns n j k - turns n j p

theorem since_next (n p j k : Nat) (hj : j < n) (hk : p ≤ k) : since n p j (k + 1) = since n p j k + if k % n = j then 1 else 0 := by
  unfold since
  rw [turns_next n j k hj]
  have := turns_mono n j hk
  split <;> omega
theorem since_zero (n p j k : Nat) (hk : k ≤ p) : since n p j k = 0 := by
  unfold since
  have := turns_mono n j hk
  omega
/-- In turn: no thread is more than one pick ahead of another. -/
theorem since_near (n p i j k : Nat) (hi : i < n) (hj : j < n) (hk : p ≤ k) : since n p i k ≤ since n p j k + 1 := by
  have hn : 0 < n := by omega
  unfold since turns
  obtain ⟨q, r, hr, hp⟩ : ∃ q r, r < n ∧ p = n * q + r := ⟨p / n, p % n, Nat.mod_lt _ hn, (Nat.div_add_mod p n).symm⟩
  obtain ⟨q', r', hr', hk'⟩ : ∃ q r, r < n ∧ k = n * q + r := ⟨k / n, k % n, Nat.mod_lt _ hn, (Nat.div_add_mod k n).symm⟩
  have d : ∀ q r j, r < n → j < n → (n * q + r + (n - 1 - j)) / n = q + if j < r then 1 else 0 := by
    intro q r j hr hj
    rw [show n * q + r + (n - 1 - j) = (r + (n - 1 - j)) + n * q by omega, Nat.add_mul_div_left _ _ hn]
    split
    · rw [show r + (n - 1 - j) = (r - 1 - j) + n by omega, Nat.add_div_right _ hn, Nat.div_eq_of_lt (by omega)]; omega
    · rw [Nat.div_eq_of_lt (by omega)]; omega
  rw [hp, hk', d q r i hr hi, d q' r' i hr' hi, d q r j hr hj, d q' r' j hr' hj]
  have hqq : q ≤ q' := by
    have h1 : n * q ≤ n * q' + r' := by omega
    rcases Nat.lt_or_ge q' q with h | h
    · have : n * (q' + 1) ≤ n * q := Nat.mul_le_mul_left n (by omega)
      rw [Nat.mul_add] at this
      omega
    · exact h
  rcases Nat.lt_or_ge q q' with h | h
  · split <;> split <;> split <;> split <;> omega
  · have : q = q' := by omega
    subst this
    have : r ≤ r' := by omega
    split <;> split <;> split <;> split <;> omega

structure GoodTh (n p k j : Nat) (Pb : Int) (x : Th) : Prop where
  st : x.st ≤ 2
  zero : x.st = 0 ↔ x.t.pc < 2
  one : x.st = 1 → x.t.ok = true ∧ x.pc ≤ 1 ∧ Pb ≤ x.t.seen ∧ (x.pc = 1 → Pb = x.t.seen)
  two : x.st = 2 → x.t.ok = true → x.t.seen + 1 ≤ Pb
  live : x.st = 1 → x.t.seen = Pb → (since n p j k : Int) ≤ 15 + 3 * Pb + x.pc

structure PubInv (C : Int) (n p k : Nat) (X : List Th) (A Pb : Int) : Prop where
  len : X.length = n
  six : n ≤ 6
  c1 : 1 ≤ C
  take : TInv 0 C A (X.map Th.t)
  live : TLive p k A (X.map Th.t)
  pb0 : 0 ≤ Pb
  pbA : Pb ≤ A
  each : ∀ (j : Nat) (x : Th), X[j]? = some x → GoodTh n p k j Pb x
  old : ∀ (j : Nat) (x : Th), X[j]? = some x → x.t.ok = true → x.t.seen < A
  inj : ∀ (i j : Nat) (x y : Th), X[i]? = some x → X[j]? = some y → x.t.ok = true → y.t.ok = true → x.t.seen = y.t.seen → i = j
  surj : ∀ t : Int, 0 ≤ t → t < A → ∃ (j : Nat) (x : Th), X[j]? = some x ∧ x.t.ok = true ∧ x.t.seen = t

theorem PubInv.A_le {C : Int} {n p k : Nat} {X : List Th} {A Pb : Int} (h : PubInv C n p k X A Pb) : A ≤ C ∧ A ≤ n ∧ 0 ≤ A := by
  have h1 := h.take.val
  have h2 := h.take.top
  have h3 : oks (X.map Th.t) ≤ (X.map Th.t).length := List.countP_le_length
  have h4 := h.c1
  have h5 := h.len
  simp at h3
  omega

/-- The time of the thread j has not been overtaken by that of others. -/
theorem GoodTh.tick {n p k j i : Nat} {Pb : Int} {x : Th} (g : GoodTh n p k j Pb x) (hj : j < n) (hij : i ≠ j) (ht : p ≤ k → k % n = i) (h0 : 0 ≤ Pb) : GoodTh n p (k + 1) j Pb x := by
  refine ⟨g.st, g.zero, g.one, g.two, fun h1 h2 => ?_⟩
  have := g.live h1 h2
  by_cases hk : p ≤ k
  · rw [since_next n p j k hj hk, if_neg (by rw [ht hk]; exact hij)]; omega
  · rw [since_zero n p j (k + 1) (by omega)]
    omega

section
variable {C : Int} {n p k : Nat} {X : List Th} {A Pb : Int} {i : Nat} {x : Th}
theorem getset {α : Type} {X : List α} {i j : Nat} {x' y : α} (h : (X.set i x')[j]? = some y) : (i = j ∧ y = x') ∨ (i ≠ j ∧ X[j]? = some y) := by
  rw [List.getElem?_set] at h
  by_cases hij : i = j
  · rw [if_pos hij] at h
    split at h
    · exact .inl ⟨hij, by simpa using h.symm⟩
    · cases h
  · rw [if_neg hij] at h; exact .inr ⟨hij, h⟩
theorem setget {α : Type} {X : List α} {i j : Nat} {x x' y : α} (hi : X[i]? = some x) (h : X[j]? = some y) (hne : i ≠ j) : (X.set i x')[j]? = some y := by
  rw [List.getElem?_set, if_neg hne]; exact h

/-- A thread that has finished is picked. -/
theorem PubInv.rest (h : PubInv C n p k X A Pb) (hi : X[i]? = some x) (h2 : x.st = 2) (ht : p ≤ k → k % n = i) : PubInv C n p (k + 1) X A Pb := by
  have hil := (List.getElem?_eq_some_iff.1 hi).1
  have hn := h.len
  have hl := h.live.step (j := i) (s := x.t) (s' := x.t) (lim := C) (x' := A) (by simpa [hn] using h.six) (by simp [hi]) (.rest (by have := (h.each i x hi).zero; omega)) (by simpa [hn] using ht)
  rw [set_self (by simp [hi])] at hl
  refine ⟨h.len, h.six, h.c1, h.take, hl, h.pb0, h.pbA, fun j y hj => ?_, h.old, h.inj, h.surj⟩
  by_cases hij : i = j
  · subst hij
    rw [hi] at hj
    simp only [Option.some.injEq] at hj
    subst hj
    have g := h.each i x hi
    exact ⟨g.st, g.zero, g.one, g.two, fun h1 => by omega⟩
  · exact (h.each j y hj).tick (by have := (List.getElem?_eq_some_iff.1 hj).1; omega) hij ht h.pb0

/-- A thread that allocates makes a step. -/
theorem PubInv.alloc {s' : TakeS} {A' : Int} {st' : Nat} (h : PubInv C n p k X A Pb) (hi : X[i]? = some x) (h0 : x.st = 0) (hs : TStep C A x.t s' A') (ht : p ≤ k → k % n = i)
    (hst : st' = if s'.pc < 2 then 0 else if s'.ok then 1 else 2) : PubInv C n p (k + 1) (X.set i ⟨st', s', 0⟩) A' Pb := by
  have hil := (List.getElem?_eq_some_iff.1 hi).1
  have hn := h.len
  have g0 := h.each i x hi
  have hpc : x.t.pc < 2 := g0.zero.1 h0
  have gT := h.take.each x.t (by simp; exact ⟨x, List.mem_of_getElem? hi, rfl⟩)
  have hok : x.t.ok = false := by
    cases ho : x.t.ok with
    | false => rfl
    | true => have := (gT.ok ho).1; omega
  have hm := hs.mono
  have hxi : (X.map Th.t)[i]? = some x.t := by simp [hi]
  have hT := h.take.step hxi hs
  have hl := h.live.step (j := i) (by simpa [hn] using h.six) hxi hs (by simpa [hn] using ht)
  have e : (X.map Th.t).set i s' = (X.set i ⟨st', s', 0⟩).map Th.t := by rw [List.map_set]
  rw [e] at hT hl
  have hA := h.A_le
  have hsince : (since n p i (k + 1) : Int) ≤ 15 := by
    rcases h.live i x.t hxi with h1 | h1
    · omega
    · have h2 : since n p i k ≤ 14 := by unfold since; simp [hn] at h1; omega
      by_cases hk : p ≤ k
      · rw [since_next n p i k (by omega) hk]; split <;> omega
      · rw [since_zero n p i (k + 1) (by omega)]; omega
  have hAA : (A' = A ∧ (s'.ok = true → False)) ∨ (A' = A + 1 ∧ s'.ok = true ∧ s'.seen = A ∧ s'.pc = 2) := by
    cases hs with
    | rest h => omega
    | full => exact .inl ⟨rfl, fun h => by simp [hok] at h⟩
    | look => exact .inl ⟨rfl, fun h => by simp [hok] at h⟩
    | took h1 h2 => exact .inr ⟨rfl, rfl, h2.symm, rfl⟩
    | lost => exact .inl ⟨rfl, fun h => by simp [hok] at h⟩
  refine ⟨by simpa using hn, h.six, h.c1, hT, hl, h.pb0, by have := h.pbA; omega, fun j y hj => ?_, fun j y hj hy => ?_, fun a b y z ha hb hy hz hyz => ?_, fun t t0 t1 => ?_⟩
  · rcases getset hj with ⟨rfl, rfl⟩ | ⟨hij, hj⟩
    · refine ⟨?_, ?_, fun h1 => ?_, fun h1 h2 => ?_, fun h1 h2 => ?_⟩
      · show st' ≤ 2; rw [hst]; split
        · omega
        · split <;> omega
      · show st' = 0 ↔ s'.pc < 2
        rw [hst]
        by_cases h1 : s'.pc < 2
        · simp [h1]
        · rw [if_neg h1]
          constructor
          · intro h2; split at h2 <;> omega
          · intro h2; omega
      · have h1' : st' = 1 := h1
        have : s'.ok = true := by
          rw [hst] at h1'
          split at h1'
          · omega
          · split at h1'
            · assumption
            · omega
        rcases hAA with ⟨_, h3⟩ | ⟨_, h3, h4, _⟩
        · exact absurd this (fun h => h3 h)
        · exact ⟨this, by simp, by show Pb ≤ s'.seen; rw [h4]; exact h.pbA, fun h => by simp at h⟩
      · have h1' : st' = 2 := h1
        have h2' : s'.ok = true := h2
        rw [hst] at h1'
        rcases hAA with ⟨_, h3⟩ | ⟨_, h3, h4, h5⟩
        · exact absurd h2' (fun h => h3 h)
        · rw [if_neg (by omega), if_pos h2'] at h1'; omega
      · have h2' : s'.seen = Pb := h2
        have := h.pb0
        show (since n p i (k + 1) : Int) ≤ 15 + 3 * Pb + ((0 : Nat) : Int)
        omega
    · exact (h.each j y hj).tick (by have := (List.getElem?_eq_some_iff.1 hj).1; omega) hij ht h.pb0
  · rcases getset hj with ⟨rfl, rfl⟩ | ⟨hij, hj⟩
    · rcases hAA with ⟨_, h3⟩ | ⟨_, h3, h4, _⟩
      · exact absurd hy (fun h => h3 h)
      · show s'.seen < A'; omega
    · have := h.old j y hj hy
      omega
  · have hnew := h.old
    rcases getset ha with ⟨rfl, rfl⟩ | ⟨hia, ha⟩
    · rcases getset hb with ⟨rfl, rfl⟩ | ⟨hib, hb⟩
      · rfl
      · have h1 := hnew b z hb hz
        rcases hAA with ⟨_, h3⟩ | ⟨_, h3, h4, _⟩
        · exact absurd hy (fun h => h3 h)
        · have h5 : s'.seen = z.t.seen := hyz
          omega
    · rcases getset hb with ⟨rfl, rfl⟩ | ⟨hib, hb⟩
      · have h1 := hnew a y ha hy
        rcases hAA with ⟨_, h3⟩ | ⟨_, h3, h4, _⟩
        · exact absurd hz (fun h => h3 h)
        · have h5 : y.t.seen = s'.seen := hyz
          omega
      · exact h.inj a b y z ha hb hy hz hyz
  · have keep : ∀ t, 0 ≤ t → t < A → ∃ (j : Nat) (z : Th), (X.set i ⟨st', s', 0⟩)[j]? = some z ∧ z.t.ok = true ∧ z.t.seen = t := by
      intro t t0 t1
      obtain ⟨j, z, hj, hz, hzt⟩ := h.surj t t0 t1
      refine ⟨j, z, setget hi hj ?_, hz, hzt⟩
      intro e
      subst e
      rw [hi] at hj
      simp only [Option.some.injEq] at hj
      subst hj
      rw [hok] at hz
      cases hz
    rcases hAA with ⟨h2, _⟩ | ⟨h2, h3, h4, _⟩
    · exact keep t t0 (by omega)
    · by_cases h5 : t < A
      · exact keep t t0 h5
      · exact ⟨i, ⟨st', s', 0⟩, by rw [List.getElem?_set, if_pos rfl, if_pos hil], h3, by show s'.seen = t; omega⟩

/-- A thread that publishes: it waits. -/
theorem PubInv.wait (h : PubInv C n p k X A Pb) (hi : X[i]? = some x) (h1 : x.st = 1) (h0 : x.pc = 0) (hne : Pb ≠ x.t.seen) (ht : p ≤ k → k % n = i) : PubInv C n p (k + 1) X A Pb := by
  have hil := (List.getElem?_eq_some_iff.1 hi).1
  have hn := h.len
  have hl := h.live.step (j := i) (s := x.t) (s' := x.t) (lim := C) (x' := A) (by simpa [hn] using h.six) (by simp [hi]) (.rest (by have := (h.each i x hi).zero; omega)) (by simpa [hn] using ht)
  rw [set_self (by simp [hi])] at hl
  refine ⟨h.len, h.six, h.c1, h.take, hl, h.pb0, h.pbA, fun j y hj => ?_, h.old, h.inj, h.surj⟩
  by_cases hij : i = j
  · subst hij
    rw [hi] at hj
    simp only [Option.some.injEq] at hj
    subst hj
    have g := h.each i x hi
    exact ⟨g.st, g.zero, g.one, g.two, fun _ h3 => absurd h3.symm hne⟩
  · exact (h.each j y hj).tick (by have := (List.getElem?_eq_some_iff.1 hj).1; omega) hij ht h.pb0

/-- .. its turn has come. -/
theorem PubInv.turn (h : PubInv C n p k X A Pb) (hi : X[i]? = some x) (h1 : x.st = 1) (h0 : x.pc = 0) (he : Pb = x.t.seen) (ht : p ≤ k → k % n = i) : PubInv C n p (k + 1) (X.set i ⟨1, x.t, 1⟩) A Pb := by
  have hil := (List.getElem?_eq_some_iff.1 hi).1
  have hn := h.len
  have g0 := h.each i x hi
  have hl := h.live.step (j := i) (s := x.t) (s' := x.t) (lim := C) (x' := A) (by simpa [hn] using h.six) (by simp [hi]) (.rest (by have := g0.zero; omega)) (by simpa [hn] using ht)
  have e : (X.map Th.t).set i x.t = (X.set i ⟨1, x.t, 1⟩).map Th.t := by rw [List.map_set]
  rw [e] at hl
  have e2 : (X.set i ⟨1, x.t, 1⟩).map Th.t = X.map Th.t := by rw [List.map_set]; exact set_self (by simp [hi])
  refine ⟨by simpa using hn, h.six, h.c1, by rw [e2]; exact h.take, hl, h.pb0, h.pbA, fun j y hj => ?_, fun j y hj hy => ?_, fun a b y z ha hb hy hz hyz => ?_, fun t t0 t1 => ?_⟩
  · rcases getset hj with ⟨rfl, rfl⟩ | ⟨hij, hj⟩
    · obtain ⟨q1, q2, q3, q4⟩ := g0.one h1
      refine ⟨by simp, ?_, fun _ => ⟨q1, by simp, q3, fun _ => he⟩, fun h => by simp at h, fun _ h3 => ?_⟩
      · have := g0.zero; simp; omega
      · have := g0.live h1 he.symm
        have hp := h.pb0
        show (since n p i (k + 1) : Int) ≤ 15 + 3 * Pb + ((1 : Nat) : Int)
        by_cases hk : p ≤ k
        · rw [since_next n p i k (by omega) hk]; split <;> omega
        · rw [since_zero n p i (k + 1) (by omega)]; omega
    · exact (h.each j y hj).tick (by have := (List.getElem?_eq_some_iff.1 hj).1; omega) hij ht h.pb0
  · rcases getset hj with ⟨rfl, rfl⟩ | ⟨hij, hj⟩
    · exact h.old i x hi hy
    · exact h.old j y hj hy
  · have back : ∀ (l : Nat) (u : Th), (X.set i ⟨1, x.t, 1⟩)[l]? = some u → ∃ v, X[l]? = some v ∧ v.t = u.t := by
      intro l u hu
      rcases getset hu with ⟨rfl, rfl⟩ | ⟨_, hu⟩
      · exact ⟨x, hi, rfl⟩
      · exact ⟨u, hu, rfl⟩
    obtain ⟨y', hy', ey⟩ := back a y ha
    obtain ⟨z', hz', ez⟩ := back b z hb
    exact h.inj a b y' z' hy' hz' (by rw [ey]; exact hy) (by rw [ez]; exact hz) (by rw [ey, ez]; exact hyz)
  · obtain ⟨j, z, hj, hz, hzt⟩ := h.surj t t0 t1
    by_cases hij : i = j
    · subst hij
      rw [hi] at hj
      simp only [Option.some.injEq] at hj
      subst hj
      exact ⟨i, ⟨1, x.t, 1⟩, by rw [List.getElem?_set, if_pos rfl, if_pos hil], hz, hzt⟩
    · exact ⟨j, z, setget hi hj hij, hz, hzt⟩

/-- .. it publishes. -/
theorem PubInv.publish (h : PubInv C n p k X A Pb) (hi : X[i]? = some x) (h1 : x.st = 1) (h0 : x.pc = 1) (ht : p ≤ k → k % n = i) : PubInv C n p (k + 1) (X.set i ⟨2, x.t, 2⟩) A (Pb + 1) ∧ Pb = x.t.seen ∧ Pb + 1 ≤ A := by
  have hil := (List.getElem?_eq_some_iff.1 hi).1
  have hn := h.len
  have g0 := h.each i x hi
  obtain ⟨q1, q2, q3, q4⟩ := g0.one h1
  have he := q4 h0
  have hlt := h.old i x hi q1
  have hp := h.pb0
  have hl := h.live.step (j := i) (s := x.t) (s' := x.t) (lim := C) (x' := A) (by simpa [hn] using h.six) (by simp [hi]) (.rest (by have := g0.zero; omega)) (by simpa [hn] using ht)
  have e : (X.map Th.t).set i x.t = (X.set i ⟨2, x.t, 2⟩).map Th.t := by rw [List.map_set]
  rw [e] at hl
  have e2 : (X.set i ⟨2, x.t, 2⟩).map Th.t = X.map Th.t := by rw [List.map_set]; exact set_self (by simp [hi])
  have hsi : (since n p i k : Int) ≤ 15 + 3 * Pb + 1 := by have := g0.live h1 he.symm; rw [h0] at this; simpa using this
  refine ⟨⟨by simpa using hn, h.six, h.c1, by rw [e2]; exact h.take, hl, by omega, by omega, fun j y hj => ?_, fun j y hj hy => ?_, fun a b y z ha hb hy hz hyz => ?_, fun t t0 t1 => ?_⟩, he, by omega⟩
  · rcases getset hj with ⟨rfl, rfl⟩ | ⟨hij, hj⟩
    · exact ⟨by simp, by have := g0.zero; simp; omega, fun h => by simp at h, fun _ _ => by show x.t.seen + 1 ≤ Pb + 1; omega, fun h => by simp at h⟩
    · have hjl := (List.getElem?_eq_some_iff.1 hj).1
      have g := h.each j y hj
      have hne : y.t.ok = true → y.t.seen ≠ Pb := fun hy e => hij (h.inj i j x y hi hj q1 hy (by omega))
      refine ⟨g.st, g.zero, fun hy1 => ?_, fun hy2 hy => by have := g.two hy2 hy; omega, fun hy1 hy2 => ?_⟩
      · obtain ⟨r1, r2, r3, r4⟩ := g.one hy1
        have := hne r1
        exact ⟨r1, r2, by omega, fun h5 => absurd (r4 h5).symm this⟩
      · obtain ⟨r1, r2, r3, r4⟩ := g.one hy1
        by_cases hk : p ≤ k
        · have a1 := since_near n p j i (k + 1) (by omega) (by omega) (by omega)
          rw [since_next n p i k (by omega) hk, if_pos (ht hk)] at a1
          omega
        · rw [since_zero n p j (k + 1) (by omega)]; omega
  · rcases getset hj with ⟨rfl, rfl⟩ | ⟨hij, hj⟩
    · exact h.old i x hi hy
    · exact h.old j y hj hy
  · have back : ∀ (l : Nat) (u : Th), (X.set i ⟨2, x.t, 2⟩)[l]? = some u → ∃ v, X[l]? = some v ∧ v.t = u.t := by
      intro l u hu
      rcases getset hu with ⟨rfl, rfl⟩ | ⟨_, hu⟩
      · exact ⟨x, hi, rfl⟩
      · exact ⟨u, hu, rfl⟩
    obtain ⟨y', hy', ey⟩ := back a y ha
    obtain ⟨z', hz', ez⟩ := back b z hb
    exact h.inj a b y' z' hy' hz' (by rw [ey]; exact hy) (by rw [ez]; exact hz) (by rw [ey, ez]; exact hyz)
  · obtain ⟨j, z, hj, hz, hzt⟩ := h.surj t t0 t1
    by_cases hij : i = j
    · subst hij
      rw [hi] at hj
      simp only [Option.some.injEq] at hj
      subst hj
      exact ⟨i, ⟨2, x.t, 2⟩, by rw [List.getElem?_set, if_pos rfl, if_pos hil], hz, hzt⟩
    · exact ⟨j, z, setget hi hj hij, hz, hzt⟩

/-- After sixty rounds all have finished, and all timestamps are published. -/
theorem PubInv.done (h : PubInv C n p (p + 60 * n) X A Pb) (hn1 : 1 ≤ n) : (∀ x, x ∈ X → x.st = 2) ∧ A = Pb ∧ Pb = (if (n : Int) ≤ C then (n : Int) else C) := by
  have hn := h.len
  obtain ⟨a1, a2, a3⟩ := h.A_le
  have hsince : ∀ j, j < n → since n p j (p + 60 * n) = 60 := by
    intro j hj
    unfold since
    rw [turns_rounds _ _ _ _ hj]
    omega
  have hPA : Pb = A := by
    rcases Int.lt_or_le Pb A with hlt | hge
    · obtain ⟨j, z, hj, hz, hzt⟩ := h.surj Pb h.pb0 hlt
      have hjl := (List.getElem?_eq_some_iff.1 hj).1
      have g := h.each j z hj
      have gT := h.take.each z.t (by simp; exact ⟨z, List.mem_of_getElem? hj, rfl⟩)
      have hpc := (gT.ok hz).1
      have h0 := g.zero
      have hst := g.st
      have : z.st = 1 := by
        have : z.st ≠ 0 := by omega
        have : z.st ≠ 2 := fun e => by have := g.two e hz; omega
        omega
      have hl := g.live this hzt
      rw [hsince j (by omega)] at hl
      have hq := (g.one this).2.1
      have h6 := h.six
      omega
    · have := h.pbA; omega
  have hall : ∀ x, x ∈ X → x.st = 2 := by
    intro x hx
    obtain ⟨j, hj⟩ := List.mem_iff_getElem?.1 hx
    have hjl := (List.getElem?_eq_some_iff.1 hj).1
    have g := h.each j x hj
    have hst := g.st
    have h0 : x.st ≠ 0 := by
      intro e
      have hpc := g.zero.1 e
      rcases h.live j x.t (by simp [hj]) with h1 | h1
      · omega
      · have := hsince j (by omega)
        unfold since at this
        simp [hn] at h1
        omega
    have h1 : x.st ≠ 1 := by
      intro e
      obtain ⟨q1, q2, q3, q4⟩ := g.one e
      have := h.old j x hj q1
      omega
    omega
  refine ⟨hall, hPA.symm, ?_⟩
  rw [hPA]
  by_cases hok : ∀ x, x ∈ X → x.t.ok = true
  · have h1 := h.take.val
    have h2 : oks (X.map Th.t) = n := by
      unfold oks
      rw [List.countP_eq_length.2 (by intro s hs; simp at hs; obtain ⟨x, hx, rfl⟩ := hs; exact hok x hx)]
      simp [hn]
    split <;> omega
  · obtain ⟨x, hx⟩ := Classical.not_forall.1 hok
    obtain ⟨hxX, hxo⟩ := Classical.not_imp.1 hx
    obtain ⟨j, hj⟩ := List.mem_iff_getElem?.1 hxX
    have gT := h.take.each x.t (by simp; exact ⟨x, hxX, rfl⟩)
    have g := h.each j x hj
    have h1 := gT.pc
    have h2 : ¬ x.t.pc < 2 := fun e => by have := g.zero.2 e; have := hall x hxX; omega
    have := gT.two (by omega) (by simpa using hxo)
    split <;> omega

theorem PubInv.start (C : Int) (n p : Nat) (hn : n ≤ 6) (hC : 1 ≤ C) : PubInv C n p 0 (List.replicate n ⟨0, ⟨0, 0, false⟩, 0⟩) 0 0 := by
  have hrep : ∀ (j : Nat) (x : Th), (List.replicate n (⟨0, ⟨0, 0, false⟩, 0⟩ : Th))[j]? = some x → x = ⟨0, ⟨0, 0, false⟩, 0⟩ := fun j x h => List.eq_of_mem_replicate (List.mem_of_getElem? h)
  have e : (List.replicate n (⟨0, ⟨0, 0, false⟩, 0⟩ : Th)).map Th.t = List.replicate n ⟨0, 0, false⟩ := by simp
  refine ⟨by simp, hn, hC, ?_, ?_, by omega, by omega, fun j x hj => ?_, fun j x hj hx => ?_, fun i j x y hi hj hx => ?_, fun t h0 h1 => by omega⟩
  · rw [e]
    refine ⟨by simp [oks, List.countP_replicate], by omega, fun s hs => ?_, .inr (by simp [oks, List.countP_replicate])⟩
    rw [List.eq_of_mem_replicate hs]
    exact ⟨by simp, fun h => (by simp at h), fun h => (by simp at h), fun h => (by simp at h)⟩
  · rw [e]; exact TLive.start (by simpa using hn)
  · rw [hrep j x hj]; exact ⟨by simp, by simp, fun h => by simp at h, fun h => by simp at h, fun h => by simp at h⟩
  · rw [hrep j x hj] at hx; simp at hx
  · rw [hrep i x hi] at hx; simp at hx
end
end Go.Proofs.Ytfoojallpmibfaa
