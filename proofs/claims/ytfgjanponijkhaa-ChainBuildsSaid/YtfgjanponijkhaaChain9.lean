/- append of a whole row; Cut and Dead (the reference of layer 9). -/
import Derived.Test.YtfgjanponijkhaaChain7
import Derived.Test.YtfgjanponijkhaaApp
namespace Go.Proofs.Ytfgjanponijkhaa
open Go.RowKit
set_option maxRecDepth 100000

section
variable {K : Know} {w : World} {F : List Comp}

/-- The cells of a slice of versions, as append wants them. -/
theorem VersAt.news {a : Option Addr} {vs : List Ver} (h : VersAt w a vs) (k : Nat) : ∀ j u, (verRow (vs.take k))[j]? = some u → ∃ g off, a = some ⟨g, off, none⟩ ∧ w.cell? ⟨g, off + j, none⟩ = some u := by
  intro j u hu
  have hj : j < (vs.take k).length * 3 := by rw [← verRow_length]; exact (List.getElem?_eq_some_iff.1 hu).1
  have hlt : j / 3 < (vs.take k).length := by omega
  obtain ⟨v, hv⟩ : ∃ v, (vs.take k)[j / 3]? = some v := ⟨_, List.getElem?_eq_getElem hlt⟩
  have hv' : vs[j / 3]? = some v := by
    rw [List.getElem?_take] at hv
    split at hv
    · exact hv
    · cases hv
  obtain ⟨b, off, e, _, c0, c1, c2⟩ := h.2 _ _ hv'
  obtain ⟨r0, r1, r2⟩ := verRow_at _ _ _ hv
  refine ⟨b, off, e, ?_⟩
  have : j % 3 < 3 := Nat.mod_lt _ (by omega)
  have hdm : j = j / 3 * 3 + j % 3 := by omega
  rcases (show j % 3 = 0 ∨ j % 3 = 1 ∨ j % 3 = 2 by omega) with h3 | h3 | h3
  · rw [hdm, h3, Nat.add_zero] at hu ⊢
    rw [r0] at hu; rw [← hu]; exact c0
  · rw [hdm, h3] at hu ⊢
    rw [r1] at hu; rw [← hu]; rw [← Nat.add_assoc]; exact c1
  · rw [hdm, h3] at hu ⊢
    rw [r2] at hu; rw [← hu]; rw [← Nat.add_assoc]; exact c2
theorem VersAt.newsAll {a : Option Addr} {vs : List Ver} (h : VersAt w a vs) : ∀ j u, (verRow vs)[j]? = some u → ∃ g off, a = some ⟨g, off, none⟩ ∧ w.cell? ⟨g, off + j, none⟩ = some u := by
  have := h.news vs.length
  rwa [List.take_length] at this
theorem verRow_one (vs : List Ver) : ∀ u, u ∈ verRow vs → u.oneCell' = true := by
  intro u hu
  obtain ⟨v, _, hv⟩ := List.mem_flatMap.1 hu
  simp [verCells] at hv
  rcases hv with rfl | rfl | rfl <;> rfl
theorem VersAt.none {vs : List Ver} (h : VersAt w none vs) : vs = [] := by
  cases vs with
  | nil => rfl
  | cons v vs => obtain ⟨b, off, e, _⟩ := h.2 0 v rfl; cases e

theorem vcut_take (t : Int) (vs : List Ver) : vcut t vs = vs.take (min (vidx t vs + 1) vs.length) := by
  induction vs with
  | nil => rfl
  | cons v vs ih =>
    unfold vcut vidx
    by_cases h : vis t v = true
    · rw [if_pos h, if_pos h]
      simp [show min 1 (vs.length + 1) = 1 by omega]
    · rw [if_neg h, if_neg h, ih]
      rw [List.length_cons, show min (vidx t vs + 1 + 1) (vs.length + 1) = min (vidx t vs + 1) vs.length + 1 by omega]
      rfl
theorem vcut_vcut {a b : Int} (h : a ≤ b) (vs : List Ver) : vcut b (vcut a vs) = vcut b vs := by
  induction vs with
  | nil => rfl
  | cons v vs ih =>
    by_cases h1 : vis a v = true
    · have h2 : vis b v = true := by
        have : v.st ≠ 0 ∧ v.st ≤ a := by simpa [vis] using h1
        simp [vis]; omega
      simp [vcut, h1, h2]
    · by_cases h2 : vis b v = true
      · simp [vcut, h1, h2]
      · simp [vcut, h1, h2, ih]
theorem vdead_vcut {a b : Int} (vs : List Ver) : vdead b (vcut a vs) = vdead b vs := by
  cases vs with
  | nil => rfl
  | cons v vs =>
    by_cases h1 : vis a v = true <;> simp [vcut, h1, vdead]
end

section
variable {K : Know} {w : World} {F : List Comp}
set_option maxHeartbeats 1000000 in
theorem cutRef_st {av : Option Addr} {cap : Nat} {vs : List Ver} (t : Int) (hcap : vs.length ≤ cap) (hs : St K w F) (hv : VersAt w av vs) :
    Calls Try.prog 59 #[.slice av vs.length cap, .int .u64 t] w fun e w' => ∃ va, e = .returned va ∧ St K w' (rowC va 69 3 (vcut t vs).length (verRow (vcut t vs)) :: F) := by
  have hlen := hv.1
  have q := fun w' (hb : Below w.heap.size w w') => first_any (cap := cap) t w' (hv.same hb)
  have hk : min (vidx t vs + 1) vs.length = (vcut t vs).length := by rw [vcut_take, List.length_take]; omega
  have hnews := fun w' (hb : Below w.heap.size w w') => (hv.same hb).news (min (vidx t vs + 1) vs.length)
  rw [← vcut_take] at hnews
  have hnone : av = none → (vcut t vs).length = 0 := fun e => by subst e; rw [hv.none]; rfl
  have hle := vidx_le t vs
  obtain ⟨k, hk'⟩ : ∃ k, k = (vcut t vs).length := ⟨_, rfl⟩
  obtain ⟨n, hn⟩ : ∃ n, n = vs.length := ⟨_, rfl⟩
  obtain ⟨i, hi⟩ : ∃ i, i = vidx t vs := ⟨_, rfl⟩
  obtain ⟨news, hne⟩ : ∃ news, news = verRow (vcut t vs) := ⟨_, rfl⟩
  have hl : news.length = k * 3 := by rw [hne, hk', verRow_length]
  have h1 : ∀ u, u ∈ news → u.oneCell' = true := by rw [hne]; exact verRow_one _
  rw [← hne] at hnews ⊢
  rw [← hk'] at hk hnone ⊢
  rw [← hi, ← hn] at hk
  rw [← hi, ← hn] at hle
  rw [← hn] at hlen hcap ⊢
  simp only [← hn, ← hi] at q
  have Q := Lib.hid q
  have Hn := Lib.hid hnews
  have Hl := Lib.hid hl
  have H1 := Lib.hid h1
  have Ho := Lib.hid hnone
  have hs := hs.row_nil (T := 69) (size := 3)
  obtain ⟨iv, hiv0, hiv1, hiv2, hiv3⟩ := info_parts infoVer
  clear q hnews hnone hl h1 hk' hn hi hne hv
  have hk2 : k ≤ 1000000000 := by omega
  by_cases h : i + 1 ≤ n
  · have hm : (i : Int) + 1 ≤ (n : Int) := by omega
    obtain rfl : k = i + 1 := by omega
    have hb : 0 ≤ (i : Int) + 1 ∧ (i : Int) + 1 ≤ (cap : Int) := by omega
    go_enter Try.func59, Try.ntmps59
    go_wp2_with fail
    refine (Q.out _ (Below.refl _ _)).mono ?_
    rintro e w1 ⟨rfl, rfl⟩
    clear Q
    go_wp2_with (at_builtin; refine append_row_st _ _ 58 69 _ 0 (i + 1) _ 3 32 [] news (.agg #[.int .u64 0, .string ⟨#[]⟩, .bool false]) iv av hs rfl rfl Try.underlying58 hiv0 hiv1 hiv2 hiv3 rfl (by decide) rfl rfl Hl.out Ho.out (Hn.out _ (Below.refl _ _)) H1.out (by omega) (by decide) ?_)
    intro v' w' hs
    go_wp2
    go_ret
    exact ⟨_, rfl, hs⟩
  · have hm : ¬(i : Int) + 1 ≤ (n : Int) := by omega
    obtain rfl : k = n := by omega
    have hb : k ≤ cap := by omega
    go_enter Try.func59, Try.ntmps59
    go_wp2_with fail
    refine (Q.out _ (Below.refl _ _)).mono ?_
    rintro e w1 ⟨rfl, rfl⟩
    clear Q
    go_wp2_with (at_builtin; refine append_row_st _ _ 58 69 _ 0 k _ 3 32 [] news (.agg #[.int .u64 0, .string ⟨#[]⟩, .bool false]) iv av hs rfl rfl Try.underlying58 hiv0 hiv1 hiv2 hiv3 rfl (by decide) rfl rfl Hl.out Ho.out (Hn.out _ (Below.refl _ _)) H1.out (by omega) (by decide) ?_)
    intro v' w' hs
    go_wp2
    go_ret
    exact ⟨_, rfl, hs⟩

theorem deadRef_any {av : Option Addr} {cap : Nat} {vs : List Ver} (t : Int) (h : VersAt w av vs) : Calls Try.prog 61 #[.slice av vs.length cap, .int .u64 t] w fun e w' => e = .returned (.bool (vdead t vs)) ∧ w = w' := by
  have hlen := h.1
  have q := first_any (cap := cap) t w h
  cases vs with
  | nil =>
    clear q h
    go_enter Try.func61, Try.ntmps61
    go_wp2
    go_ret
    exact ⟨rfl, rfl⟩
  | cons v vs =>
    obtain ⟨b, off, rfl, hb, c0, c1, c2⟩ := h.2 0 v rfl
    clear h
    have hn : ((vs.length : Int) + 1 == 0) = false := by simp; omega
    rw [List.length_cons] at q hlen ⊢
    generalize vs.length = n at *
    cases hv : vis t v with
    | true =>
      have e1 : vidx t (v :: vs) = 0 := by unfold vidx; rw [if_pos hv]
      have e2 : vdead t (v :: vs) = v.del := by simp [vdead, hv]
      rw [e1] at q
      rw [e2]
      have Q := Lib.hid q
      clear q e1 e2 hv
      go_enter Try.func61, Try.ntmps61
      go_wp2_with fail
      refine (Q.out).mono ?_
      rintro e w1 ⟨rfl, rfl⟩
      go_wp2
      go_ret
      exact ⟨rfl, rfl⟩
    | false =>
      have e1 : vidx t (v :: vs) = vidx t vs + 1 := by conv => lhs; unfold vidx
                                                       rw [if_neg (by simp [hv])]
      have e2 : vdead t (v :: vs) = false := by simp [vdead, hv]
      rw [e1] at q
      rw [e2]
      generalize vidx t vs = i at *
      have h0 : (((i + 1 : Nat) : Int) == 0) = false := by simp; omega
      have Q := Lib.hid q
      clear q e1 e2 hv
      go_enter Try.func61, Try.ntmps61
      go_wp2_with fail
      refine (Q.out).mono ?_
      rintro e w1 ⟨rfl, rfl⟩
      go_wp2
      go_ret
      exact ⟨rfl, rfl⟩
end
end Go.Proofs.Ytfgjanponijkhaa
