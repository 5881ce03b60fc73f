
/- Rows of cells: a store into one, Same at two. -/
import Derived.Test.YtlpdhhhgckpcfaaGreatCelSame
import Derived.Test.YtlpdhhhgckpcfaaGreatViewA
namespace Go.Proofs.YtlpdhhhgckpcfaaGreat
open Go.RowKit
set_option maxRecDepth 100000
theorem St.row_set {K : Know} {w : World} {F : List Comp} {g cap n size j : Nat} {T : TypeId} {xs : List Value} (h : St K w (rowC (.slice (some ⟨g, 0, none⟩) n cap) T size n xs :: F)) (u : Value) :
    St K (w.setCell ⟨g, j, none⟩ u) (rowC (.slice (some ⟨g, 0, none⟩) n cap) T size n (xs.set j u) :: F) := by
  refine h.chg1 (c' := rowC (.slice (some ⟨g, 0, none⟩) n cap) T size n (xs.set j u)) ((Chg.refl _ _).setCell (.inl (by simp [rowC, Value.ownBlock])) _) ?_ rfl
  obtain ⟨hl, k⟩ := h.head
  refine ⟨by rw [List.length_set]; exact hl, ?_⟩
  rcases k with ⟨hv, h0⟩ | ⟨g', cap', cur, hv, hB, hc, h1, h2, h3, h4⟩
  · cases hv
  · injection hv with e1 e2 e3
    injection e1 with e1
    injection e1 with e1
    subst e1 e3
    refine .inr ⟨g, cap, cur.setIfInBounds j u, rfl, hB, blk_set hc j u, h1, h2, by simpa using h3, ?_⟩
    rw [Array.toList_setIfInBounds, List.take_set, h4]
theorem set_same {α : Type} : ∀ {l : List α} {i : Nat} {a : α}, l[i]? = some a → l.set i a = l
  | [], _, _, h => by simp at h
  | b :: l, 0, a, h => by simp at h; subst h; rfl
  | b :: l, i + 1, a, h => by
    show b :: l.set i a = b :: l
    rw [set_same (by simpa using h)]
/-- One cell's number is changed. -/
theorem flat_set0 {L : List Cel} {i : Nat} {c : Cel} (h : L[i]? = some c) (n : Int) : (flat L).set (i * 3) (.int .u64 n) = flat (L.set i ⟨n, c.k, c.m⟩) := by
  obtain ⟨a, b, e⟩ := flat_at L i c h
  rw [← flat_set L i ⟨n, c.k, c.m⟩]
  rw [set_same (l := (flat L).set (i * 3) (.int .u64 n)) (i := i * 3 + 1) (a := .string c.k) (by rw [List.getElem?_set_ne (by omega)]; exact b)]
  rw [set_same (l := (flat L).set (i * 3) (.int .u64 n)) (i := i * 3 + 2) (a := .int .u64 c.m) (by rw [List.getElem?_set_ne (by omega)]; exact e)]
theorem St.row_free {K : Know} {w : World} {F : List Comp} {g cap n size : Nat} {T : TypeId} {xs : List Value} (h : St K w (rowC (.slice (some ⟨g, 0, none⟩) n cap) T size n xs :: F)) (hn : 0 < n) : ∀ k, w.frozen? ⟨g, k, none⟩ = false := by
  obtain ⟨g', cap', cur, hv, _, _, _, _, _, hs⟩ := h.row_open hn
  injection hv with e1 e2 e3
  injection e1 with e1
  injection e1 with e1
  subst e1
  exact hs.f0
theorem flat_one (L : List Cel) : ∀ u, u ∈ flat L → u.oneCell' = true := by
  intro u hu
  obtain ⟨c, _, hc⟩ := List.mem_flatMap.1 hu
  simp only [celV, List.mem_cons, List.not_mem_nil, or_false] at hc
  rcases hc with rfl | rfl | rfl <;> rfl
theorem St.row_cells {K : Know} {w : World} {F : List Comp} {g cap : Nat} {T : TypeId} {L : List Cel} (hl : L.length ≤ 1000000) (h : St K w (rowC (.slice (some ⟨g, 0, none⟩) L.length cap) T 3 L.length (flat L) :: F)) : VAt w g L := by
  refine ⟨h.lt (by simp [feet, rowC, Value.ownBlock]), hl, fun i c hc => ?_⟩
  obtain ⟨a, b, e⟩ := flat_at L i c hc
  exact ⟨h.row_cell a, h.row_cell b, h.row_cell e⟩
set_option maxHeartbeats 1000000 in
theorem same_cellsV (w : World) (g h cg ch : Nat) (X : List Cel) (hg : VAt w g X) (hh : VAt w h X) :
    Calls Tryz.prog 33 #[.slice (some ⟨g, 0, none⟩) X.length cg, .slice (some ⟨h, 0, none⟩) X.length ch] w fun e w' => e = .returned (.bool true) ∧ Below w.heap.size w w' := by
  obtain ⟨n, hn⟩ : ∃ n, n = X.length := ⟨_, rfl⟩
  have hX := hg.len
  rw [← hn] at hX ⊢
  have Hn := Lib.hid hn
  have Hg := Lib.hid hg
  have Hh := Lib.hid hh
  clear hn hg hh
  go_enter Tryz.func33, Tryz.ntmps33
  go_wp2
  go_loopw [5] (fun v wr => ∃ k : Nat, k ≤ n ∧ v = .int .i64 k ∧ Below w.heap.size w wr) (fun v _ => n - (intOf v).toNat)
  case atStart => exact ⟨0, by omega, rfl, Below.refl _ _⟩
  case round =>
    obtain ⟨k, hk, rfl, hb⟩ := hrel
    by_cases hlt : k < n
    · obtain ⟨c, hz⟩ : ∃ c, X[k]? = some c := ⟨_, getC_at (by rw [← Hn.out]; exact hlt)⟩
      obtain ⟨c0, c1, c2⟩ := (Hg.out.same hb).cell k c hz
      obtain ⟨d0, d1, d2⟩ := (Hh.out.same hb).cell k c hz
      have hq := neq_cell c.n c.m c.k
      clear hz
      go_upto_region 6 with (fail)
      refine region_pure (by kernel_rfl) (by kernel_rfl) ?_
      repeat (go_big_quiet_step (fail))
      refine wpQuiet_nil ?_
      intro w2 hb2
      have hb := hb.trans (hb2.mono hb.size)
      clear c0 c1 c2 d0 d1 d2 hq hb2
      go_wp2
      go_roundw
      case rel => exact ⟨k + 1, by omega, by go_num, hb⟩
      case measure => simp [intOf]; omega
    · obtain rfl : k = n := by omega
      go_wp2
      go_ret
      exact ⟨rfl, hb⟩
end Go.Proofs.YtlpdhhhgckpcfaaGreat
