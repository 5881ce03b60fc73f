/- The contracts of the memory's functions (layer 2), second part: Swap, Store, New. -/
import Derived.Test.YtfgjanponijkhaaMem
import Derived.Laws.MakeOwn
namespace Go.Proofs.Ytfgjanponijkhaa
open Go.RowKit

/-- What Swap finds. -/
def swapOk (L : List Cel) (i old : Int) : Bool := decide (0 ≤ i) && decide (i < L.length) && decide ((getC L i).n = old)

theorem swap_out (w : World) (bm bc : Nat) (L : List Cel) (acc i old : Int) (c : Cel) (h : MemAt w bm bc L acc) (ha0 : 0 ≤ acc) (ha : acc ≤ 1000000000000) (hi : i < 0 ∨ L.length ≤ i) :
    Calls Try.prog 202 #[.pointer (some ⟨bm, 0, none⟩), .int .i64 i, .int .u64 old, .agg #[.int .u64 c.n, .string c.k, .int .u64 c.m]] w fun e w' => e = .returned (.bool false) ∧ MemAt w' bm bc (L) (acc + 1) ∧ Chg [bm, bc] w w' := by
  obtain ⟨hb1, hb2⟩ := h.lt
  have km := blk_cell h.hm
  have kf := h.free.1
  have b1 : bm ≠ w.heap.size := by omega
  have h1 := (h.count (acc + 1)).alloc (.cells #[.int .u64 c.n, .string c.k, .int .u64 c.m] 41)
  go_enter Try.func202, Try.ntmps202
  go_wp2_with fail
  refine (has_no _ bm bc L (acc + 1) i h1 hi).mono ?_
  rintro e w1 ⟨rfl, rfl⟩
  clear km kf
  go_wp2
  go_ret
  exact ⟨rfl, h1, ((Chg.refl _ _).setCell (.inl (by simp)) _).alloc _⟩

theorem swap_no (w : World) (bm bc : Nat) (L : List Cel) (acc : Int) (i : Nat) (old : Int) (c d : Cel) (h : MemAt w bm bc L acc) (ha0 : 0 ≤ acc) (ha : acc ≤ 1000000000000) (hi : L[i]? = some d) (hd : (d.n != old) = true) :
    Calls Try.prog 202 #[.pointer (some ⟨bm, 0, none⟩), .int .i64 i, .int .u64 old, .agg #[.int .u64 c.n, .string c.k, .int .u64 c.m]] w fun e w' => e = .returned (.bool false) ∧ MemAt w' bm bc (L) (acc + 1) ∧ Chg [bm, bc] w w' := by
  obtain ⟨hb1, hb2⟩ := h.lt
  have hl := h.len
  have hlt : i < L.length := (List.getElem?_eq_some_iff.1 hi).1
  have km := blk_cell h.hm
  have kf := h.free.1
  have b1 : bm ≠ w.heap.size := by omega
  have h1 := (h.count (acc + 1)).alloc (.cells #[.int .u64 c.n, .string c.k, .int .u64 c.m] 41)
  have Hi := Lib.hid hi
  clear hi
  go_enter Try.func202, Try.ntmps202
  go_wp2_with fail
  refine (has_yes _ bm bc L (acc + 1) i h1 (by omega) (by omega)).mono ?_
  rintro e w1 ⟨rfl, rfl⟩
  obtain ⟨c0, c1, c2⟩ := h1.cell Hi.out
  have km' := blk_cell h1.hm
  clear km kf c1 c2
  go_wp2
  go_ret
  exact ⟨rfl, h1, ((Chg.refl _ _).setCell (.inl (by simp)) _).alloc _⟩

theorem swap_yes (w : World) (bm bc : Nat) (L : List Cel) (acc : Int) (i : Nat) (old : Int) (c d : Cel) (h : MemAt w bm bc L acc) (ha0 : 0 ≤ acc) (ha : acc ≤ 1000000000000) (hi : L[i]? = some d) (hd : (d.n != old) = false) :
    Calls Try.prog 202 #[.pointer (some ⟨bm, 0, none⟩), .int .i64 i, .int .u64 old, .agg #[.int .u64 c.n, .string c.k, .int .u64 c.m]] w fun e w' => e = .returned (.bool true) ∧ MemAt w' bm bc (L.set i c) (acc + 1) ∧ Chg [bm, bc] w w' := by
  obtain ⟨hb1, hb2⟩ := h.lt
  have hl := h.len
  have hlt : i < L.length := (List.getElem?_eq_some_iff.1 hi).1
  have km := blk_cell h.hm
  have kf := h.free.1
  have b1 : bm ≠ w.heap.size := by omega
  have h1 := (h.count (acc + 1)).alloc (.cells #[.int .u64 c.n, .string c.k, .int .u64 c.m] 41)
  have B0 := blk_alloc (w.setCell ⟨bm, 1, none⟩ (.int .u64 (acc + 1))) (.cells #[.int .u64 c.n, .string c.k, .int .u64 c.m] 41)
  rw [World.size_setCell] at B0
  have Hi := Lib.hid hi
  clear hi
  go_enter Try.func202, Try.ntmps202
  go_wp2_with fail
  refine (has_yes _ bm bc L (acc + 1) i h1 (by omega) (by omega)).mono ?_
  rintro e w1 ⟨rfl, rfl⟩
  obtain ⟨c0, c1, c2⟩ := h1.cell Hi.out
  have km' := blk_cell h1.hm
  clear km kf c1 c2
  go_upto_region 4 with (fail)
  clear c0 km'
  obtain ⟨W, hW⟩ : ∃ W, W = (w.setCell ⟨bm, 1, none⟩ (.int .u64 (acc + 1))).alloc (.cells #[.int .u64 c.n, .string c.k, .int .u64 c.m] 41) := ⟨_, rfl⟩
  have hg : Chg [bm, bc] w W := by rw [hW]; exact ((Chg.refl _ _).setCell (.inl (by simp)) _).alloc _
  rw [← hW] at h1 B0 ⊢
  clear hW h b1
  have km := blk_cell h1.hm
  have k0 := blk_cell B0
  refine region_tail 7 (by kernel_rfl) (by as_aux_lemma => kernel_rfl) ?_
  simp only [List.take_succ_cons, List.take_zero, List.drop_succ_cons, List.drop_zero]
  repeat (go_big_quiet_step (fail))
  refine wpQuiet_nil ?_
  intro w2 hb
  have h2 := h1.same hb
  have hg2 := hg.trans (Chg.of_below hb)
  clear km k0 B0 h1 hg hb
  obtain ⟨c0, c1, c2⟩ := h2.cell Hi.out
  have kf := h2.free.2
  go_wp2
  go_ret
  exact ⟨rfl, h2.store i c, ((hg2.setCell (.inl (by simp)) _).setCell (.inl (by simp)) _).setCell (.inl (by simp)) _⟩

theorem getC_at {L : List Cel} {n : Nat} (hn : n < L.length) : L[n]? = some (getC L n) := by
  unfold getC
  rw [if_pos (by omega)]
  simp [hn]

theorem swap_any (w : World) (bm bc : Nat) (L : List Cel) (acc i old : Int) (c : Cel) (h : MemAt w bm bc L acc) (ha0 : 0 ≤ acc) (ha : acc ≤ 1000000000000) :
    Calls Try.prog 202 #[.pointer (some ⟨bm, 0, none⟩), .int .i64 i, .int .u64 old, .agg #[.int .u64 c.n, .string c.k, .int .u64 c.m]] w fun e w' => e = .returned (.bool (swapOk L i old)) ∧ MemAt w' bm bc (if swapOk L i old then putC L i c else L) (acc + 1) ∧ Chg [bm, bc] w w' := by
  by_cases h1 : 0 ≤ i ∧ i < L.length
  · obtain ⟨n, rfl⟩ := Int.eq_ofNat_of_zero_le h1.1
    have hn : n < L.length := by omega
    by_cases hd : (getC L n).n = old
    · have e : swapOk L n old = true := by simp [swapOk, hd]; omega
      rw [e, if_pos rfl]
      exact swap_yes w bm bc L acc n old c _ h ha0 ha (getC_at hn) (by simp [hd])
    · have e : swapOk L n old = false := by simp [swapOk, hd]
      rw [e]
      exact swap_no w bm bc L acc n old c _ h ha0 ha (getC_at hn) (by simp [hd])
  · have e : swapOk L i old = false := by
      simp only [swapOk, Bool.and_eq_false_iff, decide_eq_false_iff_not]
      left
      omega
    rw [e]
    exact swap_out w bm bc L acc i old c h ha0 ha (by omega)

theorem poke_any (w : World) (bm bc : Nat) (L : List Cel) (acc i : Int) (c : Cel) (h : MemAt w bm bc L acc) :
    Calls Try.prog 23 #[.pointer (some ⟨bm, 0, none⟩), .int .i64 i, .agg #[.int .u64 c.n, .string c.k, .int .u64 c.m]] w fun e w' => e = .returned (.tuple #[]) ∧ MemAt w' bm bc (putC L i c) (acc) ∧ Chg [bc] w w' := by
  by_cases h1 : 0 ≤ i ∧ i < L.length
  · obtain ⟨n, rfl⟩ := Int.eq_ofNat_of_zero_le h1.1
    exact poke_yes w bm bc L acc n c h (by omega)
  · have e : putC L i c = L := by
      unfold putC
      by_cases h2 : 0 ≤ i
      · rw [if_pos h2, List.set_eq_of_length_le (by omega)]
      · rw [if_neg h2]
    rw [e]
    exact poke_no w bm bc L acc i c h (by omega)

theorem store_any (w : World) (bm bc : Nat) (L : List Cel) (acc i : Int) (c : Cel) (h : MemAt w bm bc L acc) (ha0 : 0 ≤ acc) (ha : acc ≤ 1000000000000) :
    Calls Try.prog 154 #[.pointer (some ⟨bm, 0, none⟩), .int .i64 i, .agg #[.int .u64 c.n, .string c.k, .int .u64 c.m]] w fun e w' => e = .returned (.tuple #[]) ∧ MemAt w' bm bc (putC L i c) (acc + 1) ∧ Chg [bm, bc] w w' := by
  obtain ⟨hb1, hb2⟩ := h.lt
  have km := blk_cell h.hm
  have kf := h.free.1
  have b1 : bm ≠ w.heap.size := by omega
  have h1 := (h.count (acc + 1)).alloc (.cells #[.int .u64 c.n, .string c.k, .int .u64 c.m] 41)
  go_enter Try.func154, Try.ntmps154
  go_wp2_with fail
  refine (poke_any _ bm bc L (acc + 1) i c h1).mono ?_
  rintro e w1 ⟨rfl, h2, hg⟩
  clear km kf
  go_wp2
  go_end0
  exact ⟨rfl, h2, (((Chg.refl _ _).setCell (.inl (by simp)) _).alloc _).trans (hg.mono (by simp))⟩

theorem flat_zero (n : Nat) : madeCells #[.int .u64 0, .string ⟨#[]⟩, .int .u64 0] (n * 3) = (flat (List.replicate n Cel.zero)).toArray := by
  apply Array.ext_getElem?
  intro k
  by_cases hk : k < n * 3
  · have h1 := flat_at (List.replicate n Cel.zero) (k / 3) Cel.zero (by rw [List.getElem?_replicate, if_pos (by omega)])
    have hm : k % 3 = 0 ∨ k % 3 = 1 ∨ k % 3 = 2 := by omega
    have e : (madeCells #[.int .u64 0, .string ⟨#[]⟩, .int .u64 0] (n * 3))[k]? = some (#[.int .u64 0, .string ⟨#[]⟩, .int .u64 0][k % 3]!) := by
      simp [madeCells, hk]
    rw [e]
    simp only [List.getElem?_toArray]
    rcases hm with h | h | h
    · rw [show k = k / 3 * 3 by omega, h1.1]; simp [Cel.zero]
    · rw [show k = k / 3 * 3 + 1 by omega, h1.2.1]; simp [Cel.zero]
    · rw [show k = k / 3 * 3 + 2 by omega, h1.2.2]; simp [Cel.zero]
  · rw [Array.getElem?_eq_none (by simp [madeCells]; omega), Array.getElem?_eq_none (by simp [flat_length]; omega)]

theorem infoCell : (Try.prog.info? 41).map (fun i => (i.zero, i.size, i.bytes)) = some (some (.agg #[.int .u64 0, .string ⟨#[]⟩, .int .u64 0]), 3, 32) := by kernel_rfl

theorem memNew_any (w : World) (n : Nat) (h1 : 1 ≤ n) (h2 : n ≤ 1048576) :
    Calls Try.prog 147 #[.int .i64 n] w fun e w' => e = .returned (.tuple #[.pointer (some ⟨(w.heap.size + 1), 0, none⟩), .int .i64 0]) ∧ MemAt w' (w.heap.size + 1) w.heap.size (List.replicate n Cel.zero) 0 ∧ Below w.heap.size w w' ∧ w'.heap.size = w.heap.size + 2 := by
  have hmk : ∀ w, (Instr.makeSlice 103 (.int .i64 n) (.int .i64 n)).run Try.prog w = .ok (.slice (some ⟨w.heap.size, 0, none⟩) n n) (w.alloc (.cells (flat (List.replicate n Cel.zero)).toArray 41)) := by
    intro w
    obtain ⟨i, hi, hz, h3, hby⟩ := info_parts infoCell
    have := run_make w 103 41 i _ Try.underlying103 hi hz .i64 .i64 (n : Int) n (by omega) (by omega) (by rw [hby]; omega) (by omega)
    rw [this, h3, Int.toNat_natCast, show (Value.agg #[.int .u64 0, .string ⟨#[]⟩, .int .u64 0]).cells = #[.int .u64 0, .string ⟨#[]⟩, .int .u64 0] from rfl, flat_zero]
  go_enter Try.func147, Try.ntmps147
  go_wp2
  go_ret2
  refine ⟨rfl, ⟨?_, ?_, by omega, by simpa using h2⟩, ((Below.refl _ _).alloc (Nat.le_refl _) _).alloc (by simp) _, by simp⟩
  · have := blk_alloc (w.alloc (.cells (flat (List.replicate n Cel.zero)).toArray 41)) (.cells #[.slice (some ⟨w.heap.size, 0, none⟩) n n, .int .u64 0] 153)
    simpa using this
  · exact blk_old (blk_alloc _ _) _
end Go.Proofs.Ytfgjanponijkhaa
