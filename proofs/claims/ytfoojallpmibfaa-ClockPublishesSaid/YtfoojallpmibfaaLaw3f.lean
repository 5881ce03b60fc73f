/- The walk of LayoutStarts. -/
import Derived.Test.YtfoojallpmibfaaStart
import Derived.Test.YtfoojallpmibfaaLaw3d
namespace Go.Proofs.Ytfoojallpmibfaa
open Go.RowKit

theorem getC_put {L : List Cel} {i j : Int} {c : Cel} (hi : 0 ≤ i) (hl : i < L.length) (hj : 0 ≤ j) : getC (putC L i c) j = if j = i then c else getC L j := by
  unfold getC putC
  rw [if_pos hi, if_pos hj, if_pos hj, List.getElem?_set]
  by_cases h : j = i
  · subst h
    rw [if_pos rfl, if_pos rfl, if_pos (by omega)]
    rfl
  · rw [if_neg (by omega), if_neg h]
theorem getC_zero {n : Nat} (j : Int) : getC (List.replicate n Cel.zero) j = Cel.zero := by
  unfold getC
  split
  · rw [List.getElem?_replicate]; split <;> rfl
  · rfl

theorem start_cells (d : Cfg) (hd : d.Ok) : (startL d).length = d.cells.toNat ∧ 10 ≤ d.node 1 2 ∧ ∀ k : Int, 0 ≤ k → getC (startL d) k = if k = d.node 1 2 then ⟨0, ⟨#[]⟩, 1⟩ else if k = 4 then ⟨1, ⟨#[]⟩, 0⟩ else if k = 0 then ⟨1, ⟨#[]⟩, 0⟩ else Cel.zero := by
  have h1 := hd.A_bd; have h2 := hd.B_bd; have h3 := hd.C_bd; have h4 := hd.cells_bd; have f1 := hd.fa1; have n1 := hd.no1
  have e : d.node 1 2 = d.A + 2 := by unfold Cfg.node; rw [if_pos (by omega)]; omega
  have h5 : d.A + 2 < d.cells := by
    have : 1 * (d.fa + 4) ≤ d.no * (d.fa + 4) := Int.mul_le_mul_of_nonneg_right n1 (by omega)
    have e2 : d.B = d.A + d.no * (d.fa + 4) := rfl
    omega
  refine ⟨by simp [startL, putC_length], by omega, fun k hk => ?_⟩
  unfold startL
  rw [getC_put (by omega) (by simp [putC_length]; omega) hk, getC_put (by omega) (by simp [putC_length]; omega) hk, getC_put (by omega) (by simp; omega) hk, getC_zero]

set_option maxRecDepth 100000 in
set_option maxHeartbeats 1000000 in
theorem layoutStarts_walk (c : Cfg) (h0 : 0 ≤ c.cl) (w : World) : Calls Try.prog 8 #[.agg #[.int .i64 c.th, .int .i64 c.sn, .int .i64 c.no, .int .i64 c.ch, .int .i64 c.re, .int .i64 c.fa, .int .u64 c.cl]] w fun e w' => e = .returned (.bool true) ∧ Below w.heap.size w w' := by
  obtain ⟨d, hs, hd⟩ : ∃ d : Cfg, (∀ w, Calls Try.prog 14 #[.agg #[.int .i64 c.th, .int .i64 c.sn, .int .i64 c.no, .int .i64 c.ch, .int .i64 c.re, .int .i64 c.fa, .int .u64 c.cl]] w fun e w' => e = .returned (.agg #[.int .i64 d.th, .int .i64 d.sn, .int .i64 d.no, .int .i64 d.ch, .int .i64 d.re, .int .i64 d.fa, .int .u64 d.cl]) ∧ Below w.heap.size w w') ∧ d.Ok := ⟨smallC c, small_any c h0, small_ok c⟩
  obtain ⟨p1, p2, p3⟩ := start_cells d hd
  have f1 := hd.fa1
  have hlen : ((startL d).length : Int) = d.cells := by have h1 := hd.A_bd; have h2 := hd.B_bd; have h3 := hd.C_bd; have h4 := hd.cells_bd; omega
  have Hlen := Lib.hid hlen
  have P3 := Lib.hid p3
  clear p1 p3 hlen
  go_enter Try.func8, Try.ntmps8
  go_wp2_with fail
  refine (hs _).mono ?_
  rintro e w1 ⟨rfl, hb1⟩
  go_wp2_with fail
  refine (start_yes d hd _).mono ?_
  rintro e w2 ⟨bm, bc, rfl, M2, hb2, g1, g2⟩
  obtain ⟨W, hW⟩ : ∃ W, W = w2.alloc (.cells #[.int .i64 d.th, .int .i64 d.sn, .int .i64 d.no, .int .i64 d.ch, .int .i64 d.re, .int .i64 d.fa, .int .u64 d.cl] 27) := ⟨_, rfl⟩
  have hz := hb1.size
  simp only [World.size_alloc] at hz g1 g2
  have A1 : W.heap[w1.heap.size]? = some (.cells #[.int .i64 d.th, .int .i64 d.sn, .int .i64 d.no, .int .i64 d.ch, .int .i64 d.re, .int .i64 d.fa, .int .u64 d.cl] 24) := by rw [hW]; exact blk_old (blk_same hb2 (blk_alloc w1 _)) _
  have A2 : W.heap[w2.heap.size]? = some (.cells #[.int .i64 d.th, .int .i64 d.sn, .int .i64 d.no, .int .i64 d.ch, .int .i64 d.re, .int .i64 d.fa, .int .u64 d.cl] 27) := by rw [hW]; exact blk_alloc w2 _
  have M : MemAt W bm bc (startL d) 0 := by rw [hW]; exact M2.alloc _
  have hB : Below w.heap.size w W := by
    have := hb2.size
    simp only [World.size_alloc] at this
    rw [hW]
    exact ((((Below.refl _ _).alloc (Nat.le_refl _) _).trans (hb1.mono (by simp))).alloc (by omega) _).trans (hb2.mono (by simp; omega)) |>.alloc (by omega) _
  go_upto_region 3 with (fail)
  rw [← hW]
  clear hW hb1 hb2 M2 hs hz g1 g2
  have k1 := blk_cell A1
  have k2 := blk_cell A2
  have Q : Hid (∀ w', (∃ x : Ext, w' = over W x) → Calls Try.prog 54 #[.pointer (some ⟨bm, 0, none⟩)] w' fun e w'' => e = .returned (.int .i64 d.cells) ∧ w' = w'') := by
    intro w' hx
    have := memCells_any w' bm bc _ _ (M.same (Pure.below hx))
    rwa [Hlen.out] at this
  refine region_pure (by kernel_rfl) (by as_aux_lemma => kernel_rfl) ?_
  repeat (go_big_quiet_step (first | (go_at_call 16; exact pure_of (awake_any _)) | (go_at_call 52; exact pure_of (config_any d _)) | (go_at_call 54; exact pure_of_same (Q.out _ ⟨_, rfl⟩)) | (go_at_call 29; exact pure_of (refCells_any d hd _)) | (go_at_call 46; exact pure_of_same (accesses_any _ bm bc _ _ (M.same (below_over _ _))))))
  refine wpQuiet_nil ?_
  intro w3 hb3
  have C1 := blk_same hb3 A1
  have M3 := M.same hb3
  have hB3 := hB.trans (hb3.mono hB.size)
  clear hb3 A1 A2 k1 k2 Q M hB
  go_wp2_with fail
  go_loopw [7] (fun vi wr => ∃ k : Nat, (k : Int) ≤ d.cells ∧ vi = .int .i64 k ∧ wr.heap[w1.heap.size]? = some (.cells #[.int .i64 d.th, .int .i64 d.sn, .int .i64 d.no, .int .i64 d.ch, .int .i64 d.re, .int .i64 d.fa, .int .u64 d.cl] 24) ∧ MemAt wr bm bc (startL d) 0 ∧ Below w.heap.size w wr) (fun vi _ => d.cells.toNat - (intOf vi).toNat)
  case atStart =>
    have h1 := hd.A_bd; have h2 := hd.B_bd; have h3 := hd.C_bd; have h4 := hd.cells_bd
    exact ⟨0, by omega, rfl, C1, M3, hB3⟩
  case round =>
    clear C1 M3 hB3
    obtain ⟨k, hk, rfl, C1, M, hB⟩ := hrel
    have hcb := hd.cells_bd
    go_wp2_with fail
    refine (memCells_any _ bm bc _ _ M).mono ?_
    rintro e w4 ⟨rfl, rfl⟩
    rw [Hlen.out]
    have k1 := blk_cell C1
    have hw1 := blk_lt C1
    by_cases hlt : (k : Int) < d.cells
    · have hq0 := P3.out (k : Int) (by omega)
      by_cases hk0 : (k : Int) = 0
      · have b0 : ((k : Int) == 0) = true := beq_iff_eq.2 hk0
        have HK := Lib.hid hk0
        clear hk0
        have hq : Hid (getC (startL d) (k : Int) = ⟨1, ⟨#[]⟩, 0⟩) := Lib.hid (by rw [hq0]; rw [if_neg (by have := HK.out; omega), if_neg (by have := HK.out; omega), if_pos HK.out])
        clear hq0
        have MM := M.alloc (.cells #[.int .u64 1, .string ⟨#[]⟩, .int .u64 0] 51)
        have D1 := blk_old C1 (.cells #[.int .u64 1, .string ⟨#[]⟩, .int .u64 0] 51)
        have hBW := hB.alloc hB.size (.cells #[.int .u64 1, .string ⟨#[]⟩, .int .u64 0] 51)
        have hpk : ∀ w', (∃ x : Ext, w' = over (wr.alloc (.cells #[.int .u64 1, .string ⟨#[]⟩, .int .u64 0] 51)) x) → Calls Try.prog 47 #[.pointer (some ⟨bm, 0, none⟩), .int .i64 (k : Int)] w' fun e w'' => e = .returned (.agg #[.int .u64 1, .string ⟨#[]⟩, .int .u64 0]) ∧ Below w'.heap.size w' w'' := by
          intro w' hx
          have := peek_any w' bm bc _ _ (k : Int) (MM.same (Pure.below hx))
          rwa [hq.out] at this
        have Hpk := Lib.hid hpk
        clear hpk
        go_upto_region 15 with (fail)
        refine region_pure (by kernel_rfl) (by as_aux_lemma => kernel_rfl) ?_
        repeat (go_big_quiet_step ((go_at_call 47; exact pure_of (Hpk.out _ ⟨_, rfl⟩))))
        refine wpQuiet_nil ?_
        intro w6 hb6
        go_wp2
        go_roundw
        case rel => exact ⟨k + 1, by omega, by go_num, blk_same hb6 D1, MM.same hb6, hBW.trans (hb6.mono hBW.size)⟩
        case measure => simp [intOf]; omega
      have b0 : ((k : Int) == 0) = false := beq_eq_false_iff_ne.2 hk0
      by_cases hk4 : (k : Int) = 4
      · have b4 : ((k : Int) == 4) = true := beq_iff_eq.2 hk4
        have HK := Lib.hid hk4
        clear hk4 hk0
        have hq : Hid (getC (startL d) (k : Int) = ⟨1, ⟨#[]⟩, 0⟩) := Lib.hid (by rw [hq0]; rw [if_neg (by have := HK.out; omega), if_pos HK.out])
        clear hq0
        have MM := M.alloc (.cells #[.int .u64 1, .string ⟨#[]⟩, .int .u64 0] 51)
        have D1 := blk_old C1 (.cells #[.int .u64 1, .string ⟨#[]⟩, .int .u64 0] 51)
        have hBW := hB.alloc hB.size (.cells #[.int .u64 1, .string ⟨#[]⟩, .int .u64 0] 51)
        have hpk : ∀ w', (∃ x : Ext, w' = over (wr.alloc (.cells #[.int .u64 1, .string ⟨#[]⟩, .int .u64 0] 51)) x) → Calls Try.prog 47 #[.pointer (some ⟨bm, 0, none⟩), .int .i64 (k : Int)] w' fun e w'' => e = .returned (.agg #[.int .u64 1, .string ⟨#[]⟩, .int .u64 0]) ∧ Below w'.heap.size w' w'' := by
          intro w' hx
          have := peek_any w' bm bc _ _ (k : Int) (MM.same (Pure.below hx))
          rwa [hq.out] at this
        have Hpk := Lib.hid hpk
        clear hpk
        go_upto_region 15 with (fail)
        refine region_pure (by kernel_rfl) (by as_aux_lemma => kernel_rfl) ?_
        repeat (go_big_quiet_step ((go_at_call 47; exact pure_of (Hpk.out _ ⟨_, rfl⟩))))
        refine wpQuiet_nil ?_
        intro w6 hb6
        go_wp2
        go_roundw
        case rel => exact ⟨k + 1, by omega, by go_num, blk_same hb6 D1, MM.same hb6, hBW.trans (hb6.mono hBW.size)⟩
        case measure => simp [intOf]; omega
      have b4 : ((k : Int) == 4) = false := beq_eq_false_iff_ne.2 hk4
      by_cases hkn : (k : Int) = d.node 1 2
      · skip
        have bn : ((k : Int) == d.node 1 2) = true := beq_iff_eq.2 hkn
        have hq : Hid (getC (startL d) (k : Int) = ⟨0, ⟨#[]⟩, 1⟩) := Lib.hid (by rw [hq0]; rw [if_pos hkn])
        clear hq0 hk0 hk4 hkn
        have M1 := M.alloc (.cells #[.int .u64 0, .string ⟨#[]⟩, .int .u64 0] 51)
        have C2 := blk_old C1 (.cells #[.int .u64 0, .string ⟨#[]⟩, .int .u64 0] 51)
        have E2 := blk_alloc wr (.cells #[.int .u64 0, .string ⟨#[]⟩, .int .u64 0] 51)
        have hne : w1.heap.size ≠ wr.heap.size := by omega
        go_wp2_with fail
        refine (refNode_any d hd 1 2 (by omega) (by omega) (by omega) (by omega) _).mono ?_
        rintro e w5 ⟨rfl, hb5⟩
        have hB5 := (hB.alloc hB.size _).trans (hb5.mono (by have := hB.size; simp; omega))
        have M5 := M1.same hb5
        have C5 := blk_same hb5 C2
        have E5 := blk_same hb5 E2
        clear hb5 M1 C2 E2 k1 hne
        have ke := blk_cell E5
        have kf := blk_frozen E5
        have hbc : bm ≠ wr.heap.size ∧ bc ≠ wr.heap.size := ⟨by have := M.lt.1; omega, by have := M.lt.2; omega⟩
        go_upto_region 15 with (fail)
        clear ke kf
        obtain ⟨W, hW⟩ : ∃ W, W = w5.setCell ⟨wr.heap.size, 2, none⟩ (.int .u64 1) := ⟨_, rfl⟩
        have MM : MemAt W bm bc (startL d) 0 := by rw [hW]; exact M5.keep (S := [wr.heap.size]) ((Chg.refl _ _).setCell (.inl (by simp)) _) (by simp [hbc.1]) (by simp [hbc.2])
        have D1 : W.heap[w1.heap.size]? = some (.cells #[.int .i64 d.th, .int .i64 d.sn, .int .i64 d.no, .int .i64 d.ch, .int .i64 d.re, .int .i64 d.fa, .int .u64 d.cl] 24) := by rw [hW]; exact blk_set_other C5 (by omega) _ _
        have E6 : W.heap[wr.heap.size]? = some (.cells #[.int .u64 0, .string ⟨#[]⟩, .int .u64 1] 51) := by rw [hW]; simpa using blk_set E5 2 (.int .u64 1)
        have hBW : Below w.heap.size w W := by rw [hW]; exact hB5.setCell hB.size _
        rw [← hW]
        clear hW M5 C5 E5 hB5
        have ke := blk_cell E6
        have hpk : ∀ w', (∃ x : Ext, w' = over (W) x) → Calls Try.prog 47 #[.pointer (some ⟨bm, 0, none⟩), .int .i64 (k : Int)] w' fun e w'' => e = .returned (.agg #[.int .u64 0, .string ⟨#[]⟩, .int .u64 1]) ∧ Below w'.heap.size w' w'' := by
          intro w' hx
          have := peek_any w' bm bc _ _ (k : Int) (MM.same (Pure.below hx))
          rwa [hq.out] at this
        have Hpk := Lib.hid hpk
        clear hpk
        refine region_pure (by kernel_rfl) (by as_aux_lemma => kernel_rfl) ?_
        repeat (go_big_quiet_step ((go_at_call 47; exact pure_of (Hpk.out _ ⟨_, rfl⟩))))
        refine wpQuiet_nil ?_
        intro w6 hb6
        go_wp2
        go_roundw
        case rel => exact ⟨k + 1, by omega, by go_num, blk_same hb6 D1, MM.same hb6, hBW.trans (hb6.mono hBW.size)⟩
        case measure => simp [intOf]; omega
      · skip
        have bn : ((k : Int) == d.node 1 2) = false := beq_eq_false_iff_ne.2 hkn
        have hq : Hid (getC (startL d) (k : Int) = ⟨0, ⟨#[]⟩, 0⟩) := Lib.hid (by rw [hq0]; rw [if_neg hkn, if_neg hk4, if_neg hk0]; rfl)
        clear hq0 hk0 hk4 hkn
        have M1 := M.alloc (.cells #[.int .u64 0, .string ⟨#[]⟩, .int .u64 0] 51)
        have C2 := blk_old C1 (.cells #[.int .u64 0, .string ⟨#[]⟩, .int .u64 0] 51)
        have E2 := blk_alloc wr (.cells #[.int .u64 0, .string ⟨#[]⟩, .int .u64 0] 51)
        have hne : w1.heap.size ≠ wr.heap.size := by omega
        go_wp2_with fail
        refine (refNode_any d hd 1 2 (by omega) (by omega) (by omega) (by omega) _).mono ?_
        rintro e w5 ⟨rfl, hb5⟩
        have hB5 := (hB.alloc hB.size _).trans (hb5.mono (by have := hB.size; simp; omega))
        have M5 := M1.same hb5
        have C5 := blk_same hb5 C2
        have E5 := blk_same hb5 E2
        clear hb5 M1 C2 E2 k1 hne
        have ke := blk_cell E5
        have kf := blk_frozen E5
        have hbc : bm ≠ wr.heap.size ∧ bc ≠ wr.heap.size := ⟨by have := M.lt.1; omega, by have := M.lt.2; omega⟩
        go_upto_region 15 with (fail)
        clear ke kf
        have MM := M5
        have D1 := C5
        have E6 := E5
        have hBW := hB5
        clear M5 C5 E5 hB5
        have ke := blk_cell E6
        have hpk : ∀ w', (∃ x : Ext, w' = over (w5) x) → Calls Try.prog 47 #[.pointer (some ⟨bm, 0, none⟩), .int .i64 (k : Int)] w' fun e w'' => e = .returned (.agg #[.int .u64 0, .string ⟨#[]⟩, .int .u64 0]) ∧ Below w'.heap.size w' w'' := by
          intro w' hx
          have := peek_any w' bm bc _ _ (k : Int) (MM.same (Pure.below hx))
          rwa [hq.out] at this
        have Hpk := Lib.hid hpk
        clear hpk
        refine region_pure (by kernel_rfl) (by as_aux_lemma => kernel_rfl) ?_
        repeat (go_big_quiet_step ((go_at_call 47; exact pure_of (Hpk.out _ ⟨_, rfl⟩))))
        refine wpQuiet_nil ?_
        intro w6 hb6
        go_wp2
        go_roundw
        case rel => exact ⟨k + 1, by omega, by go_num, blk_same hb6 D1, MM.same hb6, hBW.trans (hb6.mono hBW.size)⟩
        case measure => simp [intOf]; omega
    · go_wp2
      go_ret
      exact ⟨rfl, hB⟩
end Go.Proofs.Ytfoojallpmibfaa
