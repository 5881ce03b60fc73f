/- The machine clock.Now: its step. -/
import Derived.Test.YtfoojallpmibfaaClock
namespace Go.Proofs.Ytfoojallpmibfaa
open Go.RowKit
set_option maxRecDepth 100000

set_option maxHeartbeats 3000000 in
theorem nowRun_any (w : World) (bt bl bn bm bc : Nat) (c : Cfg) (time acc : Int) (pc : Nat) (L : List Cel) (h : NowAt w bt bl bn c time pc) (M : MemAt w bm bc L acc) (h1 : bt ≠ bm) (h2 : bt ≠ bc) (h3 : bn ≠ bm) (ha0 : 0 ≤ acc) (ha : acc ≤ 1000000000000) :
    Calls Try.prog 85 #[.pointer (some ⟨bm, 0, none⟩), .pointer (some ⟨bl, 0, none⟩), .pointer (some ⟨bn, 0, none⟩)] w fun e w' => e = .returned .nilFunc ∧ w'.heap[bt]? = some (.cells #[nowPc bl bn pc, .bool true, .int .u64 (getC L 2).n] 105) ∧ MemAt w' bm bc L (acc + 1) ∧ Chg [bt, bm] w w' := by
  obtain ⟨ht, hl, hn⟩ := h
  have kl := blk_cell hl
  have kn := blk_cell hn
  go_enter Try.func85, Try.ntmps85
  go_wp2
  go_region_with (first | (go_at_call 32; refine (published_any c _).mono ?_; rintro e w1 ⟨rfl, hb⟩; have T1 := blk_same hb (show w.drew.heap[bt]? = _ from ht); have N1 := blk_same hb (show w.drew.heap[bn]? = _ from hn); have k1n := blk_cell N1; have M1 := M.drew.same hb) | (go_at_call 86; refine (load_any _ bm bc L acc 2 M1 ha0 ha).mono ?_; rintro e w2 ⟨rfl, M2, hg⟩; have T2 := hg.blk T1 (by simp [h1]); have k2n := blk_cell (hg.blk N1 (by simp [h3])); have k2 := blk_cell T2; have f2 := blk_frozen T2))
  all_goals
    go_wp2
    go_ret
    refine ⟨rfl, ?_, M2.keep (S := [bt]) ((Chg.refl _ _).setCell (.inl (by simp)) _) (by simp [Ne.symm h1]) (by simp [Ne.symm h2]), ?_⟩
    · have := blk_set T2 2 (.int .u64 (getC L 2).n)
      simpa using this
    · exact ((((Chg.refl _ _).drew.trans (Chg.of_below hb)).trans (hg.mono (by simp))).setCell (.inl (by simp)) _)

/-- The only step of Now. -/
theorem now_step0 (w : World) (bt bl bn bm bc : Nat) (c : Cfg) (time acc : Int) (L : List Cel) (h : NowAt w bt bl bn c time 0) (M : MemAt w bm bc L acc) (h1 : bt ≠ bm) (h2 : bt ≠ bc) (h3 : bn ≠ bm) (h4 : bl ≠ bm) (h5 : bl ≠ bt) (h6 : bn ≠ bt) (ha0 : 0 ≤ acc) (ha : acc ≤ 1000000000000) :
    Calls Try.prog 69 #[.pointer (some ⟨bt, 0, none⟩), .pointer (some ⟨bm, 0, none⟩)] w fun e w' => e = .returned (.bool true) ∧ NowAt w' bt bl bn c (getC L 2).n 1 ∧ MemAt w' bm bc L (acc + 1) ∧ Chg [bt, bm] w w' := by
  have hc := blk_cell h.ht 0
  have hcall := nowRun_any w bt bl bn bm bc c time acc 0 L h M h1 h2 h3 ha0 ha
  have hl := h.hl
  have hn := h.hn
  go_enter Try.func69, Try.ntmps69
  go_wp2_with fail
  refine (runStep_end2 w bt bm _ _ _ enters_now hc hcall (fun w1 hR => ⟨_, _, _, hR.1, rfl⟩)).mono ?_
  rintro e w' ⟨rfl, w1, ⟨hb, hM, hg⟩, rfl⟩
  go_wp2
  go_ret
  refine ⟨rfl, ⟨?_, blk_set_other (hg.blk hl (by simp [h4, h5])) h5 _ _, blk_set_other (hg.blk hn (by simp [h3, h6])) h6 _ _⟩, hM.keep (S := [bt]) ((Chg.refl _ _).setCell (.inl (by simp)) _) (by simp [Ne.symm h1]) (by simp [Ne.symm h2]), hg.setCell (.inl (by simp)) _⟩
  have := blk_set hb 0 .nilFunc
  simpa [nowPc] using this

/-- A step of Now that has finished. -/
theorem now_step1 (w : World) (bt bl bn bm : Nat) (c : Cfg) (time : Int) (h : NowAt w bt bl bn c time 1) :
    Calls Try.prog 69 #[.pointer (some ⟨bt, 0, none⟩), .pointer (some ⟨bm, 0, none⟩)] w fun e w' => e = .returned (.bool true) ∧ w = w' := by
  have hc := blk_cell h.ht 0
  go_enter Try.func69, Try.ntmps69
  go_wp2_with fail
  refine (runStep_done w bt bm hc).mono ?_
  rintro e w' ⟨rfl, rfl⟩
  go_wp2
  go_ret
  exact ⟨rfl, rfl⟩
end Go.Proofs.Ytfoojallpmibfaa
