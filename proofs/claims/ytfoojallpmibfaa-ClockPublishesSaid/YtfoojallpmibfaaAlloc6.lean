/- The machine clock.Allocate. -/
import Derived.Test.YtfoojallpmibfaaClock
import Derived.Test.YtfoojallpmibfaaTake
import Derived.Test.YtfoojallpmibfaaLaw3d
namespace Go.Proofs.Ytfoojallpmibfaa
open Go.RowKit
set_option maxRecDepth 100000

/-- An Allocate at ba that holds the Take at bt. -/
structure AllocAt (w : World) (ba bt : Nat) (lim : Int) (s : TakeS) : Prop where
  ha : w.heap[ba]? = some (.cells #[.pointer (some ⟨bt, 0, none⟩)] 101)
  ht : TakeAt w bt 1 lim s

theorem allocTime_any (w : World) (ba bt : Nat) (lim : Int) (s : TakeS) (h : AllocAt w ba bt lim s) (hs : s.ok = true → 0 ≤ s.seen ∧ s.seen < 18446744073709551615) :
    Calls Try.prog 63 #[.pointer (some ⟨ba, 0, none⟩)] w fun e w' => e = .returned (.tuple #[.int .u64 (if s.ok then s.seen + 1 else 0), .bool s.ok]) ∧ w = w' := by
  have k := blk_cell h.ha
  have hn := takeNumber_any w bt 1 lim s h.ht hs
  obtain ⟨n, hN⟩ : ∃ n, n = (if s.ok then s.seen + 1 else 0) := ⟨_, rfl⟩
  obtain ⟨o, hO⟩ : ∃ o, o = s.ok := ⟨_, rfl⟩
  simp only [← hN] at hn ⊢
  simp only [← hO] at hn ⊢
  clear hN hO hs h
  go_enter Try.func63, Try.ntmps63
  go_wp2_with fail
  refine hn.mono ?_
  rintro e w1 ⟨rfl, rfl⟩
  go_wp2
  go_ret2
  exact ⟨rfl, rfl⟩

theorem alloc_step (w : World) (ba bt bm bc : Nat) (lim acc : Int) (s : TakeS) (L : List Cel) (hA : AllocAt w ba bt lim s) (M : MemAt w bm bc L acc) (h0 : ba ≠ bt) (h1 : bt ≠ bm) (h2 : bt ≠ bc) (h3 : ba ≠ bm) (h4 : ba ≠ bc) (ha0 : 0 ≤ acc) (ha : acc ≤ 1000000000000) (hs : s.pc = 1 → 0 ≤ s.seen ∧ s.seen < 18446744073709551615) :
    Calls Try.prog 62 #[.pointer (some ⟨ba, 0, none⟩), .pointer (some ⟨bm, 0, none⟩)] w fun e w' => e = .returned (.bool (decide (2 ≤ (takeStep 1 lim L s).1.pc))) ∧ AllocAt w' ba bt lim (takeStep 1 lim L s).1 ∧ MemAt w' bm bc (takeStep 1 lim L s).2 (if 2 ≤ s.pc then acc else acc + 1) ∧ Chg [bt, bm, bc] w w' := by
  have k := blk_cell hA.ha
  have hstep := take_step w bt bm bc 1 lim acc s L hA.ht M h1 h2 ha0 ha hs
  have hk := Lib.hid hA.ha
  obtain ⟨v, hv⟩ : ∃ v, v = decide (2 ≤ (takeStep 1 lim L s).1.pc) := ⟨_, rfl⟩
  obtain ⟨s', hs'⟩ : ∃ s', s' = (takeStep 1 lim L s).1 := ⟨_, rfl⟩
  simp only [← hv] at hstep ⊢
  simp only [← hs'] at hstep ⊢
  obtain ⟨acc', ha'⟩ : ∃ a, a = (if 2 ≤ s.pc then acc else acc + 1) := ⟨_, rfl⟩
  simp only [← ha'] at hstep ⊢
  clear hv hs' hs hA ha'
  go_enter Try.func62, Try.ntmps62
  go_wp2_with fail
  refine hstep.mono ?_
  rintro e w1 ⟨rfl, hT, hM, hg⟩
  go_wp2
  go_ret
  exact ⟨rfl, ⟨hg.blk hk.out (by simp [h0, h3, h4]), hT⟩, hM, hg⟩
end Go.Proofs.Ytfoojallpmibfaa
