
/- blinktreecells.View: counters, chains, sound, Sound: a tree that is sound. -/
import Derived.Test.YtlpdhhhgckpcfaaGreatSoundA
import Derived.Test.YtlpdhhhgckpcfaaGreatTreePut
import Derived.Test.YtlpdhhhgckpcfaaGreatLaw11b
namespace Go.Proofs.YtlpdhhhgckpcfaaGreat
open Go.RowKit
set_option maxRecDepth 100000
section
variable {K : Know} {w : World} {F : List Comp} {a : Option Addr} {n cap : Nat} {sl : List Sl} {lev ri fa : Int} {hi : ByteArray}
theorem asc7_any (hn : n = sl.length) (hb : n ≤ 1000000) (hasc : Asc sl) (w : World) (h : SlAt w a sl) :
    Calls Tryz.prog 156 #[.slice a n cap] w fun e w' => e = .returned (.bool true) ∧ Below w.heap.size w w' := by
  have H := Lib.hid h
  have Hn := Lib.hid hn
  have Ha := Lib.hid hasc
  clear hn hasc h
  go_enter Tryz.func156, Tryz.ntmps156
  go_wp2
  go_loopw [3] (fun v wr => ∃ i : Nat, v = .int .i64 (i + 1) ∧ i ≤ n ∧ Hid (Below w.heap.size w wr)) (fun v _ => n + 2 - (intOf v).toNat)
  case atStart => exact ⟨0, rfl, by omega, Lib.hid (Below.refl _ _)⟩
  case round =>
    obtain ⟨i, rfl, hi, HB⟩ := hrel
    by_cases hin : i + 1 < n
    · obtain ⟨x, hx⟩ : ∃ x, sl[i]? = some x := ⟨_, List.getElem?_eq_getElem (by have := Hn.out; omega)⟩
      obtain ⟨y, hy⟩ : ∃ y, sl[i + 1]? = some y := ⟨_, List.getElem?_eq_getElem (by have := Hn.out; omega)⟩
      have hlt := asc_lt Ha.out hx hy (by omega)
      have H2 := H.out.same HB.out
      obtain ⟨g, off, rfl, _, cx, _⟩ := H2.2 i x hx
      obtain ⟨g2, off2, e2, _, cy, _⟩ := H2.2 (i + 1) y hy
      simp only [Option.some.injEq, Addr.mk.injEq, and_true] at e2
      obtain ⟨rfl, rfl⟩ := e2
      have q1 := klt_asymm hlt
      have q2 : (y.k.toList == x.k.toList) = false := by
        cases e : (y.k.toList == x.k.toList) with
        | false => rfl
        | true =>
          have : y.k = x.k := key_ext (by simpa using e)
          rw [this, klt_irrefl] at hlt; cases hlt
      have hin2 : ((i : Int) + 1) < n := by omega
      have e0 : ((i : Int) + 1) - 1 = i := by omega
      clear H2 hx hy hlt
      go_upto_region 4 with (fail)
      refine region_pure (by kernel_rfl) (by kernel_rfl) ?_
      repeat (go_big_quiet_step (fail))
      refine wpQuiet_nil ?_
      intro w2 hb2
      clear cx cy
      go_wp2
      go_roundw
      case rel => exact ⟨i + 1, by go_num, by omega, Lib.hid (HB.out.trans (hb2.mono HB.out.size))⟩
      case measure => simp [intOf]; omega
    · have hin2 : ¬ (((i : Int) + 1) < n) := by omega
      go_wp2
      go_ret
      exact ⟨rfl, HB.out⟩
/- P7.1. -/

set_option maxHeartbeats 4000000 in
theorem check7_true (hlev : 0 ≤ lev ∧ lev < 1000000) (hn : n = sl.length) (hfa : (n : Int) ≤ fa ∧ fa ≤ 1000000) (h1 : 0 < lev → 0 < n) (hasc : Asc sl) (hrf : ∀ s, s ∈ sl → 1 ≤ s.r) (hhi : hi = ⟨#[]⟩) (hri : ri = 0) (w : World) (h : SlAt w a sl) :
    Calls Tryz.prog 126 #[.agg #[.int .i64 lev, .slice a n cap, .string hi, .bool true, .int .u64 ri], .int .i64 fa, .bool false] w fun e w' => e = .returned (.bool true) ∧ Below w.heap.size w w' := by
  subst hhi hri
  have Qa := Lib.hid (fun W (hb : Below w.heap.size w W) => asc7_any (n := n) (cap := cap) hn (by omega) hasc W (h.same hb))
  have H := Lib.hid h
  have Hrf := Lib.hid hrf
  have Hn := Lib.hid hn
  have hs := (St.start w).made (.cells #[.int .i64 lev, .slice a n cap, .string ⟨#[]⟩, .bool true, .int .u64 0] 43)
  obtain ⟨bp, hbp⟩ : ∃ bp, bp = w.heap.size := ⟨_, rfl⟩
  clear hrf hn hasc h
  go_enter Tryz.func126, Tryz.ntmps126
  go_upto_region 1 with (fail)
  rw [← hbp] at hs ⊢
  clear hbp
  go_cut [38] from 999 to 0 (fun v wx => v = .bool false ∧ St (Know.of w) wx [blk bp (.cells #[.int .i64 lev, .slice a n cap, .string ⟨#[]⟩, .bool true, .int .u64 0] 43)])
  case first =>
    as_aux_lemma =>
    by_cases hl : 0 < lev
    · have z : ((n : Int) == 0) = false := by have := h1 hl; simp; omega
      
      have kp := hs.k0
      go_wp2_with fail
      refine (calls_same hs (Qa.out _ (hs.below (Know.Le.refl _)))).mono ?_
      clear hs kp
      rintro e w2 ⟨rfl, hs⟩
      go_wp2
      go_meet
      exact ⟨by simp <;> omega, hs⟩
    · have z : lev = 0 := by omega
      subst z
      have kp := hs.k0
      go_wp2_with fail
      refine (calls_same hs (Qa.out _ (hs.below (Know.Le.refl _)))).mono ?_
      clear hs kp
      rintro e w2 ⟨rfl, hs⟩
      go_wp2
      go_meet
      exact ⟨by simp <;> omega, hs⟩
  case rest =>
  clear hs h1 Qa
  obtain ⟨rfl, hs⟩ := hcut
  apply_assumption
  go_wp2
  go_loopw [7] (fun v wr => ∃ i : Nat, v = .int .i64 i ∧ i ≤ n ∧ St (Know.of w) wr [blk bp (.cells #[.int .i64 lev, .slice a n cap, .string ⟨#[]⟩, .bool true, .int .u64 0] 43)]) (fun v _ => n - (intOf v).toNat)
  case atStart => exact ⟨0, rfl, by omega, hs⟩
  case round =>
    clear hs
    obtain ⟨i, rfl, hi2, hs⟩ := hrel
    by_cases hin : i < n
    · obtain ⟨x, hx⟩ : ∃ x, sl[i]? = some x := ⟨_, List.getElem?_eq_getElem (by have := Hn.out; omega)⟩
      obtain ⟨g, off, rfl, _, cx, cy⟩ := (H.out.same (hs.below (Know.Le.refl _))).2 i x hx
      have kp := hs.k0
      have hr1 := Hrf.out x (List.mem_of_getElem? hx)
      have zr : (x.r == 0) = false := by simp; omega
      clear hx hr1
      go_upto_region 6 with (fail)
      refine region_pure (by kernel_rfl) (by kernel_rfl) ?_
      repeat (go_big_quiet_step (fail))
      refine wpQuiet_nil ?_
      intro w2 hb3
      have hs := hs.same hb3
      clear cx cy kp hb3
      go_wp2
      go_roundw
      case rel => exact ⟨i + 1, by go_num, by omega, hs⟩
      case measure => simp [intOf]; omega
    · have kp := hs.k0
      go_wp2
      go_ret
      exact ⟨rfl, hs.below (Know.Le.refl _)⟩

set_option maxHeartbeats 4000000 in
theorem check7_false (hlev : 0 ≤ lev ∧ lev < 1000000) (hn : n = sl.length) (hfa : (n : Int) ≤ fa ∧ fa ≤ 1000000) (h1 : 0 < lev → 0 < n) (hasc : Asc sl) (hrf : ∀ s, s ∈ sl → 1 ≤ s.r) (hbd : ∀ s, s ∈ sl → klt s.k hi = true) (hri : ri ≠ 0) (w : World) (h : SlAt w a sl) :
    Calls Tryz.prog 126 #[.agg #[.int .i64 lev, .slice a n cap, .string hi, .bool false, .int .u64 ri], .int .i64 fa, .bool false] w fun e w' => e = .returned (.bool true) ∧ Below w.heap.size w w' := by
  have zri : (ri != 0) = true := by simpa using hri
  have Hbd := Lib.hid hbd
  clear hri hbd
  have Qa := Lib.hid (fun W (hb : Below w.heap.size w W) => asc7_any (n := n) (cap := cap) hn (by omega) hasc W (h.same hb))
  have H := Lib.hid h
  have Hrf := Lib.hid hrf
  have Hn := Lib.hid hn
  have hs := (St.start w).made (.cells #[.int .i64 lev, .slice a n cap, .string hi, .bool false, .int .u64 ri] 43)
  obtain ⟨bp, hbp⟩ : ∃ bp, bp = w.heap.size := ⟨_, rfl⟩
  clear hrf hn hasc h
  go_enter Tryz.func126, Tryz.ntmps126
  go_upto_region 1 with (fail)
  rw [← hbp] at hs ⊢
  clear hbp
  go_cut [38] from 999 to 0 (fun v wx => v = .bool false ∧ St (Know.of w) wx [blk bp (.cells #[.int .i64 lev, .slice a n cap, .string hi, .bool false, .int .u64 ri] 43)])
  case first =>
    as_aux_lemma =>
    by_cases hl : 0 < lev
    · have z : ((n : Int) == 0) = false := by have := h1 hl; simp; omega
      
      have kp := hs.k0
      go_wp2_with fail
      refine (calls_same hs (Qa.out _ (hs.below (Know.Le.refl _)))).mono ?_
      clear hs kp
      rintro e w2 ⟨rfl, hs⟩
      go_wp2
      go_meet
      exact ⟨by simp <;> omega, hs⟩
    · have z : lev = 0 := by omega
      subst z
      have kp := hs.k0
      go_wp2_with fail
      refine (calls_same hs (Qa.out _ (hs.below (Know.Le.refl _)))).mono ?_
      clear hs kp
      rintro e w2 ⟨rfl, hs⟩
      go_wp2
      go_meet
      exact ⟨by simp <;> omega, hs⟩
  case rest =>
  clear hs h1 Qa
  obtain ⟨rfl, hs⟩ := hcut
  apply_assumption
  go_wp2
  go_loopw [7] (fun v wr => ∃ i : Nat, v = .int .i64 i ∧ i ≤ n ∧ St (Know.of w) wr [blk bp (.cells #[.int .i64 lev, .slice a n cap, .string hi, .bool false, .int .u64 ri] 43)]) (fun v _ => n - (intOf v).toNat)
  case atStart => exact ⟨0, rfl, by omega, hs⟩
  case round =>
    clear hs
    obtain ⟨i, rfl, hi2, hs⟩ := hrel
    by_cases hin : i < n
    · obtain ⟨x, hx⟩ : ∃ x, sl[i]? = some x := ⟨_, List.getElem?_eq_getElem (by have := Hn.out; omega)⟩
      obtain ⟨g, off, rfl, _, cx, cy⟩ := (H.out.same (hs.below (Know.Le.refl _))).2 i x hx
      have kp := hs.k0
      have hr1 := Hrf.out x (List.mem_of_getElem? hx)
      have zr : (x.r == 0) = false := by simp; omega
      have hb1 := Hbd.out x (List.mem_of_getElem? hx)
      have hb2 := klt_asymm hb1
      clear hx hr1
      go_upto_region 6 with (fail)
      refine region_pure (by kernel_rfl) (by kernel_rfl) ?_
      repeat (go_big_quiet_step (fail))
      refine wpQuiet_nil ?_
      intro w2 hb3
      have hs := hs.same hb3
      clear cx cy kp hb3
      go_wp2
      go_roundw
      case rel => exact ⟨i + 1, by go_num, by omega, hs⟩
      case measure => simp [intOf]; omega
    · have kp := hs.k0
      go_wp2
      go_ret
      exact ⟨rfl, hs.below (Know.Le.refl _)⟩
end
end Go.Proofs.YtlpdhhhgckpcfaaGreat
