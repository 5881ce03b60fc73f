/- The walks of ClockNow and ClockWaits. -/
import Derived.Test.YtfoojallpmibfaaAw6
import Derived.Test.YtfoojallpmibfaaCells
namespace Go.Proofs.Ytfoojallpmibfaa
open Go.RowKit
set_option maxRecDepth 100000

/-- What the clock laws begin with. -/
theorem begin6 (w : World) : ∃ (L : List Cel) (c : Cfg), Hid ((getC L 1).n = 0) ∧ Hid ((getC L 2).n = 0) ∧ 4 < L.length ∧ Hid (c.cl = 1000) ∧
    Hid (Calls Try.prog 58 #[.int .i64 1, .int .i64 0] w fun e w' => e = .returned (.agg #[.int .i64 c.th, .int .i64 c.sn, .int .i64 c.no, .int .i64 c.ch, .int .i64 c.re, .int .i64 c.fa, .int .u64 c.cl]) ∧ St (Know.of w) w' []) ∧
    Hid (∀ w', St (Know.of w) w' [] → Calls Try.prog 59 #[.agg #[.int .i64 c.th, .int .i64 c.sn, .int .i64 c.no, .int .i64 c.ch, .int .i64 c.re, .int .i64 c.fa, .int .u64 c.cl]] w' fun e w'' => ∃ bm bc, e = .returned (.tuple #[.agg #[.int .i64 c.th, .int .i64 c.sn, .int .i64 c.no, .int .i64 c.ch, .int .i64 c.re, .int .i64 c.fa, .int .u64 c.cl], .pointer (some ⟨bm, 0, none⟩)]) ∧ St (Know.of w) w'' [memC bm bc L 0]) := by
  have hL := kitL_1 1 1000 kitOk
  exact ⟨_, kitC 1 1000, Lib.hid (by rw [hL.1]; rfl), Lib.hid (by rw [hL.2.1]; rfl), hL.2.2, Lib.hid rfl, Lib.hid (calls_same (St.start w) (kitConfig_any 1 w)), Lib.hid (fun w' hs => kitMemory_st kitOk hs)⟩

set_option maxHeartbeats 2000000 in
theorem clockNow_walk (time steps : Int) (ht : 0 ≤ time ∧ time < 18446744073709551616) (hst : 0 ≤ steps ∧ steps < 256) (w : World) : Calls Try.prog 12 #[.int .u64 time, .int .u8 steps] w fun e w' => e = .returned (.bool true) ∧ Below w.heap.size w w' := by
  obtain ⟨L, c, h1, h2, hl, Hcl, Q1, Q2⟩ := begin6 w
  obtain ⟨st, hst', hst0, hst1⟩ : ∃ st : Nat, Hid (steps % 5 = (st : Int)) ∧ 0 ≤ st ∧ st ≤ 4 := ⟨(steps % 5).toNat, Lib.hid (by omega), by omega, by omega⟩
  go_enter Try.func12, Try.ntmps12
  go_wp2_with fail
  refine (Q1.out).mono ?_
  rintro e w1 ⟨rfl, hs⟩
  go_wp2_with fail
  refine (Q2.out _ hs).mono ?_
  clear hs Q1 Q2
  rintro e w2 ⟨bm, bc, rfl, hs⟩
  have hs := hs.made (.cells #[.int .i64 c.th, .int .i64 c.sn, .int .i64 c.no, .int .i64 c.ch, .int .i64 c.re, .int .i64 c.fa, .int .u64 c.cl] 27)
  obtain ⟨bl, hbl⟩ : ∃ bl, bl = w2.heap.size := ⟨_, rfl⟩
  go_wp2_with fail
  refine (calls_same hs (awake6_any _)).mono ?_
  rw [← hbl] at hs ⊢
  clear hbl hs
  rintro e w3 ⟨rfl, hs⟩
  obtain ⟨L1, hL1, h12, hl1⟩ : ∃ L1, Hid (L1 = putC L 2 ⟨time, ⟨#[]⟩, 0⟩) ∧ Hid ((getC L1 2).n = time) ∧ Hid (L1.length = L.length) := ⟨_, Lib.hid rfl, Lib.hid (by rw [getC_put (by omega) (by omega) (by omega), if_pos rfl]), Lib.hid (putC_length _ _ _)⟩
  go_wp2_with fail
  refine (poke_st (c := ⟨time, ⟨#[]⟩, 0⟩) hs.b1).mono ?_
  rw [← hL1.out]
  clear hs
  rintro e w4 ⟨rfl, hs⟩
  go_wp2_with fail
  refine (cells_st hs).mono ?_
  clear hs
  rintro e w5 ⟨g1, rfl, hs⟩
  have kl := hs.k2
  go_wp2_with fail
  refine (newNow_st (c := c) hs).mono ?_
  clear hs kl
  rintro e w6 ⟨bn, bx, by_, rfl, hs⟩
  go_wp2_with fail
  refine (nowTime_any _ _ _ _ _ _ _ hs.head).mono ?_
  rintro e w7 ⟨rfl, rfl⟩
  go_wp2_with fail
  refine (nowStep0_st hs.b2.b1 (by omega)).mono ?_
  rw [h12.out]
  clear hs
  rintro e w8 ⟨rfl, hs⟩
  go_wp2_with fail
  refine (accesses_any _ _ _ _ _ hs.mem1).mono ?_
  rintro e w9 ⟨rfl, rfl⟩
  have he := hst'.out
  go_wp2
  go_loopw [9] (fun v wr => ∃ k : Nat, k ≤ st ∧ v = .int .i64 k ∧ St (Know.of w) wr [nowC bn bx by_ c time 1, memC bm bc L1 1, blk g1 (.cells (flat L1).toArray 51), blk bl (.cells #[.int .i64 c.th, .int .i64 c.sn, .int .i64 c.no, .int .i64 c.ch, .int .i64 c.re, .int .i64 c.fa, .int .u64 c.cl] 27)]) (fun v _ => st - (intOf v).toNat)
  case atStart => exact ⟨0, by omega, rfl, hs⟩
  case round =>
    clear hs
    obtain ⟨k, hk, rfl, hs⟩ := hrel
    by_cases hlt : k < st
    · go_wp2_with fail
      refine (nowStep1_st hs.head).mono ?_
      rintro e w10 ⟨rfl, rfl⟩
      go_wp2
      go_roundw
      case rel => exact ⟨k + 1, by omega, by go_num, hs⟩
      case measure => simp [intOf]; omega
    · clear he
      have he := hst'.out
      go_wp2_with fail
      refine (accesses_any _ _ _ _ _ hs.mem1).mono ?_
      rintro e w11 ⟨rfl, rfl⟩
      go_wp2_with fail
      refine (nowTime_any _ _ _ _ _ _ _ hs.head).mono ?_
      rintro e w12 ⟨rfl, rfl⟩
      go_wp2_with fail
      refine (cells_st hs.b1).mono ?_
      clear hs
      rintro e w13 ⟨g2, rfl, hs⟩
      go_wp2_with fail
      refine (calls_same hs (same_cells _ g2 g1 L1 hs.mem1.len hs.head hs.b3.head)).mono ?_
      clear hs
      rintro e w14 ⟨rfl, hs⟩
      go_wp2
      go_ret
      exact ⟨rfl, hs.below (Know.Le.refl _)⟩

set_option maxHeartbeats 2000000 in
theorem clockWaits_walk (time pubd steps : Int) (ht : 0 ≤ time ∧ time < 18446744073709551616) (hp : 0 ≤ pubd ∧ pubd < 18446744073709551616) (hst : 0 ≤ steps ∧ steps < 256) (w : World) : Calls Try.prog 13 #[.int .u64 time, .int .u64 pubd, .int .u8 steps] w fun e w' => e = .returned (.bool true) ∧ Below w.heap.size w w' := by
  obtain ⟨L, c, _, _, hl, Hcl, Q1, Q2⟩ := begin6 w
  obtain ⟨st, hst', hst1⟩ : ∃ st : Nat, Hid (steps % 40 = (st : Int)) ∧ st ≤ 39 := ⟨(steps % 40).toNat, Lib.hid (by omega), by omega⟩
  obtain ⟨r, hr, hr1⟩ : ∃ r : Nat, Hid (time % 1000 = (r : Int)) ∧ r ≤ 999 := ⟨(time % 1000).toNat, Lib.hid (by omega), by omega⟩
  have h1 := Int.emod_lt_of_pos pubd (show (0 : Int) < 2 + (r : Int) - 1 by omega)
  have h2 := Int.emod_nonneg pubd (show (2 + (r : Int) - 1) ≠ 0 by omega)
  go_enter Try.func13, Try.ntmps13
  go_wp2_with fail
  refine (Q1.out).mono ?_
  rintro e w1 ⟨rfl, hs⟩
  go_wp2_with fail
  refine (Q2.out _ hs).mono ?_
  clear hs Q1 Q2
  rintro e w2 ⟨bm, bc, rfl, hs⟩
  have hs := hs.made (.cells #[.int .i64 c.th, .int .i64 c.sn, .int .i64 c.no, .int .i64 c.ch, .int .i64 c.re, .int .i64 c.fa, .int .u64 c.cl] 27)
  obtain ⟨bl, hbl⟩ : ∃ bl, bl = w2.heap.size := ⟨_, rfl⟩
  go_wp2_with fail
  refine (calls_same hs (awake6_any _)).mono ?_
  rw [← hbl] at hs ⊢
  clear hbl hs
  rintro e w3 ⟨rfl, hs⟩
  have he := hr.out
  go_wp2_with fail
  clear he
  generalize pubd % (2 + (r : Int) - 1) = ea at h1 h2 ⊢
  obtain ⟨L1, hL1, h12, hl1⟩ : ∃ L1, Hid (L1 = putC L 2 ⟨ea, ⟨#[]⟩, 0⟩) ∧ Hid ((getC L1 2).n = ea) ∧ Hid (L1.length = L.length) := ⟨_, Lib.hid rfl, Lib.hid (by rw [getC_put (by omega) (by omega) (by omega), if_pos rfl]), Lib.hid (putC_length _ _ _)⟩
  refine (poke_st (c := ⟨ea, ⟨#[]⟩, 0⟩) hs.b1).mono ?_
  rw [← hL1.out]
  clear hs
  rintro e w4 ⟨rfl, hs⟩
  have kl := hs.k1
  go_wp2_with fail
  refine (newPublish_st (c := c) hs).mono ?_
  clear hs kl
  rintro e w5 ⟨b, rfl, hs⟩
  have hw0 : IntKind.u64.wrap ((2 + (r : Int)) - 1) = (2 + (r : Int)) - 1 := by rw [IntKind.wrap_u64]; omega
  have Hw0 := Lib.hid hw0
  clear hw0
  have he := hst'.out
  go_wp2
  go_loopw [11] (fun v wr => ∃ k acc : Nat, k ≤ st ∧ v = .int .i64 k ∧ acc ≤ k ∧ St (Know.of w) wr [pubC b (2 + r) 0, memC bm bc L1 acc, blk bl (.cells #[.int .i64 c.th, .int .i64 c.sn, .int .i64 c.no, .int .i64 c.ch, .int .i64 c.re, .int .i64 c.fa, .int .u64 c.cl] 27)]) (fun v _ => st - (intOf v).toNat)
  case atStart => exact ⟨0, 0, by omega, rfl, by omega, hs⟩
  case round =>
    clear hs
    obtain ⟨k, acc, hk, rfl, hacc, hs⟩ := hrel
    by_cases hlt : k < st
    · have q := pubStep_st hs (by omega) Hw0.out
      rw [show pubStep 2 (2 + (r : Int)) L1 0 = (0, L1) by simp only [pubStep]; rw [if_neg (by rw [h12.out]; omega)]] at q
      have Q := Lib.hid q
      clear q hs
      go_wp2_with fail
      refine (Q.out).mono ?_
      clear Q
      rintro e w6 ⟨rfl, hs⟩
      have q := peek_st hs hs.mem1 (i := 2)
      rw [show getC L1 2 = ⟨ea, (getC L1 2).k, (getC L1 2).m⟩ by rw [← h12.out]] at q
      have Q := Lib.hid q
      clear q hs
      go_wp2_with fail
      refine (Q.out).mono ?_
      clear Q
      rintro e w7 ⟨rfl, hs⟩
      go_wp2
      go_roundw
      case rel => exact ⟨k + 1, acc + 1, by omega, by go_num, by omega, hs⟩
      case measure => simp [intOf]; omega
    · clear he
      have he := hst'.out
      obtain ⟨L2, hL2, h22, hl2⟩ : ∃ L2, Hid (L2 = putC L1 2 ⟨2 + (r : Int) - 1, ⟨#[]⟩, 0⟩) ∧ Hid ((getC L2 2).n = 2 + (r : Int) - 1) ∧ Hid (L2.length = L.length) := ⟨_, Lib.hid rfl, Lib.hid (by rw [getC_put (by omega) (by rw [hl1.out]; omega) (by omega), if_pos rfl]), Lib.hid (by rw [putC_length, hl1.out])⟩
      obtain ⟨L3, hL3, h32⟩ : ∃ L3, Hid (L3 = putC L2 2 ⟨2 + (r : Int), ⟨#[]⟩, 0⟩) ∧ Hid ((getC L3 2).n = 2 + (r : Int)) := ⟨_, Lib.hid rfl, Lib.hid (by rw [getC_put (by omega) (by rw [hl2.out]; omega) (by omega), if_pos rfl])⟩
      go_wp2_with fail
      refine (poke_st (c := ⟨2 + (r : Int) - 1, ⟨#[]⟩, 0⟩) hs.b1).mono ?_
      rw [← hL2.out]
      clear hs he
      rintro e w8 ⟨rfl, hs⟩
      go_wp2
      go_loopw [12] (fun v wr => ∃ k acc : Nat, k ≤ 1 ∧ v = .int .i64 k ∧ acc ≤ st + k ∧ St (Know.of w) wr [pubC b (2 + r) k, memC bm bc L2 acc, blk bl (.cells #[.int .i64 c.th, .int .i64 c.sn, .int .i64 c.no, .int .i64 c.ch, .int .i64 c.re, .int .i64 c.fa, .int .u64 c.cl] 27)]) (fun v _ => 2 - (intOf v).toNat)
      case atStart => exact ⟨0, acc, by omega, rfl, by omega, hs.b1⟩
      case round =>
        clear hs
        obtain ⟨k, acc, hk, rfl, hacc, hs⟩ := hrel
        by_cases hlt : k = 0
        · subst hlt
          have q := pubStep_st hs (by omega) Hw0.out
          rw [show pubStep 2 (2 + (r : Int)) L2 0 = (1, L2) by simp only [pubStep]; rw [if_pos h22.out]] at q
          have Q := Lib.hid q
          clear q hs
          go_wp2_with fail
          refine (Q.out).mono ?_
          clear Q
          rintro e w6 ⟨rfl, hs⟩
          have q := peek_st hs hs.mem1 (i := 2)
          rw [show getC L2 2 = ⟨2 + (r : Int) - 1, (getC L2 2).k, (getC L2 2).m⟩ by rw [← h22.out]] at q
          have Q := Lib.hid q
          clear q hs
          go_wp2_with fail
          refine (Q.out).mono ?_
          clear Q
          rintro e w7 ⟨rfl, hs⟩
          go_wp2
          go_roundw
          case rel => exact ⟨1, acc + 1, by omega, by go_num, by omega, hs⟩
          case measure => simp [intOf]
        · obtain rfl : k = 1 := by omega
          have q := pubStep_st hs (by omega) Hw0.out
          rw [show pubStep 2 (2 + (r : Int)) L2 1 = (2, L3) by rw [hL3.out]; rfl] at q
          have Q := Lib.hid q
          clear q hs
          go_wp2_with fail
          refine (Q.out).mono ?_
          clear Q
          rintro e w6 ⟨rfl, hs⟩
          go_wp2_with fail
          refine (accesses_any _ _ _ _ _ hs.mem1).mono ?_
          rintro e w9 ⟨rfl, rfl⟩
          have q := pubStep_st hs (by split <;> omega) Hw0.out
          rw [show pubStep 2 (2 + (r : Int)) L3 2 = (2, L3) by rfl] at q
          have Q := Lib.hid q
          clear q hs
          go_wp2_with fail
          refine (Q.out).mono ?_
          clear Q
          rintro e w10 ⟨rfl, hs⟩
          go_wp2_with fail
          refine (accesses_any _ _ _ _ _ hs.mem1).mono ?_
          rintro e w11 ⟨rfl, rfl⟩
          have q := peek_st hs hs.mem1 (i := 2)
          rw [show getC L3 2 = ⟨2 + (r : Int), (getC L3 2).k, (getC L3 2).m⟩ by rw [← h32.out]] at q
          have Q := Lib.hid q
          clear q hs
          go_wp2_with fail
          refine (Q.out).mono ?_
          clear Q
          rintro e w12 ⟨rfl, hs⟩
          go_wp2
          go_ret
          exact ⟨rfl, hs.below (Know.Le.refl _)⟩
end Go.Proofs.Ytfoojallpmibfaa
