/- The sanity check of layer 6. -/
import Derived.Test.YtfoojallpmibfaaClockSt
namespace Go.Proofs.Ytfoojallpmibfaa
open Go.RowKit
set_option maxRecDepth 100000

def seqA6 (L : List Cel) : Nat → TakeS × List Cel
  | 0 => (⟨0, 0, false⟩, L)
  | 1 => (⟨1, 0, false⟩, L)
  | _ => (⟨2, 0, true⟩, putC L 1 ⟨1, ⟨#[]⟩, 0⟩)
theorem seqA6_next (L : List Cel) (h : (getC L 1).n = 0) (hl : 1 < L.length) (lim : Int) (hlim : lim = 1000) (k : Nat) : takeStep 1 lim (seqA6 L k).2 (seqA6 L k).1 = seqA6 L (k + 1) := by
  subst hlim
  match k with
  | 0 => simp [seqA6, takeStep, h]
  | 1 => simp [seqA6, takeStep, swapOk, h]; omega
  | n + 2 => rfl
def seqP6 (L : List Cel) : Nat → Nat × List Cel
  | 0 => (0, L)
  | 1 => (1, L)
  | _ => (2, putC L 2 ⟨1, ⟨#[]⟩, 0⟩)
theorem seqP6_next (L : List Cel) (h : (getC L 2).n = 0) (k : Nat) : pubStep 2 1 (seqP6 L k).2 (seqP6 L k).1 = seqP6 L (k + 1) := by
  match k with
  | 0 => simp [seqP6, pubStep, h]
  | 1 => simp [seqP6, pubStep]
  | n + 2 => rfl
theorem seqA6_seen (L : List Cel) (k : Nat) : (seqA6 L k).1.seen = 0 := by
  match k with
  | 0 => rfl
  | 1 => rfl
  | n + 2 => rfl

theorem kitOk : (kitC 1 1000).Ok := by constructor <;> simp [kitC]


set_option maxHeartbeats 2000000 in
theorem awake6_any (w : World) : Calls Try.prog 60 #[] w fun e w' => e = .returned (.bool true) ∧ Below w.heap.size w w' := by
  obtain ⟨L, HL, h1, h2, hl⟩ : ∃ L, Hid (L = startL (kitC 1 1000)) ∧ Hid ((getC L 1).n = 0) ∧ Hid ((getC L 2).n = 0) ∧ 4 < L.length := by
    have hL := kitL_1 1 1000 kitOk
    exact ⟨_, Lib.hid rfl, Lib.hid (by rw [hL.1]; rfl), Lib.hid (by rw [hL.2.1]; rfl), hL.2.2⟩
  obtain ⟨c, HC, Hcl⟩ : ∃ c, Hid (c = kitC 1 1000) ∧ Hid (c.cl = 1000) := ⟨_, Lib.hid rfl, Lib.hid rfl⟩
  have hs := St.start w
  have q1 : Calls Try.prog 58 #[.int .i64 1, .int .i64 0] w fun e w' => e = .returned (.agg #[.int .i64 c.th, .int .i64 c.sn, .int .i64 c.no, .int .i64 c.ch, .int .i64 c.re, .int .i64 c.fa, .int .u64 c.cl]) ∧ St (Know.of w) w' [] := by rw [HC.out]; exact calls_same hs (kitConfig_any 1 w)
  have q2 : Hid (∀ w', St (Know.of w) w' [] → Calls Try.prog 59 #[.agg #[.int .i64 c.th, .int .i64 c.sn, .int .i64 c.no, .int .i64 c.ch, .int .i64 c.re, .int .i64 c.fa, .int .u64 c.cl]] w' fun e w'' => ∃ bm bc, e = .returned (.tuple #[.agg #[.int .i64 c.th, .int .i64 c.sn, .int .i64 c.no, .int .i64 c.ch, .int .i64 c.re, .int .i64 c.fa, .int .u64 c.cl], .pointer (some ⟨bm, 0, none⟩)]) ∧ St (Know.of w) w'' [memC bm bc L 0]) := Lib.hid (by rw [HC.out, HL.out]; intro w' hs; exact kitMemory_st kitOk hs)
  clear hs
  have Q1 := Lib.hid q1
  clear q1
  go_enter Try.func60, Try.ntmps60
  go_wp2_with fail
  refine (Q1.out).mono ?_
  rintro e w1 ⟨rfl, hs⟩
  go_wp2_with fail
  refine (q2.out _ hs).mono ?_
  clear hs Q1 q2
  rintro e w2 ⟨bm, bc, rfl, hs⟩
  have hs := hs.made (.cells #[.int .i64 c.th, .int .i64 c.sn, .int .i64 c.no, .int .i64 c.ch, .int .i64 c.re, .int .i64 c.fa, .int .u64 c.cl] 27)
  obtain ⟨bl, hbl⟩ : ∃ bl, bl = w2.heap.size := ⟨_, rfl⟩
  go_wp2_with fail
  refine (newAllocate_st (c := c) hs).mono ?_
  rw [← hbl] at hs ⊢
  clear hbl hs
  rintro e w3 ⟨ba, bt, rfl, hs⟩
  go_wp2
  go_loopw [4] (fun v wr => ∃ (k acc : Nat), k ≤ 9 ∧ v = .int .i64 k ∧ acc ≤ k ∧ St (Know.of w) wr [allocC ba bt c.cl (seqA6 L k).1, memC bm bc (seqA6 L k).2 acc, blk bl (.cells #[.int .i64 c.th, .int .i64 c.sn, .int .i64 c.no, .int .i64 c.ch, .int .i64 c.re, .int .i64 c.fa, .int .u64 c.cl] 27)]) (fun v _ => 9 - (intOf v).toNat)
  case atStart => exact ⟨0, 0, by omega, rfl, by omega, hs.b2.b1⟩
  case round =>
    clear hs
    obtain ⟨k, acc, hk, rfl, hacc, hs⟩ := hrel
    by_cases hlt : k < 9
    · have q := allocStep_st hs (by omega) (fun _ => by rw [seqA6_seen]; omega)
      rw [seqA6_next L h1.out (by omega) _ Hcl.out] at q
      have Q := Lib.hid q
      clear q hs
      go_wp2_with fail
      refine Q.out.mono ?_
      rintro e w4 ⟨rfl, hs⟩
      go_wp2
      go_roundw
      case rel => exact ⟨k + 1, _, by omega, by go_num, by split <;> omega, hs⟩
      case measure => simp [intOf]; omega
    · obtain rfl : k = 9 := by omega
      obtain ⟨L2, hL2, h22⟩ : ∃ L2, Hid (L2 = putC L 1 ⟨1, ⟨#[]⟩, 0⟩) ∧ Hid ((getC L2 2).n = 0) := ⟨_, Lib.hid rfl, Lib.hid (by rw [getC_put (by omega) (by omega) (by omega), if_neg (by omega)]; exact h2.out)⟩
      have hs : St (Know.of w) wr [allocC ba bt c.cl ⟨2, 0, true⟩, memC bm bc L2 acc, blk bl (.cells #[.int .i64 c.th, .int .i64 c.sn, .int .i64 c.no, .int .i64 c.ch, .int .i64 c.re, .int .i64 c.fa, .int .u64 c.cl] 27)] := by rw [hL2.out]; exact hs
      go_wp2_with fail
      refine (allocTime_any wr ba bt c.cl ⟨2, 0, true⟩ hs.head (by simp)).mono ?_
      rintro e w5 ⟨rfl, rfl⟩
      have kl := hs.k2
      go_wp2_with fail
      refine (newPublish_st (c := c) hs).mono ?_
      clear hs kl
      rintro e w6 ⟨b, rfl, hs⟩
      go_wp2
      go_loopw [8] (fun v wr => ∃ (k acc : Nat), k ≤ 9 ∧ v = .int .i64 k ∧ acc ≤ 9 + k ∧ St (Know.of w) wr [pubC b 1 (seqP6 L2 k).1, memC bm bc (seqP6 L2 k).2 acc, allocC ba bt c.cl ⟨2, 0, true⟩, blk bl (.cells #[.int .i64 c.th, .int .i64 c.sn, .int .i64 c.no, .int .i64 c.ch, .int .i64 c.re, .int .i64 c.fa, .int .u64 c.cl] 27)]) (fun v _ => 9 - (intOf v).toNat)
      case atStart => exact ⟨0, acc, by omega, rfl, by omega, hs.b2.b1⟩
      case round =>
        clear hs
        obtain ⟨k, acc, hk, rfl, hacc, hs⟩ := hrel
        by_cases hlt : k < 9
        · have q := pubStep_st hs (by omega) (by decide)
          rw [seqP6_next L2 h22.out] at q
          have Q := Lib.hid q
          clear q hs
          go_wp2_with fail
          refine Q.out.mono ?_
          rintro e w4 ⟨rfl, hs⟩
          go_wp2
          go_roundw
          case rel => exact ⟨k + 1, _, by omega, by go_num, by split <;> omega, hs⟩
          case measure => simp [intOf]; omega
        · obtain rfl : k = 9 := by omega
          obtain ⟨L3, hL3, h33⟩ : ∃ L3, Hid (L3 = putC L2 2 ⟨1, ⟨#[]⟩, 0⟩) ∧ Hid ((getC L3 2).n = 1) := ⟨_, Lib.hid rfl, Lib.hid (by rw [getC_put (by omega) (by rw [hL2.out, putC_length]; omega) (by omega), if_pos rfl])⟩
          have hs : St (Know.of w) wr [pubC b 1 2, memC bm bc L3 acc, allocC ba bt c.cl ⟨2, 0, true⟩, blk bl (.cells #[.int .i64 c.th, .int .i64 c.sn, .int .i64 c.no, .int .i64 c.ch, .int .i64 c.re, .int .i64 c.fa, .int .u64 c.cl] 27)] := by rw [hL3.out]; exact hs
          have kl := hs.b3.k0
          go_wp2_with fail
          refine (newNow_st (c := c) hs).mono ?_
          clear hs kl
          rintro e w7 ⟨bn, bx, by_, rfl, hs⟩
          go_wp2_with fail
          refine (nowStep0_st hs.b2.b1 (by omega)).mono ?_
          clear hs
          rintro e w8 ⟨rfl, hs⟩
          rw [h33.out] at hs
          go_wp2_with fail
          refine (nowTime_any _ _ _ _ _ _ _ hs.head).mono ?_
          rintro e w9 ⟨rfl, rfl⟩
          go_wp2
          go_ret
          exact ⟨rfl, hs.below (Know.Le.refl _)⟩
end Go.Proofs.Ytfoojallpmibfaa
