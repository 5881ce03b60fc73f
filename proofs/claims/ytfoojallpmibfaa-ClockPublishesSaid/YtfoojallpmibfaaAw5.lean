/- The sanity check of layer 5. -/
import Derived.Test.YtfoojallpmibfaaTakeLaw
namespace Go.Proofs.Ytfoojallpmibfaa
open Go.RowKit
set_option maxRecDepth 100000

theorem blk_ne {w : World} {a b : Nat} {cs cs' : Array Value} {T T' : TypeId} {f f' : Nat × Nat} (h : w.heap[a]? = some (.cells cs T f)) (h' : w.heap[b]? = some (.cells cs' T' f')) (hT : T ≠ T') : a ≠ b := by
  intro e
  subst e
  rw [h] at h'
  simp only [Option.some.injEq, Obj.cells.injEq] at h'
  exact hT h'.2.1

def seqA : Nat → TakeS × Int
  | 0 => (⟨0, 0, false⟩, 4)
  | 1 => (⟨1, 4, false⟩, 4)
  | _ => (⟨2, 4, true⟩, 5)
theorem seqA_next (k : Nat) : takeStep 0 5 (CL (seqA k).2) (seqA k).1 = ((seqA (k + 1)).1, CL (seqA (k + 1)).2) := by
  match k with
  | 0 => simp [seqA, takeStep, CL, getC]
  | 1 => simp [seqA, takeStep, CL, getC, swapOk, putC]
  | n + 2 => rfl
theorem seqA_bd (k : Nat) : 0 ≤ (seqA k).1.seen ∧ (seqA k).1.seen ≤ 4 := by
  match k with
  | 0 => simp [seqA]
  | 1 => simp [seqA]
  | n + 2 => simp [seqA]
def seqB : Nat → TakeS
  | 0 => ⟨0, 0, false⟩
  | _ => ⟨2, 5, false⟩
theorem seqB_next (k : Nat) : takeStep 0 5 (CL 5) (seqB k) = (seqB (k + 1), CL 5) := by
  match k with
  | 0 => simp [seqB, takeStep, CL, getC]
  | n + 1 => rfl
theorem seqB_bd (k : Nat) : 0 ≤ (seqB k).seen ∧ (seqB k).seen ≤ 5 := by
  match k with
  | 0 => simp [seqB]
  | n + 1 => simp [seqB]

theorem acc_next {a k : Int} {p : Prop} [Decidable p] (h0 : 0 ≤ a) (h1 : a ≤ k) : 0 ≤ (if p then a else a + 1) ∧ (if p then a else a + 1) ≤ k + 1 := by split <;> omega

set_option maxHeartbeats 1000000 in
theorem awake5_any (w : World) : Calls Try.prog 43 #[] w fun e w' => e = .returned (.bool true) ∧ Below w.heap.size w w' := by
  go_enter Try.func43, Try.ntmps43
  go_wp2_with fail
  refine (memNew_any _ 1 (by omega) (by omega)).mono ?_
  rintro e w1 ⟨rfl, M1, hb1, hs1⟩
  go_wp2_with fail
  refine (poke_any _ _ _ _ _ 0 ⟨4, ⟨#[]⟩, 0⟩ M1).mono ?_
  rintro e w2 ⟨rfl, M2, hg2⟩
  have hB2 := hb1.trans (hg2.below hb1.size (by simp))
  clear hb1 hg2 M1 hs1
  go_wp2_with fail
  refine (newTake_any _ 0 5).mono ?_
  rintro e w3 ⟨rfl, TA3, hb3, hz3⟩
  have M3 := M2.same hb3
  have hB3 := hB2.trans (hb3.mono hB2.size)
  have hz2 := hB2.size
  clear hb3 M2 hB2
  go_wp2_with fail
  refine (newTake_any _ 0 5).mono ?_
  rintro e w4 ⟨rfl, TB4, hb4, hz4⟩
  have M4 := M3.same hb4
  have TA4 : TakeAt w4 w2.heap.size 0 5 ⟨0, 0, false⟩ := blk_same hb4 TA3
  have hB4 := hB3.trans (hb4.mono hB3.size)
  have hne : w2.heap.size ≠ w3.heap.size := by omega
  have hz23 : w.heap.size ≤ w3.heap.size := by omega
  clear hb4 M3 hB3 TA3 hz3 hz4
  go_wp2
  go_loopw [5] (fun vi wr => ∃ (k : Nat) (acc : Int), k ≤ 9 ∧ vi = .int .i64 k ∧ 0 ≤ acc ∧ acc ≤ k ∧ TakeAt wr w2.heap.size 0 5 (seqA k).1 ∧ TakeAt wr w3.heap.size 0 5 ⟨0, 0, false⟩ ∧ MemAt wr (w.heap.size + 1) w.heap.size (CL (seqA k).2) acc ∧ Below w.heap.size w wr) (fun vi _ => 9 - (intOf vi).toNat)
  case atStart => exact ⟨0, 0, by omega, rfl, by omega, by omega, TA4, TB4, M4, hB4⟩
  case round =>
    clear TA4 TB4 M4 hB4
    obtain ⟨k, acc, hk, rfl, ha0, ha1, TA, TB, M, hB⟩ := hrel
    by_cases hlt : k < 9
    · have d1 := blk_ne TA M.hm (by decide)
      have d2 := blk_ne TA M.hc (by decide)
      have d3 := blk_ne TB M.hm (by decide)
      have d4 := blk_ne TB M.hc (by decide)
      have sb := seqA_bd k
      have q := take_step wr w2.heap.size (w.heap.size + 1) w.heap.size 0 5 acc _ _ TA M d1 d2 ha0 (by omega) (fun _ => by omega)
      rw [seqA_next] at q
      have Q := Lib.hid q
      clear q sb
      go_wp2_with fail
      refine Q.out.mono ?_
      rintro e w6 ⟨rfl, TA', M', hg⟩
      have TB' := hg.blk TB (by simp [Ne.symm hne, d3, d4])
      have hB' := hB.trans (hg.below hB.size (by simp; omega))
      have hacc := acc_next (p := 2 ≤ (seqA k).1.pc) ha0 ha1
      go_wp2
      go_roundw
      case rel => exact ⟨k + 1, _, by omega, by go_num, hacc.1, by have := hacc.2; omega, TA', TB', M', hB'⟩
      case measure => simp [intOf]; omega
    · obtain rfl : k = 9 := by omega
      go_wp2
      go_loopw [6] (fun vi wr' => ∃ (k : Nat) (acc : Int), k ≤ 9 ∧ vi = .int .i64 k ∧ 0 ≤ acc ∧ acc ≤ k + 9 ∧ TakeAt wr' w2.heap.size 0 5 ⟨2, 4, true⟩ ∧ TakeAt wr' w3.heap.size 0 5 (seqB k) ∧ MemAt wr' (w.heap.size + 1) w.heap.size (CL 5) acc ∧ Below w.heap.size w wr') (fun vi _ => 9 - (intOf vi).toNat)
      case atStart => exact ⟨0, acc, by omega, rfl, ha0, by omega, TA, TB, M, hB⟩
      case round =>
        clear TA TB M hB
        obtain ⟨k, acc, hk, rfl, ha0, ha1, TA, TB, M, hB⟩ := hrel
        by_cases hlt : k < 9
        · have d1 := blk_ne TA M.hm (by decide)
          have d2 := blk_ne TA M.hc (by decide)
          have d3 := blk_ne TB M.hm (by decide)
          have d4 := blk_ne TB M.hc (by decide)
          have sb := seqB_bd k
          have q := take_step _ w3.heap.size (w.heap.size + 1) w.heap.size 0 5 acc _ _ TB M d3 d4 ha0 (by omega) (fun _ => by omega)
          rw [seqB_next] at q
          have Q := Lib.hid q
          clear q sb
          go_wp2_with fail
          refine Q.out.mono ?_
          rintro e w6 ⟨rfl, TB', M', hg⟩
          have TA' := hg.blk TA (by simp [hne, d1, d2])
          have hB' := hB.trans (hg.below hB.size (by simp; omega))
          have hacc := acc_next (p := 2 ≤ (seqB k).pc) ha0 ha1
          go_wp2
          go_roundw
          case rel =>
            (repeat apply Exists.intro)
            exact ⟨⟨k + 1, _, by omega, by go_num, hacc.1, by have := hacc.2; omega, TA', TB', M', hB'⟩, rfl⟩
          case measure => simp [intOf]; omega
        · obtain rfl : k = 9 := by omega
          go_wp2_with fail
          refine (takeNumber_any _ _ 0 5 _ TA (by simp)).mono ?_
          rintro e w6 ⟨rfl, rfl⟩
          go_wp2_with fail
          refine (takeNumber_any _ _ 0 5 _ TB (by simp [seqB])).mono ?_
          rintro e w7 ⟨rfl, rfl⟩
          go_wp2
          go_ret
          exact ⟨rfl, hB⟩
end Go.Proofs.Ytfoojallpmibfaa
