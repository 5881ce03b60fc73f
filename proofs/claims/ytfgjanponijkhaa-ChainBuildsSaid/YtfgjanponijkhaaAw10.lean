/- blinktreelaw10's awake. -/
import Derived.Test.YtfgjanponijkhaaChain7
namespace Go.Proofs.Ytfgjanponijkhaa
open Go.RowKit
set_option maxRecDepth 100000

theorem kit10_ok : (kitC 1 4 1000).Ok := by constructor <;> decide
/-- The fresh memory: an empty chain. -/
theorem kit10_chain (d : Cfg) (hd : d.Ok) : ChOk d 1 (startL d) [] 0 := by
  obtain ⟨p1, p2, p3⟩ := start_cells d hd
  have h1 := hd.A_bd; have h2 := hd.B_bd; have h3 := hd.C_bd; have h4 := hd.cells_bd
  have hch : (1 : Int) ≤ d.ch := hd.ch1
  have hz : ∀ k, d.B ≤ k → getC (startL d) k = Cel.zero := by
    intro k hk
    have hn : d.node 1 2 < d.B := by
      have f1 := hd.fa1; have n1 := hd.no1
      have e : d.node 1 2 = d.A + 2 := by unfold Cfg.node; rw [if_pos (by omega)]; omega
      have : 1 * (d.fa + 4) ≤ d.no * (d.fa + 4) := Int.mul_le_mul_of_nonneg_right n1 (by omega)
      have e2 : d.B = d.A + d.no * (d.fa + 4) := rfl
      omega
    rw [p3 k (by omega), if_neg (by omega), if_neg (by omega), if_neg (by omega)]
  refine ⟨by rw [p1]; omega, fun k => ?_, ?_, fun v hv => by simp at hv, by simp, fun r a1 a2 => ?_⟩
  · by_cases hk : 0 ≤ k
    · rw [p3 k hk]
      split
      · exact ⟨by decide, by decide⟩
      · split
        · exact ⟨by decide, by decide⟩
        · split <;> exact ⟨by decide, by decide⟩
    · rw [getC_neg (by omega)]; exact ⟨by decide, by decide⟩
  · have := chain_in hd (c := 1) (by omega) hch
    rw [hz _ (by omega)]; rfl
  · have := record_in hd (r := r) (k := 0) (by omega) a2 (by omega) (by omega)
    rw [hz _ (by omega)]; rfl

section
variable {K : Know} {w : World} {cs : List Comp}
set_option maxHeartbeats 4000000 in
theorem awake10_st (hs : St K w cs) : Calls Try.prog 31 #[] w fun e w' => e = .returned (.bool true) ∧ St K w' cs := by
  obtain ⟨d, hd, hch, hre, Q1, Q2⟩ : ∃ d : Cfg, Hid d.Ok ∧ d.ch = 100 ∧ d.re = 200 ∧ Hid (∀ w, Calls Try.prog 17 #[.int .i64 1, .int .i64 0] w fun e w' => e = .returned (.agg #[.int .i64 d.th, .int .i64 d.sn, .int .i64 d.no, .int .i64 d.ch, .int .i64 d.re, .int .i64 d.fa, .int .u64 d.cl]) ∧ Below w.heap.size w w') ∧ Hid (∀ w K cs, St K w cs → Calls Try.prog 18 #[.agg #[.int .i64 d.th, .int .i64 d.sn, .int .i64 d.no, .int .i64 d.ch, .int .i64 d.re, .int .i64 d.fa, .int .u64 d.cl]] w fun e w'' => ∃ bm bc, e = .returned (.tuple #[.agg #[.int .i64 d.th, .int .i64 d.sn, .int .i64 d.no, .int .i64 d.ch, .int .i64 d.re, .int .i64 d.fa, .int .u64 d.cl], .pointer (some ⟨bm, 0, none⟩)]) ∧ St K w'' (memC bm bc (startL d) 0 :: cs)) :=
    ⟨kitC 1 4 1000, Lib.hid kit10_ok, rfl, rfl, Lib.hid (fun w => kitConfig_any 1 0 w), Lib.hid (fun w K cs hs => kitMemory_st kit10_ok hs)⟩
  have c0 := kit10_chain d hd.out
  generalize startL d = L0 at *
  have hch1 : (1 : Int) ≤ 1 ∧ (1 : Int) ≤ d.ch := by omega
  obtain ⟨L1, L2, L3, _, _, _, e4, _, _, c3, _⟩ := in_steps hd.out hch1 c0 (r := 1) (by omega) (by omega) (by omega) (k := ⟨#[118]⟩) (del := false) (by simp)
  have c4 := c3.stamp hd.out hch1 (t := 3) ⟨by decide, by decide⟩
  have E4 := Lib.hid e4
  have C3 := Lib.hid c3
  have C4 := Lib.hid c4
  have hlen : (L3.length : Int) = d.cells := c3.len
  clear e4 c3 c4 c0 hlen hre hch
  go_enter Try.func31, Try.ntmps31
  go_wp2_with fail
  refine (calls_same hs (Q1.out _)).mono ?_
  clear hs
  rintro e w1 ⟨rfl, hs⟩
  go_wp2_with fail
  refine (Q2.out _ _ _ hs).mono ?_
  clear hs
  rintro e w2 ⟨bm, bc, rfl, hs⟩
  have hs := hs.made (.cells #[.int .i64 d.th, .int .i64 d.sn, .int .i64 d.no, .int .i64 d.ch, .int .i64 d.re, .int .i64 d.fa, .int .u64 d.cl] 30)
  obtain ⟨bl, hbl⟩ : ∃ bl, bl = w2.heap.size := ⟨_, rfl⟩
  go_wp2_with fail
  rw [← hbl] at hs ⊢
  clear hbl
  refine (newInstall_st (d := d) (ch := 1) (r := 1) (key := ⟨#[107]⟩) (v := ⟨#[118]⟩) (del := false) hs).mono ?_
  clear hs
  rintro e w3 ⟨b, rfl, hs⟩
  go_wp2
  go_loopw [4] (fun vk wr => ∃ (n acc' : Nat), n ≤ 9 ∧ vk = .int .i64 n ∧ acc' ≤ n ∧ St K wr (inC b d 1 1 ⟨#[107]⟩ ⟨#[118]⟩ false (it (inStep d 1 1 (valC ⟨#[118]⟩ false)) n (⟨0, 0⟩, L0)).1 :: memC bm bc (it (inStep d 1 1 (valC ⟨#[118]⟩ false)) n (⟨0, 0⟩, L0)).2 acc' :: blk bl (.cells #[.int .i64 d.th, .int .i64 d.sn, .int .i64 d.no, .int .i64 d.ch, .int .i64 d.re, .int .i64 d.fa, .int .u64 d.cl] 30) :: cs)) (fun v _ => 9 - (intOf v).toNat)
  case atStart => exact ⟨0, 0, by omega, rfl, by omega, hs.b2.b1⟩
  case round =>
    clear hs
    obtain ⟨n, acc', hn, rfl, hacc, hs⟩ := hrel
    by_cases h : n < 9
    · have q := inStep_st hd.out (by omega) (by omega) (by omega) hs
      rw [← it_succ (inStep d 1 1 (valC ⟨#[118]⟩ false)) n (⟨0, 0⟩, L0)] at q
      have Q := Lib.hid q
      clear q hs
      go_wp2_with fail
      refine (Q.out).mono ?_
      rintro e w4 ⟨rfl, hs⟩
      clear Q
      go_wp2
      go_roundw
      case rel => exact ⟨n + 1, _, by omega, by go_num, by have := accTo_le 4 (it (inStep d 1 1 (valC ⟨#[118]⟩ false)) n (⟨0, 0⟩, L0)).1.pc acc'; omega, hs⟩
      case measure => simp [intOf]; omega
    · obtain rfl : n = 9 := by omega
      rw [it_rest E4.out (in_fix (by simp)) (show 4 ≤ 9 by omega)] at hs
      have q3 := fun w (hs : St K w (memC bm bc L3 acc' :: blk bl (.cells #[.int .i64 d.th, .int .i64 d.sn, .int .i64 d.no, .int .i64 d.ch, .int .i64 d.re, .int .i64 d.fa, .int .u64 d.cl] 30) :: cs)) => read_st (tm := 9) hd.out (by omega) C3.out.ok C3.out.link (by simp) (by omega) hs
      rw [show vval 9 [⟨1, 0, ⟨#[118]⟩, false⟩] = (⟨#[]⟩, false) from rfl] at q3
      have q4 := fun w acc (ha : acc ≤ 1000000) (hs : St K w (memC bm bc (putC L3 (d.record 1 0) ⟨3, ⟨#[]⟩, 0⟩) acc :: blk bl (.cells #[.int .i64 d.th, .int .i64 d.sn, .int .i64 d.no, .int .i64 d.ch, .int .i64 d.re, .int .i64 d.fa, .int .u64 d.cl] 30) :: cs)) => read_st (tm := 3) hd.out (by omega) C4.out.ok C4.out.link (by simp) (by omega) hs
      rw [show vval 3 [⟨1, 3, ⟨#[118]⟩, false⟩] = (⟨#[118]⟩, true) from rfl] at q4
      have q5 := fun w acc (ha : acc ≤ 1000000) (hs : St K w (memC bm bc (putC L3 (d.record 1 0) ⟨3, ⟨#[]⟩, 0⟩) acc :: blk bl (.cells #[.int .i64 d.th, .int .i64 d.sn, .int .i64 d.no, .int .i64 d.ch, .int .i64 d.re, .int .i64 d.fa, .int .u64 d.cl] 30) :: cs)) => read_st (tm := 2) hd.out (by omega) C4.out.ok C4.out.link (by simp) (by omega) hs
      rw [show vval 2 [⟨1, 3, ⟨#[118]⟩, false⟩] = (⟨#[]⟩, false) from rfl] at q5
      have Q3 := Lib.hid q3
      have Q4 := Lib.hid q4
      have Q5 := Lib.hid q5
      clear q3 q4 q5 h
      have hs := hs.tail
      have kl := hs.k1
      go_wp2_with fail
      refine (Q3.out _ hs).mono ?_
      clear hs kl
      rintro e w5 ⟨acc1, rfl, ha1, hs⟩
      have kl := hs.k1
      go_wp2_with fail
      refine (newStamp_st (r := 1) (t := 3) hd.out (by omega) hs).mono ?_
      clear hs kl
      rintro e w6 ⟨b1, bi, bn, rfl, hs⟩
      go_wp2_with fail
      refine (stampStep_st (by omega) hs).mono ?_
      clear hs
      rintro e w7 ⟨rfl, hs⟩
      have kl := hs.k1
      go_wp2_with fail
      refine (Q4.out _ _ (by omega) hs).mono ?_
      clear hs kl
      rintro e w8 ⟨acc2, rfl, ha2, hs⟩
      have kl := hs.k1
      go_wp2_with fail
      refine (Q5.out _ _ (by omega) hs).mono ?_
      clear hs kl
      rintro e w9 ⟨acc3, rfl, ha3, hs⟩
      go_wp2
      go_ret
      exact ⟨rfl, hs.tail.tail⟩
theorem write_below {v : ByteArray} {del : Bool} {kd fl : Int} (hv : v.size ≤ maxLen) (w : World) :
    Calls Try.prog 33 #[.agg #[.int .i64 kd, .string v, .bool del, .int .u8 fl]] w fun e w' => e = .returned (.agg #[.string ⟨#[]⟩, .string (wrV v del), .bool del]) ∧ Below w.heap.size w w' :=
  (write_st hv (St.start w)).mono fun _ _ ⟨he, hs⟩ => ⟨he, hs.below (Know.Le.refl _)⟩
theorem runDone_any (w : World) (b : Nat) (h0 : w.cell? ⟨b, 0, none⟩ = some .nilFunc) (h1 : w.cell? ⟨b, 1, none⟩ = some (.bool true)) : Calls Try.prog 104 #[.pointer (some ⟨b, 0, none⟩)] w fun e w' => e = .returned (.bool true) ∧ w = w' := by
  go_enter Try.func104, Try.ntmps104
  go_wp2
  go_ret
  exact ⟨rfl, rfl⟩
theorem inOld_any {b : Nat} {d : Cfg} {ch r old : Int} {key v : ByteArray} {del : Bool} (w : World) (h : w.heap[b]? = some (.cells (inCells .nilFunc d ch r key v del old).toArray 170)) :
    Calls Try.prog 42 #[.pointer (some ⟨b, 0, none⟩)] w fun e w' => e = .returned (.int .u64 old) ∧ w = w' := by
  have k := blk_cell h
  have Q := Lib.hid (runDone_any w b (k 0) (k 1))
  clear h
  unfold inCells at k
  go_enter Try.func42, Try.ntmps42
  go_wp2_with fail
  refine (Q.out).mono ?_
  rintro e w1 ⟨rfl, rfl⟩
  go_wp2
  go_ret
  exact ⟨rfl, rfl⟩
end
end Go.Proofs.Ytfgjanponijkhaa
