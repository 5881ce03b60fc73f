/- The reference's Same of pages (layer 7). -/
import Derived.Test.YtfgjanponijkhaaNode9
namespace Go.Proofs.Ytfgjanponijkhaa
open Go.RowKit
set_option maxRecDepth 100000

theorem neq_slot (k : ByteArray) (r : Int) (w : World) : (binOp .neq 132 (.agg #[.string k, .int .u64 r]) (.agg #[.string k, .int .u64 r])).run Try.prog w = .ok (.bool false) w := by
  simp [go_sem]

section
variable {pg : Pg} {a a' : Option Addr} {cap cap' : Nat}
set_option maxHeartbeats 2000000 in
/-- Two pages with the same content. -/
theorem samePage_any (w : World) (hg : SlAt w a pg.sl) (hh : SlAt w a' pg.sl) :
    Calls Try.prog 29 #[.agg #[.int .i64 (pg).lev, (.slice a pg.sl.length cap), .string (pg).hi, .bool (pg).la, .int .u64 (pg).ri], .agg #[.int .i64 (pg).lev, (.slice a' pg.sl.length cap'), .string (pg).hi, .bool (pg).la, .int .u64 (pg).ri]] w fun e w' => e = .returned (.bool true) ∧ Below w.heap.size w w' := by
  have hX := hg.1
  obtain ⟨n, hn⟩ : ∃ n, n = pg.sl.length := ⟨_, rfl⟩
  rw [← hn] at hX ⊢
  have Hn := Lib.hid hn
  have Hg := Lib.hid hg
  have Hh := Lib.hid hh
  have hs := ((St.start w).made (.cells #[.int .i64 (pg).lev, (.slice a n cap), .string (pg).hi, .bool (pg).la, .int .u64 (pg).ri] 25)).made (.cells #[.int .i64 (pg).lev, (.slice a' n cap'), .string (pg).hi, .bool (pg).la, .int .u64 (pg).ri] 25)
  rw [World.size_alloc] at hs
  clear hn hg hh
  go_enter Try.func29, Try.ntmps29
  go_wp2
  go_loopw [5] (fun v wr => ∃ k : Nat, k ≤ n ∧ v = .int .i64 k ∧ St (Know.of w) wr [blk (w.heap.size + 1) (.cells #[.int .i64 (pg).lev, (.slice a' n cap'), .string (pg).hi, .bool (pg).la, .int .u64 (pg).ri] 25), blk w.heap.size (.cells #[.int .i64 (pg).lev, (.slice a n cap), .string (pg).hi, .bool (pg).la, .int .u64 (pg).ri] 25)]) (fun v _ => n - (intOf v).toNat)
  case atStart => exact ⟨0, by omega, rfl, hs⟩
  case round =>
    clear hs
    obtain ⟨k, hk, rfl, hs⟩ := hrel
    have hb := hs.below (Know.Le.refl _)
    have k1 := hs.k1
    have k0 := hs.k0
    by_cases hlt : k < n
    · have hl' : k < pg.sl.length := by rw [← Hn.out]; exact hlt
      obtain ⟨b1, off1, rfl, _, c0, c1⟩ := (Hg.out.same hb).2 k pg.sl[k] (List.getElem?_eq_getElem hl')
      obtain ⟨b2, off2, rfl, _, d0, d1⟩ := (Hh.out.same hb).2 k pg.sl[k] (List.getElem?_eq_getElem hl')
      generalize pg.sl[k] = u at *
      have hq := neq_slot u.k u.r
      clear hl'
      go_upto_region 6 with (fail)
      refine region_pure (by kernel_rfl) (by kernel_rfl) ?_
      repeat (go_big_quiet_step (fail))
      refine wpQuiet_nil ?_
      intro w2 hb2
      have hs := hs.same hb2
      clear c0 c1 d0 d1 hq hb2 k0 k1 hb
      go_wp2
      go_roundw
      case rel => exact ⟨k + 1, by omega, by go_num, hs⟩
      case measure => simp [intOf]; omega
    · obtain rfl : k = n := by omega
      go_wp2
      go_ret
      exact ⟨rfl, hb⟩
end
end Go.Proofs.Ytfgjanponijkhaa
