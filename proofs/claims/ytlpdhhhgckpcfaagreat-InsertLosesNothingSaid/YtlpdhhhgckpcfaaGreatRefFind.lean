
/- The reference's Find. -/
import Derived.Test.YtlpdhhhgckpcfaaGreatKeys
import Derived.Test.YtlpdhhhgckpcfaaGreatNodeB
namespace Go.Proofs.YtlpdhhhgckpcfaaGreat
open Go.RowKit
set_option maxRecDepth 100000
theorem loK_take {l : List Sl} {k : Nat} {s : Sl} (key : ByteArray) (h : l[k]? = some s) : loK (l.take (k + 1)) key = loK (l.take k) key + (if klt s.k key then 1 else 0) := by
  unfold loK
  rw [List.take_add_one, h]
  simp [List.countP_append, List.countP_cons]
section
variable {pg : Pg} {a : Option Addr} {cap : Nat} {key : ByteArray}
set_option maxHeartbeats 2000000 in
/-- The reference's Find. -/
theorem refFind_any (w : World) (hg : SlAt w a pg.sl) :
    Calls Tryz.prog 51 #[.agg #[.int .i64 (pg).lev, (.slice a pg.sl.length cap), .string (pg).hi, .bool (pg).la, .int .u64 (pg).ri], .string key] w fun e w' => e = .returned (.tuple #[.int .i64 (loK pg.sl key : Nat), .bool (pg.sl.any fun s => s.k.toList == key.toList)]) ∧ Below w.heap.size w w' := by
  have hX := hg.1
  obtain ⟨n, hn⟩ : ∃ n, n = pg.sl.length := ⟨_, rfl⟩
  rw [← hn] at hX ⊢
  have Hn := Lib.hid hn
  have Hg := Lib.hid hg
  have hs := (St.start w).made (.cells #[.int .i64 (pg).lev, (.slice a n cap), .string (pg).hi, .bool (pg).la, .int .u64 (pg).ri] 43)
  clear hn hg
  go_enter Tryz.func51, Tryz.ntmps51
  go_wp2
  go_loopw [6, 7, 8] (fun v6 v7 v8 wr => ∃ k : Nat, k ≤ n ∧ v6 = .int .i64 (loK (pg.sl.take k) key : Nat) ∧ v7 = .bool ((pg.sl.take k).any fun s => s.k.toList == key.toList) ∧ v8 = .int .i64 k ∧ St (Know.of w) wr [blk w.heap.size (.cells #[.int .i64 (pg).lev, (.slice a n cap), .string (pg).hi, .bool (pg).la, .int .u64 (pg).ri] 43)]) (fun _ _ v8 _ => n - (intOf v8).toNat)
  case atStart => exact ⟨0, by omega, by simp [loK], by simp, rfl, hs⟩
  case round =>
    clear hs
    obtain ⟨k, hk, rfl, rfl, rfl, hs⟩ := hrel
    have hb := hs.below (Know.Le.refl _)
    have k0 := hs.k0
    by_cases hlt : k < n
    · have hl' : k < pg.sl.length := by rw [← Hn.out]; exact hlt
      obtain ⟨b1, off1, rfl, _, c0, c1⟩ := (Hg.out.same hb).2 k pg.sl[k] (List.getElem?_eq_getElem hl')
      have Hlo := Lib.hid (loK_take key (List.getElem?_eq_getElem hl'))
      have Han : Hid (((pg.sl.take (k + 1)).any fun s => s.k.toList == key.toList) = (((pg.sl.take k).any fun s => s.k.toList == key.toList) || (pg.sl[k].k.toList == key.toList))) := Lib.hid (by
        rw [List.take_add_one, List.getElem?_eq_getElem hl', List.any_append]; simp only [Option.toList_some, List.any_cons, List.any_nil, Bool.or_false])
      have hlo : loK (pg.sl.take k) key ≤ 1000000000 := by
        have h1 := loK_le (pg.sl.take k) key
        have h2 := List.length_take_le k pg.sl
        omega
      generalize pg.sl[k] = u at *
      generalize loK (pg.sl.take k) key = m at *
      generalize ((pg.sl.take k).any fun s => s.k.toList == key.toList) = q at *
      clear hl'
      cases hu : klt u.k key with
      | true =>
        rw [hu] at Hlo
        cases q with
        | true =>
          go_wp2
          go_roundw
          case rel => exact ⟨k + 1, by omega, by rw [Hlo.out]; go_num, by rw [Han.out]; rfl, by go_num, hs⟩
          case measure => simp [intOf]; omega
        | false =>
          go_wp2
          go_roundw
          case rel => exact ⟨k + 1, by omega, by rw [Hlo.out]; go_num, by rw [Han.out]; rfl, by go_num, hs⟩
          case measure => simp [intOf]; omega
      | false =>
        rw [hu] at Hlo
        cases q with
        | true =>
          go_wp2
          go_roundw
          case rel => exact ⟨k + 1, by omega, by rw [Hlo.out]; go_num, by rw [Han.out]; rfl, by go_num, hs⟩
          case measure => simp [intOf]; omega
        | false =>
          go_wp2
          go_roundw
          case rel => exact ⟨k + 1, by omega, by rw [Hlo.out]; go_num, by rw [Han.out]; rfl, by go_num, hs⟩
          case measure => simp [intOf]; omega
    · obtain rfl : k = n := by omega
      have e : pg.sl.take k = pg.sl := List.take_of_length_le (by rw [← Hn.out]; exact Nat.le_refl _)
      rw [e]
      clear e
      go_wp2
      go_ret2
      exact ⟨rfl, hb⟩
end
end Go.Proofs.YtlpdhhhgckpcfaaGreat
