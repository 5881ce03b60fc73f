/- blinktreekit.Cells: the contents of a memory as a slice. -/
import Derived.Test.YtfgjanponijkhaaMemSt
import Derived.Test.YtfgjanponijkhaaBase
namespace Go.Proofs.Ytfgjanponijkhaa
open Go.RowKit
set_option maxRecDepth 100000

theorem makeCells_run (n : Nat) (hn : n ≤ 1048576) (w : World) : (Instr.makeSlice 103 (.int .i64 n) (.int .i64 n)).run Try.prog w = .ok (.slice (some ⟨w.heap.size, 0, none⟩) n n) (w.alloc (.cells (flat (List.replicate n Cel.zero)).toArray 41)) := by
  obtain ⟨i, hi, hz, h3, hby⟩ := info_parts infoCell
  have := run_make w 103 41 i _ Try.underlying103 hi hz .i64 .i64 (n : Int) n (by omega) (by omega) (by rw [hby]; omega) (by omega)
  rw [this, h3, Int.toNat_natCast, show (Value.agg #[.int .u64 0, .string ⟨#[]⟩, .int .u64 0]).cells = #[.int .u64 0, .string ⟨#[]⟩, .int .u64 0] from rfl, flat_zero]

section
variable {K : Know} {w w' : World} {c d : Comp} {cs F : List Comp}

theorem St.setC {g : Nat} {X : List Cel} {T : TypeId} (h : St K w (blk g (.cells (flat X).toArray T) :: F)) (i : Nat) (c : Cel) :
    St K (((w.setCell ⟨g, i * 3, none⟩ (.int .u64 c.n)).setCell ⟨g, i * 3 + 1, none⟩ (.string c.k)).setCell ⟨g, i * 3 + 2, none⟩ (.int .u64 c.m)) (blk g (.cells (flat (X.set i c)).toArray T) :: F) := by
  have := ((h.setL (i * 3) (.int .u64 c.n)).setL (i * 3 + 1) (.string c.k)).setL (i * 3 + 2) (.int .u64 c.m)
  rwa [flat_set] at this
theorem flat_cell {w : World} {g : Nat} {X : List Cel} {T : TypeId} (h : w.heap[g]? = some (.cells (flat X).toArray T)) {i : Nat} {c : Cel} (hi : X[i]? = some c) :
    w.cell? ⟨g, i * 3, none⟩ = some (.int .u64 c.n) ∧ w.cell? ⟨g, i * 3 + 1, none⟩ = some (.string c.k) ∧ w.cell? ⟨g, i * 3 + 2, none⟩ = some (.int .u64 c.m) := by
  have := flat_at X i c hi
  simpa [blk_cell h] using this

set_option maxHeartbeats 1000000 in
theorem kitCells_st {bm bc : Nat} {L : List Cel} {acc : Nat} (hs : St K w (memC bm bc L acc :: F)) :
    Calls Try.prog 69 #[.pointer (some ⟨bm, 0, none⟩)] w fun e w' => ∃ g, e = .returned (.slice (some ⟨g, 0, none⟩) L.length L.length) ∧ St K w' (blk g (.cells (flat L).toArray 41) :: memC bm bc L acc :: F) := by
  have hlen := hs.mem.len
  obtain ⟨n, hn⟩ : ∃ n, n = L.length := ⟨_, rfl⟩
  have q1 := memCells_any w bm bc L acc hs.mem
  rw [← hn] at hlen q1 ⊢
  have Hn := Lib.hid hn
  have Q1 := Lib.hid q1
  clear q1 hn
  have hmk := makeCells_run n hlen
  have hs := hs.made (.cells (flat (List.replicate n Cel.zero)).toArray 41)
  go_enter Try.func69, Try.ntmps69
  go_wp2_with fail
  refine (Q1.out).mono ?_
  rintro e w1 ⟨rfl, rfl⟩
  go_wp2
  clear hmk
  obtain ⟨g, hg⟩ : ∃ g, g = w.heap.size := ⟨_, rfl⟩
  rw [← hg] at hs ⊢
  clear hg Q1
  go_loopw [4] (fun v wr => ∃ k : Nat, k ≤ n ∧ v = .int .i64 k ∧ St K wr (blk g (.cells (flat (L.take k ++ List.replicate (n - k) Cel.zero)).toArray 41) :: memC bm bc L acc :: F)) (fun v _ => n - (intOf v).toNat)
  case atStart => exact ⟨0, by omega, rfl, by simpa using hs⟩
  case round =>
    clear hs
    obtain ⟨k, hk, rfl, hs⟩ := hrel
    by_cases hlt : k < n
    · obtain ⟨c, hc, hz⟩ : ∃ c, getC L k = c ∧ L[k]? = some c := ⟨_, rfl, getC_at (by rw [← Hn.out]; exact hlt)⟩
      have Hz := Lib.hid hz
      have q := peek_st hs hs.mem1 (i := (k : Int))
      rw [hc] at q
      have Q := Lib.hid q
      clear q hc hz hs
      go_wp2_with fail
      refine (Q.out).mono ?_
      clear Q
      rintro e w2 ⟨rfl, hs⟩
      obtain ⟨c0, c1, c2⟩ := flat_cell hs.head (i := k) (c := Cel.zero) (by have := Hn.out; rw [List.getElem?_append_right (by simp; omega)]; simp [List.getElem?_replicate]; omega)
      have kf := hs.f0
      have hs := hs.setC k c
      have e : (L.take k ++ List.replicate (n - k) Cel.zero).set k c = L.take (k + 1) ++ List.replicate (n - (k + 1)) Cel.zero := by
        rw [List.set_append_right _ _ (by simp; omega), List.take_add_one, Hz.out, show n - k = (n - (k + 1)) + 1 by omega, List.replicate_succ]
        simp [show k - min k L.length = 0 by rw [← Hn.out]; omega]
      rw [e] at hs
      clear e
      go_wp2
      go_roundw
      case rel => exact ⟨k + 1, by omega, by go_num, hs⟩
      case measure => simp [intOf]; omega
    · obtain rfl : k = n := by omega
      have e : L.take k ++ List.replicate (k - k) Cel.zero = L := by rw [Nat.sub_self]; simp [Hn.out]
      rw [e] at hs
      clear e
      go_wp2
      go_ret
      exact ⟨g, rfl, hs⟩

theorem neq_cell (n m : Int) (k : ByteArray) (w : World) : (binOp .neq 41 (.agg #[.int .u64 n, .string k, .int .u64 m]) (.agg #[.int .u64 n, .string k, .int .u64 m])).run Try.prog w = .ok (.bool false) w := by
  simp [go_sem]
end
end Go.Proofs.Ytfgjanponijkhaa
