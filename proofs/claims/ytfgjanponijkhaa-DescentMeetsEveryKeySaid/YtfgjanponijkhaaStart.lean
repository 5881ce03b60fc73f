/- The contract of layout.Start at a valid configuration. -/
import Derived.Test.YtfgjanponijkhaaMem
import Derived.Test.YtfgjanponijkhaaLayA
namespace Go.Proofs.Ytfgjanponijkhaa
open Go.RowKit

/-- The cells of an empty database. -/
def startL (d : Cfg) : List Cel := putC (putC (putC (List.replicate d.cells.toNat Cel.zero) 0 ⟨1, ⟨#[]⟩, 0⟩) 4 ⟨1, ⟨#[]⟩, 0⟩) (d.node 1 2) ⟨0, ⟨#[]⟩, 1⟩

/-- What Start hands back. -/
def StartPost (d : Cfg) (w : World) (e : Ending) (w' : World) : Prop :=
  ∃ bm bc, e = .returned (.tuple #[.agg #[.int .i64 d.th, .int .i64 d.sn, .int .i64 d.no, .int .i64 d.ch, .int .i64 d.re, .int .i64 d.fa, .int .u64 d.cl], .pointer (some ⟨bm, 0, none⟩), .int .i64 0]) ∧ MemAt w' bm bc (startL d) 0 ∧ Below w.heap.size w w' ∧ w.heap.size ≤ bm ∧ w.heap.size ≤ bc

theorem start_res7 (tmps : Array Value) (w : World) (b : Nat) (v0 v1 v2 v3 v4 v5 v6 : Value) (hp : tmps[2]? = some (.pointer (some ⟨b, 0, none⟩))) (hk : ∀ k, w.cell? ⟨b, k, none⟩ = (#[v0, v1, v2, v3, v4, v5, v6] : Array Value)[k]?) :
    (results Try.f96 tmps).run Try.prog w = .ok (.tuple #[.agg #[v0, v1, v2, v3, v4, v5, v6], tmps.getD 3 undef, tmps.getD 4 undef]) w := by
  simp [results, Try.results96, go_sem, hp, hk]

set_option maxHeartbeats 1000000 in
theorem start_yes (d : Cfg) (hd : d.Ok) (w : World) : Calls Try.prog 96 #[.agg #[.int .i64 d.th, .int .i64 d.sn, .int .i64 d.no, .int .i64 d.ch, .int .i64 d.re, .int .i64 d.fa, .int .u64 d.cl]] w (StartPost d w) := by
  obtain ⟨n, hcells, hn, hn1, hn2⟩ : ∃ n : Nat, (∀ w, Calls Try.prog 148 #[.agg #[.int .i64 d.th, .int .i64 d.sn, .int .i64 d.no, .int .i64 d.ch, .int .i64 d.re, .int .i64 d.fa, .int .u64 d.cl]] w fun e w' => e = .returned (.int .i64 (n : Int)) ∧ Below w.heap.size w w') ∧ d.cells.toNat = n ∧ 1 ≤ n ∧ n ≤ 1048576 := by
    have h1 := hd.cells_bd; have h2 := hd.C_bd; have h3 := hd.B_bd; have h4 := hd.A_bd
    obtain ⟨n, hn⟩ := Int.eq_ofNat_of_zero_le (show 0 ≤ d.cells by omega)
    exact ⟨n, fun w => by rw [← hn]; exact cells_any d hd w, by omega, by omega, by omega⟩
  have Hn := Lib.hid hn
  clear hn
  go_enter Try.func96, Try.ntmps96
  go_wp2_with fail
  refine (new_yes d hd _).mono ?_
  rintro e w1 ⟨rfl, hb1⟩
  have hz : w.heap.size + 2 ≤ w1.heap.size := by have := hb1.size; simp at this; omega
  have R1 : w1.heap[w.heap.size + 1]? = some (.cells #[.int .i64 0, .int .i64 0, .int .i64 0, .int .i64 0, .int .i64 0, .int .i64 0, .int .u64 0] 30) := blk_same hb1 (by simpa using blk_alloc (w.alloc (.cells #[.int .i64 d.th, .int .i64 d.sn, .int .i64 d.no, .int .i64 d.ch, .int .i64 d.re, .int .i64 d.fa, .int .u64 d.cl] 27)) (.cells #[.int .i64 0, .int .i64 0, .int .i64 0, .int .i64 0, .int .i64 0, .int .i64 0, .int .u64 0] 30))
  have hB1 : Below w.heap.size w w1 := (((Below.refl _ _).alloc (Nat.le_refl _) _).alloc (by simp) _).trans (hb1.mono (by simp; omega))
  clear hb1
  go_wp2_with fail
  refine (hcells _).mono ?_
  rintro e w2 ⟨rfl, hb2⟩
  have R2 := blk_same hb2 (blk_old R1 (.cells #[.int .i64 d.th, .int .i64 d.sn, .int .i64 d.no, .int .i64 d.ch, .int .i64 d.re, .int .i64 d.fa, .int .u64 d.cl] 30))
  have L2 := blk_same hb2 (blk_alloc w1 (.cells #[.int .i64 d.th, .int .i64 d.sn, .int .i64 d.no, .int .i64 d.ch, .int .i64 d.re, .int .i64 d.fa, .int .u64 d.cl] 30))
  have hz2 : w1.heap.size + 1 ≤ w2.heap.size := by have := hb2.size; simp at this; omega
  have hB2 : Below w.heap.size w w2 := (hB1.alloc hB1.size _).trans (hb2.mono (by simp; omega))
  clear hb2 R1 hB1
  go_wp2_with fail
  refine (memNew_any _ n hn1 hn2).mono ?_
  rintro e w3 ⟨rfl, M3, hb3, hs3⟩
  have R3 := blk_same hb3 R2
  have L3 := blk_same hb3 L2
  have hB3 := hB2.trans (hb3.mono hB2.size)
  clear hb3 R2 L2
  have kl := blk_cell L3
  go_wp2_with fail
  refine (root_any d _).mono ?_
  rintro e w4 ⟨rfl, hb4⟩
  have M4 := M3.same hb4
  have R4 := blk_same hb4 R3
  have L4 := blk_same hb4 L3
  have hB4 := hB3.trans (hb4.mono hB3.size)
  clear hb4 M3 R3 L3 kl
  have kl := blk_cell L4
  go_wp2_with fail
  refine (poke_any _ _ _ _ _ 0 ⟨1, ⟨#[]⟩, 0⟩ M4).mono ?_
  rintro e w5 ⟨rfl, M5, hg5⟩
  have R5 := hg5.blk R4 (by simp; omega)
  have L5 := hg5.blk L4 (by simp; omega)
  have hB5 := hB4.trans (hg5.below hB4.size (by simp; omega))
  clear hg5 M4 R4 L4 kl
  have kl := blk_cell L5
  go_wp2_with fail
  refine (nodes_any d _).mono ?_
  rintro e w6 ⟨rfl, hb6⟩
  have M6 := M5.same hb6
  have R6 := blk_same hb6 R5
  have L6 := blk_same hb6 L5
  have hB6 := hB5.trans (hb6.mono hB5.size)
  clear hb6 M5 R5 L5 kl
  have kl := blk_cell L6
  go_wp2_with fail
  refine (poke_any _ _ _ _ _ 4 ⟨1, ⟨#[]⟩, 0⟩ M6).mono ?_
  rintro e w7 ⟨rfl, M7, hg7⟩
  have R7 := hg7.blk R6 (by simp; omega)
  have L7 := hg7.blk L6 (by simp; omega)
  have hB7 := hB6.trans (hg7.below hB6.size (by simp; omega))
  clear hg7 M6 R6 L6 kl
  have kl := blk_cell L7
  go_wp2_with fail
  refine (high_any d hd 1 (by omega) (by omega) _).mono ?_
  rintro e w8 ⟨rfl, hb8⟩
  have M8 := M7.same hb8
  have R8 := blk_same hb8 R7
  have L8 := blk_same hb8 L7
  have hB8 := hB7.trans (hb8.mono hB7.size)
  clear hb8 M7 R7 L7 kl
  have kl := blk_cell L8
  go_wp2_with fail
  refine (poke_any _ _ _ _ _ (d.node 1 2) ⟨0, ⟨#[]⟩, 1⟩ M8).mono ?_
  rintro e w9 ⟨rfl, M9, hg9⟩
  have R9 := hg9.blk R8 (by simp; omega)
  have L9 := hg9.blk L8 (by simp; omega)
  have hB9 := hB8.trans (hg9.below hB8.size (by simp; omega))
  clear hg9 M8 R8 L8 kl
  have kl := blk_cell L9
  have kr := blk_cell R9
  have kf := blk_frozen R9
  have hlt := blk_lt R9
  go_wp2
  have B7 := blk_set (blk_set (blk_set (blk_set (blk_set (blk_set (blk_set R9 0 (.int .i64 d.th)) 1 (.int .i64 d.sn)) 2 (.int .i64 d.no)) 3 (.int .i64 d.ch)) 4 (.int .i64 d.re)) 5 (.int .i64 d.fa)) 6 (.int .u64 d.cl)
  simp only [List.setIfInBounds_toArray, List.set_cons_zero, List.set_cons_succ] at B7
  refine bodyPost_ret (start_res7 _ _ (w.heap.size + 1) _ _ _ _ _ _ _ rfl (blk_cell B7)) rfl ⟨w2.heap.size + 1, w2.heap.size, rfl, ?_, ?_, ?_, ?_⟩
  · have e : startL d = putC (putC (putC (List.replicate n Cel.zero) 0 ⟨1, ⟨#[]⟩, 0⟩) 4 ⟨1, ⟨#[]⟩, 0⟩) (d.node 1 2) ⟨0, ⟨#[]⟩, 1⟩ := by unfold startL; rw [Hn.out]
    rw [e]
    have hg : Chg [w.heap.size + 1] w9 (((((((w9.setCell ⟨w.heap.size + 1, 0, none⟩ (.int .i64 d.th)).setCell ⟨w.heap.size + 1, 1, none⟩ (.int .i64 d.sn)).setCell ⟨w.heap.size + 1, 2, none⟩ (.int .i64 d.no)).setCell ⟨w.heap.size + 1, 3, none⟩ (.int .i64 d.ch)).setCell ⟨w.heap.size + 1, 4, none⟩ (.int .i64 d.re)).setCell ⟨w.heap.size + 1, 5, none⟩ (.int .i64 d.fa)).setCell ⟨w.heap.size + 1, 6, none⟩ (.int .u64 d.cl)) := by
      iterate 7 refine Chg.setCell ?_ (.inl (by simp)) _
      exact Chg.refl _ _
    exact M9.keep hg (by simp; omega) (by simp; omega)
  · iterate 7 refine Below.setCell ?_ (by simp) _
    exact hB9
  · omega
  · omega
end Go.Proofs.Ytfgjanponijkhaa
