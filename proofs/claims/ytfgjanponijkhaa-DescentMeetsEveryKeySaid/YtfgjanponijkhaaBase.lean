/- What every layer above the memory leans on: cells that are put, the fresh memory, blinktreekit's Config and Memory. -/
import Derived.Test.YtfgjanponijkhaaStart
import Derived.Test.YtfgjanponijkhaaSt
import Derived.Deep.DeepCutAuto
namespace Go.Proofs.Ytfgjanponijkhaa
open Go.RowKit
set_option maxRecDepth 100000

theorem blk_ne {w : World} {a b : Nat} {cs cs' : Array Value} {T T' : TypeId} {f f' : Nat × Nat} (h : w.heap[a]? = some (.cells cs T f)) (h' : w.heap[b]? = some (.cells cs' T' f')) (hT : T ≠ T') : a ≠ b := by
  intro e
  subst e
  rw [h] at h'
  simp only [Option.some.injEq, Obj.cells.injEq] at h'
  exact hT h'.2.1

theorem getC_put {L : List Cel} {i j : Int} {c : Cel} (hi : 0 ≤ i) (hl : i < L.length) (hj : 0 ≤ j) : getC (putC L i c) j = if j = i then c else getC L j := by
  unfold getC putC
  rw [if_pos hi, if_pos hj, if_pos hj, List.getElem?_set]
  by_cases h : j = i
  · subst h
    rw [if_pos rfl, if_pos rfl, if_pos (by omega)]
    rfl
  · rw [if_neg (by omega), if_neg h]
theorem getC_zero {n : Nat} (j : Int) : getC (List.replicate n Cel.zero) j = Cel.zero := by
  unfold getC
  split
  · rw [List.getElem?_replicate]; split <;> rfl
  · rfl

theorem start_cells (d : Cfg) (hd : d.Ok) : (startL d).length = d.cells.toNat ∧ 10 ≤ d.node 1 2 ∧ ∀ k : Int, 0 ≤ k → getC (startL d) k = if k = d.node 1 2 then ⟨0, ⟨#[]⟩, 1⟩ else if k = 4 then ⟨1, ⟨#[]⟩, 0⟩ else if k = 0 then ⟨1, ⟨#[]⟩, 0⟩ else Cel.zero := by
  have h1 := hd.A_bd; have h2 := hd.B_bd; have h3 := hd.C_bd; have h4 := hd.cells_bd; have f1 := hd.fa1; have n1 := hd.no1
  have e : d.node 1 2 = d.A + 2 := by unfold Cfg.node; rw [if_pos (by omega)]; omega
  have h5 : d.A + 2 < d.cells := by
    have : 1 * (d.fa + 4) ≤ d.no * (d.fa + 4) := Int.mul_le_mul_of_nonneg_right n1 (by omega)
    have e2 : d.B = d.A + d.no * (d.fa + 4) := rfl
    omega
  refine ⟨by simp [startL, putC_length], by omega, fun k hk => ?_⟩
  unfold startL
  rw [getC_put (by omega) (by simp [putC_length]; omega) hk, getC_put (by omega) (by simp [putC_length]; omega) hk, getC_put (by omega) (by simp; omega) hk, getC_zero]

theorem config_any (c : Cfg) (w : World) : Calls Try.prog 109 #[.agg #[.int .i64 c.th, .int .i64 c.sn, .int .i64 c.no, .int .i64 c.ch, .int .i64 c.re, .int .i64 c.fa, .int .u64 c.cl]] w fun e w' => e = .returned (.agg #[.int .i64 c.th, .int .i64 c.sn, .int .i64 c.no, .int .i64 c.ch, .int .i64 c.re, .int .i64 c.fa, .int .u64 c.cl]) ∧ Below w.heap.size w w' := by
  go_enter Try.func109, Try.ntmps109
  go_wp2
  refine bodyPost_ret (v := .agg #[.int .i64 c.th, .int .i64 c.sn, .int .i64 c.no, .int .i64 c.ch, .int .i64 c.re, .int .i64 c.fa, .int .u64 c.cl]) (by simp [results, Try.results109, go_sem]) rfl ⟨rfl, ?_⟩
  exact ((Below.refl _ _).alloc (Nat.le_refl _) _).alloc (by simp) _
/-- The configuration of the laws above the clock's. -/
def kitC (n fa cl : Int) : Cfg := ⟨n, 2, 100, 100, 200, fa, cl⟩

theorem config_res7 (tmps : Array Value) (w : World) (b : Nat) (v0 v1 v2 v3 v4 v5 v6 : Value) (hp : tmps[4]? = some (.pointer (some ⟨b, 0, none⟩))) (hk : ∀ k, w.cell? ⟨b, k, none⟩ = (#[v0, v1, v2, v3, v4, v5, v6] : Array Value)[k]?) :
    (results Try.f17 tmps).run Try.prog w = .ok (.agg #[v0, v1, v2, v3, v4, v5, v6]) w := by
  simp [results, Try.results17, go_sem, hp, hk]

theorem kitConfig_any (n fa : Int) (w : World) : Calls Try.prog 17 #[.int .i64 n, .int .i64 fa] w fun e w' => e = .returned (.agg #[.int .i64 (kitC n (4 + fa % 3) 1000).th, .int .i64 (kitC n (4 + fa % 3) 1000).sn, .int .i64 (kitC n (4 + fa % 3) 1000).no, .int .i64 (kitC n (4 + fa % 3) 1000).ch, .int .i64 (kitC n (4 + fa % 3) 1000).re, .int .i64 (kitC n (4 + fa % 3) 1000).fa, .int .u64 (kitC n (4 + fa % 3) 1000).cl]) ∧ Below w.heap.size w w' := by
  obtain ⟨r, hr, hr0, hr1⟩ : ∃ r : Int, r = fa % 3 ∧ 0 ≤ r ∧ r ≤ 2 := ⟨_, rfl, by omega, by omega⟩
  have q := mod_any fa 3 (by omega) (by omega)
  rw [← hr] at q ⊢
  have Q := Lib.hid q
  clear q hr
  go_enter Try.func17, Try.ntmps17
  go_wp2_with fail
  refine (Q.out _).mono ?_
  rintro e w1 ⟨rfl, rfl⟩
  go_wp2
  refine bodyPost_ret (v := .agg #[.int .i64 (kitC n (4 + r) 1000).th, .int .i64 (kitC n (4 + r) 1000).sn, .int .i64 (kitC n (4 + r) 1000).no, .int .i64 (kitC n (4 + r) 1000).ch, .int .i64 (kitC n (4 + r) 1000).re, .int .i64 (kitC n (4 + r) 1000).fa, .int .u64 (kitC n (4 + r) 1000).cl]) (config_res7 _ _ _ _ _ _ _ _ _ _ rfl (blk_cell (blk_alloc w _))) rfl ⟨rfl, ?_⟩
  exact (Below.refl _ _).alloc (Nat.le_refl _) _

theorem kitMem_res7 (tmps : Array Value) (w : World) (b : Nat) (v0 v1 v2 v3 v4 v5 v6 : Value) (hp : tmps[2]? = some (.pointer (some ⟨b, 0, none⟩))) (hk : ∀ k, w.cell? ⟨b, k, none⟩ = (#[v0, v1, v2, v3, v4, v5, v6] : Array Value)[k]?) :
    (results Try.f18 tmps).run Try.prog w = .ok (.tuple #[.agg #[v0, v1, v2, v3, v4, v5, v6], tmps.getD 3 undef]) w := by
  simp [results, Try.results18, go_sem, hp, hk]

set_option maxHeartbeats 1000000 in
/-- blinktreekit.Memory at a valid configuration: the layout and a fresh memory. -/
theorem kitMemory_any (d : Cfg) (hd : d.Ok) (w : World) : Calls Try.prog 18 #[.agg #[.int .i64 d.th, .int .i64 d.sn, .int .i64 d.no, .int .i64 d.ch, .int .i64 d.re, .int .i64 d.fa, .int .u64 d.cl]] w fun e w' => ∃ bm bc, e = .returned (.tuple #[.agg #[.int .i64 d.th, .int .i64 d.sn, .int .i64 d.no, .int .i64 d.ch, .int .i64 d.re, .int .i64 d.fa, .int .u64 d.cl], .pointer (some ⟨bm, 0, none⟩)]) ∧ MemAt w' bm bc (startL d) 0 ∧ Below w.heap.size w w' ∧ w.heap.size ≤ bm ∧ w.heap.size ≤ bc := by
  obtain ⟨p1, p2, p3⟩ := start_cells d hd
  have hlen : ((startL d).length : Int) = d.cells := by have h1 := hd.A_bd; have h2 := hd.B_bd; have h3 := hd.C_bd; have h4 := hd.cells_bd; omega
  have Hlen := Lib.hid hlen
  clear p1 p2 p3 hlen
  go_enter Try.func18, Try.ntmps18
  go_wp2_with fail
  refine (start_yes d hd _).mono ?_
  rintro e w2 ⟨bm, bc, rfl, M2, hb2, g1, g2⟩
  obtain ⟨W, hW⟩ : ∃ W, W = w2.alloc (.cells #[.int .i64 d.th, .int .i64 d.sn, .int .i64 d.no, .int .i64 d.ch, .int .i64 d.re, .int .i64 d.fa, .int .u64 d.cl] 30) := ⟨_, rfl⟩
  have hz := hb2.size
  simp only [World.size_alloc] at hz g1 g2
  have A1 : W.heap[w.heap.size]? = some (.cells #[.int .i64 d.th, .int .i64 d.sn, .int .i64 d.no, .int .i64 d.ch, .int .i64 d.re, .int .i64 d.fa, .int .u64 d.cl] 27) := by rw [hW]; exact blk_old (blk_same hb2 (blk_old (blk_alloc w _) _)) _
  have A2 : W.heap[w.heap.size + 1]? = some (.cells #[.int .i64 0, .int .i64 0, .int .i64 0, .int .i64 0, .int .i64 0, .int .i64 0, .int .u64 0] 30) := by
    have := blk_same hb2 (blk_alloc (w.alloc (.cells #[.int .i64 d.th, .int .i64 d.sn, .int .i64 d.no, .int .i64 d.ch, .int .i64 d.re, .int .i64 d.fa, .int .u64 d.cl] 27)) _)
    rw [World.size_alloc] at this
    rw [hW]; exact blk_old this _
  have A3 : W.heap[w2.heap.size]? = some (.cells #[.int .i64 d.th, .int .i64 d.sn, .int .i64 d.no, .int .i64 d.ch, .int .i64 d.re, .int .i64 d.fa, .int .u64 d.cl] 30) := by rw [hW]; exact blk_alloc w2 _
  have M : MemAt W bm bc (startL d) 0 := by rw [hW]; exact M2.alloc _
  have hB : Below w.heap.size w W := by
    rw [hW]
    exact ((((Below.refl _ _).alloc (Nat.le_refl _) _).alloc (by simp) _).trans (hb2.mono (by simp; omega))).alloc (by omega) _
  go_upto_region 2 with (fail)
  rw [← hW]
  clear hW hb2 M2
  have k1 := blk_cell A1
  have Q : Hid (∀ w', (∃ x : Ext, w' = over W x) → Calls Try.prog 97 #[.pointer (some ⟨bm, 0, none⟩)] w' fun e w'' => e = .returned (.int .i64 d.cells) ∧ w' = w'') := by
    intro w' hx
    have := memCells_any w' bm bc _ _ (M.same (Pure.below hx))
    rwa [Hlen.out] at this
  refine region_pure (by kernel_rfl) (by as_aux_lemma => kernel_rfl) ?_
  repeat (go_big_quiet_step (first | (go_at_call 97; exact pure_of_same (Q.out _ ⟨_, rfl⟩)) | (go_at_call 98; exact pure_of (refCells_any d hd _))))
  refine wpQuiet_nil ?_
  intro w3 hb
  have C2 := blk_same hb A2
  have C3 := blk_same hb A3
  have M3 := M.same hb
  have hB3 := hB.trans (hb.mono hB.size)
  clear k1 A1 A2 A3 hb M hB Q
  have k2 := blk_cell C2
  have f2 := blk_frozen C2
  have k3 := blk_cell C3
  go_wp2
  have B7 := blk_set (blk_set (blk_set (blk_set (blk_set (blk_set (blk_set C2 0 (.int .i64 d.th)) 1 (.int .i64 d.sn)) 2 (.int .i64 d.no)) 3 (.int .i64 d.ch)) 4 (.int .i64 d.re)) 5 (.int .i64 d.fa)) 6 (.int .u64 d.cl)
  simp only [List.setIfInBounds_toArray, List.set_cons_zero, List.set_cons_succ] at B7
  have g1' : w.heap.size + 1 + 1 ≤ bm := by simpa using g1
  have g2' : w.heap.size + 1 + 1 ≤ bc := by simpa using g2
  refine bodyPost_ret (kitMem_res7 _ _ (w.heap.size + 1) _ _ _ _ _ _ _ rfl (blk_cell B7)) rfl ⟨bm, bc, rfl, ?_, ?_, ?_, ?_⟩
  · have hg : Chg [w.heap.size + 1] w3 (((((((w3.setCell ⟨w.heap.size + 1, 0, none⟩ (.int .i64 d.th)).setCell ⟨w.heap.size + 1, 1, none⟩ (.int .i64 d.sn)).setCell ⟨w.heap.size + 1, 2, none⟩ (.int .i64 d.no)).setCell ⟨w.heap.size + 1, 3, none⟩ (.int .i64 d.ch)).setCell ⟨w.heap.size + 1, 4, none⟩ (.int .i64 d.re)).setCell ⟨w.heap.size + 1, 5, none⟩ (.int .i64 d.fa)).setCell ⟨w.heap.size + 1, 6, none⟩ (.int .u64 d.cl)) := by
      iterate 7 refine Chg.setCell ?_ (.inl (by simp)) _
      exact Chg.refl _ _
    exact M3.keep hg (by simp; omega) (by simp; omega)
  · iterate 7 refine Below.setCell ?_ (by simp) _
    exact hB3
  · omega
  · omega
end Go.Proofs.Ytfgjanponijkhaa
