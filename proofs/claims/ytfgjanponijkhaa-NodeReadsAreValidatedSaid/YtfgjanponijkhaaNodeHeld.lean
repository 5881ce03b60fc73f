/- What a writer of a node holds when it has finished (package node): result, Held. -/
import Derived.Test.YtfgjanponijkhaaNodeW2
namespace Go.Proofs.Ytfgjanponijkhaa
open Go.RowKit
set_option maxRecDepth 100000

theorem result_res (tmps : Array Value) (w : World) (b : Nat) (v0 v1 v2 v3 v4 v5 v6 : Value) (hp : tmps[2]? = some (.pointer (some ⟨b, 0, none⟩))) (hk : ∀ k, w.cell? ⟨b, k, none⟩ = (#[v0, v1, v2, v3, v4, v5, v6] : Array Value)[k]?) :
    (results Try.f117 tmps).run Try.prog w = .ok (.agg #[v0, v1, v2, v3, v4, v5, v6]) w := by
  simp [results, Try.results117, go_sem, hp, hk]
theorem wheld_res (tmps : Array Value) (w : World) (b : Nat) (v0 v1 v2 v3 v4 v5 v6 : Value) (hp : tmps[2]? = some (.pointer (some ⟨b, 0, none⟩))) (hk : ∀ k, w.cell? ⟨b, k, none⟩ = (#[v0, v1, v2, v3, v4, v5, v6] : Array Value)[k]?) :
    (results Try.f48 tmps).run Try.prog w = .ok (.agg #[v0, v1, v2, v3, v4, v5, v6]) w := by
  simp [results, Try.results48, go_sem, hp, hk]
theorem fheld_res (tmps : Array Value) (w : World) (b : Nat) (v0 v1 v2 v3 v4 v5 v6 : Value) (hp : tmps[2]? = some (.pointer (some ⟨b, 0, none⟩))) (hk : ∀ k, w.cell? ⟨b, k, none⟩ = (#[v0, v1, v2, v3, v4, v5, v6] : Array Value)[k]?) :
    (results Try.f65 tmps).run Try.prog w = .ok (.agg #[v0, v1, v2, v3, v4, v5, v6]) w := by
  simp [results, Try.results65, go_sem, hp, hk]

section
variable {K : Know} {w : World} {F : List Comp} {pg : Pg} {id word : Int} {b bw g cap : Nat} {av : Option Addr} {cv : Nat} {ps : List Pt}
set_option maxHeartbeats 4000000 in
theorem result_st (hn : pg.sl.length ≤ 1000000) (hs : St K w (wrC b id word pg (.slice av pg.sl.length cv) g cap ps ps.length :: rowC (.slice av (pg).sl.length cv) 132 2 (pg).sl.length (slRow (pg).sl) :: F)) :
    Calls Try.prog 117 #[.pointer (some ⟨b, 0, none⟩)] w fun e w' => ∃ va, e = .returned (.agg #[.int .u64 id, .int .u64 word, .int .i64 (pg).lev, va, .string (pg).hi, .bool (pg).la, .int .u64 (pg).ri]) ∧
      St K w' (rowC va 132 2 pg.sl.length (slRow pg.sl) :: wrC b id word pg (.slice av pg.sl.length cv) g cap ps ps.length :: rowC (.slice av (pg).sl.length cv) 132 2 (pg).sl.length (slRow (pg).sl) :: F) := by
  obtain ⟨pv, hpv, hs⟩ := hs.wr_open
  rw [if_neg (Nat.lt_irrefl _)] at hs
  have hcl : ∀ w' (G : List Comp), St K w' (blk b (.cells (wrCells .nilFunc pv id word pg (.slice av pg.sl.length cv)).toArray 184) :: G) → St K w' (wrC b id word pg (.slice av pg.sl.length cv) g cap ps ps.length :: G) := fun w' G h => by
    refine St.wr_close (pv := pv) ?_ hpv
    rw [if_neg (Nat.lt_irrefl _)]
    exact h
  have Hcl := Lib.hid hcl
  have hs : St K w (blk b (.cells (wrCells .nilFunc pv id word pg (.slice av pg.sl.length cv)).toArray 184) :: rowC (.slice av (pg).sl.length cv) 132 2 (pg).sl.length (slRow (pg).sl) :: F) := hs
  clear hcl hpv
  have hs := hs.made (.cells #[.int .u64 0, .int .u64 0, .int .i64 0, .slice none 0 0, .string ⟨#[]⟩, .bool false, .int .u64 0] 74)
  have Qd := Lib.hid (rdDone_any (w.alloc (.cells #[.int .u64 0, .int .u64 0, .int .i64 0, .slice none 0 0, .string ⟨#[]⟩, .bool false, .int .u64 0] 74)) b (hs.k1 0) (hs.k1 1))
  go_enter Try.func117, Try.ntmps117
  go_wp2_with fail
  refine (Qd.out).mono ?_
  clear Qd
  rintro e w1 ⟨rfl, rfl⟩
  generalize hb0 : w.heap.size = b0
  rw [hb0] at hs
  go_upto_region 3 with (fail)
  refine wp_ck hs ?_
  clear hs hb0
  intro W hs
  have k := hs.k1
  unfold wrCells at k
  have hs := hs.made (.cells #[.int .u64 id, .int .u64 word, .int .i64 (pg).lev, (.slice av pg.sl.length cv), .string (pg).hi, .bool (pg).la, .int .u64 (pg).ri] 74)
  go_wp2_with fail
  refine (clone_st (cap := cv) hs (hs.b3.row_slots (by omega))).mono ?_
  clear hs k
  generalize W.heap.size = b1
  rintro e w2 ⟨va, rfl, hs⟩
  obtain ⟨a2, c2, rfl, _, _⟩ := hs.row_read
  have hs := hs.b1
  have k1 := hs.k0
  have q1 := hs.f0
  have hs := ((((hs.setL 2 (.int .i64 pg.lev)).setL 3 (.slice a2 pg.sl.length c2)).setL 4 (.string pg.hi)).setL 5 (.bool pg.la)).setL 6 (.int .u64 pg.ri)
  simp only [List.set_cons_zero, List.set_cons_succ] at hs
  go_upto_region 5 with (fail)
  refine wp_ck hs ?_
  clear hs k1 q1
  intro W3 hs
  have k1 := hs.k0
  have hs := hs.b2
  have k0 := hs.k0
  have f0 := hs.f0
  have hs := ((((((hs.setL 0 (.int .u64 id)).setL 1 (.int .u64 word)).setL 2 (.int .i64 pg.lev)).setL 3 (.slice a2 pg.sl.length c2)).setL 4 (.string pg.hi)).setL 5 (.bool pg.la)).setL 6 (.int .u64 pg.ri)
  simp only [List.set_cons_zero, List.set_cons_succ] at hs
  go_wp2
  refine bodyPost_ret (result_res _ _ b0 _ _ _ _ _ _ _ rfl hs.k0) rfl ⟨_, rfl, (Hcl.out _ _ hs.tail.tail.b1).b1⟩
set_option maxHeartbeats 1000000 in
theorem writeHeld_st (hn : pg.sl.length ≤ 1000000) (hs : St K w (wrC b id word pg (.slice av pg.sl.length cv) g cap ps ps.length :: rowC (.slice av (pg).sl.length cv) 132 2 (pg).sl.length (slRow (pg).sl) :: blk bw (.cells #[.pointer (some ⟨b, 0, none⟩)] 182) :: F)) :
    Calls Try.prog 48 #[.pointer (some ⟨bw, 0, none⟩)] w fun e w' => ∃ va, e = .returned (.agg #[.int .u64 id, .int .u64 word, .int .i64 (pg).lev, va, .string (pg).hi, .bool (pg).la, .int .u64 (pg).ri]) ∧
      St K w' (rowC va 132 2 pg.sl.length (slRow pg.sl) :: wrC b id word pg (.slice av pg.sl.length cv) g cap ps ps.length :: rowC (.slice av (pg).sl.length cv) 132 2 (pg).sl.length (slRow (pg).sl) :: blk bw (.cells #[.pointer (some ⟨b, 0, none⟩)] 182) :: F) := by
  have hs := hs.made (.cells #[.int .u64 0, .int .u64 0, .int .i64 0, .slice none 0 0, .string ⟨#[]⟩, .bool false, .int .u64 0] 74)
  have kw := hs.b3.k0
  go_enter Try.func48, Try.ntmps48
  go_wp2_with fail
  refine (result_st hn hs.u2).mono ?_
  clear hs kw
  generalize w.heap.size = b0
  rintro e w1 ⟨va, rfl, hs⟩
  obtain ⟨a2, c2, rfl, _, _⟩ := hs.row_read
  have hs := hs.b3
  have k0 := hs.k0
  have f0 := hs.f0
  have hs := ((((((hs.setL 0 (.int .u64 id)).setL 1 (.int .u64 word)).setL 2 (.int .i64 pg.lev)).setL 3 (.slice a2 pg.sl.length c2)).setL 4 (.string pg.hi)).setL 5 (.bool pg.la)).setL 6 (.int .u64 pg.ri)
  simp only [List.set_cons_zero, List.set_cons_succ] at hs
  go_wp2
  refine bodyPost_ret (wheld_res _ _ b0 _ _ _ _ _ _ _ rfl hs.k0) rfl ⟨_, rfl, hs.tail⟩
set_option maxHeartbeats 1000000 in
theorem freshHeld_st (hn : pg.sl.length ≤ 1000000) (hs : St K w (wrC b id word pg (.slice av pg.sl.length cv) g cap ps ps.length :: rowC (.slice av (pg).sl.length cv) 132 2 (pg).sl.length (slRow (pg).sl) :: blk bw (.cells #[.pointer (some ⟨b, 0, none⟩)] 195) :: F)) :
    Calls Try.prog 65 #[.pointer (some ⟨bw, 0, none⟩)] w fun e w' => ∃ va, e = .returned (.agg #[.int .u64 id, .int .u64 word, .int .i64 (pg).lev, va, .string (pg).hi, .bool (pg).la, .int .u64 (pg).ri]) ∧
      St K w' (rowC va 132 2 pg.sl.length (slRow pg.sl) :: wrC b id word pg (.slice av pg.sl.length cv) g cap ps ps.length :: rowC (.slice av (pg).sl.length cv) 132 2 (pg).sl.length (slRow (pg).sl) :: blk bw (.cells #[.pointer (some ⟨b, 0, none⟩)] 195) :: F) := by
  have hs := hs.made (.cells #[.int .u64 0, .int .u64 0, .int .i64 0, .slice none 0 0, .string ⟨#[]⟩, .bool false, .int .u64 0] 74)
  have kw := hs.b3.k0
  go_enter Try.func65, Try.ntmps65
  go_wp2_with fail
  refine (result_st hn hs.u2).mono ?_
  clear hs kw
  generalize w.heap.size = b0
  rintro e w1 ⟨va, rfl, hs⟩
  obtain ⟨a2, c2, rfl, _, _⟩ := hs.row_read
  have hs := hs.b3
  have k0 := hs.k0
  have f0 := hs.f0
  have hs := ((((((hs.setL 0 (.int .u64 id)).setL 1 (.int .u64 word)).setL 2 (.int .i64 pg.lev)).setL 3 (.slice a2 pg.sl.length c2)).setL 4 (.string pg.hi)).setL 5 (.bool pg.la)).setL 6 (.int .u64 pg.ri)
  simp only [List.set_cons_zero, List.set_cons_succ] at hs
  go_wp2
  refine bodyPost_ret (fheld_res _ _ b0 _ _ _ _ _ _ _ rfl hs.k0) rfl ⟨_, rfl, hs.tail⟩
end
end Go.Proofs.Ytfgjanponijkhaa
