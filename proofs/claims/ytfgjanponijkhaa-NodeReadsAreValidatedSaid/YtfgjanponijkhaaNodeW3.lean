/- NewWrite (package node): the stores that turn a page into another. -/
import Derived.Test.YtfgjanponijkhaaNodeW2
import Derived.Test.YtfgjanponijkhaaNodePg
namespace Go.Proofs.Ytfgjanponijkhaa
open Go.RowKit
set_option maxRecDepth 100000

attribute [go_sem] run_makeMap
theorem wf_of_u64 {n : Int} (h0 : 0 ≤ n) (h1 : n < 18446744073709551616) : (Lit.int .u64 n).wf = true := by
  simp [Lit.wf, IntKind.min, IntKind.max, IntKind.signed, IntKind.bits]; omega
theorem wf_of_i64 {n : Int} (h0 : -9223372036854775808 ≤ n) (h1 : n ≤ 9223372036854775807) : (Lit.int .i64 n).wf = true := by
  simp [Lit.wf, IntKind.min, IntKind.max, IntKind.signed, IntKind.bits]; omega

section
variable {d : Cfg} (hd : d.Ok) {id : Int}
include hd
theorem node_wf {k : Int} (h1 : 1 ≤ id) (h2 : id ≤ d.no) (hk : 0 ≤ k) (hk2 : k < d.fa + 4) : (Lit.int .i64 (d.node id k)).wf = true := by
  have h := node_in hd h1 h2 hk hk2
  have := hd.cells_bd
  exact wf_of_i64 (by omega) (by omega)
theorem slPts_ok (h1 : 1 ≤ id) (h2 : id ≤ d.no) : ∀ (l : List Sl) (i : Nat), (i + l.length : Int) ≤ d.fa → (∀ s, s ∈ l → (0 ≤ s.r ∧ s.r < 18446744073709551616) ∧ s.k.size ≤ maxLen) → ∀ p, p ∈ slPts d id i l → PtOk p
  | [], _, _, _, p, hp => by simp [slPts] at hp
  | s :: l, i, hle, hr, p, hp => by
    simp only [List.length_cons] at hle
    rcases List.mem_cons.1 hp with h | h
    · subst h
      obtain ⟨r1, r2⟩ := hr s (by simp)
      have es : d.slot id i = d.node id (4 + (i : Int)) := by
        unfold Cfg.slot
        rw [if_pos ⟨by omega, by omega⟩]
      refine ⟨?_, wf_of_u64 r1.1 r1.2, r2, (wf_of_u64 (n := 0) (by decide) (by decide) : _)⟩
      show (Lit.int .i64 (d.slot id i)).wf = true
      rw [es]
      exact node_wf hd h1 h2 (by omega) (by omega)
    · exact slPts_ok h1 h2 l (i + 1) (by omega) (fun s' hs' => hr s' (by simp [hs'])) p h
theorem pgPts_ok (h1 : 1 ≤ id) (h2 : id ≤ d.no) {pg : Pg} (po : PgOk d pg) (hlev : 0 ≤ pg.lev ∧ pg.lev < 1000000) : ∀ p, p ∈ pgPts d id pg → PtOk p := by
  intro p hp
  have f1 := hd.fa1
  have f2 := hd.fa2
  have hle := po.le
  have z : (Lit.int .u64 0).wf = true := wf_of_u64 (by decide) (by decide)
  have e0 : (⟨#[]⟩ : ByteArray).size ≤ maxLen := by show 0 ≤ maxLen; omega
  rcases List.mem_append.1 hp with h | h
  · exact slPts_ok hd h1 h2 pg.sl 0 (by omega) (fun s hs => ⟨po.r s hs, po.k s hs⟩) p h
  · simp only [List.mem_cons, List.not_mem_nil, or_false] at h
    rcases h with h | h | h
    · subst h
      refine ⟨node_wf hd h1 h2 (by omega) (by omega), ?_, ?_, ?_⟩ <;> (simp only [hiCel]; cases pg.la)
      · exact z
      · exact z
      · exact po.hi
      · exact e0
      · exact z
      · exact (wf_of_u64 (n := 1) (by decide) (by decide) : _)
    · subst h
      exact ⟨node_wf hd h1 h2 (by omega) (by omega), wf_of_u64 po.ri.1 po.ri.2, e0, z⟩
    · subst h
      exact ⟨node_wf hd h1 h2 (by omega) (by omega), wf_of_u64 (by show (0 : Int) ≤ pg.sl.length; omega) (by show (pg.sl.length : Int) < _; omega), e0, wf_of_u64 hlev.1 (by show pg.lev < _; omega)⟩
end

/-- What a writer's list is made of: the first store, those of y that are none of x's, in their order. -/
def Newer (px py : List Pt) (mid : List Pt) : Prop := mid.Sublist py ∧ ∀ p, p ∈ py → p ∉ px → p ∈ mid
theorem Newer.nil (px : List Pt) : Newer px [] [] := ⟨List.Sublist.refl _, fun p h => by simp at h⟩
theorem Newer.skip {px py mid : List Pt} {p : Pt} (h : Newer px py mid) (hp : p ∈ px) : Newer px (py ++ [p]) mid :=
  ⟨h.1.trans (List.sublist_append_left _ _), fun q hq hn => by
    rcases List.mem_append.1 hq with h1 | h1
    · exact h.2 q h1 hn
    · simp at h1; subst h1; exact absurd hp hn⟩
theorem Newer.take {px py mid : List Pt} {p : Pt} (h : Newer px py mid) : Newer px (py ++ [p]) (mid ++ [p]) :=
  ⟨List.Sublist.append h.1 (List.Sublist.refl _), fun q hq hn => by
    rcases List.mem_append.1 hq with h1 | h1
    · exact List.mem_append_left _ (h.2 q h1 hn)
    · exact List.mem_append_right _ h1⟩

def rowP (o : Option Value) (c0 c1 : Comp) : Comp := match o with
  | some _ => c1
  | none => c0
/-- What is known while NewWrite's last statement runs. -/
def NwR (K : Know) (REST : List Comp) (id word2 : Int) (y : Pg) (a11 : Option Addr) (c11 n : Nat) (xs lit : List Value) (ρ : Nat → Option Value) (W : World) : Prop :=
  ∃ (b5 : Nat) (a6 : Option Addr) (c6 : Nat) (aV : Option Addr) (cV b13 bw : Nat),
    (∀ v, ρ 5 = some v → v = .slice (some ⟨b5, 0, none⟩) 1 1) ∧ (∀ v, ρ 6 = some v → v = .slice a6 (n + 1) c6) ∧ (∀ v, ρ 11 = some v → v = .agg #[.int .i64 (y).lev, (.slice aV y.sl.length cV), .string (y).hi, .bool (y).la, .int .u64 (y).ri]) ∧
    (∀ v, ρ 12 = some v → v = .agg #[.int .u64 id, .int .u64 word2, .int .i64 (y).lev, (.slice aV y.sl.length cV), .string (y).hi, .bool (y).la, .int .u64 (y).ri]) ∧ (∀ v, ρ 13 = some v → v = .pointer (some ⟨b13, 0, none⟩)) ∧ (∀ v, ρ 14 = some v → v = .agg #[.pointer (some ⟨b13, 0, none⟩)]) ∧ (∀ v, ρ 15 = some v → v = .pointer (some ⟨bw, 0, none⟩)) ∧ (∀ v, ρ 16 = some v → v = .pointer (some ⟨bw, 0, none⟩)) ∧
    St K W (optC (ρ 5) (blk b5 (.cells lit.toArray 178)) :: rowP (ρ 6) (rowC (.slice a11 n c11) 178 4 n xs) (rowC (.slice a6 (n + 1) c6) 178 4 (n + 1) (xs ++ lit)) :: optC (ρ 11) (slC (.slice aV y.sl.length cV) y) ::
      optC (ρ 13) (blk b13 (.cells (wrCells (stV (wrStore b13)) (.slice a6 (n + 1) c6) id word2 y (.slice aV y.sl.length cV)).toArray 184)) :: optC (ρ 15) (blk bw (.cells #[.pointer (some ⟨b13, 0, none⟩)] 182)) :: REST)

section
variable {K : Know} {W : World} {REST : List Comp} {id word2 : Int} {y : Pg} {a11 ay : Option Addr} {c11 n cy : Nat} {xs lit : List Value} {ρ : Nat → Option Value} {v v5 v6 v11 v12 v13 v14 v15 : Value}
theorem NwR.start (hs : St K W (rowC (.slice a11 n c11) 178 4 n xs :: REST)) : NwR K REST id word2 y a11 c11 n xs lit (fun _ => none) W := by
  refine ⟨0, none, 0, none, 0, 0, 0, ?_, ?_, ?_, ?_, ?_, ?_, ?_, ?_, ?_⟩
  iterate 8 (intro v h; cases h)
  exact hs.empty.b1.empty.b1.empty.b1.empty
theorem NwR.same {W' : World} (h : NwR K REST id word2 y a11 c11 n xs lit ρ W) (hb : Below W.heap.size W W') : NwR K REST id word2 y a11 c11 n xs lit ρ W' := by
  obtain ⟨b5, a6, c6, aV, cV, b13, bw, e1, e2, e3, e4, e5, e6, e7, e8, hs⟩ := h
  exact ⟨b5, a6, c6, aV, cV, b13, bw, e1, e2, e3, e4, e5, e6, e7, e8, hs.same hb⟩
theorem NwR.rest (h : NwR K REST id word2 y a11 c11 n xs lit ρ W) : St K W REST := by
  obtain ⟨b5, a6, c6, aV, cV, b13, bw, e1, e2, e3, e4, e5, e6, e7, e8, hs⟩ := h
  exact hs.tail.tail.tail.tail.tail
theorem NwR.e5 (h : NwR K REST id word2 y a11 c11 n xs lit ρ W) (h5 : ρ 5 = none) : NwR K REST id word2 y a11 c11 n xs lit (upd ρ 5 (.slice (some ⟨W.heap.size, 0, none⟩) 1 1)) (W.alloc (.cells lit.toArray 178)) := by
  obtain ⟨b5, a6, c6, aV, cV, b13, bw, e1, e2, e3, e4, e5, e6, e7, e8, hs⟩ := h
  rw [h5] at hs
  exact ⟨W.heap.size, a6, c6, aV, cV, b13, bw, fun v hv => (Option.some.inj hv).symm, e2, e3, e4, e5, e6, e7, e8, hs.tail.made _⟩
theorem NwR.e6 (h : NwR K REST id word2 y a11 c11 n xs lit ρ W) (h5 : ρ 5 = some v5) (h6 : ρ 6 = none) (h13 : ρ 13 = none) : ∃ (b5 : Nat) (R' : List Comp), v5 = .slice (some ⟨b5, 0, none⟩) 1 1 ∧ St K W (rowC (.slice a11 n c11) 178 4 n xs :: blk b5 (.cells lit.toArray 178) :: R') ∧
    ∀ v' W', St K W' (rowC v' 178 4 (n + 1) (xs ++ lit) :: blk b5 (.cells lit.toArray 178) :: R') → NwR K REST id word2 y a11 c11 n xs lit (upd ρ 6 v') W' := by
  obtain ⟨b5, a6, c6, aV, cV, b13, bw, e1, e2, e3, e4, e5, e6, e7, e8, hs⟩ := h
  rw [h5, h6, h13] at hs
  refine ⟨b5, _, e1 v5 h5, hs.b1, fun v' W' hs' => ?_⟩
  obtain ⟨a', c', rfl, _, _⟩ := hs'.row_read
  refine ⟨b5, a', c', aV, cV, b13, bw, e1, fun v hv => (Option.some.inj hv).symm, e3, e4, e5, e6, e7, e8, ?_⟩
  show St K W' (optC (ρ 5) _ :: rowC _ _ _ _ _ :: optC (ρ 11) _ :: optC (ρ 13) _ :: optC (ρ 15) _ :: REST)
  rw [h5, h13]
  exact hs'.b1
theorem NwR.e11 (h : NwR K (rowC (.slice ay y.sl.length cy) 132 2 y.sl.length (slRow y.sl) :: REST) id word2 y a11 c11 n xs lit ρ W) (h11 : ρ 11 = none) (h12 : ρ 12 = none) (h13 : ρ 13 = none) : ∃ (R' : List Comp), St K W (rowC (.slice ay y.sl.length cy) 132 2 y.sl.length (slRow y.sl) :: R') ∧
    ∀ va W', St K W' (rowC va 132 2 y.sl.length (slRow y.sl) :: rowC (.slice ay y.sl.length cy) 132 2 y.sl.length (slRow y.sl) :: R') → NwR K (rowC (.slice ay y.sl.length cy) 132 2 y.sl.length (slRow y.sl) :: REST) id word2 y a11 c11 n xs lit (upd ρ 11 (.agg #[.int .i64 (y).lev, va, .string (y).hi, .bool (y).la, .int .u64 (y).ri])) W' := by
  obtain ⟨b5, a6, c6, aV, cV, b13, bw, e1, e2, e3, e4, e5, e6, e7, e8, hs⟩ := h
  rw [h11, h13] at hs
  refine ⟨_, hs.b5, fun va W' hs' => ?_⟩
  obtain ⟨a', c', rfl, _, _⟩ := hs'.row_read
  refine ⟨b5, a6, c6, a', c', b13, bw, e1, e2, fun v hv => (Option.some.inj hv).symm, fun v hv => ?_, e5, e6, e7, e8, ?_⟩
  · have : ρ 12 = some v := hv
    rw [h12] at this; cases this
  · show St K W' (optC (ρ 5) _ :: rowP (ρ 6) _ _ :: slC _ _ :: optC (ρ 13) _ :: optC (ρ 15) _ :: _)
    rw [h13]
    exact hs'.b4.tail.b1.u5.u2
theorem NwR.e12 (h : NwR K REST id word2 y a11 c11 n xs lit ρ W) (h11 : ρ 11 = some v11) : ∃ (aV : Option Addr) (cV : Nat), v11 = .agg #[.int .i64 (y).lev, (.slice aV y.sl.length cV), .string (y).hi, .bool (y).la, .int .u64 (y).ri] ∧
    NwR K REST id word2 y a11 c11 n xs lit (upd ρ 12 (.agg #[.int .u64 id, .int .u64 word2, .int .i64 (y).lev, (.slice aV y.sl.length cV), .string (y).hi, .bool (y).la, .int .u64 (y).ri])) W := by
  obtain ⟨b5, a6, c6, aV, cV, b13, bw, e1, e2, e3, e4, e5, e6, e7, e8, hs⟩ := h
  exact ⟨aV, cV, e3 v11 h11, b5, a6, c6, aV, cV, b13, bw, e1, e2, e3, fun v hv => (Option.some.inj hv).symm, e5, e6, e7, e8, hs⟩
theorem NwR.e13 (h : NwR K REST id word2 y a11 c11 n xs lit ρ W) (h6 : ρ 6 = some v6) (h12 : ρ 12 = some v12) (h13 : ρ 13 = none) (h14 : ρ 14 = none) (h15 : ρ 15 = none) : ∃ (a6 : Option Addr) (c6 : Nat) (aV : Option Addr) (cV : Nat) (R' : List Comp), v6 = .slice a6 (n + 1) c6 ∧
    v12 = .agg #[.int .u64 id, .int .u64 word2, .int .i64 (y).lev, (.slice aV y.sl.length cV), .string (y).hi, .bool (y).la, .int .u64 (y).ri] ∧ St K W R' ∧
    ∀ b W', St K W' (blk b (.cells (wrCells (stV (wrStore b)) (.slice a6 (n + 1) c6) id word2 y (.slice aV y.sl.length cV)).toArray 184) :: R') → NwR K REST id word2 y a11 c11 n xs lit (upd ρ 13 (.pointer (some ⟨b, 0, none⟩))) W' := by
  obtain ⟨b5, a6, c6, aV, cV, b13, bw, e1, e2, e3, e4, e5, e6, e7, e8, hs⟩ := h
  rw [h13, h15] at hs
  refine ⟨a6, c6, aV, cV, _, e2 v6 h6, e4 v12 h12, hs.b3.tail, fun b W' hs' => ?_⟩
  refine ⟨b5, a6, c6, aV, cV, b, bw, e1, e2, e3, e4, fun v hv => (Option.some.inj hv).symm, fun v hv => ?_, e7, e8, ?_⟩
  · have : ρ 14 = some v := hv
    rw [h14] at this; cases this
  · show St K W' (optC (ρ 5) _ :: rowP (ρ 6) _ _ :: optC (ρ 11) _ :: blk _ (.cells (wrCells _ _ _ _ _ _).toArray 184) :: optC (ρ 15) _ :: REST)
    rw [h15]
    exact hs'.u3
theorem NwR.e14 (h : NwR K REST id word2 y a11 c11 n xs lit ρ W) (h13 : ρ 13 = some v13) : ∃ b : Nat, v13 = .pointer (some ⟨b, 0, none⟩) ∧ NwR K REST id word2 y a11 c11 n xs lit (upd ρ 14 (.agg #[.pointer (some ⟨b, 0, none⟩)])) W := by
  obtain ⟨b5, a6, c6, aV, cV, b13, bw, e1, e2, e3, e4, e5, e6, e7, e8, hs⟩ := h
  exact ⟨b13, e5 v13 h13, b5, a6, c6, aV, cV, b13, bw, e1, e2, e3, e4, e5, fun v hv => (Option.some.inj hv).symm, e7, e8, hs⟩
theorem NwR.e15 (h : NwR K REST id word2 y a11 c11 n xs lit ρ W) (h14 : ρ 14 = some v14) (h15 : ρ 15 = none) (h16 : ρ 16 = none) : ∃ b : Nat, v14 = .agg #[.pointer (some ⟨b, 0, none⟩)] ∧ NwR K REST id word2 y a11 c11 n xs lit (upd ρ 15 (.pointer (some ⟨W.heap.size, 0, none⟩))) (W.alloc (.cells #[.pointer (some ⟨b, 0, none⟩)] 182)) := by
  obtain ⟨b5, a6, c6, aV, cV, b13, bw, e1, e2, e3, e4, e5, e6, e7, e8, hs⟩ := h
  rw [h15] at hs
  refine ⟨b13, e6 v14 h14, b5, a6, c6, aV, cV, b13, W.heap.size, e1, e2, e3, e4, e5, e6, fun v hv => (Option.some.inj hv).symm, fun v hv => ?_, ?_⟩
  · have : ρ 16 = some v := hv
    rw [h16] at this; cases this
  · exact (hs.b4.tail.made _).u4
theorem NwR.e16 (h : NwR K REST id word2 y a11 c11 n xs lit ρ W) (h15 : ρ 15 = some v15) : ∃ b : Nat, v15 = .pointer (some ⟨b, 0, none⟩) ∧ NwR K REST id word2 y a11 c11 n xs lit (upd ρ 16 (.pointer (some ⟨b, 0, none⟩))) W := by
  obtain ⟨b5, a6, c6, aV, cV, b13, bw, e1, e2, e3, e4, e5, e6, e7, e8, hs⟩ := h
  exact ⟨bw, e7 v15 h15, b5, a6, c6, aV, cV, b13, bw, e1, e2, e3, e4, e5, e6, e7, fun v hv => (Option.some.inj hv).symm, hs⟩
theorem NwR.last (h : NwR K REST id word2 y a11 c11 n xs lit ρ W) (hall : ∀ e, e ∈ [5, 6, 11, 12, 13, 14, 15, 16] → (ρ e).isSome = true) : ∃ (b5 : Nat) (a6 : Option Addr) (c6 : Nat) (aV : Option Addr) (cV b13 bw : Nat),
    ρ 5 = some (.slice (some ⟨b5, 0, none⟩) 1 1) ∧ ρ 6 = some (.slice a6 (n + 1) c6) ∧ ρ 11 = some (.agg #[.int .i64 (y).lev, (.slice aV y.sl.length cV), .string (y).hi, .bool (y).la, .int .u64 (y).ri]) ∧ ρ 12 = some (.agg #[.int .u64 id, .int .u64 word2, .int .i64 (y).lev, (.slice aV y.sl.length cV), .string (y).hi, .bool (y).la, .int .u64 (y).ri]) ∧ ρ 13 = some (.pointer (some ⟨b13, 0, none⟩)) ∧ ρ 14 = some (.agg #[.pointer (some ⟨b13, 0, none⟩)]) ∧ ρ 15 = some (.pointer (some ⟨bw, 0, none⟩)) ∧ ρ 16 = some (.pointer (some ⟨bw, 0, none⟩)) ∧
    St K W (rowC (.slice a6 (n + 1) c6) 178 4 (n + 1) (xs ++ lit) :: slC (.slice aV y.sl.length cV) y :: blk b13 (.cells (wrCells (stV (wrStore b13)) (.slice a6 (n + 1) c6) id word2 y (.slice aV y.sl.length cV)).toArray 184) :: blk bw (.cells #[.pointer (some ⟨b13, 0, none⟩)] 182) :: REST) := by
  obtain ⟨b5, a6, c6, aV, cV, b13, bw, e1, e2, e3, e4, e5, e6, e7, e8, hs⟩ := h
  have g : ∀ e, e ∈ [5, 6, 11, 12, 13, 14, 15, 16] → ∃ v, ρ e = some v := fun e he => Option.isSome_iff_exists.1 (hall e he)
  obtain ⟨v5, h5⟩ := g 5 (by simp)
  obtain ⟨v6, h6⟩ := g 6 (by simp)
  obtain ⟨v11, h11⟩ := g 11 (by simp)
  obtain ⟨v12, h12⟩ := g 12 (by simp)
  obtain ⟨v13, h13⟩ := g 13 (by simp)
  obtain ⟨v14, h14⟩ := g 14 (by simp)
  obtain ⟨v15, h15⟩ := g 15 (by simp)
  obtain ⟨v16, h16⟩ := g 16 (by simp)
  rw [h5, h6, h11, h13, h15] at hs
  exact ⟨b5, a6, c6, aV, cV, b13, bw, by rw [h5, e1 v5 h5], by rw [h6, e2 v6 h6], by rw [h11, e3 v11 h11], by rw [h12, e4 v12 h12], by rw [h13, e5 v13 h13], by rw [h14, e6 v14 h14], by rw [h15, e7 v15 h15], by rw [h16, e8 v16 h16], hs.tail⟩
end

section
variable {K : Know} {w : World} {F : List Comp} {x y : Pg} {ax ay : Option Addr} {cx cy : Nat} {d : Cfg} {id word : Int}
set_option maxHeartbeats 8000000 in
theorem newWrite_st (hd : d.Ok) (h1 : 1 ≤ id) (h2 : id ≤ d.no) (hw : 0 ≤ word ∧ word < 18446744073709551616) (pox : PgOk d x) (poy : PgOk d y) (lx : 0 ≤ x.lev ∧ x.lev < 1000000) (ly : 0 ≤ y.lev ∧ y.lev < 1000000)
    (hs : St K w (rowC (.slice ax (x).sl.length cx) 132 2 (x).sl.length (slRow (x).sl) :: rowC (.slice ay (y).sl.length cy) 132 2 (y).sl.length (slRow (y).sl) :: F)) :
    Calls Try.prog 46 #[.agg #[.int .i64 d.th, .int .i64 d.sn, .int .i64 d.no, .int .i64 d.ch, .int .i64 d.re, .int .i64 d.fa, .int .u64 d.cl], .agg #[.int .u64 id, .int .u64 word, .int .i64 (x).lev, (.slice ax x.sl.length cx), .string (x).hi, .bool (x).la, .int .u64 (x).ri], .agg #[.int .i64 (y).lev, (.slice ay y.sl.length cy), .string (y).hi, .bool (y).la, .int .u64 (y).ri]] w fun e w' => ∃ (bw b g cap : Nat) (va : Value) (mid ps : List Pt), e = .returned (.pointer (some ⟨bw, 0, none⟩)) ∧
      Newer (pgPts d id x) (pgPts d id y) mid ∧ ps = ⟨d.node id 0, ⟨ltBegin word, ⟨#[]⟩, 0⟩⟩ :: mid ++ [⟨d.node id 0, ⟨ltEnd (ltBegin word), ⟨#[]⟩, 0⟩⟩] ∧
      St K w' (wrC b id (ltEnd (ltBegin word)) y va g cap ps 0 :: rowC (.slice (some ⟨g, 0, none⟩) ps.length cap) 178 4 ps.length (ptRow ps) :: blk bw (.cells #[.pointer (some ⟨b, 0, none⟩)] 182) :: slC va y :: rowC (.slice ax (x).sl.length cx) 132 2 (x).sl.length (slRow (x).sl) :: rowC (.slice ay (y).sl.length cy) 132 2 (y).sl.length (slRow (y).sl) :: F) := by
  have f1 := hd.fa1
  have f2 := hd.fa2
  have hno := hd.no2
  have hid : 0 ≤ id ∧ id < 18446744073709551616 := by omega
  have hb1 := ltBegin_bd hw.1 hw.2
  have okx := pgPts_ok hd h1 h2 pox lx
  have oky := pgPts_ok hd h1 h2 poy ly
  have lenx : (pgPts d id x).length = x.sl.length + 3 := by simp [pgPts, slPts_length]
  have leny : (pgPts d id y).length = y.sl.length + 3 := by simp [pgPts, slPts_length]
  have qx := fun w F (hs : St K w (rowC (.slice ax (x).sl.length cx) 132 2 (x).sl.length (slRow (x).sl) :: F)) => cells_st (cap := cx) (pg := x) hd hid lx pox.le hs
  have qy := fun w F (hs : St K w (rowC (.slice ay (y).sl.length cy) 132 2 (y).sl.length (slRow (y).sl) :: F)) => cells_st (cap := cy) (pg := y) hd hid ly poy.le hs
  obtain ⟨px, hpx⟩ : ∃ px, px = pgPts d id x := ⟨_, rfl⟩
  obtain ⟨py, hpy⟩ : ∃ py, py = pgPts d id y := ⟨_, rfl⟩
  rw [← hpx] at okx lenx qx ⊢
  rw [← hpy] at oky leny qy ⊢
  obtain ⟨fst, hfst⟩ : ∃ fst : Pt, fst = ⟨d.node id 0, ⟨ltBegin word, ⟨#[]⟩, 0⟩⟩ := ⟨_, rfl⟩
  obtain ⟨lst, hlst⟩ : ∃ lst : Pt, lst = ⟨d.node id 0, ⟨ltEnd (ltBegin word), ⟨#[]⟩, 0⟩⟩ := ⟨_, rfl⟩
  rw [← hfst, ← hlst]
  have Hfst := Lib.hid hfst
  have Hlst := Lib.hid hlst
  clear hfst hlst
  have hlx := pox.le
  have hly := poy.le
  have Qx := Lib.hid qx
  have Qy := Lib.hid qy
  have Okx := Lib.hid okx
  have Oky := Lib.hid oky
  have Qa := Lib.hid (fun w => latch_any d hd id hid.1 hid.2 w)
  have Qb := Lib.hid (fun w => ltBegin_any word hw.1 hw.2 w)
  have Qe := Lib.hid (fun w => ltEnd_any (ltBegin word) hb1.1 hb1.2 w)
  have nx : px.length ≤ 40 := by omega
  have ny : py.length ≤ 40 := by omega
  clear qx qy okx oky hpx hpy lenx leny hno pox lx ly
  have hs := ((hs.made (.cells #[.int .i64 d.th, .int .i64 d.sn, .int .i64 d.no, .int .i64 d.ch, .int .i64 d.re, .int .i64 d.fa, .int .u64 d.cl] 30)).made (.cells #[.int .u64 id, .int .u64 word, .int .i64 (x).lev, (.slice ax x.sl.length cx), .string (x).hi, .bool (x).la, .int .u64 (x).ri] 74)).made (.cells #[.int .i64 (y).lev, (.slice ay y.sl.length cy), .string (y).hi, .bool (y).la, .int .u64 (y).ri] 25)
  have hs := hs.ptMap_made
  simp only [World.size_alloc] at hs
  obtain ⟨b0, hb0⟩ : ∃ b0, b0 = w.heap.size := ⟨_, rfl⟩
  go_enter Try.func46, Try.ntmps46
  go_upto_region 2 with (fail)
  rw [← hb0] at hs ⊢
  refine wp_ck hs ?_
  clear hs hb0
  intro W hs
  have kh := hs.k2
  have kl := hs.b3.k0
  go_wp2_with fail
  refine (Qx.out _ _ hs.b4).mono ?_
  clear hs kh kl
  rintro e w1 ⟨vx, rfl, hs⟩
  obtain ⟨apx, cpx, rfl, _, _⟩ := hs.row_read
  have hs := hs.b2
  go_wp2
  go_loopw [23] (fun v23 wr => ∃ k : Nat, k ≤ px.length ∧ v23 = .int .i64 k ∧ St K wr (ptMap (b0 + 1 + 1 + 1) (px.take k).reverse :: rowC (.slice apx px.length cpx) 178 4 px.length (ptRow px) :: rowC (.slice ax (x).sl.length cx) 132 2 (x).sl.length (slRow (x).sl) ::
    blk (b0 + 1 + 1) (.cells #[.int .i64 (y).lev, (.slice ay y.sl.length cy), .string (y).hi, .bool (y).la, .int .u64 (y).ri] 25) :: blk (b0 + 1) (.cells #[.int .u64 id, .int .u64 word, .int .i64 (x).lev, (.slice ax x.sl.length cx), .string (x).hi, .bool (x).la, .int .u64 (x).ri] 74) :: blk b0 (.cells #[.int .i64 d.th, .int .i64 d.sn, .int .i64 d.no, .int .i64 d.ch, .int .i64 d.re, .int .i64 d.fa, .int .u64 d.cl] 30) :: rowC (.slice ay (y).sl.length cy) 132 2 (y).sl.length (slRow (y).sl) :: F)) (fun v _ => px.length - (intOf v).toNat)
  case atStart => exact ⟨0, by omega, rfl, hs⟩
  case round =>
    clear hs
    obtain ⟨k, hk, rfl, hs⟩ := hrel
    by_cases hlt : k < px.length
    · obtain ⟨u, hu⟩ : ∃ u, px[k]? = some u := ⟨_, List.getElem?_eq_getElem hlt⟩
      obtain ⟨r0, r1, r2, r3⟩ := ptRow_at px k u hu
      obtain ⟨g, rfl, c0⟩ := hs.b1.row_at r0
      have c1 := hs.b1.row_cell r1
      have c2 := hs.b1.row_cell r2
      have c3 := hs.b1.row_cell r3
      have okp : PtOk u := Okx.out u (List.mem_of_getElem? hu)
      have hnext : u :: (px.take k).reverse = (px.take (k + 1)).reverse := by
        rw [List.getElem?_eq_getElem hlt] at hu
        rw [List.take_succ_eq_append_getElem hlt, Option.some.inj hu]
        simp
      have hlen : (px.take k).reverse.length < 1000000 := by simp; omega
      have Hs := Lib.hid (hs.pass (.cells #[.int .i64 u.i, .int .u64 u.c.n, .string u.c.k, .int .u64 u.c.m] 178))
      have Hx := Lib.hid hnext
      clear hs hu r0 r1 r2 r3 hnext
      go_wp2_with (at_mapUpdate; refine wpList_ptPut Hs.out okp hlen rfl _ _ _ rfl rfl rfl rfl ?_)
      clear Hs c0 c1 c2 c3
      intro w2 hs
      rw [Hx.out] at hs
      go_wp2
      go_roundw
      case rel => exact ⟨k + 1, by omega, by go_num, hs⟩
      case measure => simp [intOf]; omega
    · obtain rfl : k = px.length := by omega
      rw [List.take_length] at hs
      clear hlt hk
      have kh := hs.b4.k0
      have kl := hs.b5.k0
      go_wp2_with fail
      refine (calls_same hs (Qa.out _)).mono ?_
      clear hs kh kl
      rintro e w2 ⟨rfl, hs⟩
      have kh := hs.b4.k0
      go_wp2_with fail
      refine (calls_id hs (Qb.out _)).mono ?_
      clear hs kh
      rintro e w3 ⟨rfl, hs⟩
      have hs := hs.made (.cells #[.int .i64 (d.node id 0), .int .u64 (ltBegin word), .string ⟨#[]⟩, .int .u64 0] 178)
      have hs := hs.row_lit (n := 1) (size := 4) rfl (by simp [maxLen])
      go_upto_region 9 with (fail)
      refine wp_ck hs ?_
      generalize w3.heap.size = b1
      clear hs
      intro W3 hs
      have kh := hs.b5.k0
      have kl := hs.b6.k0
      have ky := hs.b4.k0
      obtain ⟨iv, hiv0, hiv1, hiv2, hiv3⟩ := info_parts infoPut
      have hs := hs.b2.tail
      go_wp2_with fail
      refine (Qy.out _ _ hs.b6).mono ?_
      clear hs kh kl ky
      rintro e w4 ⟨vy, rfl, hs⟩
      obtain ⟨apy, cpy, rfl, _, _⟩ := hs.row_read
      have hs := hs.b1.b4.b2.b4.b4
      have hrow : [Value.int .i64 (d.node id 0), .int .u64 (ltBegin word), .string ⟨#[]⟩, .int .u64 0] = ptRow [fst] := by rw [Hfst.out]; rfl
      rw [hrow] at hs
      clear hrow Hfst
      go_wp2
      go_loopw [47, 11] (fun v47 v11 wr => ∃ (k : Nat) (mid : List Pt), k ≤ py.length ∧ v47 = .int .i64 k ∧ mid.length ≤ k ∧ Newer px (py.take k) mid ∧
        St K wr (rowC v11 178 4 (mid.length + 1) (ptRow (fst :: mid)) :: ptMap (b0 + 1 + 1 + 1) px.reverse :: rowC (.slice apy py.length cpy) 178 4 py.length (ptRow py) :: rowC (.slice ax (x).sl.length cx) 132 2 (x).sl.length (slRow (x).sl) :: rowC (.slice ay (y).sl.length cy) 132 2 (y).sl.length (slRow (y).sl) ::
        blk (b0 + 1 + 1) (.cells #[.int .i64 (y).lev, (.slice ay y.sl.length cy), .string (y).hi, .bool (y).la, .int .u64 (y).ri] 25) :: blk (b0 + 1) (.cells #[.int .u64 id, .int .u64 word, .int .i64 (x).lev, (.slice ax x.sl.length cx), .string (x).hi, .bool (x).la, .int .u64 (x).ri] 74) :: blk b0 (.cells #[.int .i64 d.th, .int .i64 d.sn, .int .i64 d.no, .int .i64 d.ch, .int .i64 d.re, .int .i64 d.fa, .int .u64 d.cl] 30) :: F)) (fun v _ _ => py.length - (intOf v).toNat)
      case atStart => exact ⟨0, [], by omega, rfl, by simp, Newer.nil _, hs⟩
      case round =>
        clear hs
        obtain ⟨k, mid, hk, rfl, hmid, hnew, hs⟩ := hrel
        by_cases hlt : k < py.length
        · obtain ⟨u, hu⟩ : ∃ u, py[k]? = some u := ⟨_, List.getElem?_eq_getElem hlt⟩
          obtain ⟨r0, r1, r2, r3⟩ := ptRow_at py k u hu
          obtain ⟨g, rfl, c0⟩ := hs.b2.row_at r0
          have c1 := hs.b2.row_cell r1
          have c2 := hs.b2.row_cell r2
          have c3 := hs.b2.row_cell r3
          have oku : PtOk u := Oky.out u (List.mem_of_getElem? hu)
          have htk : py.take (k + 1) = py.take k ++ [u] := by
            rw [List.getElem?_eq_getElem hlt] at hu
            rw [List.take_succ_eq_append_getElem hlt, Option.some.inj hu]
          obtain ⟨a11, c11, rfl, _, _⟩ := hs.row_read
          have hs := hs.made (.cells #[.int .i64 u.i, .int .u64 u.c.n, .string u.c.k, .int .u64 u.c.m] 178)
          obtain ⟨xb, hlook, hxb⟩ := hs.b2.ptMap_look oku
          unfold ptV at hlook
          have Hnew := Lib.hid hnew
          have Htk := Lib.hid htk
          clear hu r0 r1 r2 r3 hnew htk oku
          cases xb with
          | true =>
            have hin : u ∈ px := by simpa using hxb.1 rfl
            have Hin := Lib.hid hin
            clear hxb hin
            go_wp2
            go_roundw
            case rel => exact ⟨k + 1, mid, by omega, by go_num, by omega, by rw [Htk.out]; exact Hnew.out.skip Hin.out, hs.tail⟩
            case measure => simp [intOf]; omega
          | false =>
            clear hxb
            obtain ⟨xs, hxs⟩ : ∃ xs, xs = ptRow (fst :: mid) := ⟨_, rfl⟩
            have hnext : ptRow (fst :: (mid ++ [u])) = xs ++ [.int .i64 u.i, .int .u64 u.c.n, .string u.c.k, .int .u64 u.c.m] := by
              rw [hxs, show fst :: (mid ++ [u]) = (fst :: mid) ++ [u] from rfl, ptRow_append]
              rfl
            rw [← hxs] at hs
            have Hx := Lib.hid hnext
            have hs := hs.made (.cells [.int .i64 u.i, .int .u64 u.c.n, .string u.c.k, .int .u64 u.c.m].toArray 178)
            have hkk := hs.k0
            rw [World.size_alloc] at hs hkk
            have Hw := Lib.hid (lit_cells hkk)
            have Hr := Lib.hid hs.b2
            clear hs hkk hnext hxs
            go_wp2_with (at_builtin; refine append_row_st _ _ 175 178 _ (mid.length + 1) 1 1 4 40 xs [.int .i64 u.i, .int .u64 u.c.n, .string u.c.k, .int .u64 u.c.m] (.agg #[.int .i64 0, .int .u64 0, .string ⟨#[]⟩, .int .u64 0]) iv (some ⟨wr.heap.size + 1, 0, none⟩) Hr.out rfl rfl Try.underlying175 hiv0 hiv1 hiv2 hiv3 rfl (by decide) rfl rfl rfl (fun e => by cases e) Hw.out (fun x hu => by simp at hu; rcases hu with rfl | rfl | rfl | rfl <;> rfl) (by omega) (by decide) ?_)
            clear Hr Hw hlook c0 c1 c2 c3
            intro v' w6 hs
            rw [← Hx.out] at hs
            go_wp2
            go_roundw
            case rel => exact ⟨k + 1, mid ++ [u], by omega, by go_num, by simp; omega, by rw [Htk.out]; exact Hnew.out.take, by simpa using hs.drop1.drop1⟩
            case measure => simp [intOf]; omega
        · obtain rfl : k = py.length := by omega
          rw [List.take_length] at hnew
          have Hnew := Lib.hid hnew
          clear hlt hk hnew
          obtain ⟨a11, c11, rfl, _, _⟩ := hs.row_read
          have kh := hs.b6.k0
          go_wp2_with fail
          refine (calls_id hs (Qb.out _)).mono ?_
          clear hs kh
          rintro e w7 ⟨rfl, hs⟩
          go_wp2_with fail
          refine (calls_id hs (Qe.out _)).mono ?_
          clear hs
          rintro e w8 ⟨rfl, hs⟩
          have hs := hs.drop1.drop1.b5.tail.b2.b1
          obtain ⟨word2, hword2⟩ : ∃ z, z = ltEnd (ltBegin word) := ⟨_, rfl⟩
          obtain ⟨xs, hxs⟩ : ∃ xs, xs = ptRow (fst :: mid) := ⟨_, rfl⟩
          rw [← hxs] at hs
          have Hxs := Lib.hid hxs
          clear hxs
          clear hword2
          go_upto_region 16 with (fail)
          refine wp_ck hs ?_
          clear hs
          intro W hs
          have Hs := Lib.hid hs
          clear hs
          refine region_effects [false, false, false, false, false, true, true, false, false, false, false, true, true, true, true, true, true] [5, 6, 11, 12, 13, 14, 15, 16] (fun | 6 => [5] | 12 => [11] | 13 => [6, 12] | 14 => [13] | 15 => [14] | 16 => [15] | _ => [])
            (NwR K (rowC (.slice ay (y).sl.length cy) 132 2 (y).sl.length (slRow (y).sl) :: rowC (.slice ax (x).sl.length cx) 132 2 (x).sl.length (slRow (x).sl) :: blk (b0 + 1 + 1) (.cells #[.int .i64 (y).lev, (.slice ay y.sl.length cy), .string (y).hi, .bool (y).la, .int .u64 (y).ri] 25) :: blk (b0 + 1) (.cells #[.int .u64 id, .int .u64 word, .int .i64 (x).lev, (.slice ax x.sl.length cx), .string (x).hi, .bool (x).la, .int .u64 (x).ri] 74) :: F) id (ltEnd (ltBegin word)) y a11 c11 (mid.length + 1) xs [.int .i64 (d.node id 0), .int .u64 (ltEnd (ltBegin word)), .string ⟨#[]⟩, .int .u64 0])
            (fun W => (∀ k, W.cell? ⟨b0 + 1 + 1, k, none⟩ = (#[.int .i64 (y).lev, (.slice ay y.sl.length cy), .string (y).hi, .bool (y).la, .int .u64 (y).ri] : Array Value)[k]?) ∧ (∀ k, W.cell? ⟨b0 + 1, k, none⟩ = (#[.int .u64 id, .int .u64 word, .int .i64 (x).lev, (.slice ax x.sl.length cx), .string (x).hi, .bool (x).la, .int .u64 (x).ri] : Array Value)[k]?)) ?aS (by kernel_rfl) ?hB ?H ?haS ?h0 ?hI ?hR ?hE ?hQ
          case hB => as_aux_lemma => kernel_rfl
          case H =>
            rintro W2 ⟨k1, k2⟩
            simp only [withM]
            repeat (go_big_quiet_step (fail))
            refine wpQuiet_nil ?_
            rfl
          case haS => rfl
          case h0 => exact NwR.start Hs.out
          case hI =>
            intro ρ W2 h
            exact ⟨h.rest.k2, h.rest.b3.k0⟩
          case hR => exact fun ρ W2 W3 h hb => h.same hb
          case hE =>
            refine ⟨?e5, ?e6, ?e11, ?e12, ?e13, ?e14, ?e15, ?e16, trivial⟩
            case e5 =>
              intro o ho ρ W2 h hcl h5 hd af haf
              obtain rfl := Option.some.inj ho
              simp only [fillD] at haf
              subst haf
              go_wp2
              exact ⟨rfl, _, rfl, h.e5 h5⟩
            case e6 =>
              intro o ho ρ W2 h hcl h6 hd af haf
              obtain rfl := Option.some.inj ho
              replace haf : af = fillD _ ρ [5] _ := haf
              obtain ⟨v5, h5⟩ := Option.isSome_iff_exists.1 (hd 5 (by show _ ∈ [5]; simp))
              have h13 : ρ 13 = none := hcl.none (by simp) (show 6 ∈ [6, 12] by simp) h6
              obtain ⟨b5, R', rfl, hs, hnext⟩ := h.e6 h5 h6 h13
              simp only [fillD, h5, Option.getD_some, dstAt, List.getElem?_cons_succ, List.getElem?_cons_zero, Option.bind_some, Act.put, List.setIfInBounds_toArray, List.set_cons_zero, List.set_cons_succ] at haf
              subst haf
              refine append_row_st _ _ 175 178 _ (mid.length + 1) 1 1 4 40 xs [.int .i64 (d.node id 0), .int .u64 (ltEnd (ltBegin word)), .string ⟨#[]⟩, .int .u64 0] (.agg #[.int .i64 0, .int .u64 0, .string ⟨#[]⟩, .int .u64 0]) iv (some ⟨b5, 0, none⟩) hs rfl rfl Try.underlying175 hiv0 hiv1 hiv2 hiv3 rfl (by decide) rfl rfl rfl (fun e => by cases e) (lit_cells hs.k1) (fun x hu => by simp at hu; rcases hu with rfl | rfl | rfl | rfl <;> rfl) (by omega) (by decide) ?_
              intro v' w' hs'
              exact ⟨rfl, _, rfl, hnext v' w' hs'⟩
            case e11 =>
              intro o ho ρ W2 h hcl h11 hd af haf
              obtain rfl := Option.some.inj ho
              replace haf : af = fillD _ ρ [] _ := haf
              have h12 : ρ 12 = none := hcl.none (by simp) (show 11 ∈ [11] by simp) h11
              have h13 : ρ 13 = none := hcl.none (by simp) (show 12 ∈ [6, 12] by simp) h12
              obtain ⟨R', hs, hnext⟩ := h.e11 h11 h12 h13
              simp only [fillD] at haf
              subst haf
              go_wp2_with fail
              refine (clone_st (cap := cy) hs (hs.row_slots (by omega))).mono ?_
              rintro e W3 ⟨va, rfl, hs'⟩
              go_wp2
              exact ⟨rfl, _, rfl, hnext va W3 hs'⟩
            case e12 =>
              intro o ho ρ W2 h hcl h12 hd af haf
              obtain rfl := Option.some.inj ho
              replace haf : af = fillD _ ρ [11] _ := haf
              obtain ⟨v11, h11⟩ := Option.isSome_iff_exists.1 (hd 11 (by show _ ∈ [11]; simp))
              obtain ⟨aV, cV, rfl, hn⟩ := h.e12 h11
              simp only [fillD, h11, Option.getD_some, dstAt, List.getElem?_cons_succ, List.getElem?_cons_zero, Option.bind_some, Act.put, List.setIfInBounds_toArray, List.set_cons_zero, List.set_cons_succ] at haf
              subst haf
              go_wp2
              exact ⟨rfl, _, rfl, hn⟩
            case e13 =>
              intro o ho ρ W2 h hcl h13 hd af haf
              obtain rfl := Option.some.inj ho
              replace haf : af = fillD _ ρ [6, 12] _ := haf
              obtain ⟨v6, h6⟩ := Option.isSome_iff_exists.1 (hd 6 (by show _ ∈ [6, 12]; simp))
              obtain ⟨v12, h12⟩ := Option.isSome_iff_exists.1 (hd 12 (by show _ ∈ [6, 12]; simp))
              have h14 : ρ 14 = none := hcl.none (by simp) (show 13 ∈ [13] by simp) h13
              have h15 : ρ 15 = none := hcl.none (by simp) (show 14 ∈ [14] by simp) h14
              obtain ⟨a6, c6, aV, cV, R', rfl, rfl, hs, hnext⟩ := h.e13 h6 h12 h13 h14 h15
              simp only [fillD, h6, h12, Option.getD_some, dstAt, List.getElem?_cons_succ, List.getElem?_cons_zero, Option.bind_some, Act.put, List.setIfInBounds_toArray, List.set_cons_zero, List.set_cons_succ] at haf
              subst haf
              go_wp2_with fail
              refine (newWriter_st hs).mono ?_
              rintro e W3 ⟨b, rfl, hs'⟩
              go_wp2
              exact ⟨rfl, _, rfl, hnext b W3 hs'⟩
            case e14 =>
              intro o ho ρ W2 h hcl h14 hd af haf
              obtain rfl := Option.some.inj ho
              replace haf : af = fillD _ ρ [13] _ := haf
              obtain ⟨v13, h13⟩ := Option.isSome_iff_exists.1 (hd 13 (by show _ ∈ [13]; simp))
              obtain ⟨b, rfl, hn⟩ := h.e14 h13
              simp only [fillD, h13, Option.getD_some, dstAt, List.getElem?_cons_succ, List.getElem?_cons_zero, Option.bind_some, Act.put, List.setIfInBounds_toArray, List.set_cons_zero, List.set_cons_succ] at haf
              subst haf
              go_wp2
              exact ⟨rfl, _, rfl, hn⟩
            case e15 =>
              intro o ho ρ W2 h hcl h15 hd af haf
              obtain rfl := Option.some.inj ho
              replace haf : af = fillD _ ρ [14] _ := haf
              obtain ⟨v14, h14⟩ := Option.isSome_iff_exists.1 (hd 14 (by show _ ∈ [14]; simp))
              have h16 : ρ 16 = none := hcl.none (by simp) (show 15 ∈ [15] by simp) h15
              obtain ⟨b, rfl, hn⟩ := h.e15 h14 h15 h16
              simp only [fillD, h14, Option.getD_some, dstAt, List.getElem?_cons_succ, List.getElem?_cons_zero, Option.bind_some, Act.put, List.setIfInBounds_toArray, List.set_cons_zero, List.set_cons_succ] at haf
              subst haf
              go_wp2
              exact ⟨rfl, _, rfl, hn⟩
            case e16 =>
              intro o ho ρ W2 h hcl h16 hd af haf
              obtain rfl := Option.some.inj ho
              replace haf : af = fillD _ ρ [15] _ := haf
              obtain ⟨v15, h15⟩ := Option.isSome_iff_exists.1 (hd 15 (by show _ ∈ [15]; simp))
              obtain ⟨b, rfl, hn⟩ := h.e16 h15
              simp only [fillD, h15, Option.getD_some, dstAt, List.getElem?_cons_succ, List.getElem?_cons_zero, Option.bind_some, Act.put, List.setIfInBounds_toArray, List.set_cons_zero, List.set_cons_succ] at haf
              subst haf
              go_wp2
              exact ⟨rfl, _, rfl, hn⟩
          case hQ =>
            intro ρ W2 h hall
            obtain ⟨b5, a6, c6, aV, cV, b13, bw, h5, h6, h11, h12, h13, h14, h15, h16, hs⟩ := h.last hall
            simp only [fillD, h5, h6, h11, h12, h13, h14, h15, h16, Option.getD_some, dstAt, List.getElem?_cons_succ, List.getElem?_cons_zero, Option.bind_some, Act.put, List.setIfInBounds_toArray, List.set_cons_zero, List.set_cons_succ]
            have e1 : xs ++ [.int .i64 (d.node id 0), .int .u64 (ltEnd (ltBegin word)), .string ⟨#[]⟩, .int .u64 0] = ptRow (fst :: mid ++ [lst]) := by rw [Hxs.out, ptRow_append, Hlst.out]; rfl
            have e2 : mid.length + 1 + 1 = (fst :: mid ++ [lst]).length := by simp
            rw [e1, e2] at hs
            obtain ⟨ps, hps⟩ : ∃ ps, ps = fst :: mid ++ [lst] := ⟨_, rfl⟩
            have hps0 : ps[0]? = some fst := by rw [hps]; rfl
            have hpl : 0 < ps.length := by rw [hps]; simp
            rw [← hps] at hs
            obtain ⟨g, rfl, _⟩ := hs.row_at (ptRow_at ps 0 fst hps0).1
            have hs := hs.b2
            rw [show wrStore b13 = (if 0 < ps.length then wrStore b13 else none) from (if_pos hpl).symm] at hs
            have hs := hs.wr_close (k := 0) (g := g) (cap := c6) (ps := ps) (fun _ => by rw [Nat.zero_mul, Nat.sub_zero, Nat.sub_zero])
            have hs := hs.b6.tail.b6.tail.b5.b3.b4.b4.b4
            have Hps := Lib.hid hps
            clear hps0 hpl e1 e2 hps h5 h6 h11 h12 h13 h14 h15 h16 hall
            go_wp2
            go_ret
            exact ⟨bw, b13, g, c6, _, mid, ps, rfl, Hnew.out, Hps.out, hs⟩
end
end Go.Proofs.Ytfgjanponijkhaa
