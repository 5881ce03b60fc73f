/- Regions of the laws of layer 8 that make pages, whatever their order. -/
import Derived.Test.YtfgjanponijkhaaNodePg
namespace Go.Proofs.Ytfgjanponijkhaa
open Go.RowKit
set_option maxRecDepth 100000

def pgO (o : Option Value) (pg : Pg) (va : Value) : Array Value := match o with
  | some _ => #[.int .i64 (pg).lev, va, .string (pg).hi, .bool (pg).la, .int .u64 (pg).ri]
  | none => #[.int .i64 0, .slice none 0 0, .string ⟨#[]⟩, .bool false, .int .u64 0]

section
variable {K : Know} {W : World} {REST : List Comp} {x y pg : Pg} {ρ : Nat → Option Value} {u u' v2 v5 v6 v7 v8 v9 : Value}
/-- One page: made by operation 6, its block by 7, stored by 9. -/
def PgR (K : Know) (REST : List Comp) (pg : Pg) (ρ : Nat → Option Value) (W : World) : Prop :=
  ∃ (a : Option Addr) (c b : Nat), (∀ v, ρ 6 = some v → v = .agg #[.int .i64 (pg).lev, (.slice a pg.sl.length c), .string (pg).hi, .bool (pg).la, .int .u64 (pg).ri]) ∧ (∀ v, ρ 7 = some v → v = .pointer (some ⟨b, 0, none⟩)) ∧
    St K W (optC (ρ 6) (rowC (.slice a (pg).sl.length c) 132 2 (pg).sl.length (slRow (pg).sl)) :: optC (ρ 7) (blk b (.cells (pgO (ρ 9) pg (.slice a pg.sl.length c)) 25)) :: REST)
theorem PgR.start (hs : St K W REST) : PgR K REST pg (fun _ => none) W := ⟨none, 0, 0, fun v h => (by cases h), fun v h => (by cases h), hs.empty.empty⟩
theorem PgR.same {W' : World} (h : PgR K REST pg ρ W) (hb : Below W.heap.size W W') : PgR K REST pg ρ W' := by
  obtain ⟨a, c, b, e1, e2, hs⟩ := h
  exact ⟨a, c, b, e1, e2, hs.same hb⟩
theorem PgR.rest (h : PgR K REST pg ρ W) : St K W REST := by
  obtain ⟨a, c, b, e1, e2, hs⟩ := h
  exact hs.tail.tail
theorem PgR.e6 (h : PgR K REST pg ρ W) (h6 : ρ 6 = none) (h9 : ρ 9 = none) : ∃ o7 : Comp, St K W (o7 :: REST) ∧ ∀ va W', St K W' (rowC va 132 2 pg.sl.length (slRow pg.sl) :: o7 :: REST) → PgR K REST pg (upd ρ 6 (.agg #[.int .i64 (pg).lev, va, .string (pg).hi, .bool (pg).la, .int .u64 (pg).ri])) W' := by
  obtain ⟨a, c, b, e1, e2, hs⟩ := h
  rw [h6, h9] at hs
  refine ⟨_, hs.tail, fun va W' hs' => ?_⟩
  obtain ⟨a', c', rfl, _, _⟩ := hs'.row_read
  refine ⟨a', c', b, fun v hv => (Option.some.inj hv).symm, e2, ?_⟩
  show St K W' (rowC (.slice a' (pg).sl.length c') 132 2 (pg).sl.length (slRow (pg).sl) :: optC (ρ 7) (blk b (.cells (pgO (ρ 9) _ _) _)) :: REST)
  rw [h9]
  exact hs'
theorem PgR.e7 (h : PgR K REST pg ρ W) (h7 : ρ 7 = none) (h9 : ρ 9 = none) : PgR K REST pg (upd ρ 7 (.pointer (some ⟨W.heap.size, 0, none⟩))) (W.alloc (.cells #[.int .i64 0, .slice none 0 0, .string ⟨#[]⟩, .bool false, .int .u64 0] 25)) := by
  obtain ⟨a, c, b, e1, e2, hs⟩ := h
  rw [h7] at hs
  refine ⟨a, c, W.heap.size, e1, fun v hv => (Option.some.inj hv).symm, ?_⟩
  show St K _ (optC (ρ 6) _ :: blk _ (.cells (pgO (ρ 9) _ _) _) :: REST)
  rw [h9]
  exact (hs.b1.tail.made _).b1
theorem PgR.e9 (h : PgR K REST pg ρ W) (h6 : ρ 6 = some v6) (h7 : ρ 7 = some v7) (h9 : ρ 9 = none) : ∃ (a : Option Addr) (c b : Nat) (R' : List Comp), v6 = .agg #[.int .i64 (pg).lev, (.slice a pg.sl.length c), .string (pg).hi, .bool (pg).la, .int .u64 (pg).ri] ∧ v7 = .pointer (some ⟨b, 0, none⟩) ∧ St K W (blk b (.cells #[.int .i64 0, .slice none 0 0, .string ⟨#[]⟩, .bool false, .int .u64 0] 25) :: R') ∧
    ∀ v W', St K W' (blk b (.cells #[.int .i64 (pg).lev, (.slice a pg.sl.length c), .string (pg).hi, .bool (pg).la, .int .u64 (pg).ri] 25) :: R') → PgR K REST pg (upd ρ 9 v) W' := by
  obtain ⟨a, c, b, e1, e2, hs⟩ := h
  rw [h6, h7, h9] at hs
  refine ⟨a, c, b, _, e1 v6 h6, e2 v7 h7, hs.b1, fun v W' hs' => ⟨a, c, b, e1, e2, ?_⟩⟩
  show St K W' (optC (ρ 6) _ :: optC (ρ 7) _ :: REST)
  rw [h6, h7]
  exact hs'.b1
theorem PgR.last (h : PgR K REST pg ρ W) (hall : ∀ e, e ∈ [6, 7, 9] → (ρ e).isSome = true) : ∃ (a : Option Addr) (c b : Nat), ρ 6 = some (.agg #[.int .i64 (pg).lev, (.slice a pg.sl.length c), .string (pg).hi, .bool (pg).la, .int .u64 (pg).ri]) ∧ ρ 7 = some (.pointer (some ⟨b, 0, none⟩)) ∧ (∃ v, ρ 9 = some v) ∧
    St K W (rowC (.slice a (pg).sl.length c) 132 2 (pg).sl.length (slRow (pg).sl) :: blk b (.cells #[.int .i64 (pg).lev, (.slice a pg.sl.length c), .string (pg).hi, .bool (pg).la, .int .u64 (pg).ri] 25) :: REST) := by
  obtain ⟨a, c, b, e1, e2, hs⟩ := h
  have g : ∀ e, e ∈ [6, 7, 9] → ∃ v, ρ e = some v := fun e he => Option.isSome_iff_exists.1 (hall e he)
  obtain ⟨v6, h6⟩ := g 6 (by simp)
  obtain ⟨v7, h7⟩ := g 7 (by simp)
  obtain ⟨v9, h9⟩ := g 9 (by simp)
  rw [h6, h7, h9] at hs
  exact ⟨a, c, b, by rw [h6, e1 v6 h6], by rw [h7, e2 v7 h7], ⟨v9, h9⟩, hs⟩

/-- Two pages: made by 2 and 5, their blocks by 6 and 7, stored by 8 and 9. -/
def PgR2 (K : Know) (REST : List Comp) (x y : Pg) (ρ : Nat → Option Value) (W : World) : Prop :=
  ∃ (a : Option Addr) (c b : Nat) (a' : Option Addr) (c' b' : Nat), (∀ v, ρ 2 = some v → v = .agg #[.int .i64 (x).lev, (.slice a x.sl.length c), .string (x).hi, .bool (x).la, .int .u64 (x).ri]) ∧ (∀ v, ρ 6 = some v → v = .pointer (some ⟨b, 0, none⟩)) ∧
    (∀ v, ρ 5 = some v → v = .agg #[.int .i64 (y).lev, (.slice a' y.sl.length c'), .string (y).hi, .bool (y).la, .int .u64 (y).ri]) ∧ (∀ v, ρ 7 = some v → v = .pointer (some ⟨b', 0, none⟩)) ∧
    St K W (optC (ρ 2) (rowC (.slice a (x).sl.length c) 132 2 (x).sl.length (slRow (x).sl)) :: optC (ρ 6) (blk b (.cells (pgO (ρ 8) x (.slice a x.sl.length c)) 25)) :: optC (ρ 5) (rowC (.slice a' (y).sl.length c') 132 2 (y).sl.length (slRow (y).sl)) :: optC (ρ 7) (blk b' (.cells (pgO (ρ 9) y (.slice a' y.sl.length c')) 25)) :: REST)
theorem PgR2.start (hs : St K W REST) : PgR2 K REST x y (fun _ => none) W := ⟨none, 0, 0, none, 0, 0, fun v h => (by cases h), fun v h => (by cases h), fun v h => (by cases h), fun v h => (by cases h), hs.empty.empty.empty.empty⟩
theorem PgR2.same {W' : World} (h : PgR2 K REST x y ρ W) (hb : Below W.heap.size W W') : PgR2 K REST x y ρ W' := by
  obtain ⟨a, c, b, a', c', b', e1, e2, e3, e4, hs⟩ := h
  exact ⟨a, c, b, a', c', b', e1, e2, e3, e4, hs.same hb⟩
theorem PgR2.rest (h : PgR2 K REST x y ρ W) : St K W REST := by
  obtain ⟨a, c, b, a', c', b', e1, e2, e3, e4, hs⟩ := h
  exact hs.tail.tail.tail.tail
theorem PgR2.e2 (h : PgR2 K REST x y ρ W) (h2 : ρ 2 = none) (h8 : ρ 8 = none) : ∃ R' : List Comp, St K W R' ∧ ∀ va W', St K W' (rowC va 132 2 x.sl.length (slRow x.sl) :: R') → PgR2 K REST x y (upd ρ 2 (.agg #[.int .i64 (x).lev, va, .string (x).hi, .bool (x).la, .int .u64 (x).ri])) W' := by
  obtain ⟨a, c, b, a', c', b', e1, e2, e3, e4, hs⟩ := h
  rw [h2, h8] at hs
  refine ⟨_, hs.tail, fun va W' hs' => ?_⟩
  obtain ⟨a1, c1, rfl, _, _⟩ := hs'.row_read
  refine ⟨a1, c1, b, a', c', b', fun v hv => (Option.some.inj hv).symm, e2, e3, e4, ?_⟩
  show St K W' (rowC (.slice a1 (x).sl.length c1) 132 2 (x).sl.length (slRow (x).sl) :: optC (ρ 6) (blk b (.cells (pgO (ρ 8) _ _) _)) :: optC (ρ 5) _ :: optC (ρ 7) _ :: REST)
  rw [h8]
  exact hs'
theorem PgR2.e5 (h : PgR2 K REST x y ρ W) (h5 : ρ 5 = none) (h9 : ρ 9 = none) : ∃ R' : List Comp, St K W R' ∧ ∀ va W', St K W' (rowC va 132 2 y.sl.length (slRow y.sl) :: R') → PgR2 K REST x y (upd ρ 5 (.agg #[.int .i64 (y).lev, va, .string (y).hi, .bool (y).la, .int .u64 (y).ri])) W' := by
  obtain ⟨a, c, b, a', c', b', e1, e2, e3, e4, hs⟩ := h
  rw [h5, h9] at hs
  refine ⟨_, hs.b2.tail, fun va W' hs' => ?_⟩
  obtain ⟨a1, c1, rfl, _, _⟩ := hs'.row_read
  refine ⟨a, c, b, a1, c1, b', e1, e2, fun v hv => (Option.some.inj hv).symm, e4, ?_⟩
  show St K W' (optC (ρ 2) _ :: optC (ρ 6) _ :: rowC (.slice a1 (y).sl.length c1) 132 2 (y).sl.length (slRow (y).sl) :: optC (ρ 7) (blk b' (.cells (pgO (ρ 9) _ _) _)) :: REST)
  rw [h9]
  exact hs'.u2
theorem PgR2.e6 (h : PgR2 K REST x y ρ W) (h6 : ρ 6 = none) (h8 : ρ 8 = none) : PgR2 K REST x y (upd ρ 6 (.pointer (some ⟨W.heap.size, 0, none⟩))) (W.alloc (.cells #[.int .i64 0, .slice none 0 0, .string ⟨#[]⟩, .bool false, .int .u64 0] 25)) := by
  obtain ⟨a, c, b, a', c', b', e1, e2, e3, e4, hs⟩ := h
  rw [h6] at hs
  refine ⟨a, c, W.heap.size, a', c', b', e1, fun v hv => (Option.some.inj hv).symm, e3, e4, ?_⟩
  show St K _ (optC (ρ 2) _ :: blk _ (.cells (pgO (ρ 8) _ _) _) :: optC (ρ 5) _ :: optC (ρ 7) _ :: REST)
  rw [h8]
  exact (hs.b1.tail.made _).b1
theorem PgR2.e7 (h : PgR2 K REST x y ρ W) (h7 : ρ 7 = none) (h9 : ρ 9 = none) : PgR2 K REST x y (upd ρ 7 (.pointer (some ⟨W.heap.size, 0, none⟩))) (W.alloc (.cells #[.int .i64 0, .slice none 0 0, .string ⟨#[]⟩, .bool false, .int .u64 0] 25)) := by
  obtain ⟨a, c, b, a', c', b', e1, e2, e3, e4, hs⟩ := h
  rw [h7] at hs
  refine ⟨a, c, b, a', c', W.heap.size, e1, e2, e3, fun v hv => (Option.some.inj hv).symm, ?_⟩
  show St K _ (optC (ρ 2) _ :: optC (ρ 6) _ :: optC (ρ 5) _ :: blk _ (.cells (pgO (ρ 9) _ _) _) :: REST)
  rw [h9]
  exact (hs.b3.tail.made _).u3
theorem PgR2.e8 (h : PgR2 K REST x y ρ W) (h2 : ρ 2 = some v2) (h6 : ρ 6 = some v6) (h8 : ρ 8 = none) : ∃ (a : Option Addr) (c b : Nat) (R' : List Comp), v2 = .agg #[.int .i64 (x).lev, (.slice a x.sl.length c), .string (x).hi, .bool (x).la, .int .u64 (x).ri] ∧ v6 = .pointer (some ⟨b, 0, none⟩) ∧ St K W (blk b (.cells #[.int .i64 0, .slice none 0 0, .string ⟨#[]⟩, .bool false, .int .u64 0] 25) :: R') ∧
    ∀ v W', St K W' (blk b (.cells #[.int .i64 (x).lev, (.slice a x.sl.length c), .string (x).hi, .bool (x).la, .int .u64 (x).ri] 25) :: R') → PgR2 K REST x y (upd ρ 8 v) W' := by
  obtain ⟨a, c, b, a', c', b', e1, e2, e3, e4, hs⟩ := h
  rw [h2, h6, h8] at hs
  refine ⟨a, c, b, _, e1 v2 h2, e2 v6 h6, hs.b1, fun v W' hs' => ⟨a, c, b, a', c', b', e1, e2, e3, e4, ?_⟩⟩
  show St K W' (optC (ρ 2) _ :: optC (ρ 6) _ :: optC (ρ 5) _ :: optC (ρ 7) _ :: REST)
  rw [h2, h6]
  exact hs'.b1
theorem PgR2.e9 (h : PgR2 K REST x y ρ W) (h5 : ρ 5 = some v5) (h7 : ρ 7 = some v7) (h9 : ρ 9 = none) : ∃ (a : Option Addr) (c b : Nat) (R' : List Comp), v5 = .agg #[.int .i64 (y).lev, (.slice a y.sl.length c), .string (y).hi, .bool (y).la, .int .u64 (y).ri] ∧ v7 = .pointer (some ⟨b, 0, none⟩) ∧ St K W (blk b (.cells #[.int .i64 0, .slice none 0 0, .string ⟨#[]⟩, .bool false, .int .u64 0] 25) :: R') ∧
    ∀ v W', St K W' (blk b (.cells #[.int .i64 (y).lev, (.slice a y.sl.length c), .string (y).hi, .bool (y).la, .int .u64 (y).ri] 25) :: R') → PgR2 K REST x y (upd ρ 9 v) W' := by
  obtain ⟨a, c, b, a', c', b', e1, e2, e3, e4, hs⟩ := h
  rw [h5, h7, h9] at hs
  refine ⟨a', c', b', _, e3 v5 h5, e4 v7 h7, hs.b3, fun v W' hs' => ⟨a, c, b, a', c', b', e1, e2, e3, e4, ?_⟩⟩
  show St K W' (optC (ρ 2) _ :: optC (ρ 6) _ :: optC (ρ 5) _ :: optC (ρ 7) _ :: REST)
  rw [h5, h7]
  exact hs'.u3
theorem PgR2.last (h : PgR2 K REST x y ρ W) (hall : ∀ e, e ∈ [2, 5, 6, 7, 8, 9] → (ρ e).isSome = true) : ∃ (a : Option Addr) (c b : Nat) (a' : Option Addr) (c' b' : Nat), ρ 2 = some (.agg #[.int .i64 (x).lev, (.slice a x.sl.length c), .string (x).hi, .bool (x).la, .int .u64 (x).ri]) ∧ ρ 6 = some (.pointer (some ⟨b, 0, none⟩)) ∧
    ρ 5 = some (.agg #[.int .i64 (y).lev, (.slice a' y.sl.length c'), .string (y).hi, .bool (y).la, .int .u64 (y).ri]) ∧ ρ 7 = some (.pointer (some ⟨b', 0, none⟩)) ∧ (∃ v, ρ 8 = some v) ∧ (∃ v, ρ 9 = some v) ∧
    St K W (rowC (.slice a (x).sl.length c) 132 2 (x).sl.length (slRow (x).sl) :: blk b (.cells #[.int .i64 (x).lev, (.slice a x.sl.length c), .string (x).hi, .bool (x).la, .int .u64 (x).ri] 25) :: rowC (.slice a' (y).sl.length c') 132 2 (y).sl.length (slRow (y).sl) :: blk b' (.cells #[.int .i64 (y).lev, (.slice a' y.sl.length c'), .string (y).hi, .bool (y).la, .int .u64 (y).ri] 25) :: REST) := by
  obtain ⟨a, c, b, a', c', b', e1, e2, e3, e4, hs⟩ := h
  have g : ∀ e, e ∈ [2, 5, 6, 7, 8, 9] → ∃ v, ρ e = some v := fun e he => Option.isSome_iff_exists.1 (hall e he)
  obtain ⟨v2, h2⟩ := g 2 (by simp)
  obtain ⟨v5, h5⟩ := g 5 (by simp)
  obtain ⟨v6, h6⟩ := g 6 (by simp)
  obtain ⟨v7, h7⟩ := g 7 (by simp)
  obtain ⟨v8, h8⟩ := g 8 (by simp)
  obtain ⟨v9, h9⟩ := g 9 (by simp)
  rw [h2, h5, h6, h7, h8, h9] at hs
  exact ⟨a, c, b, a', c', b', by rw [h2, e1 v2 h2], by rw [h6, e2 v6 h6], by rw [h5, e3 v5 h5], by rw [h7, e4 v7 h7], ⟨v8, h8⟩, ⟨v9, h9⟩, hs⟩
end
end Go.Proofs.Ytfgjanponijkhaa
