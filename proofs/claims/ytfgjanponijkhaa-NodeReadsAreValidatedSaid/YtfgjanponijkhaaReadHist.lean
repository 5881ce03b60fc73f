/- NodeReadsAreValidated: a page is appended to the pages so far. -/
import Derived.Test.YtfgjanponijkhaaReadSt2
import Derived.Test.YtfgjanponijkhaaEffA
import Derived.Test.YtfgjanponijkhaaApp
namespace Go.Proofs.Ytfgjanponijkhaa
open Go.RowKit
set_option maxRecDepth 100000
set_option linter.unusedSectionVars false

def rowO (o : Option Value) (v11 : Value) (n : Nat) (l : List HP) (p : HP) : Comp := match o with
  | none => rowC v11 25 5 n (pgRow l)
  | some v => rowC v 25 5 (n + 1) (pgRow (l ++ [p]))
/-- While the region runs: the new page (6), its block (7), the longer row (8), its variable (9). -/
def HsR (K : Know) (REST : List Comp) (v11 : Value) (n : Nat) (x : Pg) (l : List HP) (ρ : Nat → Option Value) (W : World) : Prop :=
  ∃ (a : Option Addr) (c b : Nat), (∀ v, ρ 6 = some v → v = .agg #[.int .i64 (x).lev, (.slice a x.sl.length c), .string (x).hi, .bool (x).la, .int .u64 (x).ri]) ∧ (∀ v, ρ 7 = some v → v = .slice (some ⟨b, 0, none⟩) 1 1) ∧ (∀ v, ρ 9 = some v → ρ 8 = some v) ∧
    St K W (optC (ρ 6) (rowC (.slice a (x).sl.length c) 132 2 (x).sl.length (slRow (x).sl)) :: optC (ρ 7) (blk b (.cells [.int .i64 (x).lev, (.slice a (x).sl.length c), .string (x).hi, .bool (x).la, .int .u64 (x).ri].toArray 25)) :: rowO (ρ 8) v11 n l (x, a, c) :: REST)
section
variable {K : Know} {REST : List Comp} {v11 : Value} {n : Nat} {x : Pg} {l : List HP} {ρ : Nat → Option Value} {W : World} {v6 v7 v8 : Value}
theorem HsR.start (hs : St K W (rowC v11 25 5 n (pgRow l) :: REST)) : HsR K REST v11 n x l (fun _ => none) W :=
  ⟨none, 0, 0, fun v h => (by cases h), fun v h => (by cases h), fun v h => (by cases h), hs.empty.empty⟩
theorem HsR.same {W' : World} (h : HsR K REST v11 n x l ρ W) (hb : Below W.heap.size W W') : HsR K REST v11 n x l ρ W' := by
  obtain ⟨a, c, b, e1, e2, e3, hs⟩ := h
  exact ⟨a, c, b, e1, e2, e3, hs.same hb⟩
theorem HsR.rest (h : HsR K REST v11 n x l ρ W) : St K W REST := by
  obtain ⟨a, c, b, e1, e2, e3, hs⟩ := h
  exact hs.tail.tail.tail
theorem HsR.e6 (h : HsR K REST v11 n x l ρ W) (h6 : ρ 6 = none) (h7 : ρ 7 = none) (h8 : ρ 8 = none) : ∃ R', St K W R' ∧ ∀ (a : Option Addr) (c : Nat) W', St K W' ((rowC (.slice a (x).sl.length c) 132 2 (x).sl.length (slRow (x).sl)) :: R') → HsR K REST v11 n x l (upd ρ 6 (.agg #[.int .i64 (x).lev, (.slice a x.sl.length c), .string (x).hi, .bool (x).la, .int .u64 (x).ri])) W' := by
  obtain ⟨a, c, b, e1, e2, e3, hs⟩ := h
  rw [h6, h7, h8] at hs
  refine ⟨rowC v11 25 5 n (pgRow l) :: REST, hs.tail.tail, fun a' c' W' hs' => ⟨a', c', b, fun v h => ?_, fun v h => ?_, fun v h => ?_, ?_⟩⟩
  · simpa [upd] using h.symm
  · simp [upd, h7] at h
  · have := e3 v (by simpa [upd] using h); rw [h8] at this; cases this
  · have : St K W' (optC (some (.agg #[.int .i64 (x).lev, (.slice a' x.sl.length c'), .string (x).hi, .bool (x).la, .int .u64 (x).ri])) (rowC (.slice a' (x).sl.length c') 132 2 (x).sl.length (slRow (x).sl)) :: optC none (blk b (.cells [.int .i64 (x).lev, (.slice a' (x).sl.length c'), .string (x).hi, .bool (x).la, .int .u64 (x).ri].toArray 25)) :: rowO none v11 n l (x, a', c') :: REST) := hs'.empty.b1
    simpa [upd, h7, h8] using this
theorem HsR.e7 (h : HsR K REST v11 n x l ρ W) (h6 : ρ 6 = some v6) (h7 : ρ 7 = none) (h8 : ρ 8 = none) : ∃ (a : Option Addr) (c : Nat), v6 = .agg #[.int .i64 (x).lev, (.slice a x.sl.length c), .string (x).hi, .bool (x).la, .int .u64 (x).ri] ∧
    HsR K REST v11 n x l (upd ρ 7 (.slice (some ⟨W.heap.size, 0, none⟩) 1 1)) (W.alloc (.cells [.int .i64 (x).lev, (.slice a (x).sl.length c), .string (x).hi, .bool (x).la, .int .u64 (x).ri].toArray 25)) := by
  obtain ⟨a, c, b, e1, e2, e3, hs⟩ := h
  refine ⟨a, c, e1 v6 h6, a, c, W.heap.size, fun v h => e1 v (by simpa [upd] using h), fun v h => by simpa [upd] using h.symm, fun v h => ?_, ?_⟩
  · have := e3 v (by simpa [upd] using h); rw [h8] at this; cases this
  · rw [h7] at hs
    have := (hs.drop1.made (.cells [.int .i64 (x).lev, (.slice a (x).sl.length c), .string (x).hi, .bool (x).la, .int .u64 (x).ri].toArray 25)).b1
    simpa [upd, optC] using this
theorem HsR.e8 (h : HsR K REST v11 n x l ρ W) (h6 : ρ 6 = some v6) (h7 : ρ 7 = some v7) (h8 : ρ 8 = none) : ∃ (a : Option Addr) (c b : Nat) (R' : List Comp), v7 = .slice (some ⟨b, 0, none⟩) 1 1 ∧ St K W (rowC v11 25 5 n (pgRow l) :: R') ∧
    (∀ (j : Nat) (u : Value), [.int .i64 (x).lev, (.slice a (x).sl.length c), .string (x).hi, .bool (x).la, .int .u64 (x).ri][j]? = some u → W.cell? ⟨b, j, none⟩ = some u) ∧ ∀ v W', St K W' (rowC v 25 5 (n + 1) (pgRow l ++ [.int .i64 (x).lev, (.slice a (x).sl.length c), .string (x).hi, .bool (x).la, .int .u64 (x).ri]) :: R') → HsR K REST v11 n x l (upd ρ 8 v) W' := by
  obtain ⟨a, c, b, e1, e2, e3, hs⟩ := h
  rw [h6, h7, h8] at hs
  have hs : St K W ((rowC (.slice a (x).sl.length c) 132 2 (x).sl.length (slRow (x).sl)) :: blk b (.cells [.int .i64 (x).lev, (.slice a (x).sl.length c), .string (x).hi, .bool (x).la, .int .u64 (x).ri].toArray 25) :: rowC v11 25 5 n (pgRow l) :: REST) := hs
  refine ⟨a, c, b, _, e2 v7 h7, hs.b2, fun j u hu => ?_, fun v W' hs' => ⟨a, c, b, fun v h => e1 v (by simpa [upd] using h), fun v h => e2 v (by simpa [upd] using h), fun u h => ?_, ?_⟩⟩
  · rw [hs.k1 j]; simpa using hu
  · have := e3 u (by simpa [upd] using h); rw [h8] at this; cases this
  · have hp : pgRow (l ++ [(x, a, c)]) = pgRow l ++ [.int .i64 (x).lev, (.slice a (x).sl.length c), .string (x).hi, .bool (x).la, .int .u64 (x).ri] := by simp [pgRow, pgCells]
    have : St K W' (optC (some v6) (rowC (.slice a (x).sl.length c) 132 2 (x).sl.length (slRow (x).sl)) :: optC (some v7) (blk b (.cells [.int .i64 (x).lev, (.slice a (x).sl.length c), .string (x).hi, .bool (x).la, .int .u64 (x).ri].toArray 25)) :: rowO (some v) v11 n l (x, a, c) :: REST) := by
      show St K W' ((rowC (.slice a (x).sl.length c) 132 2 (x).sl.length (slRow (x).sl)) :: blk b (.cells [.int .i64 (x).lev, (.slice a (x).sl.length c), .string (x).hi, .bool (x).la, .int .u64 (x).ri].toArray 25) :: rowC v 25 5 (n + 1) (pgRow (l ++ [(x, a, c)])) :: REST)
      rw [hp]; exact hs'.u2
    simpa [upd, h6, h7] using this
theorem HsR.e9 (h : HsR K REST v11 n x l ρ W) (h8 : ρ 8 = some v8) : HsR K REST v11 n x l (upd ρ 9 v8) W := by
  obtain ⟨a, c, b, e1, e2, e3, hs⟩ := h
  refine ⟨a, c, b, fun v h => e1 v (by simpa [upd] using h), fun v h => e2 v (by simpa [upd] using h), fun v h => ?_, by simpa [upd] using hs⟩
  have : v8 = v := by simpa [upd] using h
  subst this
  simpa [upd] using h8
theorem HsR.last (h : HsR K REST v11 n x l ρ W) (hall : ∀ e, e ∈ [6, 7, 8, 9] → (ρ e).isSome = true) : ∃ (a : Option Addr) (c g cp : Nat), ρ 8 = some (.slice (some ⟨g, 0, none⟩) (n + 1) cp) ∧ ρ 9 = some (.slice (some ⟨g, 0, none⟩) (n + 1) cp) ∧ (∃ v, ρ 6 = some v) ∧ (∃ v, ρ 7 = some v) ∧
    St K W ((rowC (.slice a (x).sl.length c) 132 2 (x).sl.length (slRow (x).sl)) :: rowC (.slice (some ⟨g, 0, none⟩) (n + 1) cp) 25 5 (n + 1) (pgRow (l ++ [(x, a, c)])) :: REST) := by
  obtain ⟨v6, h6⟩ := Option.isSome_iff_exists.1 (hall 6 (by simp))
  obtain ⟨v7, h7⟩ := Option.isSome_iff_exists.1 (hall 7 (by simp))
  obtain ⟨v8, h8⟩ := Option.isSome_iff_exists.1 (hall 8 (by simp))
  obtain ⟨v9, h9⟩ := Option.isSome_iff_exists.1 (hall 9 (by simp))
  obtain ⟨a, c, b, e1, e2, e3, hs⟩ := h
  obtain rfl := Option.some.inj (h8.symm.trans (e3 v9 h9))
  rw [h6, h7, h8] at hs
  have hs : St K W ((rowC (.slice a (x).sl.length c) 132 2 (x).sl.length (slRow (x).sl)) :: rowC v8 25 5 (n + 1) (pgRow (l ++ [(x, a, c)])) :: REST) := St.drop1 hs
  obtain ⟨g, cp, _, rfl, _⟩ := hs.b1.row_open (by omega)
  exact ⟨a, c, g, cp, h8, h9, ⟨v6, h6⟩, ⟨v7, h7⟩, hs⟩
end
theorem push_slP {K : Know} {w : World} {F : List Comp} {x : Pg} {a : Option Addr} {c : Nat} {l : List HP} (hs : St K w ((rowC (.slice a (x).sl.length c) 132 2 (x).sl.length (slRow (x).sl)) :: group (l.map slP) :: F)) : St K w (group ((l ++ [(x, a, c)]).map slP) :: F) := by
  rw [List.map_append]
  exact hs.push
theorem infoPage : (Try.prog.info? 25).map (fun i => (i.zero, i.size, i.bytes)) = some (some (.agg #[.int .i64 0, .slice none 0 0, .string ⟨#[]⟩, .bool false, .int .u64 0]), 5, 64) := by kernel_rfl
end Go.Proofs.Ytfgjanponijkhaa
