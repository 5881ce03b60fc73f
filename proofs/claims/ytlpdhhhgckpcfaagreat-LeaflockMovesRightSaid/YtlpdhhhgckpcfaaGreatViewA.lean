
/- blinktreekit.Cells: the contents of a memory as a slice. Peek (package node): a node's page without an access. blinktreecells.View: the cells as plain data. blinktreecells.View: Page. blinktreecells.View: node, Height; blinktreekit.View. -/
import Derived.Test.YtlpdhhhgckpcfaaGreatBaseA
import Derived.Test.YtlpdhhhgckpcfaaGreatNodeB
import Derived.Test.YtlpdhhhgckpcfaaGreatNodeLawB
import Derived.Test.YtlpdhhhgckpcfaaGreatPageA
import Derived.Test.YtlpdhhhgckpcfaaGreatGrA
namespace Go.Proofs.YtlpdhhhgckpcfaaGreat
open Go.RowKit
set_option maxRecDepth 100000

section
variable {K : Know} {w w' : World} {c d : Comp} {cs F : List Comp}

end
end Go.Proofs.YtlpdhhhgckpcfaaGreat

namespace Go.Proofs.YtlpdhhhgckpcfaaGreat
open Go.RowKit
set_option maxRecDepth 100000

/-- What Peek answers. -/
def slOf (d : Cfg) (id : Int) (L : List Cel) (i : Nat) : Sl := ⟨(getC L (d.slot id i)).k, (getC L (d.slot id i)).n⟩
def pgOf (d : Cfg) (id : Int) (L : List Cel) : Pg :=
  ⟨wrap64 (getC L (d.node id 1)).m, (List.range (leftOf d (getC L (d.node id 1)))).map (slOf d id L), (getC L (d.node id 2)).k, decide ((getC L (d.node id 2)).m = 1), (getC L (d.node id 3)).n⟩
theorem pgOf_at {d : Cfg} {id : Int} {L : List Cel} {pg : Pg} (h : PageAt d id L pg) : pgOf d id L = pg := by
  have hl : leftOf d (getC L (d.node id 1)) = pg.sl.length := by
    have := h.le
    unfold leftOf
    rw [h.n, Int.min_eq_left this]
    omega
  obtain ⟨lev, sl, hi, la, ri⟩ := pg
  have h1 := h.lev; have h2 := h.hi; have h3 := h.la; have h4 := h.ri
  simp only at h1 h2 h3 h4 hl
  unfold pgOf
  rw [h1, h2, h3, h4, hl]
  congr 1
  apply List.ext_getElem?
  intro i
  rw [List.getElem?_map]
  rcases Nat.lt_or_ge i sl.length with hi | hi
  · rw [List.getElem?_range hi]
    obtain ⟨e1, e2⟩ := h.sl i sl[i] (List.getElem?_eq_getElem hi)
    rw [List.getElem?_eq_getElem hi]
    simp only [Option.map_some, slOf, e1, e2]
  · rw [List.getElem?_eq_none (by simpa using hi), List.getElem?_eq_none hi]; rfl

def celO (o : Option Value) (c : Cel) : Array Value := match o with
  | some _ => #[.int .u64 c.n, .string c.k, .int .u64 c.m]
  | none => #[.int .u64 0, .string ⟨#[]⟩, .int .u64 0]
/-- While head and high are fetched. -/
def PkR (K : Know) (REST : List Comp) (c1 c2 : Cel) (ρ : Nat → Option Value) (W : World) : Prop :=
  ∃ b7 b8 : Nat, (∀ v, ρ 10 = some v → v = .pointer (some ⟨b7, 0, none⟩)) ∧ (∀ v, ρ 11 = some v → v = .pointer (some ⟨b8, 0, none⟩)) ∧
    St K W (optC (ρ 10) (blk b7 (.cells (celO (ρ 12) c1) 63)) :: optC (ρ 11) (blk b8 (.cells (celO (ρ 13) c2) 63)) :: REST)
section
variable {K : Know} {W : World} {REST : List Comp} {c1 c2 : Cel} {ρ : Nat → Option Value} {v10 v11 : Value}
theorem PkR.start (hs : St K W REST) : PkR K REST c1 c2 (fun _ => none) W :=
  ⟨0, 0, fun v h => (by cases h), fun v h => (by cases h), hs.empty.empty⟩
theorem PkR.same {W' : World} (h : PkR K REST c1 c2 ρ W) (hb : Below W.heap.size W W') : PkR K REST c1 c2 ρ W' := by
  obtain ⟨b7, b8, e1, e2, hs⟩ := h
  exact ⟨b7, b8, e1, e2, hs.same hb⟩
theorem PkR.rest (h : PkR K REST c1 c2 ρ W) : St K W REST := by
  obtain ⟨b7, b8, e1, e2, hs⟩ := h
  exact hs.tail.tail
theorem PkR.e10 (h : PkR K REST c1 c2 ρ W) (h10 : ρ 10 = none) (h12 : ρ 12 = none) : PkR K REST c1 c2 (upd ρ 10 (.pointer (some ⟨W.heap.size, 0, none⟩))) (W.alloc (.cells #[.int .u64 0, .string ⟨#[]⟩, .int .u64 0] 63)) := by
  obtain ⟨b7, b8, e1, e2, hs⟩ := h
  rw [h10] at hs
  refine ⟨W.heap.size, b8, fun v hv => (Option.some.inj hv).symm, e2, ?_⟩
  show St K _ (blk _ (.cells (celO (ρ 12) c1) _) :: optC (ρ 11) _ :: REST)
  rw [h12]
  exact hs.tail.made _
theorem PkR.e11 (h : PkR K REST c1 c2 ρ W) (h11 : ρ 11 = none) (h13 : ρ 13 = none) : PkR K REST c1 c2 (upd ρ 11 (.pointer (some ⟨W.heap.size, 0, none⟩))) (W.alloc (.cells #[.int .u64 0, .string ⟨#[]⟩, .int .u64 0] 63)) := by
  obtain ⟨b7, b8, e1, e2, hs⟩ := h
  rw [h11] at hs
  refine ⟨b7, W.heap.size, e1, fun v hv => (Option.some.inj hv).symm, ?_⟩
  show St K _ (optC (ρ 10) _ :: blk _ (.cells (celO (ρ 13) c2) _) :: REST)
  rw [h13]
  exact (hs.b1.tail.made _).b1
theorem PkR.e12 (h : PkR K REST c1 c2 ρ W) (h10 : ρ 10 = some v10) (h12 : ρ 12 = none) : ∃ (b7 : Nat) (R' : List Comp), v10 = .pointer (some ⟨b7, 0, none⟩) ∧ St K W (blk b7 (.cells #[.int .u64 0, .string ⟨#[]⟩, .int .u64 0] 63) :: R') ∧
    ∀ v W', St K W' (blk b7 (.cells #[.int .u64 c1.n, .string c1.k, .int .u64 c1.m] 63) :: R') → PkR K REST c1 c2 (upd ρ 12 v) W' := by
  obtain ⟨b7, b8, e1, e2, hs⟩ := h
  rw [h10, h12] at hs
  refine ⟨b7, _, e1 v10 h10, hs, fun v W' hs' => ⟨b7, b8, e1, e2, ?_⟩⟩
  show St K W' (optC (ρ 10) _ :: optC (ρ 11) _ :: REST)
  rw [h10]
  exact hs'
theorem PkR.e13 (h : PkR K REST c1 c2 ρ W) (h11 : ρ 11 = some v11) (h13 : ρ 13 = none) : ∃ (b8 : Nat) (R' : List Comp), v11 = .pointer (some ⟨b8, 0, none⟩) ∧ St K W (blk b8 (.cells #[.int .u64 0, .string ⟨#[]⟩, .int .u64 0] 63) :: R') ∧
    ∀ v W', St K W' (blk b8 (.cells #[.int .u64 c2.n, .string c2.k, .int .u64 c2.m] 63) :: R') → PkR K REST c1 c2 (upd ρ 13 v) W' := by
  obtain ⟨b7, b8, e1, e2, hs⟩ := h
  rw [h11, h13] at hs
  refine ⟨b8, _, e2 v11 h11, hs.b1, fun v W' hs' => ⟨b7, b8, e1, e2, ?_⟩⟩
  show St K W' (optC (ρ 10) _ :: optC (ρ 11) _ :: REST)
  rw [h11]
  exact hs'.b1
theorem PkR.last (h : PkR K REST c1 c2 ρ W) (hall : ∀ e, e ∈ [10, 11, 12, 13] → (ρ e).isSome = true) : ∃ b7 b8 : Nat, ρ 10 = some (.pointer (some ⟨b7, 0, none⟩)) ∧ ρ 11 = some (.pointer (some ⟨b8, 0, none⟩)) ∧ (∃ v, ρ 12 = some v) ∧ (∃ v, ρ 13 = some v) ∧
    St K W (blk b7 (.cells #[.int .u64 c1.n, .string c1.k, .int .u64 c1.m] 63) :: blk b8 (.cells #[.int .u64 c2.n, .string c2.k, .int .u64 c2.m] 63) :: REST) := by
  obtain ⟨b7, b8, e1, e2, hs⟩ := h
  have g : ∀ e, e ∈ [10, 11, 12, 13] → ∃ v, ρ e = some v := fun e he => Option.isSome_iff_exists.1 (hall e he)
  obtain ⟨v10, h10⟩ := g 10 (by simp)
  obtain ⟨v11, h11⟩ := g 11 (by simp)
  obtain ⟨v12, h12⟩ := g 12 (by simp)
  obtain ⟨v13, h13⟩ := g 13 (by simp)
  rw [h10, h11, h12, h13] at hs
  exact ⟨b7, b8, by rw [h10, e1 v10 h10], by rw [h11, e2 v11 h11], ⟨v12, h12⟩, ⟨v13, h13⟩, hs⟩
end

section
variable {K : Know} {w : World} {F : List Comp} {bm bc acc : Nat} {L : List Cel} {d : Cfg} {id : Int}
end
end Go.Proofs.YtlpdhhhgckpcfaaGreat

namespace Go.Proofs.YtlpdhhhgckpcfaaGreat
open Go.RowKit
set_option maxRecDepth 100000
/-- The cells of a view. -/
structure VAt (w : World) (g : Nat) (L : List Cel) : Prop where
  lt : g < w.heap.size
  len : L.length ≤ 1000000
  cell : ∀ (i : Nat) (c : Cel), L[i]? = some c → w.cell? ⟨g, i * 3, none⟩ = some (.int .u64 c.n) ∧ w.cell? ⟨g, i * 3 + 1, none⟩ = some (.string c.k) ∧ w.cell? ⟨g, i * 3 + 2, none⟩ = some (.int .u64 c.m)
theorem VAt.same {w w' : World} {g : Nat} {L : List Cel} (h : VAt w g L) (hb : Below w.heap.size w w') : VAt w' g L :=
  ⟨Nat.lt_of_lt_of_le h.lt hb.size, h.len, fun i c hc => by
    have := h.cell i c hc
    rw [hb.cell (p := ⟨g, _, none⟩) h.lt, hb.cell (p := ⟨g, _, none⟩) h.lt, hb.cell (p := ⟨g, _, none⟩) h.lt]
    exact this⟩
section
variable {d : Cfg} {g : Nat} {L : List Cel}
end
end Go.Proofs.YtlpdhhhgckpcfaaGreat

namespace Go.Proofs.YtlpdhhhgckpcfaaGreat
open Go.RowKit
set_option maxRecDepth 100000
section
variable {K : Know} {w : World} {F : List Comp} {d : Cfg} {g : Nat} {L : List Cel} {id : Int} {pg : Pg}
end
end Go.Proofs.YtlpdhhhgckpcfaaGreat

namespace Go.Proofs.YtlpdhhhgckpcfaaGreat
open Go.RowKit
set_option maxRecDepth 100000
section
variable {K : Know} {w : World} {F : List Comp} {d : Cfg} {g : Nat} {L : List Cel}

theorem field_page0 (w : World) (lev ri : Int) (a : Option Addr) (n c : Nat) (hi : ByteArray) (la : Bool) : (Instr.field 43 (.agg #[.int .i64 lev, .slice a n c, .string hi, .bool la, .int .u64 ri]) 0).run Tryz.prog w = .ok (.int .i64 lev) w := rfl
theorem field_page2 (w : World) (lev ri : Int) (a : Option Addr) (n c : Nat) (hi : ByteArray) (la : Bool) : (Instr.field 43 (.agg #[.int .i64 lev, .slice a n c, .string hi, .bool la, .int .u64 ri]) 2).run Tryz.prog w = .ok (.string hi) w := rfl
theorem field_page4' (w : World) (lev ri : Int) (a : Option Addr) (n c : Nat) (hi : ByteArray) (la : Bool) : (Instr.field 43 (.agg #[.int .i64 lev, .slice a n c, .string hi, .bool la, .int .u64 ri]) 4).run Tryz.prog w = .ok (.int .u64 ri) w := rfl
attribute [go_sem] field_page0 field_page2 field_page4'

end
end Go.Proofs.YtlpdhhhgckpcfaaGreat
