
/- blinktreekit.Same at cells; a page of a view that a law compares. -/
import Derived.Test.YtlpdhhhgckpcfaaGreatViewA
import Derived.Test.YtlpdhhhgckpcfaaGreatKeys
import Derived.Test.YtlpdhhhgckpcfaaGreatCallVar
import Derived.Test.YtlpdhhhgckpcfaaGreatNodeB
import Derived.Test.YtlpdhhhgckpcfaaGreatGrA
namespace Go.Proofs.YtlpdhhhgckpcfaaGreat
open Go.RowKit
set_option maxRecDepth 100000
section
variable {K : Know} {w w' : World} {c d : Comp} {cs F : List Comp}
end
end Go.Proofs.YtlpdhhhgckpcfaaGreat

namespace Go.Proofs.YtlpdhhhgckpcfaaGreat
open Go.RowKit
set_option maxRecDepth 100000
/-- While the region runs: the page (5), its variable (6), the page in it (7). -/
def PbR (K : Know) (REST : List Comp) (pg : Pg) (ρ : Nat → Option Value) (W : World) : Prop :=
  ∃ (a : Option Addr) (c b : Nat), (∀ v, ρ 5 = some v → v = (.agg #[.int .i64 (pg).lev, (.slice a pg.sl.length c), .string (pg).hi, .bool (pg).la, .int .u64 (pg).ri])) ∧ (∀ v, ρ 6 = some v → v = (.pointer (some ⟨b, 0, none⟩))) ∧
    St K W (optC (ρ 5) (slC (.slice a pg.sl.length c) pg) :: optC (ρ 6) (blk b (.cells (if (ρ 7).isSome then #[.int .i64 (pg).lev, (.slice a pg.sl.length c), .string (pg).hi, .bool (pg).la, .int .u64 (pg).ri] else #[.int .i64 0, .slice none 0 0, .string ⟨#[]⟩, .bool false, .int .u64 0]) 43)) :: REST)
section
variable {K : Know} {REST : List Comp} {pg : Pg} {ρ : Nat → Option Value} {W : World} {v5 v6 : Value}
theorem PbR.start (hs : St K W REST) : PbR K REST pg (fun _ => none) W :=
  ⟨none, 0, 0, fun v h => (by cases h), fun v h => (by cases h), hs.empty.empty⟩
theorem PbR.same {W' : World} (h : PbR K REST pg ρ W) (hb : Below W.heap.size W W') : PbR K REST pg ρ W' := by
  obtain ⟨a, c, b, e1, e2, hs⟩ := h
  exact ⟨a, c, b, e1, e2, hs.same hb⟩
theorem PbR.rest (h : PbR K REST pg ρ W) : St K W REST := by
  obtain ⟨a, c, b, e1, e2, hs⟩ := h
  exact hs.tail.tail
theorem PbR.e5 (h : PbR K REST pg ρ W) (h5 : ρ 5 = none) (h7 : ρ 7 = none) : ∃ R', St K W R' ∧ ∀ (a : Option Addr) (c : Nat) W', St K W' (slC (.slice a pg.sl.length c) pg :: R') → PbR K REST pg (upd ρ 5 (.agg #[.int .i64 (pg).lev, (.slice a pg.sl.length c), .string (pg).hi, .bool (pg).la, .int .u64 (pg).ri])) W' := by
  obtain ⟨a, c, b, e1, e2, hs⟩ := h
  rw [h5, h7] at hs
  refine ⟨_, hs.tail, fun a' c' W' hs' => ⟨a', c', b, fun v h => by simpa [upd] using h.symm, fun v h => e2 v (by simpa [upd] using h), ?_⟩⟩
  have : St K W' (optC (some (.agg #[.int .i64 (pg).lev, (.slice a' pg.sl.length c'), .string (pg).hi, .bool (pg).la, .int .u64 (pg).ri])) (slC (.slice a' pg.sl.length c') pg) :: _) := hs'
  simpa [upd, h7] using this
theorem PbR.e6 (h : PbR K REST pg ρ W) (h6 : ρ 6 = none) (h7 : ρ 7 = none) : PbR K REST pg (upd ρ 6 (.pointer (some ⟨W.heap.size, 0, none⟩))) (W.alloc (.cells #[.int .i64 0, .slice none 0 0, .string ⟨#[]⟩, .bool false, .int .u64 0] 43)) := by
  obtain ⟨a, c, b, e1, e2, hs⟩ := h
  rw [h6] at hs
  refine ⟨a, c, W.heap.size, fun v h => e1 v (by simpa [upd] using h), fun v h => by simpa [upd] using h.symm, ?_⟩
  have hs2 : St K W (optC none (blk b (.cells (if (ρ 7).isSome then #[.int .i64 (pg).lev, (.slice a pg.sl.length c), .string (pg).hi, .bool (pg).la, .int .u64 (pg).ri] else #[.int .i64 0, .slice none 0 0, .string ⟨#[]⟩, .bool false, .int .u64 0]) 43)) :: optC (ρ 5) (slC (.slice a pg.sl.length c) pg) :: REST) := hs.b1
  have := ((hs2.tail).made (.cells #[.int .i64 0, .slice none 0 0, .string ⟨#[]⟩, .bool false, .int .u64 0] 43)).b1
  have h8 : St K (W.alloc (.cells #[.int .i64 0, .slice none 0 0, .string ⟨#[]⟩, .bool false, .int .u64 0] 43)) (optC (ρ 5) (slC (.slice a pg.sl.length c) pg) :: optC (some (.pointer (some ⟨W.heap.size, 0, none⟩))) (blk W.heap.size (.cells #[.int .i64 0, .slice none 0 0, .string ⟨#[]⟩, .bool false, .int .u64 0] 43)) :: REST) := this
  simpa [upd, h7] using h8
theorem PbR.e7 (h : PbR K REST pg ρ W) (h5 : ρ 5 = some v5) (h6 : ρ 6 = some v6) (h7 : ρ 7 = none) : ∃ (a : Option Addr) (c b : Nat) (R' : List Comp), v5 = (.agg #[.int .i64 (pg).lev, (.slice a pg.sl.length c), .string (pg).hi, .bool (pg).la, .int .u64 (pg).ri]) ∧ v6 = (.pointer (some ⟨b, 0, none⟩)) ∧ St K W (blk b (.cells #[.int .i64 0, .slice none 0 0, .string ⟨#[]⟩, .bool false, .int .u64 0] 43) :: R') ∧
    ∀ W', St K W' (blk b (.cells #[.int .i64 (pg).lev, (.slice a pg.sl.length c), .string (pg).hi, .bool (pg).la, .int .u64 (pg).ri] 43) :: R') → PbR K REST pg (upd ρ 7 undef) W' := by
  obtain ⟨a, c, b, e1, e2, hs⟩ := h
  rw [h5, h6, h7] at hs
  have hs : St K W (slC (.slice a pg.sl.length c) pg :: blk b (.cells #[.int .i64 0, .slice none 0 0, .string ⟨#[]⟩, .bool false, .int .u64 0] 43) :: REST) := hs
  refine ⟨a, c, b, _, e1 v5 h5, e2 v6 h6, hs.b1, fun W' hs' => ⟨a, c, b, fun v h => e1 v (by simpa [upd] using h), fun v h => e2 v (by simpa [upd] using h), ?_⟩⟩
  have : St K W' (optC (some v5) (slC (.slice a pg.sl.length c) pg) :: optC (some v6) (blk b (.cells #[.int .i64 (pg).lev, (.slice a pg.sl.length c), .string (pg).hi, .bool (pg).la, .int .u64 (pg).ri] 43)) :: REST) := hs'.b1
  simpa [upd, h5, h6] using this
theorem PbR.last (h : PbR K REST pg ρ W) (hall : ∀ e, e ∈ [5, 6, 7] → (ρ e).isSome = true) : ∃ (a : Option Addr) (c b : Nat), ρ 5 = some (.agg #[.int .i64 (pg).lev, (.slice a pg.sl.length c), .string (pg).hi, .bool (pg).la, .int .u64 (pg).ri]) ∧ ρ 6 = some (.pointer (some ⟨b, 0, none⟩)) ∧ (∃ v, ρ 7 = some v) ∧
    St K W (blk b (.cells #[.int .i64 (pg).lev, (.slice a pg.sl.length c), .string (pg).hi, .bool (pg).la, .int .u64 (pg).ri] 43) :: slC (.slice a pg.sl.length c) pg :: REST) := by
  obtain ⟨v5, h5⟩ := Option.isSome_iff_exists.1 (hall 5 (by simp))
  obtain ⟨v6, h6⟩ := Option.isSome_iff_exists.1 (hall 6 (by simp))
  obtain ⟨v7, h7⟩ := Option.isSome_iff_exists.1 (hall 7 (by simp))
  obtain ⟨a, c, b, e1, e2, hs⟩ := h
  rw [h5, h6, h7] at hs
  have hs : St K W (slC (.slice a pg.sl.length c) pg :: blk b (.cells #[.int .i64 (pg).lev, (.slice a pg.sl.length c), .string (pg).hi, .bool (pg).la, .int .u64 (pg).ri] 43) :: REST) := hs
  exact ⟨a, c, b, by rw [h5, e1 v5 h5], by rw [h6, e2 v6 h6], ⟨v7, h7⟩, hs.b1⟩
end
/-- A page of a view (e1), and whether it is the one expected (e2). -/
def PgΦ (pg : Pg) (e1 e2 : Nat) (e : Nat) (_ρ : Nat → Option Value) (v : Value) (cs : List Comp) : Prop :=
  if e = e1 then ∃ (a : Option Addr) (c : Nat), v = (.agg #[.int .i64 (pg).lev, (.slice a pg.sl.length c), .string (pg).hi, .bool (pg).la, .int .u64 (pg).ri]) ∧ cs = [slC (.slice a pg.sl.length c) pg]
  else if e = e2 then v = .bool true ∧ cs = [] else False
theorem PgΦ.mono {pg : Pg} {e1 e2 : Nat} {es : List Nat} : Mono es (PgΦ pg e1 e2) := by
  intro e ρ v cs k u he hk h
  exact h
/-- The law's test of the contents of the memory. -/
def CsΦ (L : List Cel) (e1 e2 : Nat) (e : Nat) (_ρ : Nat → Option Value) (v : Value) (cs : List Comp) : Prop :=
  if e = e1 then ∃ g : Nat, v = .slice (some ⟨g, 0, none⟩) L.length L.length ∧ cs = [blk g (.cells (flat L).toArray 63)]
  else if e = e2 then v = .bool true ∧ cs = [] else False
theorem CsΦ.mono {L : List Cel} {e1 e2 : Nat} {es : List Nat} : Mono es (CsΦ L e1 e2) := by
  intro e ρ v cs k u he hk h
  exact h
end Go.Proofs.YtlpdhhhgckpcfaaGreat
