
/- slices.Grow of nothing, slices.Clone and slices.Concat at slots. page.Insert and page.Split. keys.Separator and page.Split. -/
import Derived.Test.YtlpdhhhgckpcfaaGreatBaseA
import Derived.Test.YtlpdhhhgckpcfaaGreatNodeB
import Derived.Test.YtlpdhhhgckpcfaaGreatKeys
import Derived.Test.YtlpdhhhgckpcfaaGreatGrA
import Derived.Test.YtlpdhhhgckpcfaaGreatPageA
namespace Go.Proofs.YtlpdhhhgckpcfaaGreat
open Go.RowKit
set_option maxRecDepth 100000
section
variable {K : Know} {w : World} {F : List Comp}
end
end Go.Proofs.YtlpdhhhgckpcfaaGreat

namespace Go.Proofs.YtlpdhhhgckpcfaaGreat
open Go.RowKit
set_option maxRecDepth 100000
/-- The slots with a further one. -/
def insSl (l : List Sl) (key : ByteArray) (r : Int) : List Sl := l.take (loK l key) ++ ⟨key, r⟩ :: l.drop (loK l key)
def insPg (pg : Pg) (key : ByteArray) (r : Int) : Pg := ⟨pg.lev, insSl pg.sl key r, pg.hi, pg.la, pg.ri⟩
theorem insSl_length (l : List Sl) (key : ByteArray) (r : Int) : (insSl l key r).length = l.length + 1 := by
  have := loK_le l key
  unfold insSl
  rw [List.length_append, List.length_cons, List.length_take, List.length_drop]; omega
theorem SlAt.take {W : World} {a : Option Addr} {l : List Sl} (h : SlAt W a l) (k : Nat) : SlAt W a (l.take k) := by
  refine ⟨by rw [List.length_take]; have := h.1; omega, fun i s hs => h.2 i s ?_⟩
  rw [List.getElem?_take] at hs
  split at hs
  · exact hs
  · cases hs
theorem SlAt.drop {W : World} {g : Nat} {l : List Sl} (h : SlAt W (some ⟨g, 0, none⟩) l) (k : Nat) : SlAt W (some ⟨g, k * 2, none⟩) (l.drop k) := by
  refine ⟨by rw [List.length_drop]; have := h.1; omega, fun i s hs => ?_⟩
  rw [List.getElem?_drop] at hs
  obtain ⟨b, off, e, h1, h2, h3⟩ := h.2 (k + i) s hs
  simp only [Option.some.injEq, Addr.mk.injEq, and_true] at e
  obtain ⟨rfl, rfl⟩ := e
  refine ⟨g, k * 2, rfl, h1, ?_, ?_⟩
  · rw [← h2]; congr 2; omega
  · rw [← h3]; congr 2; omega
theorem SlAt.nil {W : World} {a : Option Addr} : SlAt W a [] := ⟨by simp, fun i s hs => by simp at hs⟩
theorem SlAt.one {K : Know} {W : World} {F : List Comp} {b : Nat} {key : ByteArray} {r : Int} (h : St K W (blk b (.cells #[.string key, .int .u64 r] 69) :: F)) : SlAt W (some ⟨b, 0, none⟩) [⟨key, r⟩] := by
  refine ⟨by simp, fun i s hs => ?_⟩
  cases i with
  | zero =>
    simp at hs; subst hs
    exact ⟨b, 0, rfl, h.n0, h.k0 0, h.k0 1⟩
  | succ i => simp at hs
/-- While the region of Insert runs: the new slot's block (7), the three slices (12), the new row (13), the page that has it (15). -/
def PiR (K : Know) (REST : List Comp) (bp : Nat) (pg pg' : Pg) (va v0 v2 : Value) (key : ByteArray) (r : Int) (N : Nat) (ρ : Nat → Option Value) (W : World) : Prop :=
  ∃ (b7 b12 : Nat) (an : Option Addr) (cn : Nat), (∀ v, ρ 7 = some v → v = .slice (some ⟨b7, 0, none⟩) 1 1) ∧ (∀ v, ρ 12 = some v → v = .slice (some ⟨b12, 0, none⟩) 3 3) ∧ (∀ v, ρ 13 = some v → v = .slice an N cn) ∧
    St K W (optC (ρ 7) (blk b7 (.cells #[.string key, .int .u64 r] 69)) :: optC (ρ 12) (blk b12 (.cells #[v0, .slice (some ⟨b7, 0, none⟩) 1 1, v2] 41)) :: optC (ρ 13) (rowC (.slice an N cn) 69 2 N (slRow pg'.sl)) ::
      blk bp (.cells (if (ρ 15).isSome then #[.int .i64 (pg').lev, (.slice an N cn), .string (pg').hi, .bool (pg').la, .int .u64 (pg').ri] else #[.int .i64 (pg).lev, va, .string (pg).hi, .bool (pg).la, .int .u64 (pg).ri]) 43) :: REST)
section
variable {K : Know} {REST : List Comp} {bp : Nat} {pg pg' : Pg} {va v0 v2 : Value} {key : ByteArray} {r : Int} {N : Nat} {ρ : Nat → Option Value} {W : World} {v7 v12 v13 : Value}
theorem PiR.start (hs : St K W (blk bp (.cells #[.int .i64 (pg).lev, va, .string (pg).hi, .bool (pg).la, .int .u64 (pg).ri] 43) :: REST)) : PiR K REST bp pg pg' va v0 v2 key r N (fun _ => none) W :=
  ⟨0, 0, none, 0, fun v h => (by cases h), fun v h => (by cases h), fun v h => (by cases h), hs.empty.empty.empty⟩
theorem PiR.same {W' : World} (h : PiR K REST bp pg pg' va v0 v2 key r N ρ W) (hb : Below W.heap.size W W') : PiR K REST bp pg pg' va v0 v2 key r N ρ W' := by
  obtain ⟨b7, b12, an, cn, e1, e2, e3, hs⟩ := h
  exact ⟨b7, b12, an, cn, e1, e2, e3, hs.same hb⟩
theorem PiR.page (h : PiR K REST bp pg pg' va v0 v2 key r N ρ W) (h15 : ρ 15 = none) : St K W (blk bp (.cells #[.int .i64 (pg).lev, va, .string (pg).hi, .bool (pg).la, .int .u64 (pg).ri] 43) :: REST) := by
  obtain ⟨b7, b12, an, cn, e1, e2, e3, hs⟩ := h
  rw [h15] at hs
  exact hs.tail.tail.tail
theorem PiR.e7 (h : PiR K REST bp pg pg' va v0 v2 key r N ρ W) (h7 : ρ 7 = none) (h12 : ρ 12 = none) : PiR K REST bp pg pg' va v0 v2 key r N (upd ρ 7 (.slice (some ⟨W.heap.size, 0, none⟩) 1 1)) (W.alloc (.cells #[.string key, .int .u64 r] 69)) := by
  obtain ⟨b7, b12, an, cn, e1, e2, e3, hs⟩ := h
  rw [h7, h12] at hs
  refine ⟨W.heap.size, b12, an, cn, fun v h => by simpa [upd] using h.symm, fun v h => ?_, fun v h => e3 v (by simpa [upd] using h), ?_⟩
  · have : ρ 12 = some v := by simpa [upd] using h
    rw [h12] at this; cases this
  · have : St K (W.alloc (.cells #[.string key, .int .u64 r] 69)) (optC (some (.slice (some ⟨W.heap.size, 0, none⟩) 1 1)) (blk W.heap.size (.cells #[.string key, .int .u64 r] 69)) :: optC none (blk b12 (.cells #[v0, .slice (some ⟨W.heap.size, 0, none⟩) 1 1, v2] 41)) :: _) := hs.tail.made (.cells #[.string key, .int .u64 r] 69)
    simpa [upd, h12] using this
theorem PiR.e12 (h : PiR K REST bp pg pg' va v0 v2 key r N ρ W) (h7 : ρ 7 = some v7) (h12 : ρ 12 = none) : ∃ b7 : Nat, v7 = .slice (some ⟨b7, 0, none⟩) 1 1 ∧
    PiR K REST bp pg pg' va v0 v2 key r N (upd ρ 12 (.slice (some ⟨W.heap.size, 0, none⟩) 3 3)) (W.alloc (.cells #[v0, .slice (some ⟨b7, 0, none⟩) 1 1, v2] 41)) := by
  obtain ⟨b7, b12, an, cn, e1, e2, e3, hs⟩ := h
  rw [h12] at hs
  refine ⟨b7, e1 v7 h7, b7, W.heap.size, an, cn, fun v h => e1 v (by simpa [upd] using h), fun v h => by simpa [upd] using h.symm, fun v h => e3 v (by simpa [upd] using h), ?_⟩
  have h2 : St K W (emptyC :: optC (ρ 7) (blk b7 (.cells #[.string key, .int .u64 r] 69)) :: _) := hs.b1
  have h3 := (h2.tail.made (.cells #[v0, .slice (some ⟨b7, 0, none⟩) 1 1, v2] 41)).b1
  have : St K (W.alloc (.cells #[v0, .slice (some ⟨b7, 0, none⟩) 1 1, v2] 41)) (optC (ρ 7) (blk b7 (.cells #[.string key, .int .u64 r] 69)) :: optC (some (.slice (some ⟨W.heap.size, 0, none⟩) 3 3)) (blk W.heap.size (.cells #[v0, .slice (some ⟨b7, 0, none⟩) 1 1, v2] 41)) :: _) := h3
  simpa [upd] using this
theorem PiR.e13 (h : PiR K REST bp pg pg' va v0 v2 key r N ρ W) (h7 : ρ 7 = some v7) (h12 : ρ 12 = some v12) (h13 : ρ 13 = none) (h15 : ρ 15 = none) : ∃ b7 b12 : Nat, v12 = .slice (some ⟨b12, 0, none⟩) 3 3 ∧
    St K W (blk b7 (.cells #[.string key, .int .u64 r] 69) :: blk b12 (.cells #[v0, .slice (some ⟨b7, 0, none⟩) 1 1, v2] 41) :: blk bp (.cells #[.int .i64 (pg).lev, va, .string (pg).hi, .bool (pg).la, .int .u64 (pg).ri] 43) :: REST) ∧
    ∀ (an : Option Addr) (cn : Nat) W', St K W' (rowC (.slice an N cn) 69 2 N (slRow pg'.sl) :: blk b7 (.cells #[.string key, .int .u64 r] 69) :: blk b12 (.cells #[v0, .slice (some ⟨b7, 0, none⟩) 1 1, v2] 41) :: blk bp (.cells #[.int .i64 (pg).lev, va, .string (pg).hi, .bool (pg).la, .int .u64 (pg).ri] 43) :: REST) → PiR K REST bp pg pg' va v0 v2 key r N (upd ρ 13 (.slice an N cn)) W' := by
  obtain ⟨b7, b12, an, cn, e1, e2, e3, hs⟩ := h
  rw [h7, h12, h13, h15] at hs
  have hs : St K W (blk b7 (.cells #[.string key, .int .u64 r] 69) :: blk b12 (.cells #[v0, .slice (some ⟨b7, 0, none⟩) 1 1, v2] 41) :: emptyC :: blk bp (.cells #[.int .i64 (pg).lev, va, .string (pg).hi, .bool (pg).la, .int .u64 (pg).ri] 43) :: REST) := hs
  refine ⟨b7, b12, e2 v12 h12, (hs.re [2, 0, 1, 3] rfl).tail, fun an' cn' W' hs' => ⟨b7, b12, an', cn', fun v h => e1 v (by simpa [upd] using h), fun v h => e2 v (by simpa [upd] using h), fun v h => by simpa [upd] using h.symm, ?_⟩⟩
  have : St K W' (optC (some v7) (blk b7 (.cells #[.string key, .int .u64 r] 69)) :: optC (some v12) (blk b12 (.cells #[v0, .slice (some ⟨b7, 0, none⟩) 1 1, v2] 41)) :: optC (some (.slice an' N cn')) (rowC (.slice an' N cn') 69 2 N (slRow pg'.sl)) :: blk bp (.cells #[.int .i64 (pg).lev, va, .string (pg).hi, .bool (pg).la, .int .u64 (pg).ri] 43) :: REST) := hs'.re [1, 2, 0, 3] rfl
  simpa [upd, h7, h12, h15] using this
theorem PiR.e15 (h : PiR K REST bp pg pg' va v0 v2 key r N ρ W) (h13 : ρ 13 = some v13) (h15 : ρ 15 = none) : ∃ (an : Option Addr) (cn : Nat) (R' : List Comp), v13 = .slice an N cn ∧ St K W (blk bp (.cells #[.int .i64 (pg).lev, va, .string (pg).hi, .bool (pg).la, .int .u64 (pg).ri] 43) :: R') ∧
    ∀ W', St K W' (blk bp (.cells #[.int .i64 (pg').lev, (.slice an N cn), .string (pg').hi, .bool (pg').la, .int .u64 (pg').ri] 43) :: R') → PiR K REST bp pg pg' va v0 v2 key r N (upd ρ 15 undef) W' := by
  obtain ⟨b7, b12, an, cn, e1, e2, e3, hs⟩ := h
  rw [h15] at hs
  refine ⟨an, cn, _, e3 v13 h13, hs.b3, fun W' hs' => ⟨b7, b12, an, cn, fun v h => e1 v (by simpa [upd] using h), fun v h => e2 v (by simpa [upd] using h), fun v h => e3 v (by simpa [upd] using h), ?_⟩⟩
  have := hs'.u3
  simpa [upd] using this
theorem PiR.last (h : PiR K REST bp pg pg' va v0 v2 key r N ρ W) (hall : ∀ e, e ∈ [7, 12, 13, 15] → (ρ e).isSome = true) : ∃ (an : Option Addr) (cn : Nat), ρ 13 = some (.slice an N cn) ∧ (∃ v, ρ 7 = some v) ∧ (∃ v, ρ 12 = some v) ∧ (∃ v, ρ 15 = some v) ∧
    St K W (rowC (.slice an N cn) 69 2 N (slRow pg'.sl) :: blk bp (.cells #[.int .i64 (pg').lev, (.slice an N cn), .string (pg').hi, .bool (pg').la, .int .u64 (pg').ri] 43) :: REST) := by
  obtain ⟨v7, h7⟩ := Option.isSome_iff_exists.1 (hall 7 (by simp))
  obtain ⟨v12, h12⟩ := Option.isSome_iff_exists.1 (hall 12 (by simp))
  obtain ⟨v13, h13⟩ := Option.isSome_iff_exists.1 (hall 13 (by simp))
  obtain ⟨v15, h15⟩ := Option.isSome_iff_exists.1 (hall 15 (by simp))
  obtain ⟨b7, b12, an, cn, e1, e2, e3, hs⟩ := h
  rw [h7, h12, h13, h15] at hs
  exact ⟨an, cn, by rw [h13, e3 v13 h13], ⟨v7, h7⟩, ⟨v12, h12⟩, ⟨v15, h15⟩, hs.tail.tail⟩
end
-- the variants of the walk
end Go.Proofs.YtlpdhhhgckpcfaaGreat

namespace Go.Proofs.YtlpdhhhgckpcfaaGreat
open Go.RowKit
set_option maxRecDepth 100000
/-- Where a page of n slots is parted. -/
def splK (n : Nat) : Nat := n - n / 2
def splSep (pg : Pg) : ByteArray := match pg.sl[splK pg.sl.length - 1]?, pg.sl[splK pg.sl.length]? with
  | some x, some y => if pg.lev = 0 then sepK x.k y.k else y.k
  | _, _ => ⟨#[]⟩
def splL (pg : Pg) (right : Int) : Pg := ⟨pg.lev, pg.sl.take (splK pg.sl.length), splSep pg, false, right⟩
def splR (pg : Pg) : Pg := ⟨pg.lev, pg.sl.drop (splK pg.sl.length), pg.hi, pg.la, pg.ri⟩
/-- Two new variables (2, 3) and what is put into them (4, 5). -/
def SpR (K : Know) (REST : List Comp) (pa : Array Value) (ρ : Nat → Option Value) (W : World) : Prop :=
  ∃ (b2 b3 : Nat), (∀ v, ρ 2 = some v → v = (.pointer (some ⟨b2, 0, none⟩))) ∧ (∀ v, ρ 3 = some v → v = (.pointer (some ⟨b3, 0, none⟩))) ∧
    St K W (optC (ρ 2) (blk b2 (.cells (if (ρ 4).isSome then pa else #[.int .i64 0, .slice none 0 0, .string ⟨#[]⟩, .bool false, .int .u64 0]) 43)) :: optC (ρ 3) (blk b3 (.cells (if (ρ 5).isSome then pa else #[.int .i64 0, .slice none 0 0, .string ⟨#[]⟩, .bool false, .int .u64 0]) 43)) :: REST)
section
variable {K : Know} {REST : List Comp} {pa : Array Value} {ρ : Nat → Option Value} {W : World} {v2 v3 : Value}
theorem SpR.start (hs : St K W REST) : SpR K REST pa (fun _ => none) W :=
  ⟨0, 0, fun v h => (by cases h), fun v h => (by cases h), hs.empty.empty⟩
theorem SpR.same {W' : World} (h : SpR K REST pa ρ W) (hb : Below W.heap.size W W') : SpR K REST pa ρ W' := by
  obtain ⟨b2, b3, e1, e2, hs⟩ := h
  exact ⟨b2, b3, e1, e2, hs.same hb⟩
theorem SpR.rest (h : SpR K REST pa ρ W) : St K W REST := by
  obtain ⟨b2, b3, e1, e2, hs⟩ := h
  exact hs.tail.tail
theorem SpR.e2 (h : SpR K REST pa ρ W) (h2 : ρ 2 = none) (h4 : ρ 4 = none) : SpR K REST pa (upd ρ 2 (.pointer (some ⟨W.heap.size, 0, none⟩))) (W.alloc (.cells #[.int .i64 0, .slice none 0 0, .string ⟨#[]⟩, .bool false, .int .u64 0] 43)) := by
  obtain ⟨b2, b3, e1, e2, hs⟩ := h
  rw [h2] at hs
  refine ⟨W.heap.size, b3, fun v h => by simpa [upd] using h.symm, fun v h => e2 v (by simpa [upd] using h), ?_⟩
  have : St K (W.alloc (.cells #[.int .i64 0, .slice none 0 0, .string ⟨#[]⟩, .bool false, .int .u64 0] 43)) (optC (some (.pointer (some ⟨W.heap.size, 0, none⟩))) (blk W.heap.size (.cells #[.int .i64 0, .slice none 0 0, .string ⟨#[]⟩, .bool false, .int .u64 0] 43)) :: _) := hs.tail.made (.cells #[.int .i64 0, .slice none 0 0, .string ⟨#[]⟩, .bool false, .int .u64 0] 43)
  simpa [upd, h4] using this
theorem SpR.e3 (h : SpR K REST pa ρ W) (h3 : ρ 3 = none) (h5 : ρ 5 = none) : SpR K REST pa (upd ρ 3 (.pointer (some ⟨W.heap.size, 0, none⟩))) (W.alloc (.cells #[.int .i64 0, .slice none 0 0, .string ⟨#[]⟩, .bool false, .int .u64 0] 43)) := by
  obtain ⟨b2, b3, e1, e2, hs⟩ := h
  rw [h3] at hs
  refine ⟨b2, W.heap.size, fun v h => e1 v (by simpa [upd] using h), fun v h => by simpa [upd] using h.symm, ?_⟩
  have h2 : St K W (emptyC :: optC (ρ 2) (blk b2 (.cells (if (ρ 4).isSome then pa else #[.int .i64 0, .slice none 0 0, .string ⟨#[]⟩, .bool false, .int .u64 0]) 43)) :: REST) := hs.b1
  have : St K (W.alloc (.cells #[.int .i64 0, .slice none 0 0, .string ⟨#[]⟩, .bool false, .int .u64 0] 43)) (optC (ρ 2) (blk b2 (.cells (if (ρ 4).isSome then pa else #[.int .i64 0, .slice none 0 0, .string ⟨#[]⟩, .bool false, .int .u64 0]) 43)) :: optC (some (.pointer (some ⟨W.heap.size, 0, none⟩))) (blk W.heap.size (.cells #[.int .i64 0, .slice none 0 0, .string ⟨#[]⟩, .bool false, .int .u64 0] 43)) :: REST) := (h2.tail.made (.cells #[.int .i64 0, .slice none 0 0, .string ⟨#[]⟩, .bool false, .int .u64 0] 43)).b1
  simpa [upd, h5] using this
theorem SpR.e4 (h : SpR K REST pa ρ W) (h2 : ρ 2 = some v2) (h4 : ρ 4 = none) : ∃ (b : Nat) (R' : List Comp), v2 = (.pointer (some ⟨b, 0, none⟩)) ∧ St K W (blk b (.cells #[.int .i64 0, .slice none 0 0, .string ⟨#[]⟩, .bool false, .int .u64 0] 43) :: R') ∧ ∀ W', St K W' (blk b (.cells pa 43) :: R') → SpR K REST pa (upd ρ 4 undef) W' := by
  obtain ⟨b2, b3, e1, e2, hs⟩ := h
  rw [h2, h4] at hs
  have hs : St K W (blk b2 (.cells #[.int .i64 0, .slice none 0 0, .string ⟨#[]⟩, .bool false, .int .u64 0] 43) :: _) := hs
  refine ⟨b2, _, e1 v2 h2, hs, fun W' hs' => ⟨b2, b3, fun v h => e1 v (by simpa [upd] using h), fun v h => e2 v (by simpa [upd] using h), ?_⟩⟩
  have : St K W' (optC (some v2) (blk b2 (.cells pa 43)) :: _) := hs'
  simpa [upd, h2] using this
theorem SpR.e5 (h : SpR K REST pa ρ W) (h3 : ρ 3 = some v3) (h5 : ρ 5 = none) : ∃ (b : Nat) (R' : List Comp), v3 = (.pointer (some ⟨b, 0, none⟩)) ∧ St K W (blk b (.cells #[.int .i64 0, .slice none 0 0, .string ⟨#[]⟩, .bool false, .int .u64 0] 43) :: R') ∧ ∀ W', St K W' (blk b (.cells pa 43) :: R') → SpR K REST pa (upd ρ 5 undef) W' := by
  obtain ⟨b2, b3, e1, e2, hs⟩ := h
  rw [h3, h5] at hs
  have hs : St K W (_ :: blk b3 (.cells #[.int .i64 0, .slice none 0 0, .string ⟨#[]⟩, .bool false, .int .u64 0] 43) :: _) := hs
  refine ⟨b3, _, e2 v3 h3, hs.b1, fun W' hs' => ⟨b2, b3, fun v h => e1 v (by simpa [upd] using h), fun v h => e2 v (by simpa [upd] using h), ?_⟩⟩
  have : St K W' (optC (ρ 2) (blk b2 (.cells (if (ρ 4).isSome then pa else #[.int .i64 0, .slice none 0 0, .string ⟨#[]⟩, .bool false, .int .u64 0]) 43)) :: optC (some v3) (blk b3 (.cells pa 43)) :: REST) := hs'.b1
  simpa [upd, h3] using this
theorem SpR.last (h : SpR K REST pa ρ W) (hall : ∀ e, e ∈ [2, 3, 4, 5] → (ρ e).isSome = true) : ∃ b2 b3 : Nat, ρ 2 = some (.pointer (some ⟨b2, 0, none⟩)) ∧ ρ 3 = some (.pointer (some ⟨b3, 0, none⟩)) ∧ (∃ v, ρ 4 = some v) ∧ (∃ v, ρ 5 = some v) ∧
    St K W (blk b2 (.cells pa 43) :: blk b3 (.cells pa 43) :: REST) := by
  obtain ⟨v2, h2⟩ := Option.isSome_iff_exists.1 (hall 2 (by simp))
  obtain ⟨v3, h3⟩ := Option.isSome_iff_exists.1 (hall 3 (by simp))
  obtain ⟨v4, h4⟩ := Option.isSome_iff_exists.1 (hall 4 (by simp))
  obtain ⟨v5, h5⟩ := Option.isSome_iff_exists.1 (hall 5 (by simp))
  obtain ⟨b2, b3, e1, e2, hs⟩ := h
  rw [h2, h3, h4, h5] at hs
  exact ⟨b2, b3, by rw [h2, e1 v2 h2], by rw [h3, e2 v3 h3], ⟨v4, h4⟩, ⟨v5, h5⟩, hs⟩
end
/-- The two results that are pages: stored (3, 4) or not. -/
def SqR (K : Know) (b1 b2 : Nat) (p1 p2 : Array Value) (REST : List Comp) (ρ : Nat → Option Value) (W : World) : Prop :=
  St K W (blk b1 (.cells (if (ρ 3).isSome then p1 else #[.int .i64 0, .slice none 0 0, .string ⟨#[]⟩, .bool false, .int .u64 0]) 43) :: blk b2 (.cells (if (ρ 4).isSome then p2 else #[.int .i64 0, .slice none 0 0, .string ⟨#[]⟩, .bool false, .int .u64 0]) 43) :: REST)
section
variable {K : Know} {w : World} {F : List Comp} {pg : Pg} {a : Option Addr} {cap : Nat} {right : Int}
end
end Go.Proofs.YtlpdhhhgckpcfaaGreat
