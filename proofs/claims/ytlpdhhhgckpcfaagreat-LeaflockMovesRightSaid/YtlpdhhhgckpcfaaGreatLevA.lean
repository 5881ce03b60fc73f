
/- blinktreecells.View: Level. The low keys of the nodes of a level. A level of a tree: one node covers a key; where its slots lie. blinktreekit.Same at cells: two slices with the same cells. A page that a view gives, put into a variable (a region that draws); a page compared with the view's. -/
import Derived.Test.YtlpdhhhgckpcfaaGreatViewA
import Derived.Test.YtlpdhhhgckpcfaaGreatTreeB
import Derived.Test.YtlpdhhhgckpcfaaGreatBaseA
import Derived.Test.YtlpdhhhgckpcfaaGreatKeys
namespace Go.Proofs.YtlpdhhhgckpcfaaGreat
open Go.RowKit
set_option maxRecDepth 100000
section
variable {K : Know} {w : World} {F : List Comp} {d : Cfg} {g : Nat} {L : List Cel} {t : List (List Nd)} {k : Nat}
end
end Go.Proofs.YtlpdhhhgckpcfaaGreat

namespace Go.Proofs.YtlpdhhhgckpcfaaGreat
open Go.RowKit
set_option maxRecDepth 100000
/-- The row that lows makes: not yet longer, or longer. -/
def rowLw (o : Option Value) (v5 : Value) (n : Nat) (xs : List ByteArray) (hi : ByteArray) : Comp := match o with
  | none => rowC v5 9 1 n (stRow xs)
  | some v => rowC v 9 1 (n + 1) (stRow (xs ++ [hi]))
/-- While the region runs: the page (6), its high key (7), the block of one (8), the longer row (9), its variable (10). -/
def LwR (K : Know) (REST : List Comp) (v5 : Value) (n : Nat) (xs : List ByteArray) (hi : ByteArray) (ρ : Nat → Option Value) (W : World) : Prop :=
  ∃ b : Nat, (∀ v, ρ 6 = some v → ∃ x0 x1 x3 x4, v = .agg #[x0, x1, .string hi, x3, x4]) ∧ (∀ v, ρ 7 = some v → v = .string hi) ∧ (∀ v, ρ 8 = some v → v = .slice (some ⟨b, 0, none⟩) 1 1) ∧ (∀ v, ρ 10 = some v → ρ 9 = some v) ∧
    St K W (optC (ρ 8) (blk b (.cells #[.string hi] 9)) :: rowLw (ρ 9) v5 n xs hi :: REST)
section
variable {K : Know} {REST : List Comp} {v5 : Value} {n : Nat} {xs : List ByteArray} {hi : ByteArray} {ρ : Nat → Option Value} {W : World} {v6 v7 v8 v9 : Value}
theorem LwR.start (hs : St K W (rowC v5 9 1 n (stRow xs) :: REST)) : LwR K REST v5 n xs hi (fun _ => none) W :=
  ⟨0, fun v h => (by cases h), fun v h => (by cases h), fun v h => (by cases h), fun v h => (by cases h), hs.empty⟩
theorem LwR.same {W' : World} (h : LwR K REST v5 n xs hi ρ W) (hb : Below W.heap.size W W') : LwR K REST v5 n xs hi ρ W' := by
  obtain ⟨b, e1, e2, e3, e4, hs⟩ := h
  exact ⟨b, e1, e2, e3, e4, hs.same hb⟩
theorem LwR.rest (h : LwR K REST v5 n xs hi ρ W) : St K W REST := by
  obtain ⟨b, e1, e2, e3, e4, hs⟩ := h
  exact hs.tail.tail
theorem LwR.e6 (h : LwR K REST v5 n xs hi ρ W) : ∃ R', St K W R' ∧ ∀ (x0 x1 x3 x4 : Value) W', St K W' R' → LwR K REST v5 n xs hi (upd ρ 6 (.agg #[x0, x1, .string hi, x3, x4])) W' := by
  obtain ⟨b, e1, e2, e3, e4, hs⟩ := h
  refine ⟨_, hs, fun x0 x1 x3 x4 W' hs' => ⟨b, fun v h => ?_, fun v h => e2 v (by simpa [upd] using h), fun v h => e3 v (by simpa [upd] using h), fun v h => ?_, ?_⟩⟩
  · exact ⟨x0, x1, x3, x4, by simpa [upd] using h.symm⟩
  · have := e4 v (by simpa [upd] using h); simpa [upd] using this
  · simpa [upd] using hs'
theorem LwR.e7 (h : LwR K REST v5 n xs hi ρ W) (h6 : ρ 6 = some v6) : ∃ x0 x1 x3 x4, v6 = .agg #[x0, x1, .string hi, x3, x4] ∧ LwR K REST v5 n xs hi (upd ρ 7 (.string hi)) W := by
  obtain ⟨b, e1, e2, e3, e4, hs⟩ := h
  obtain ⟨x0, x1, x3, x4, rfl⟩ := e1 v6 h6
  refine ⟨x0, x1, x3, x4, rfl, b, fun v h => e1 v (by simpa [upd] using h), fun v h => by simpa [upd] using h.symm, fun v h => e3 v (by simpa [upd] using h), fun v h => ?_, by simpa [upd] using hs⟩
  have := e4 v (by simpa [upd] using h); simpa [upd] using this
theorem LwR.e8 (h : LwR K REST v5 n xs hi ρ W) (h7 : ρ 7 = some v7) (h8 : ρ 8 = none) (h9 : ρ 9 = none) : v7 = .string hi ∧ LwR K REST v5 n xs hi (upd ρ 8 (.slice (some ⟨W.heap.size, 0, none⟩) 1 1)) (W.alloc (.cells #[.string hi] 9)) := by
  obtain ⟨b, e1, e2, e3, e4, hs⟩ := h
  refine ⟨e2 v7 h7, W.heap.size, fun v h => e1 v (by simpa [upd] using h), fun v h => e2 v (by simpa [upd] using h), fun v h => by simpa [upd] using h.symm, fun v h => ?_, ?_⟩
  · have := e4 v (by simpa [upd] using h); rw [h9] at this; cases this
  · rw [h8, h9] at hs
    have : St K (W.alloc (.cells #[.string hi] 9)) (optC (some (.slice (some ⟨W.heap.size, 0, none⟩) 1 1)) (blk W.heap.size (.cells #[.string hi] 9)) :: rowLw none v5 n xs hi :: REST) := hs.tail.made (.cells #[.string hi] 9)
    simpa [upd, h9] using this
theorem LwR.e10 (h : LwR K REST v5 n xs hi ρ W) (h9 : ρ 9 = some v9) : LwR K REST v5 n xs hi (upd ρ 10 v9) W := by
  obtain ⟨b, e1, e2, e3, e4, hs⟩ := h
  refine ⟨b, fun v h => e1 v (by simpa [upd] using h), fun v h => e2 v (by simpa [upd] using h), fun v h => e3 v (by simpa [upd] using h), fun v h => ?_, by simpa [upd] using hs⟩
  have : v9 = v := by simpa [upd] using h
  subst this
  simpa [upd] using h9
theorem LwR.last (h : LwR K REST v5 n xs hi ρ W) (hall : ∀ e, e ∈ [6, 7, 8, 9, 10] → (ρ e).isSome = true) : ∃ (a : Option Addr) (cp : Nat), ρ 9 = some (.slice a (n + 1) cp) ∧ ρ 10 = some (.slice a (n + 1) cp) ∧ (∃ v, ρ 6 = some v) ∧ (∃ v, ρ 7 = some v) ∧ (∃ v, ρ 8 = some v) ∧
    St K W (rowC (.slice a (n + 1) cp) 9 1 (n + 1) (stRow (xs ++ [hi])) :: REST) := by
  obtain ⟨v6, h6⟩ := Option.isSome_iff_exists.1 (hall 6 (by simp))
  obtain ⟨v7, h7⟩ := Option.isSome_iff_exists.1 (hall 7 (by simp))
  obtain ⟨v8, h8⟩ := Option.isSome_iff_exists.1 (hall 8 (by simp))
  obtain ⟨v9, h9⟩ := Option.isSome_iff_exists.1 (hall 9 (by simp))
  obtain ⟨v10, h10⟩ := Option.isSome_iff_exists.1 (hall 10 (by simp))
  obtain ⟨b, e1, e2, e3, e4, hs⟩ := h
  obtain rfl := Option.some.inj (h9.symm.trans (e4 v10 h10))
  rw [h8, h9] at hs
  have hs : St K W (rowC v9 9 1 (n + 1) (stRow (xs ++ [hi])) :: REST) := hs.tail
  obtain ⟨a, cp, rfl, _, _⟩ := hs.row_read
  exact ⟨a, cp, h9, h10, ⟨v6, h6⟩, ⟨v7, h7⟩, ⟨v8, h8⟩, hs⟩
end
section
variable {K : Know} {w : World} {F : List Comp} {d : Cfg} {g : Nat} {L : List Cel} {l : List Nd} {a : Option Addr} {cap : Nat}
end
end Go.Proofs.YtlpdhhhgckpcfaaGreat

namespace Go.Proofs.YtlpdhhhgckpcfaaGreat
set_option maxRecDepth 100000
section
variable {lev : Nat} {l : List Nd} {i j : Nat} {a b : Nd} {key : ByteArray}
theorem RowOk.hi_le (h : RowOk lev l) (ha : l[i]? = some a) (hb : l[j]? = some b) (hij : i < j) : a.pg.la = false ∧ klt b.low a.pg.hi = false := by
  have hj := (List.getElem?_eq_some_iff.1 hb).1
  obtain ⟨e, he⟩ : ∃ e, l[i + 1]? = some e := ⟨_, List.getElem?_eq_getElem (by omega)⟩
  obtain ⟨q1, q2, _, _⟩ := h.next i a e ha he
  refine ⟨q1, ?_⟩
  rw [q2]
  by_cases hh : i + 1 = j
  · rw [hh, hb] at he
    rw [Option.some.inj he]; exact klt_irrefl _
  · exact klt_asymm (h.low_lt j (i + 1) e b he hb (by omega))
/-- One node covers a key. -/
theorem RowOk.cover_one (h : RowOk lev l) (ha : l[i]? = some a) (hb : l[j]? = some b) (a1 : klt key a.low = false) (a2 : (a.pg.la || klt key a.pg.hi) = true) (b1 : klt key b.low = false) (b2 : (b.pg.la || klt key b.pg.hi) = true) : i = j := by
  rcases Nat.lt_trichotomy i j with hij | hij | hij
  · obtain ⟨q1, q2⟩ := h.hi_le ha hb hij
    rw [q1, Bool.false_or] at a2
    have := klt_le_lt b1 a2
    rw [this] at q2; cases q2
  · exact hij
  · obtain ⟨q1, q2⟩ := h.hi_le hb ha hij
    rw [q1, Bool.false_or] at b2
    have := klt_le_lt a1 b2
    rw [this] at q2; cases q2
end
section
variable {d : Cfg} {ks : List ByteArray} {hide : Bool} {L : List Cel} {t : List (List Nd)} {l : List Nd} {i p : Nat} {a : Nd} {key : ByteArray} {s : Sl}
end
end Go.Proofs.YtlpdhhhgckpcfaaGreat
