/- Worlds with new blocks laid behind them: the class of worlds that a region which draws its order may be in while its callees make blocks of their own. -/
import Derived.Test.YtfgjanponijkhaaRows
import Derived.WalkKit
import Derived.WalkLawsBesides
import Derived.WalkSpells
import Derived.OpenShut
import Derived.BigQuiet
import Derived.Deep.QuietTactic
import Derived.Lib.Hide
namespace Go.Proofs.Ytfgjanponijkhaa
open Go.RowKit

/-- New blocks, and a count of draws. -/
structure Ext where
  objs : Array Obj
  num : Nat
instance : Inhabited Ext := ⟨⟨#[], 0⟩⟩

/-- The world with new blocks behind it. -/
def over (w : World) (x : Ext) : World := { w with heap := w.heap ++ x.objs, drawn := x.num }

/-- The world w' is w with new blocks behind it. -/
def Pure (w w' : World) : Prop := ∃ x : Ext, w' = over w x

/-- What a new block holds at a place; nothing at a place of an elder block. -/
def past (w : World) (x : Ext) (a : Addr) : Option Value := if w.heap.size ≤ a.block then (over w x).cell? a else none

theorem heap_over_lt {w : World} {x : Ext} {k : Nat} (h : k < w.heap.size) : (over w x).heap[k]? = w.heap[k]? := by
  show (w.heap ++ x.objs)[k]? = _
  rw [Array.getElem?_append, if_pos h]

theorem cell?_over (w : World) (x : Ext) (a : Addr) : (over w x).cell? a = (w.cell? a).or (past w x a) := by
  unfold past
  by_cases h : w.heap.size ≤ a.block
  · have e : w.cell? a = none := by
      unfold World.cell?
      rw [Array.getElem?_eq_none h]
    rw [if_pos h, e, Option.none_or]
  · rw [if_neg h, Option.or_none]
    exact World.cell?_of_block (w := w) (heap_over_lt (by omega))

theorem size_over (w : World) (x : Ext) : (over w x).heap.size = w.heap.size + x.objs.size := by
  show (w.heap ++ x.objs).size = _
  simp

attribute [go_sem] cell?_over

theorem below_over (w : World) (x : Ext) : Below w.heap.size w (over w x) :=
  ⟨rfl, rfl, rfl, by rw [size_over]; omega, fun _ hk => heap_over_lt hk⟩

theorem to_pure {w w' : World} (h : Below w.heap.size w w') : Pure w w' := by
  refine ⟨⟨w'.heap.extract w.heap.size w'.heap.size, w'.drawn⟩, ?_⟩
  have hh : w'.heap = w.heap ++ w'.heap.extract w.heap.size w'.heap.size := by
    apply Array.ext_getElem?
    intro k
    rw [Array.getElem?_append]
    by_cases hk : k < w.heap.size
    · rw [if_pos hk]; exact h.block k hk
    · rw [if_neg hk, Array.getElem?_extract]
      have := h.size
      by_cases hk2 : k < w'.heap.size
      · rw [if_pos (by omega)]; congr 1; omega
      · rw [if_neg (by omega)]; exact Array.getElem?_eq_none (by omega)
  unfold over
  cases w'
  have h1 := h.os
  have h2 := h.tape
  have h3 := h.output
  simp only at h1 h2 h3 hh ⊢
  subst h1 h2 h3
  rw [← hh]

theorem Pure.below {w w' : World} (h : Pure w w') : Below w.heap.size w w' := by
  obtain ⟨x, rfl⟩ := h
  exact below_over w x

/-- A callee's contract, met within a region. -/
theorem pure_of {P : Program} {f : FuncId} {args : Array Value} {w : World} {x : Ext} {v : Value}
    (h : Calls P f args (over w x) fun e w' => e = .returned v ∧ Below (over w x).heap.size (over w x) w') : Calls P f args (over w x) fun e w'' => e = .returned v ∧ ∃ y : Ext, w'' = over w y :=
  h.mono fun _ _ ⟨he, hb⟩ => ⟨he, to_pure ((below_over w x).trans (hb.mono (by rw [size_over]; omega)))⟩

/-- .. of a callee that leaves the world alone. -/
theorem pure_of_same {P : Program} {f : FuncId} {args : Array Value} {w : World} {x : Ext} {v : Value}
    (h : Calls P f args (over w x) fun e w' => e = .returned v ∧ over w x = w') : Calls P f args (over w x) fun e w'' => e = .returned v ∧ ∃ y : Ext, w'' = over w y :=
  h.mono fun _ _ ⟨he, hb⟩ => ⟨he, x, hb.symm⟩

theorem drew_over (w : World) : { w with drawn := w.drawn + 1 } = over w ⟨#[], w.drawn + 1⟩ := by
  simp [over]

/-- A region that draws its order, whose operations only read and whose callees make new blocks at most: one walk in the order of the text. -/
theorem wp_region_pure {P : Program} {id : Nat} {Q : Exit → Act → World → Prop} {a : Act} {w : World} {l : List Oper} (hm : P.follows .mixedOrders = true) (hB : Region.lexB .any l.toArray = true)
    (h : wpQuiet P l.toArray (fun w' => ∃ x : Ext, w' = over w x) (fun a' => ∀ w', Below w.heap.size w w' → Q .normal a' w') l a) : (Code.region id l.toArray true).wp P Q a w := by
  refine wp_region_quiet (C := fun w' => ∃ x : Ext, w' = over w x) hm hB ⟨_, drew_over w⟩ ?_
  have e : (fun a' => ∀ w', (∃ x : Ext, w' = over w x) → Q .normal a' w') = fun a' => ∀ w', Below w.heap.size w w' → Q .normal a' w' := by
    funext a'
    exact propext ⟨fun h w' hb => h w' (to_pure hb), fun h w' hx => h w' (Pure.below hx)⟩
  rw [e]
  simpa using h

/-- Behind a callee of which 'Below' is known: every elder cell reads as it did. -/
theorem bcell {W w1 : World} (hb : Below W.heap.size W w1) : (∀ b o, b < W.heap.size → w1.cell? ⟨b, o, none⟩ = W.cell? ⟨b, o, none⟩) ∧ (∀ b o, b < W.heap.size → w1.frozen? ⟨b, o, none⟩ = W.frozen? ⟨b, o, none⟩) :=
  ⟨fun b o h => hb.cell (p := ⟨b, o, none⟩) h, fun b o h => hb.frozen (p := ⟨b, o, none⟩) h⟩

/-! ### Blocks: what a block holds, carried from world to world -/
theorem blk_alloc (w : World) (o : Obj) : (w.alloc o).heap[w.heap.size]? = some o := by
  show (w.heap.push o)[w.heap.size]? = _
  rw [Array.getElem?_push, if_pos rfl]
theorem blk_lt {w : World} {k : Nat} {o : Obj} (h : w.heap[k]? = some o) : k < w.heap.size := by
  rcases Nat.lt_or_ge k w.heap.size with h' | h'
  · exact h'
  · rw [Array.getElem?_eq_none h'] at h; cases h
theorem blk_old {w : World} {k : Nat} {o' : Obj} (h : w.heap[k]? = some o') (o : Obj) : (w.alloc o).heap[k]? = some o' := by
  rw [Below.heap_alloc _ _ _ (blk_lt h)]; exact h
theorem blk_keep {W w' : World} {k : Nat} {o : Obj} {B : Nat} (hb : Below B W w') (hk : k < B) (h : W.heap[k]? = some o) : w'.heap[k]? = some o := by
  rw [hb.block k hk]; exact h
theorem blk_same {W w' : World} {k : Nat} {o : Obj} (hb : Below W.heap.size W w') (h : W.heap[k]? = some o) : w'.heap[k]? = some o :=
  blk_keep hb (blk_lt h) h
theorem blk_cell {w : World} {b : Nat} {cs : Array Value} {T : TypeId} {f : Nat × Nat} (h : w.heap[b]? = some (.cells cs T f)) : ∀ k, w.cell? ⟨b, k, none⟩ = cs[k]? := by
  intro k; simp [World.cell?, h]
theorem blk_frozen {w : World} {b : Nat} {cs : Array Value} {T : TypeId} (h : w.heap[b]? = some (.cells cs T)) : ∀ k, w.frozen? ⟨b, k, none⟩ = false := by
  intro k; simp [World.frozen?, h]

theorem ret_int {k : IntKind} {a b : Int} (h : a = b) : Ending.returned (.int k a) = .returned (.int k b) := by rw [h]
theorem ret_bool {a b : Bool} (h : a = b) : Ending.returned (.bool a) = .returned (.bool b) := by rw [h]
end Go.Proofs.Ytfgjanponijkhaa
