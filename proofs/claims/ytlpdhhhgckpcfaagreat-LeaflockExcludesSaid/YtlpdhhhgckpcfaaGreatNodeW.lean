
/- The writer of a node (package node): the list of its stores. The map of a writer's stores (map[put]bool, made by the call itself), as a part of a world. The writer of a node as a machine (package node): newWriter, store, Step. NewWrite (package node): the stores that turn a page into another. What a writer of a node holds when it has finished (package node): result, Held. The writer of a new node (package node: Fresh). What a writer's list makes of the cells (pure). -/
import Derived.Test.YtlpdhhhgckpcfaaGreatNodeB
import Derived.Test.YtlpdhhhgckpcfaaGreatTailC
import Derived.Maps.OwnSet
import Derived.DeepKeys4
import Derived.Test.YtlpdhhhgckpcfaaGreatPageA
namespace Go.Proofs.YtlpdhhhgckpcfaaGreat
open Go.RowKit
set_option maxRecDepth 100000

/-- A store: cell i, and what it gets. -/
structure Pt where
  i : Int
  c : Cel
def ptCells (p : Pt) : List Value := [.int .i64 p.i, .int .u64 p.c.n, .string p.c.k, .int .u64 p.c.m]
def ptRow (l : List Pt) : List Value := l.flatMap ptCells

/-- The stores of slots, from number i on. -/
def slPts (d : Cfg) (id : Int) : Nat → List Sl → List Pt
  | _, [] => []
  | i, s :: l => ⟨d.slot id i, ⟨s.r, s.k, 0⟩⟩ :: slPts d id (i + 1) l
theorem slPts_length {d : Cfg} {id : Int} : ∀ (l : List Sl) (i : Nat), (slPts d id i l).length = l.length
  | [], _ => rfl
  | s :: l, i => by simp [slPts, slPts_length l]
/-- What cells returns. -/
def hiCel (pg : Pg) : Cel := cond pg.la ⟨0, ⟨#[]⟩, 1⟩ ⟨0, pg.hi, 0⟩
def pgPts (d : Cfg) (id : Int) (pg : Pg) : List Pt :=
  slPts d id 0 pg.sl ++ [⟨d.node id 2, hiCel pg⟩, ⟨d.node id 3, ⟨pg.ri, ⟨#[]⟩, 0⟩⟩, ⟨d.node id 1, ⟨pg.sl.length, ⟨#[]⟩, pg.lev⟩⟩]

section
variable {K : Know} {w : World} {F : List Comp} {pg : Pg} {a : Option Addr} {cap : Nat} {d : Cfg} {id : Int}
end
end Go.Proofs.YtlpdhhhgckpcfaaGreat

namespace Go.Proofs.YtlpdhhhgckpcfaaGreat
open Go.RowKit Go.Maps
set_option maxRecDepth 100000

section
variable {K : Know} {w : World} {F : List Comp} {b : Nat} {S : List Pt} {p : Pt}

end
end Go.Proofs.YtlpdhhhgckpcfaaGreat

namespace Go.Proofs.YtlpdhhhgckpcfaaGreat
open Go.RowKit
set_option maxRecDepth 100000

def wrStore (b : Nat) : Option FV := some ⟨130, #[.pointer (some ⟨b, 0, none⟩)], #[]⟩
def wrCells (nx pv : Value) (id word : Int) (pg : Pg) (va : Value) : List Value := [nx, .bool true, pv, .int .u64 id, .int .u64 word, .int .i64 (pg).lev, va, .string (pg).hi, .bool (pg).la, .int .u64 (pg).ri]

section
variable {K : Know} {w : World} {F : List Comp} {pg : Pg} {id word : Int}

end

/-- The writer's block when k stores have been made. -/
def wrC (b : Nat) (id word : Int) (pg : Pg) (va : Value) (g cap : Nat) (ps : List Pt) (k : Nat) : Comp where
  foot := [b]
  ok := fun w => ∃ pv, (k < ps.length → pv = .slice (some ⟨g, k * 4, none⟩) (ps.length - k) (cap - k)) ∧ w.heap[b]? = some (.cells (wrCells (stV (if k < ps.length then wrStore b else none)) pv id word pg va).toArray 149)
  loc := by
    rintro w w' h ⟨pv, h1, h2⟩
    exact ⟨pv, h1, by rw [h b (by simp)]; exact h2⟩
  dom := by
    rintro w ⟨pv, h1, h2⟩ b' hb
    simp at hb; subst hb; exact blk_lt h2

section
variable {K : Know} {w : World} {F : List Comp} {pg : Pg} {id word : Int} {b g cap k bm bc acc : Nat} {va : Value} {ps : List Pt} {L : List Cel}

end
end Go.Proofs.YtlpdhhhgckpcfaaGreat

namespace Go.Proofs.YtlpdhhhgckpcfaaGreat
open Go.RowKit
set_option maxRecDepth 100000

attribute [go_sem] run_makeMap

section
variable {d : Cfg} (hd : d.Ok) {id : Int}
include hd
end

/-- What a writer's list is made of: the first store, those of y that are none of x's, in their order. -/
def Newer (px py : List Pt) (mid : List Pt) : Prop := mid.Sublist py ∧ ∀ p, p ∈ py → p ∉ px → p ∈ mid
theorem Newer.nil (px : List Pt) : Newer px [] [] := ⟨List.Sublist.refl _, fun p h => by simp at h⟩
theorem Newer.skip {px py mid : List Pt} {p : Pt} (h : Newer px py mid) (hp : p ∈ px) : Newer px (py ++ [p]) mid :=
  ⟨h.1.trans (List.sublist_append_left _ _), fun q hq hn => by
    rcases List.mem_append.1 hq with h1 | h1
    · exact h.2 q h1 hn
    · simp at h1; subst h1; exact absurd hp hn⟩
theorem Newer.take {px py mid : List Pt} {p : Pt} (h : Newer px py mid) : Newer px (py ++ [p]) (mid ++ [p]) :=
  ⟨List.Sublist.append h.1 (List.Sublist.refl _), fun q hq hn => by
    rcases List.mem_append.1 hq with h1 | h1
    · exact List.mem_append_left _ (h.2 q h1 hn)
    · exact List.mem_append_right _ h1⟩

def rowP (o : Option Value) (c0 c1 : Comp) : Comp := match o with
  | some _ => c1
  | none => c0
/-- What is known while NewWrite's last statement runs. -/
def NwR (K : Know) (REST : List Comp) (id word2 : Int) (y : Pg) (a11 : Option Addr) (c11 n : Nat) (xs lit : List Value) (ρ : Nat → Option Value) (W : World) : Prop :=
  ∃ (b5 : Nat) (a6 : Option Addr) (c6 : Nat) (aV : Option Addr) (cV b13 bw : Nat),
    (∀ v, ρ 5 = some v → v = .slice (some ⟨b5, 0, none⟩) 1 1) ∧ (∀ v, ρ 6 = some v → v = .slice a6 (n + 1) c6) ∧ (∀ v, ρ 11 = some v → v = .agg #[.int .i64 (y).lev, (.slice aV y.sl.length cV), .string (y).hi, .bool (y).la, .int .u64 (y).ri]) ∧
    (∀ v, ρ 12 = some v → v = .agg #[.int .u64 id, .int .u64 word2, .int .i64 (y).lev, (.slice aV y.sl.length cV), .string (y).hi, .bool (y).la, .int .u64 (y).ri]) ∧ (∀ v, ρ 13 = some v → v = .pointer (some ⟨b13, 0, none⟩)) ∧ (∀ v, ρ 14 = some v → v = .agg #[.pointer (some ⟨b13, 0, none⟩)]) ∧ (∀ v, ρ 15 = some v → v = .pointer (some ⟨bw, 0, none⟩)) ∧ (∀ v, ρ 16 = some v → v = .pointer (some ⟨bw, 0, none⟩)) ∧
    St K W (optC (ρ 5) (blk b5 (.cells lit.toArray 139)) :: rowP (ρ 6) (rowC (.slice a11 n c11) 139 4 n xs) (rowC (.slice a6 (n + 1) c6) 139 4 (n + 1) (xs ++ lit)) :: optC (ρ 11) (slC (.slice aV y.sl.length cV) y) ::
      optC (ρ 13) (blk b13 (.cells (wrCells (stV (wrStore b13)) (.slice a6 (n + 1) c6) id word2 y (.slice aV y.sl.length cV)).toArray 149)) :: optC (ρ 15) (blk bw (.cells #[.pointer (some ⟨b13, 0, none⟩)] 147)) :: REST)

section
variable {K : Know} {W : World} {REST : List Comp} {id word2 : Int} {y : Pg} {a11 ay : Option Addr} {c11 n cy : Nat} {xs lit : List Value} {ρ : Nat → Option Value} {v v5 v6 v11 v12 v13 v14 v15 : Value}
theorem NwR.start (hs : St K W (rowC (.slice a11 n c11) 139 4 n xs :: REST)) : NwR K REST id word2 y a11 c11 n xs lit (fun _ => none) W := by
  refine ⟨0, none, 0, none, 0, 0, 0, ?_, ?_, ?_, ?_, ?_, ?_, ?_, ?_, ?_⟩
  iterate 8 (intro v h; cases h)
  exact hs.empty.b1.empty.b1.empty.b1.empty
theorem NwR.same {W' : World} (h : NwR K REST id word2 y a11 c11 n xs lit ρ W) (hb : Below W.heap.size W W') : NwR K REST id word2 y a11 c11 n xs lit ρ W' := by
  obtain ⟨b5, a6, c6, aV, cV, b13, bw, e1, e2, e3, e4, e5, e6, e7, e8, hs⟩ := h
  exact ⟨b5, a6, c6, aV, cV, b13, bw, e1, e2, e3, e4, e5, e6, e7, e8, hs.same hb⟩
theorem NwR.rest (h : NwR K REST id word2 y a11 c11 n xs lit ρ W) : St K W REST := by
  obtain ⟨b5, a6, c6, aV, cV, b13, bw, e1, e2, e3, e4, e5, e6, e7, e8, hs⟩ := h
  exact hs.tail.tail.tail.tail.tail
theorem NwR.e5 (h : NwR K REST id word2 y a11 c11 n xs lit ρ W) (h5 : ρ 5 = none) : NwR K REST id word2 y a11 c11 n xs lit (upd ρ 5 (.slice (some ⟨W.heap.size, 0, none⟩) 1 1)) (W.alloc (.cells lit.toArray 139)) := by
  obtain ⟨b5, a6, c6, aV, cV, b13, bw, e1, e2, e3, e4, e5, e6, e7, e8, hs⟩ := h
  rw [h5] at hs
  exact ⟨W.heap.size, a6, c6, aV, cV, b13, bw, fun v hv => (Option.some.inj hv).symm, e2, e3, e4, e5, e6, e7, e8, hs.tail.made _⟩
theorem NwR.e6 (h : NwR K REST id word2 y a11 c11 n xs lit ρ W) (h5 : ρ 5 = some v5) (h6 : ρ 6 = none) (h13 : ρ 13 = none) : ∃ (b5 : Nat) (R' : List Comp), v5 = .slice (some ⟨b5, 0, none⟩) 1 1 ∧ St K W (rowC (.slice a11 n c11) 139 4 n xs :: blk b5 (.cells lit.toArray 139) :: R') ∧
    ∀ v' W', St K W' (rowC v' 139 4 (n + 1) (xs ++ lit) :: blk b5 (.cells lit.toArray 139) :: R') → NwR K REST id word2 y a11 c11 n xs lit (upd ρ 6 v') W' := by
  obtain ⟨b5, a6, c6, aV, cV, b13, bw, e1, e2, e3, e4, e5, e6, e7, e8, hs⟩ := h
  rw [h5, h6, h13] at hs
  refine ⟨b5, _, e1 v5 h5, hs.b1, fun v' W' hs' => ?_⟩
  obtain ⟨a', c', rfl, _, _⟩ := hs'.row_read
  refine ⟨b5, a', c', aV, cV, b13, bw, e1, fun v hv => (Option.some.inj hv).symm, e3, e4, e5, e6, e7, e8, ?_⟩
  show St K W' (optC (ρ 5) _ :: rowC _ _ _ _ _ :: optC (ρ 11) _ :: optC (ρ 13) _ :: optC (ρ 15) _ :: REST)
  rw [h5, h13]
  exact hs'.b1
theorem NwR.e14 (h : NwR K REST id word2 y a11 c11 n xs lit ρ W) (h13 : ρ 13 = some v13) : ∃ b : Nat, v13 = .pointer (some ⟨b, 0, none⟩) ∧ NwR K REST id word2 y a11 c11 n xs lit (upd ρ 14 (.agg #[.pointer (some ⟨b, 0, none⟩)])) W := by
  obtain ⟨b5, a6, c6, aV, cV, b13, bw, e1, e2, e3, e4, e5, e6, e7, e8, hs⟩ := h
  exact ⟨b13, e5 v13 h13, b5, a6, c6, aV, cV, b13, bw, e1, e2, e3, e4, e5, fun v hv => (Option.some.inj hv).symm, e7, e8, hs⟩
theorem NwR.e15 (h : NwR K REST id word2 y a11 c11 n xs lit ρ W) (h14 : ρ 14 = some v14) (h15 : ρ 15 = none) (h16 : ρ 16 = none) : ∃ b : Nat, v14 = .agg #[.pointer (some ⟨b, 0, none⟩)] ∧ NwR K REST id word2 y a11 c11 n xs lit (upd ρ 15 (.pointer (some ⟨W.heap.size, 0, none⟩))) (W.alloc (.cells #[.pointer (some ⟨b, 0, none⟩)] 147)) := by
  obtain ⟨b5, a6, c6, aV, cV, b13, bw, e1, e2, e3, e4, e5, e6, e7, e8, hs⟩ := h
  rw [h15] at hs
  refine ⟨b13, e6 v14 h14, b5, a6, c6, aV, cV, b13, W.heap.size, e1, e2, e3, e4, e5, e6, fun v hv => (Option.some.inj hv).symm, fun v hv => ?_, ?_⟩
  · have : ρ 16 = some v := hv
    rw [h16] at this; cases this
  · exact (hs.b4.tail.made _).u4
theorem NwR.e16 (h : NwR K REST id word2 y a11 c11 n xs lit ρ W) (h15 : ρ 15 = some v15) : ∃ b : Nat, v15 = .pointer (some ⟨b, 0, none⟩) ∧ NwR K REST id word2 y a11 c11 n xs lit (upd ρ 16 (.pointer (some ⟨b, 0, none⟩))) W := by
  obtain ⟨b5, a6, c6, aV, cV, b13, bw, e1, e2, e3, e4, e5, e6, e7, e8, hs⟩ := h
  exact ⟨bw, e7 v15 h15, b5, a6, c6, aV, cV, b13, bw, e1, e2, e3, e4, e5, e6, e7, fun v hv => (Option.some.inj hv).symm, hs⟩
theorem NwR.last (h : NwR K REST id word2 y a11 c11 n xs lit ρ W) (hall : ∀ e, e ∈ [5, 6, 11, 12, 13, 14, 15, 16] → (ρ e).isSome = true) : ∃ (b5 : Nat) (a6 : Option Addr) (c6 : Nat) (aV : Option Addr) (cV b13 bw : Nat),
    ρ 5 = some (.slice (some ⟨b5, 0, none⟩) 1 1) ∧ ρ 6 = some (.slice a6 (n + 1) c6) ∧ ρ 11 = some (.agg #[.int .i64 (y).lev, (.slice aV y.sl.length cV), .string (y).hi, .bool (y).la, .int .u64 (y).ri]) ∧ ρ 12 = some (.agg #[.int .u64 id, .int .u64 word2, .int .i64 (y).lev, (.slice aV y.sl.length cV), .string (y).hi, .bool (y).la, .int .u64 (y).ri]) ∧ ρ 13 = some (.pointer (some ⟨b13, 0, none⟩)) ∧ ρ 14 = some (.agg #[.pointer (some ⟨b13, 0, none⟩)]) ∧ ρ 15 = some (.pointer (some ⟨bw, 0, none⟩)) ∧ ρ 16 = some (.pointer (some ⟨bw, 0, none⟩)) ∧
    St K W (rowC (.slice a6 (n + 1) c6) 139 4 (n + 1) (xs ++ lit) :: slC (.slice aV y.sl.length cV) y :: blk b13 (.cells (wrCells (stV (wrStore b13)) (.slice a6 (n + 1) c6) id word2 y (.slice aV y.sl.length cV)).toArray 149) :: blk bw (.cells #[.pointer (some ⟨b13, 0, none⟩)] 147) :: REST) := by
  obtain ⟨b5, a6, c6, aV, cV, b13, bw, e1, e2, e3, e4, e5, e6, e7, e8, hs⟩ := h
  have g : ∀ e, e ∈ [5, 6, 11, 12, 13, 14, 15, 16] → ∃ v, ρ e = some v := fun e he => Option.isSome_iff_exists.1 (hall e he)
  obtain ⟨v5, h5⟩ := g 5 (by simp)
  obtain ⟨v6, h6⟩ := g 6 (by simp)
  obtain ⟨v11, h11⟩ := g 11 (by simp)
  obtain ⟨v12, h12⟩ := g 12 (by simp)
  obtain ⟨v13, h13⟩ := g 13 (by simp)
  obtain ⟨v14, h14⟩ := g 14 (by simp)
  obtain ⟨v15, h15⟩ := g 15 (by simp)
  obtain ⟨v16, h16⟩ := g 16 (by simp)
  rw [h5, h6, h11, h13, h15] at hs
  exact ⟨b5, a6, c6, aV, cV, b13, bw, by rw [h5, e1 v5 h5], by rw [h6, e2 v6 h6], by rw [h11, e3 v11 h11], by rw [h12, e4 v12 h12], by rw [h13, e5 v13 h13], by rw [h14, e6 v14 h14], by rw [h15, e7 v15 h15], by rw [h16, e8 v16 h16], hs.tail⟩
end

section
variable {K : Know} {w : World} {F : List Comp} {x y : Pg} {ax ay : Option Addr} {cx cy : Nat} {d : Cfg} {id word : Int}
end
end Go.Proofs.YtlpdhhhgckpcfaaGreat

namespace Go.Proofs.YtlpdhhhgckpcfaaGreat
open Go.RowKit
set_option maxRecDepth 100000

section
variable {K : Know} {w : World} {F : List Comp} {pg : Pg} {id word : Int} {b bw g cap : Nat} {av : Option Addr} {cv : Nat} {ps : List Pt}
end
end Go.Proofs.YtlpdhhhgckpcfaaGreat

namespace Go.Proofs.YtlpdhhhgckpcfaaGreat
open Go.RowKit
set_option maxRecDepth 100000

section
variable {K : Know} {w : World} {F : List Comp} {x : Pg} {ax : Option Addr} {cx : Nat} {d : Cfg} {id : Int}

end
end Go.Proofs.YtlpdhhhgckpcfaaGreat

namespace Go.Proofs.YtlpdhhhgckpcfaaGreat
open Go.RowKit
set_option linter.unusedSectionVars false

def putAll (L : List Cel) (ps : List Pt) : List Cel := ps.foldl (fun L p => putC L p.i p.c) L
theorem putAll_cons (L : List Cel) (p : Pt) (ps : List Pt) : putAll L (p :: ps) = putAll (putC L p.i p.c) ps := rfl
theorem putAll_append (L : List Cel) (ps qs : List Pt) : putAll L (ps ++ qs) = putAll (putAll L ps) qs := by unfold putAll; rw [List.foldl_append]
theorem putAll_take {L : List Cel} {ps : List Pt} {k : Nat} {p : Pt} (h : ps[k]? = some p) : putAll L (ps.take (k + 1)) = putC (putAll L (ps.take k)) p.i p.c := by
  have hlt : k < ps.length := (List.getElem?_eq_some_iff.1 h).1
  rw [List.getElem?_eq_getElem hlt] at h
  rw [List.take_succ_eq_append_getElem hlt, Option.some.inj h, putAll_append]
  rfl
theorem putAll_length : ∀ (ps : List Pt) (L : List Cel), (putAll L ps).length = L.length
  | [], L => rfl
  | p :: ps, L => by rw [putAll_cons, putAll_length ps, putC_length]
theorem putAll_other : ∀ (ps : List Pt) (L : List Cel) (j : Int), (∀ p, p ∈ ps → j ≠ p.i) → getC (putAll L ps) j = getC L j
  | [], L, j, _ => rfl
  | p :: ps, L, j, h => by rw [putAll_cons, putAll_other ps _ j (fun q hq => h q (by simp [hq]))]; exact getC_ne (h p (by simp))
theorem putAll_at : ∀ (ps : List Pt) (L : List Cel), (ps.map (·.i)).Nodup → (∀ p, p ∈ ps → 0 ≤ p.i ∧ p.i < L.length) → ∀ p, p ∈ ps → getC (putAll L ps) p.i = p.c
  | [], L, _, _, p, h => by simp at h
  | q :: ps, L, hn, hr, p, h => by
    rw [List.map_cons, List.nodup_cons] at hn
    rw [putAll_cons]
    rcases List.mem_cons.1 h with h1 | h1
    · subst h1
      rw [putAll_other ps _ _ (fun r hr' e => hn.1 (List.mem_map.2 ⟨r, hr', e.symm⟩))]
      have := hr p (by simp)
      exact getC_eq this.1 (by exact_mod_cast this.2)
    · exact putAll_at ps _ hn.2 (fun r hr' => by rw [putC_length]; exact hr r (by simp [hr'])) p h1

/-- The cells hold what the stores would put there. -/
def Holds (L : List Cel) (ps : List Pt) : Prop := ∀ p, p ∈ ps → getC L p.i = p.c

section
variable {d : Cfg} (hd : d.Ok) {id : Int} (h1 : 1 ≤ id) (h2 : id ≤ d.no)
include hd h1 h2
omit hd h1 h2 in
theorem slPts_addr : ∀ (l : List Sl) (i : Nat), (i + l.length : Int) ≤ d.fa → ∀ p, p ∈ slPts d id i l → ∃ j : Nat, i ≤ j ∧ j < i + l.length ∧ p.i = d.node id (4 + (j : Int))
  | [], _, _, p, hp => by simp [slPts] at hp
  | s :: l, i, hle, p, hp => by
    simp only [List.length_cons] at hle
    rcases List.mem_cons.1 hp with h | h
    · subst h
      refine ⟨i, Nat.le_refl _, by simp, ?_⟩
      show d.slot id i = _
      unfold Cfg.slot
      rw [if_pos ⟨by omega, by omega⟩]
    · obtain ⟨j, a, b, c⟩ := slPts_addr l (i + 1) (by omega) p h
      exact ⟨j, by omega, by simp; omega, c⟩
theorem slPts_nodup : ∀ (l : List Sl) (i : Nat), (i + l.length : Int) ≤ d.fa → ((slPts d id i l).map (·.i)).Nodup
  | [], _, _ => by simp [slPts]
  | s :: l, i, hle => by
    simp only [List.length_cons] at hle
    show (d.slot id i :: (slPts d id (i + 1) l).map (·.i)).Nodup
    rw [List.nodup_cons]
    refine ⟨fun hm => ?_, slPts_nodup l (i + 1) (by omega)⟩
    obtain ⟨p, hp, e⟩ := List.mem_map.1 hm
    obtain ⟨j, a, b, c⟩ := slPts_addr l (i + 1) (by omega) p hp
    have es : d.slot id i = d.node id (4 + (i : Int)) := by
      unfold Cfg.slot
      rw [if_pos ⟨by omega, by omega⟩]
    rw [c, es] at e
    exact node_ne hd h1 h2 (by omega) (by omega) (by omega) (by omega) (by omega) e
/-- The addresses of a page's cells: different ones, none of them the latch's. -/
theorem pgPts_addr {pg : Pg} (hle : (pg.sl.length : Int) ≤ d.fa) : ∀ p, p ∈ pgPts d id pg → ∃ k : Int, 1 ≤ k ∧ k < d.fa + 4 ∧ p.i = d.node id k := by
  intro p hp
  have f1 := hd.fa1
  rcases List.mem_append.1 hp with h | h
  · obtain ⟨j, a, b, c⟩ := slPts_addr pg.sl 0 (by omega) p h
    exact ⟨4 + (j : Int), by omega, by omega, c⟩
  · simp only [List.mem_cons, List.not_mem_nil, or_false] at h
    rcases h with h | h | h <;> subst h
    · exact ⟨2, by omega, by omega, rfl⟩
    · exact ⟨3, by omega, by omega, rfl⟩
    · exact ⟨1, by omega, by omega, rfl⟩
theorem pgPts_nodup {pg : Pg} (hle : (pg.sl.length : Int) ≤ d.fa) : ((pgPts d id pg).map (·.i)).Nodup := by
  have f1 := hd.fa1
  unfold pgPts
  rw [List.map_append, List.nodup_append]
  refine ⟨slPts_nodup hd h1 h2 pg.sl 0 (by omega), ?_, fun a ha b hb => ?_⟩
  · have e1 := node_ne hd h1 h2 (k := 2) (k' := 3) (by omega) (by omega) (by omega) (by omega) (by omega)
    have e2 := node_ne hd h1 h2 (k := 2) (k' := 1) (by omega) (by omega) (by omega) (by omega) (by omega)
    have e3 := node_ne hd h1 h2 (k := 3) (k' := 1) (by omega) (by omega) (by omega) (by omega) (by omega)
    simp [e1, e2, e3]
  · obtain ⟨p, hp, rfl⟩ := List.mem_map.1 ha
    obtain ⟨j, a1, b1, c⟩ := slPts_addr pg.sl 0 (by omega) p hp
    rw [c]
    simp only [List.map_cons, List.map_nil, List.mem_cons, List.not_mem_nil, or_false] at hb
    rcases hb with rfl | rfl | rfl <;> exact node_ne hd h1 h2 (by omega) (by omega) (by omega) (by omega) (by omega)

/-- Put lays them down. -/
theorem putPg_holds {L : List Cel} {pg : Pg} (hlen : (L.length : Int) = d.cells) (hle : (pg.sl.length : Int) ≤ d.fa) (hla : pg.la = true → pg.hi = ⟨#[]⟩) : Holds (putPg d id pg L) (pgPts d id pg) := by
  have f1 := hd.fa1
  have n1 := node_in hd h1 h2 (k := 1) (by omega) (by omega)
  have n2 := node_in hd h1 h2 (k := 2) (by omega) (by omega)
  have n3 := node_in hd h1 h2 (k := 3) (by omega) (by omega)
  have ne : ∀ (k : Int) (m : Nat), 0 ≤ k → k ≤ 3 → 0 ≤ m → m < 0 + pg.sl.length → d.node id k ≠ d.node id (4 + (m : Int)) := fun k m a b _ c => node_ne hd h1 h2 a (by omega) (by omega) (by omega) (by omega)
  intro p hp
  rcases List.mem_append.1 hp with h | h
  · have key : ∀ (l : List Sl) (i : Nat) (L' : List Cel), (L'.length : Int) = d.cells → (i + l.length : Int) ≤ d.fa → ∀ p, p ∈ slPts d id i l → getC (putSl d id i l L') p.i = p.c := by
      intro l
      induction l with
      | nil => intro i L' _ _ p hp; simp [slPts] at hp
      | cons s l ih =>
        intro i L' hl' hle' p hp
        simp only [List.length_cons] at hle'
        show getC (putSl d id (i + 1) l (putC L' (d.node id (4 + (i : Int))) ⟨s.r, s.k, 0⟩)) p.i = p.c
        rcases List.mem_cons.1 hp with h | h
        · subst h
          have es : d.slot id i = d.node id (4 + (i : Int)) := by
            unfold Cfg.slot
            rw [if_pos ⟨by omega, by omega⟩]
          show getC _ (d.slot id i) = _
          rw [es, putSl_other _ _ _ _ (fun k a b => node_ne hd h1 h2 (by omega) (by omega) (by omega) (by omega) (by omega))]
          have hi := node_in hd h1 h2 (k := 4 + (i : Int)) (by omega) (by omega)
          exact getC_eq hi.2.1 (by omega)
        · exact ih (i + 1) _ (by rw [putC_length]; exact hl') (by omega) p h
    exact key pg.sl 0 _ (by unfold put3; rw [putC_length, putC_length, putC_length]; exact hlen) (by omega) p h
  · simp only [List.mem_cons, List.not_mem_nil, or_false] at h
    unfold putPg
    rcases h with h | h | h <;> subst h
    · show getC _ (d.node id 2) = hiCel pg
      rw [putSl_other _ _ _ _ (fun k a b => ne 2 k (by omega) (by omega) a b)]
      unfold put3
      rw [getC_ne (node_ne hd h1 h2 (by omega) (by omega) (by omega) (by omega) (by omega)), getC_eq n2.2.1 (by rw [putC_length]; omega)]
      unfold hiCel
      cases hb : pg.la with
      | true => rw [hla hb]; rfl
      | false => rfl
    · show getC _ (d.node id 3) = _
      rw [putSl_other _ _ _ _ (fun k a b => ne 3 k (by omega) (by omega) a b)]
      unfold put3
      rw [getC_eq n3.2.1 (by rw [putC_length, putC_length]; omega)]
    · show getC _ (d.node id 1) = _
      rw [putSl_other _ _ _ _ (fun k a b => ne 1 k (by omega) (by omega) a b)]
      unfold put3
      rw [getC_ne (node_ne hd h1 h2 (by omega) (by omega) (by omega) (by omega) (by omega)), getC_ne (node_ne hd h1 h2 (by omega) (by omega) (by omega) (by omega) (by omega)), getC_eq n1.2.1 (by omega)]
omit hd h1 h2 in
theorem slPts_mem : ∀ (l : List Sl) (i0 i : Nat) (s : Sl), l[i]? = some s → (⟨d.slot id ((i0 + i : Nat) : Int), ⟨s.r, s.k, 0⟩⟩ : Pt) ∈ slPts d id i0 l
  | [], i0, i, s, h => by simp at h
  | x :: l, i0, 0, s, h => by
    simp at h; subst h
    exact List.mem_cons_self
  | x :: l, i0, i + 1, s, h => by
    have := slPts_mem l (i0 + 1) i s (by simpa using h)
    rw [show i0 + (i + 1) = i0 + 1 + i by omega]
    exact List.mem_cons_of_mem _ this
/-- Cells that hold a page say so. -/
theorem Holds.page {L : List Cel} {pg : Pg} (h : Holds L (pgPts d id pg)) (hle : (pg.sl.length : Int) ≤ d.fa) (hlev : 0 ≤ pg.lev ∧ pg.lev < 1000000) (hla : pg.la = true → pg.hi = ⟨#[]⟩) : PageAt d id L pg := by
  have e1 := h ⟨d.node id 1, ⟨pg.sl.length, ⟨#[]⟩, pg.lev⟩⟩ (by unfold pgPts; simp)
  have e2 := h ⟨d.node id 2, hiCel pg⟩ (by unfold pgPts; simp)
  have e3 := h ⟨d.node id 3, ⟨pg.ri, ⟨#[]⟩, 0⟩⟩ (by unfold pgPts; simp)
  simp only at e1 e2 e3
  refine ⟨by rw [e1], by rw [e1]; show wrap64 pg.lev = pg.lev; unfold wrap64; omega, ?_, ?_, by rw [e3], hle, fun i s hs => ?_⟩
  · rw [e2]; unfold hiCel
    cases hb : pg.la with
    | true => rw [hla hb]; rfl
    | false => rfl
  · rw [e2]; unfold hiCel
    cases hb : pg.la <;> rfl
  · have e := h _ (List.mem_append_left _ (slPts_mem pg.sl 0 i s hs) : _ ∈ pgPts d id pg)
    simp only [Nat.zero_add] at e
    rw [e]; exact ⟨rfl, rfl⟩

omit hd h1 h2 in
theorem nodup_inj {α β : Type} {f : α → β} : ∀ {l : List α}, (l.map f).Nodup → ∀ {a b : α}, a ∈ l → b ∈ l → f a = f b → a = b
  | [], _, a, b, ha, _, _ => by simp at ha
  | c :: l, hn, a, b, ha, hb, e => by
    rw [List.map_cons, List.nodup_cons] at hn
    rcases List.mem_cons.1 ha with h | h <;> rcases List.mem_cons.1 hb with h' | h'
    · rw [h, h']
    · subst h; exact absurd (List.mem_map.2 ⟨b, h', e.symm⟩) hn.1
    · subst h'; exact absurd (List.mem_map.2 ⟨a, h, e⟩) hn.1
    · exact nodup_inj hn.2 h h' e

/-- All stores: the new page. -/
theorem stage_end {L : List Cel} {x y : Pg} {mid : List Pt} {c0 c1 : Cel} (hx : Holds L (pgPts d id x)) (hnew : Newer (pgPts d id x) (pgPts d id y) mid) (hlen : (L.length : Int) = d.cells) (hley : (y.sl.length : Int) ≤ d.fa) :
    Holds (putAll L (⟨d.node id 0, c0⟩ :: mid ++ [⟨d.node id 0, c1⟩])) (pgPts d id y) := by
  intro p hp
  have f1 := hd.fa1
  obtain ⟨k, k1, k2, ek⟩ := pgPts_addr hd h1 h2 hley p hp
  have hne : p.i ≠ d.node id 0 := by rw [ek]; exact node_ne hd h1 h2 (by omega) k2 (by omega) (by omega) (by omega)
  have hnd := pgPts_nodup hd h1 h2 hley
  rw [List.cons_append, putAll_cons, putAll_append]
  show getC (putC _ (d.node id 0) c1) p.i = p.c
  rw [getC_ne hne]
  by_cases hm : p ∈ mid
  · refine putAll_at mid _ (hnd.sublist (hnew.1.map _)) (fun q hq => ?_) p hm
    obtain ⟨kq, kq1, kq2, eq⟩ := pgPts_addr hd h1 h2 hley q (hnew.1.subset hq)
    have := node_in hd h1 h2 (k := kq) (by omega) kq2
    rw [putC_length, eq]
    omega
  · have hpx : p ∈ pgPts d id x := Classical.byContradiction fun hn => hm (hnew.2 p hp hn)
    rw [putAll_other mid _ _ (fun q hq e => hm (by rw [nodup_inj hnd hp (hnew.1.subset hq) e]; exact hq)), getC_ne hne]
    exact hx p hpx
/-- In between: the latch's word is the first store's. -/
theorem stage_mid {L : List Cel} {y : Pg} {mid : List Pt} {c0 c1 : Cel} (hsub : mid.Sublist (pgPts d id y)) (hlen : (L.length : Int) = d.cells) (hley : (y.sl.length : Int) ≤ d.fa) {k : Nat} (hk : 1 ≤ k) (hk2 : k ≤ mid.length + 1) :
    getC (putAll L (List.take k (⟨d.node id 0, c0⟩ :: mid ++ [⟨d.node id 0, c1⟩]))) (d.node id 0) = c0 := by
  have f1 := hd.fa1
  obtain ⟨k, rfl⟩ : ∃ j, k = j + 1 := ⟨k - 1, by omega⟩
  rw [List.cons_append, List.take_succ_cons, List.take_append_of_le_length (by omega), putAll_cons]
  rw [putAll_other _ _ _ (fun q hq => ?_)]
  · have n0 := node_in hd h1 h2 (k := 0) (by omega) (by omega)
    show getC (putC L (d.node id 0) c0) (d.node id 0) = c0
    exact getC_eq n0.2.1 (by omega)
  · obtain ⟨kq, kq1, kq2, eq⟩ := pgPts_addr hd h1 h2 hley q (hsub.subset (List.mem_of_mem_take hq))
    rw [eq]
    exact node_ne hd h1 h2 (by omega) (by omega) (by omega) kq2 (by omega)
theorem stage_last {L : List Cel} {mid : List Pt} {c0 c1 : Cel} (hlen : (L.length : Int) = d.cells) : getC (putAll L (⟨d.node id 0, c0⟩ :: mid ++ [⟨d.node id 0, c1⟩])) (d.node id 0) = c1 := by
  have f1 := hd.fa1
  have n0 := node_in hd h1 h2 (k := 0) (by omega) (by omega)
  rw [putAll_append]
  show getC (putC _ (d.node id 0) c1) (d.node id 0) = c1
  exact getC_eq n0.2.1 (by rw [putAll_length]; omega)
end
end Go.Proofs.YtlpdhhhgckpcfaaGreat
