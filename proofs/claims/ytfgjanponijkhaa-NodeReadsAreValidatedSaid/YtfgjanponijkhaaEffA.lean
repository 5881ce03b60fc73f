/- NodeRoundTrip: what a new node's cells are, and what is known while its first comparison runs. What is known while a region with several effects runs: each effect's value comes with parts of its own. Own's run to its end; what is known behind NodeRoundTrip's last regions. -/
import Derived.Test.YtfgjanponijkhaaNodeStage
import Derived.Test.YtfgjanponijkhaaPgReg
import Derived.Test.YtfgjanponijkhaaTailB
import Derived.Test.YtfgjanponijkhaaNodeOwn
import Derived.Test.YtfgjanponijkhaaKitCells
namespace Go.Proofs.Ytfgjanponijkhaa
open Go.RowKit
set_option linter.unusedSectionVars false
set_option maxRecDepth 100000

section
variable {d : Cfg} (hd : d.Ok) {id : Int} (h1 : 1 ≤ id) (h2 : id ≤ d.no)
include hd h1 h2
/-- A new node. -/
theorem fresh_holds {L : List Cel} {x : Pg} {c0 : Cel} (hlen : (L.length : Int) = d.cells) (hle : (x.sl.length : Int) ≤ d.fa) :
    Holds (putAll L (⟨d.node id 0, c0⟩ :: pgPts d id x)) (pgPts d id x) ∧ getC (putAll L (⟨d.node id 0, c0⟩ :: pgPts d id x)) (d.node id 0) = c0 := by
  have f1 := hd.fa1
  have hn : ((⟨d.node id 0, c0⟩ :: pgPts d id x : List Pt).map (·.i)).Nodup := by
    rw [List.map_cons, List.nodup_cons]
    refine ⟨fun hm => ?_, pgPts_nodup hd h1 h2 hle⟩
    obtain ⟨p, hp, e⟩ := List.mem_map.1 hm
    obtain ⟨k, a1, a2, ek⟩ := pgPts_addr hd h1 h2 hle p hp
    rw [ek] at e
    exact node_ne hd h1 h2 (by omega) a2 (by omega) (by omega) (by omega) e
  have hr : ∀ p, p ∈ (⟨d.node id 0, c0⟩ :: pgPts d id x : List Pt) → 0 ≤ p.i ∧ p.i < L.length := by
    intro p hp
    rcases List.mem_cons.1 hp with h | h
    · subst h
      have := node_in hd h1 h2 (k := 0) (by omega) (by omega)
      show 0 ≤ d.node id 0 ∧ d.node id 0 < L.length
      omega
    · obtain ⟨k, a1, a2, ek⟩ := pgPts_addr hd h1 h2 hle p h
      have := node_in hd h1 h2 (k := k) (by omega) a2
      rw [ek]; omega
  exact ⟨fun p hp => putAll_at _ L hn hr p (List.mem_cons_of_mem _ hp), putAll_at _ L hn hr ⟨d.node id 0, c0⟩ List.mem_cons_self⟩
/-- The cells of the node alone change. -/
theorem pts_other {L : List Cel} {x : Pg} {ps : List Pt} (hle : (x.sl.length : Int) ≤ d.fa) (hps : ∀ p, p ∈ ps → p.i = d.node id 0 ∨ p ∈ pgPts d id x) {j : Int} (hj : ∀ k : Int, 0 ≤ k → k < d.fa + 4 → j ≠ d.node id k) : getC (putAll L ps) j = getC L j := by
  have f1 := hd.fa1
  refine putAll_other ps L j (fun p hp => ?_)
  rcases hps p hp with h | h
  · rw [h]; exact hj 0 (by omega) (by omega)
  · obtain ⟨k, a1, a2, ek⟩ := pgPts_addr hd h1 h2 hle p h
    rw [ek]; exact hj k (by omega) a2
end

theorem field_held0 (w : World) (i n lev ri : Int) (a : Option Addr) (l c : Nat) (hi : ByteArray) (la : Bool) : (Instr.field 74 (.agg #[.int .u64 i, .int .u64 n, .int .i64 lev, .slice a l c, .string hi, .bool la, .int .u64 ri]) 0).run Try.prog w = .ok (.int .u64 i) w := rfl
theorem field_held1 (w : World) (i n lev ri : Int) (a : Option Addr) (l c : Nat) (hi : ByteArray) (la : Bool) : (Instr.field 74 (.agg #[.int .u64 i, .int .u64 n, .int .i64 lev, .slice a l c, .string hi, .bool la, .int .u64 ri]) 1).run Try.prog w = .ok (.int .u64 n) w := rfl
theorem field_held2 (w : World) (i n lev ri : Int) (a : Option Addr) (l c : Nat) (hi : ByteArray) (la : Bool) : (Instr.field 74 (.agg #[.int .u64 i, .int .u64 n, .int .i64 lev, .slice a l c, .string hi, .bool la, .int .u64 ri]) 2).run Try.prog w = .ok (.agg #[.int .i64 lev, .slice a l c, .string hi, .bool la, .int .u64 ri]) w := rfl
attribute [go_sem] field_held0 field_held1 field_held2
theorem St.bring {K : Know} {w : World} {A B : List Comp} {c : Comp} (h : St K w (A ++ c :: B)) : St K w (c :: (A ++ B)) := h.perm List.perm_middle
theorem St.sink {K : Know} {w : World} {A B : List Comp} {c : Comp} (h : St K w (c :: (A ++ B))) : St K w (A ++ c :: B) := h.perm List.perm_middle.symm

theorem St.b7 {K : Know} {w : World} {c d e f g a b z : Comp} {cs : List Comp} (h : St K w (c :: d :: e :: f :: g :: a :: b :: z :: cs)) : St K w (z :: c :: d :: e :: f :: g :: a :: b :: cs) := St.bring (A := [c, d, e, f, g, a, b]) h
theorem St.b8 {K : Know} {w : World} {c0 c1 c2 c3 c4 c5 c6 c7 c8 : Comp} {cs : List Comp} (h : St K w (c0 :: c1 :: c2 :: c3 :: c4 :: c5 :: c6 :: c7 :: c8 :: cs)) : St K w (c8 :: c0 :: c1 :: c2 :: c3 :: c4 :: c5 :: c6 :: c7 :: cs) := St.bring (A := [c0, c1, c2, c3, c4, c5, c6, c7]) h
theorem St.b9 {K : Know} {w : World} {c0 c1 c2 c3 c4 c5 c6 c7 c8 c9 : Comp} {cs : List Comp} (h : St K w (c0 :: c1 :: c2 :: c3 :: c4 :: c5 :: c6 :: c7 :: c8 :: c9 :: cs)) : St K w (c9 :: c0 :: c1 :: c2 :: c3 :: c4 :: c5 :: c6 :: c7 :: c8 :: cs) := St.bring (A := [c0, c1, c2, c3, c4, c5, c6, c7, c8]) h
theorem St.b10 {K : Know} {w : World} {c0 c1 c2 c3 c4 c5 c6 c7 c8 c9 c10 : Comp} {cs : List Comp} (h : St K w (c0 :: c1 :: c2 :: c3 :: c4 :: c5 :: c6 :: c7 :: c8 :: c9 :: c10 :: cs)) : St K w (c10 :: c0 :: c1 :: c2 :: c3 :: c4 :: c5 :: c6 :: c7 :: c8 :: c9 :: cs) := St.bring (A := [c0, c1, c2, c3, c4, c5, c6, c7, c8, c9]) h
theorem St.b11 {K : Know} {w : World} {c0 c1 c2 c3 c4 c5 c6 c7 c8 c9 c10 c11 : Comp} {cs : List Comp} (h : St K w (c0 :: c1 :: c2 :: c3 :: c4 :: c5 :: c6 :: c7 :: c8 :: c9 :: c10 :: c11 :: cs)) : St K w (c11 :: c0 :: c1 :: c2 :: c3 :: c4 :: c5 :: c6 :: c7 :: c8 :: c9 :: c10 :: cs) := St.bring (A := [c0, c1, c2, c3, c4, c5, c6, c7, c8, c9, c10]) h
theorem St.b12 {K : Know} {w : World} {c0 c1 c2 c3 c4 c5 c6 c7 c8 c9 c10 c11 c12 : Comp} {cs : List Comp} (h : St K w (c0 :: c1 :: c2 :: c3 :: c4 :: c5 :: c6 :: c7 :: c8 :: c9 :: c10 :: c11 :: c12 :: cs)) : St K w (c12 :: c0 :: c1 :: c2 :: c3 :: c4 :: c5 :: c6 :: c7 :: c8 :: c9 :: c10 :: c11 :: cs) := St.bring (A := [c0, c1, c2, c3, c4, c5, c6, c7, c8, c9, c10, c11]) h
theorem St.u7 {K : Know} {w : World} {c0 c1 c2 c3 c4 c5 c6 c7 : Comp} {cs : List Comp} (h : St K w (c0 :: c1 :: c2 :: c3 :: c4 :: c5 :: c6 :: c7 :: cs)) : St K w (c1 :: c2 :: c3 :: c4 :: c5 :: c6 :: c7 :: c0 :: cs) := St.sink (A := [c1, c2, c3, c4, c5, c6, c7]) h
theorem St.u8 {K : Know} {w : World} {c0 c1 c2 c3 c4 c5 c6 c7 c8 : Comp} {cs : List Comp} (h : St K w (c0 :: c1 :: c2 :: c3 :: c4 :: c5 :: c6 :: c7 :: c8 :: cs)) : St K w (c1 :: c2 :: c3 :: c4 :: c5 :: c6 :: c7 :: c8 :: c0 :: cs) := St.sink (A := [c1, c2, c3, c4, c5, c6, c7, c8]) h
theorem St.u9 {K : Know} {w : World} {c0 c1 c2 c3 c4 c5 c6 c7 c8 c9 : Comp} {cs : List Comp} (h : St K w (c0 :: c1 :: c2 :: c3 :: c4 :: c5 :: c6 :: c7 :: c8 :: c9 :: cs)) : St K w (c1 :: c2 :: c3 :: c4 :: c5 :: c6 :: c7 :: c8 :: c9 :: c0 :: cs) := St.sink (A := [c1, c2, c3, c4, c5, c6, c7, c8, c9]) h
theorem St.u10 {K : Know} {w : World} {c0 c1 c2 c3 c4 c5 c6 c7 c8 c9 c10 : Comp} {cs : List Comp} (h : St K w (c0 :: c1 :: c2 :: c3 :: c4 :: c5 :: c6 :: c7 :: c8 :: c9 :: c10 :: cs)) : St K w (c1 :: c2 :: c3 :: c4 :: c5 :: c6 :: c7 :: c8 :: c9 :: c10 :: c0 :: cs) := St.sink (A := [c1, c2, c3, c4, c5, c6, c7, c8, c9, c10]) h
theorem St.u11 {K : Know} {w : World} {c0 c1 c2 c3 c4 c5 c6 c7 c8 c9 c10 c11 : Comp} {cs : List Comp} (h : St K w (c0 :: c1 :: c2 :: c3 :: c4 :: c5 :: c6 :: c7 :: c8 :: c9 :: c10 :: c11 :: cs)) : St K w (c1 :: c2 :: c3 :: c4 :: c5 :: c6 :: c7 :: c8 :: c9 :: c10 :: c11 :: c0 :: cs) := St.sink (A := [c1, c2, c3, c4, c5, c6, c7, c8, c9, c10, c11]) h
theorem St.u12 {K : Know} {w : World} {c0 c1 c2 c3 c4 c5 c6 c7 c8 c9 c10 c11 c12 : Comp} {cs : List Comp} (h : St K w (c0 :: c1 :: c2 :: c3 :: c4 :: c5 :: c6 :: c7 :: c8 :: c9 :: c10 :: c11 :: c12 :: cs)) : St K w (c1 :: c2 :: c3 :: c4 :: c5 :: c6 :: c7 :: c8 :: c9 :: c10 :: c11 :: c12 :: c0 :: cs) := St.sink (A := [c1, c2, c3, c4, c5, c6, c7, c8, c9, c10, c11, c12]) h
/-- Region 12: a page peeked at (3), what the writer holds (19, 26, 33), its page (34). -/
def RtR (K : Know) (M A B C : Comp) (REST : List Comp) (x : Pg) (id word : Int) (ρ : Nat → Option Value) (W : World) : Prop :=
  ∃ (a3 : Option Addr) (c3 : Nat) (a19 : Option Addr) (c19 : Nat) (a26 : Option Addr) (c26 : Nat) (a33 : Option Addr) (c33 : Nat),
    (∀ v, ρ 3 = some v → v = .agg #[.int .i64 (x).lev, (.slice a3 x.sl.length c3), .string (x).hi, .bool (x).la, .int .u64 (x).ri]) ∧ (∀ v, ρ 19 = some v → v = .agg #[.int .u64 id, .int .u64 word, .int .i64 (x).lev, (.slice a19 (x).sl.length c19), .string (x).hi, .bool (x).la, .int .u64 (x).ri]) ∧ (∀ v, ρ 26 = some v → v = .agg #[.int .u64 id, .int .u64 word, .int .i64 (x).lev, (.slice a26 (x).sl.length c26), .string (x).hi, .bool (x).la, .int .u64 (x).ri]) ∧
    (∀ v, ρ 33 = some v → v = .agg #[.int .u64 id, .int .u64 word, .int .i64 (x).lev, (.slice a33 (x).sl.length c33), .string (x).hi, .bool (x).la, .int .u64 (x).ri]) ∧ (∀ v, ρ 34 = some v → v = .agg #[.int .i64 (x).lev, (.slice a33 x.sl.length c33), .string (x).hi, .bool (x).la, .int .u64 (x).ri]) ∧
    St K W (optC (ρ 3) (rowC (.slice a3 (x).sl.length c3) 132 2 (x).sl.length (slRow (x).sl)) :: optC (ρ 19) (rowC (.slice a19 (x).sl.length c19) 132 2 (x).sl.length (slRow (x).sl)) :: optC (ρ 26) (rowC (.slice a26 (x).sl.length c26) 132 2 (x).sl.length (slRow (x).sl)) :: optC (ρ 33) (rowC (.slice a33 (x).sl.length c33) 132 2 (x).sl.length (slRow (x).sl)) :: M :: A :: B :: C :: REST)
section
variable {K : Know} {W : World} {M A B C : Comp} {REST : List Comp} {x : Pg} {id word : Int} {ρ : Nat → Option Value} {v3 v19 v26 v33 v34 : Value}
theorem RtR.start (hs : St K W (M :: A :: B :: C :: REST)) : RtR K M A B C REST x id word (fun _ => none) W :=
  ⟨none, 0, none, 0, none, 0, none, 0, fun v h => (by cases h), fun v h => (by cases h), fun v h => (by cases h), fun v h => (by cases h), fun v h => (by cases h), hs.empty.empty.empty.empty⟩
theorem RtR.same {W' : World} (h : RtR K M A B C REST x id word ρ W) (hb : Below W.heap.size W W') : RtR K M A B C REST x id word ρ W' := by
  obtain ⟨a3, c3, a19, c19, a26, c26, a33, c33, e1, e2, e3, e4, e5, hs⟩ := h
  exact ⟨a3, c3, a19, c19, a26, c26, a33, c33, e1, e2, e3, e4, e5, hs.same hb⟩
theorem RtR.rest (h : RtR K M A B C REST x id word ρ W) : St K W (M :: A :: B :: C :: REST) := by
  obtain ⟨a3, c3, a19, c19, a26, c26, a33, c33, e1, e2, e3, e4, e5, hs⟩ := h
  exact hs.tail.tail.tail.tail
/-- A value that answers for one that is known: nothing changes. -/
theorem RtR.know (h : RtR K M A B C REST x id word ρ W) {e : Nat} (he : e ≠ 3 ∧ e ≠ 19 ∧ e ≠ 26 ∧ e ≠ 33 ∧ e ≠ 34) (v : Value) : RtR K M A B C REST x id word (upd ρ e v) W := by
  obtain ⟨a3, c3, a19, c19, a26, c26, a33, c33, e1, e2, e3, e4, e5, hs⟩ := h
  have u : ∀ k, e ≠ k → upd ρ e v k = ρ k := fun k hk => by unfold upd; rw [if_neg (fun h => hk h.symm)]
  refine ⟨a3, c3, a19, c19, a26, c26, a33, c33, ?_, ?_, ?_, ?_, ?_, ?_⟩
  · rw [u 3 he.1]; exact e1
  · rw [u 19 he.2.1]; exact e2
  · rw [u 26 he.2.2.1]; exact e3
  · rw [u 33 he.2.2.2.1]; exact e4
  · rw [u 34 he.2.2.2.2]; exact e5
  · rw [u 3 he.1, u 19 he.2.1, u 26 he.2.2.1, u 33 he.2.2.2.1]; exact hs
theorem RtR.e3 (h : RtR K M A B C REST x id word ρ W) (h3 : ρ 3 = none) : ∃ R' : List Comp, St K W (M :: R') ∧ ∀ va W', St K W' (rowC va 132 2 x.sl.length (slRow x.sl) :: M :: R') → RtR K M A B C REST x id word (upd ρ 3 (.agg #[.int .i64 (x).lev, va, .string (x).hi, .bool (x).la, .int .u64 (x).ri])) W' := by
  obtain ⟨a3, c3, a19, c19, a26, c26, a33, c33, e1, e2, e3, e4, e5, hs⟩ := h
  rw [h3] at hs
  refine ⟨_, hs.tail.b3, fun va W' hs' => ?_⟩
  obtain ⟨a', c', rfl, _, _⟩ := hs'.row_read
  exact ⟨a', c', a19, c19, a26, c26, a33, c33, fun v hv => (Option.some.inj hv).symm, e2, e3, e4, e5, hs'.b1.u4⟩
theorem RtR.e19 (h : RtR K M A B C REST x id word ρ W) (h19 : ρ 19 = none) : ∃ R' : List Comp, St K W (A :: B :: C :: R') ∧ ∀ va W', St K W' (rowC va 132 2 x.sl.length (slRow x.sl) :: A :: B :: C :: R') → RtR K M A B C REST x id word (upd ρ 19 (.agg #[.int .u64 id, .int .u64 word, .int .i64 (x).lev, va, .string (x).hi, .bool (x).la, .int .u64 (x).ri])) W' := by
  obtain ⟨a3, c3, a19, c19, a26, c26, a33, c33, e1, e2, e3, e4, e5, hs⟩ := h
  rw [h19] at hs
  refine ⟨_, hs.b1.tail.b6.b6.b6, fun va W' hs' => ?_⟩
  obtain ⟨a', c', rfl, _, _⟩ := hs'.row_read
  exact ⟨a3, c3, a', c', a26, c26, a33, c33, e1, fun v hv => (Option.some.inj hv).symm, e3, e4, e5, hs'.b3.b3.b3.b7.b7.b7.b6.b7⟩
theorem RtR.e26 (h : RtR K M A B C REST x id word ρ W) (h26 : ρ 26 = none) : ∃ R' : List Comp, St K W (A :: B :: C :: R') ∧ ∀ va W', St K W' (rowC va 132 2 x.sl.length (slRow x.sl) :: A :: B :: C :: R') → RtR K M A B C REST x id word (upd ρ 26 (.agg #[.int .u64 id, .int .u64 word, .int .i64 (x).lev, va, .string (x).hi, .bool (x).la, .int .u64 (x).ri])) W' := by
  obtain ⟨a3, c3, a19, c19, a26, c26, a33, c33, e1, e2, e3, e4, e5, hs⟩ := h
  rw [h26] at hs
  refine ⟨_, hs.b2.tail.b6.b6.b6, fun va W' hs' => ?_⟩
  obtain ⟨a', c', rfl, _, _⟩ := hs'.row_read
  exact ⟨a3, c3, a19, c19, a', c', a33, c33, e1, e2, fun v hv => (Option.some.inj hv).symm, e4, e5, hs'.b3.b3.b3.b7.b7.b5.b7.b7⟩
theorem RtR.e33 (h : RtR K M A B C REST x id word ρ W) (h33 : ρ 33 = none) (h34 : ρ 34 = none) : ∃ R' : List Comp, St K W (A :: B :: C :: R') ∧ ∀ va W', St K W' (rowC va 132 2 x.sl.length (slRow x.sl) :: A :: B :: C :: R') → RtR K M A B C REST x id word (upd ρ 33 (.agg #[.int .u64 id, .int .u64 word, .int .i64 (x).lev, va, .string (x).hi, .bool (x).la, .int .u64 (x).ri])) W' := by
  obtain ⟨a3, c3, a19, c19, a26, c26, a33, c33, e1, e2, e3, e4, e5, hs⟩ := h
  rw [h33] at hs
  refine ⟨_, hs.b3.tail.b6.b6.b6, fun va W' hs' => ?_⟩
  obtain ⟨a', c', rfl, _, _⟩ := hs'.row_read
  refine ⟨a3, c3, a19, c19, a26, c26, a', c', e1, e2, e3, fun v hv => (Option.some.inj hv).symm, fun v hv => ?_, hs'.b3.b3.b3.b7.b4.b7.b7.b7⟩
  have : ρ 34 = some v := hv
  rw [h34] at this; cases this
theorem RtR.e34 (h : RtR K M A B C REST x id word ρ W) (h33 : ρ 33 = some v33) : ∃ (a : Option Addr) (c : Nat), v33 = .agg #[.int .u64 id, .int .u64 word, .int .i64 (x).lev, (.slice a (x).sl.length c), .string (x).hi, .bool (x).la, .int .u64 (x).ri] ∧ RtR K M A B C REST x id word (upd ρ 34 (.agg #[.int .i64 (x).lev, (.slice a x.sl.length c), .string (x).hi, .bool (x).la, .int .u64 (x).ri])) W := by
  obtain ⟨a3, c3, a19, c19, a26, c26, a33, c33, e1, e2, e3, e4, e5, hs⟩ := h
  exact ⟨a33, c33, e4 v33 h33, a3, c3, a19, c19, a26, c26, a33, c33, e1, e2, e3, e4, fun v hv => (Option.some.inj hv).symm, hs⟩
theorem RtR.row3 (h : RtR K M A B C REST x id word ρ W) (h3 : ρ 3 = some v3) (hn : x.sl.length ≤ 1000000000) : ∃ (a : Option Addr) (c : Nat), v3 = .agg #[.int .i64 (x).lev, (.slice a x.sl.length c), .string (x).hi, .bool (x).la, .int .u64 (x).ri] ∧ SlAt W a x.sl := by
  obtain ⟨a3, c3, a19, c19, a26, c26, a33, c33, e1, e2, e3, e4, e5, hs⟩ := h
  rw [h3] at hs
  exact ⟨a3, c3, e1 v3 h3, hs.row_slots hn⟩
theorem RtR.val19 (h : RtR K M A B C REST x id word ρ W) (h19 : ρ 19 = some v19) : ∃ (a : Option Addr) (c : Nat), v19 = .agg #[.int .u64 id, .int .u64 word, .int .i64 (x).lev, (.slice a (x).sl.length c), .string (x).hi, .bool (x).la, .int .u64 (x).ri] := by
  obtain ⟨a3, c3, a19, c19, a26, c26, a33, c33, e1, e2, e3, e4, e5, hs⟩ := h
  exact ⟨a19, c19, e2 v19 h19⟩
theorem RtR.val26 (h : RtR K M A B C REST x id word ρ W) (h26 : ρ 26 = some v26) : ∃ (a : Option Addr) (c : Nat), v26 = .agg #[.int .u64 id, .int .u64 word, .int .i64 (x).lev, (.slice a (x).sl.length c), .string (x).hi, .bool (x).la, .int .u64 (x).ri] := by
  obtain ⟨a3, c3, a19, c19, a26, c26, a33, c33, e1, e2, e3, e4, e5, hs⟩ := h
  exact ⟨a26, c26, e3 v26 h26⟩
theorem RtR.row34 (h : RtR K M A B C REST x id word ρ W) (h33 : ρ 33 = some v33) (h34 : ρ 34 = some v34) (hn : x.sl.length ≤ 1000000000) : ∃ (a : Option Addr) (c : Nat), v34 = .agg #[.int .i64 (x).lev, (.slice a x.sl.length c), .string (x).hi, .bool (x).la, .int .u64 (x).ri] ∧ SlAt W a x.sl := by
  obtain ⟨a3, c3, a19, c19, a26, c26, a33, c33, e1, e2, e3, e4, e5, hs⟩ := h
  rw [h33] at hs
  exact ⟨a33, c33, e5 v34 h34, hs.b3.row_slots hn⟩
end
end Go.Proofs.Ytfgjanponijkhaa

namespace Go.Proofs.Ytfgjanponijkhaa
open Go.RowKit
set_option linter.unusedSectionVars false

theorem flatMap_perm {α β : Type} (f : α → List β) {l l' : List α} (h : l.Perm l') : (l.flatMap f).Perm (l'.flatMap f) := by
  induction h with
  | nil => exact List.Perm.refl _
  | cons x _ ih => rw [List.flatMap_cons, List.flatMap_cons]; exact ih.append_left _
  | swap x y l =>
    rw [List.flatMap_cons, List.flatMap_cons, List.flatMap_cons, List.flatMap_cons, ← List.append_assoc, ← List.append_assoc]
    exact List.perm_append_comm.append_right _
  | trans _ _ ih1 ih2 => exact ih1.trans ih2
theorem flatMap_same {α β : Type} {f g : α → List β} : ∀ {l : List α}, (∀ a, a ∈ l → f a = g a) → l.flatMap f = l.flatMap g
  | [], _ => rfl
  | a :: l, h => by rw [List.flatMap_cons, List.flatMap_cons, h a List.mem_cons_self, flatMap_same fun b hb => h b (List.mem_cons_of_mem _ hb)]
theorem take_out : ∀ (ds es : List Nat), ds.Nodup → (∀ d, d ∈ ds → d ∈ es) → ∃ r, es.Perm (ds ++ r)
  | [], es, _, _ => ⟨es, List.Perm.refl _⟩
  | d :: ds, es, hn, h => by
    rw [List.nodup_cons] at hn
    have h1 := List.perm_cons_erase (h d List.mem_cons_self)
    obtain ⟨r, hr⟩ := take_out ds (es.erase d) hn.2 (fun x hx => by
      have hne : x ≠ d := fun e => hn.1 (e ▸ hx)
      exact (List.mem_erase_of_ne hne).2 (h x (List.mem_cons_of_mem _ hx)))
    exact ⟨r, h1.trans (hr.cons d)⟩

/-- The parts of what has been done. -/
def effP (ρ : Nat → Option Value) (C : Nat → List Comp) (es : List Nat) : List Comp := es.flatMap fun e => if (ρ e).isSome then C e else []
/-- Each effect e that has been done has a value and parts as Φ says. -/
def GR (K : Know) (REST : List Comp) (es : List Nat) (Φ : Nat → (Nat → Option Value) → Value → List Comp → Prop) (ρ : Nat → Option Value) (W : World) : Prop :=
  ∃ C : Nat → List Comp, (∀ e v, e ∈ es → ρ e = some v → Φ e ρ v (C e)) ∧ St K W (effP ρ C es ++ REST)
/-- Φ looks only at what has been done. -/
def Mono (es : List Nat) (Φ : Nat → (Nat → Option Value) → Value → List Comp → Prop) : Prop :=
  ∀ e ρ v cs k u, e ∈ es → ρ k = none → Φ e ρ v cs → Φ e (upd ρ k u) v cs

section
variable {K : Know} {REST : List Comp} {es : List Nat} {Φ : Nat → (Nat → Option Value) → Value → List Comp → Prop} {ρ : Nat → Option Value} {W : World}
theorem effP_none : ∀ (es : List Nat) (C : Nat → List Comp), effP (fun _ => none) C es = []
  | [], _ => rfl
  | e :: es, C => by
    have := effP_none es C
    unfold effP at this ⊢
    rw [List.flatMap_cons, this]; rfl
theorem GR.start (hs : St K W REST) : GR K REST es Φ (fun _ => none) W :=
  ⟨fun _ => [], fun e v _ h => (by cases h), by rw [effP_none]; exact hs⟩
theorem GR.same {W' : World} (h : GR K REST es Φ ρ W) (hb : Below W.heap.size W W') : GR K REST es Φ ρ W' := by
  obtain ⟨C, h1, hs⟩ := h
  exact ⟨C, h1, hs.same hb⟩
theorem GR.rest (h : GR K REST es Φ ρ W) : St K W REST := by
  obtain ⟨C, h1, hs⟩ := h
  exact hs.right
/-- An effect e that uses the parts of the effects ds. -/
theorem GR.step (h : GR K REST es Φ ρ W) (hm : Mono es Φ) (e : Nat) (ds : List Nat) (hn : es.Nodup) (hd : (e :: ds).Nodup) (hin : ∀ d, d ∈ e :: ds → d ∈ es) (he : ρ e = none) (hds : ∀ d, d ∈ ds → (ρ d).isSome = true) :
    ∃ (C : Nat → List Comp) (R : List Comp), (∀ d v, d ∈ es → ρ d = some v → Φ d ρ v (C d)) ∧ St K W (ds.flatMap C ++ (REST ++ R)) ∧
      ∀ v cs W', Φ e (upd ρ e v) v cs → St K W' (cs ++ (ds.flatMap C ++ (REST ++ R))) → GR K REST es Φ (upd ρ e v) W' := by
  obtain ⟨C, h1, hs⟩ := h
  obtain ⟨r, hr⟩ := take_out (e :: ds) es hd hin
  have hnr : ((e :: ds) ++ r).Nodup := hr.nodup_iff.1 hn
  have hds' : ds.flatMap (fun e => if (ρ e).isSome then C e else []) = ds.flatMap C := flatMap_same fun d hd' => by rw [if_pos (hds d hd')]
  have p1 : (effP ρ C es).Perm (ds.flatMap C ++ effP ρ C r) := by
    refine (flatMap_perm _ hr).trans ?_
    rw [List.cons_append, List.flatMap_cons, List.flatMap_append, he]
    simp only [Option.isSome_none, Bool.false_eq_true, if_false, List.nil_append]
    rw [hds']
    exact List.Perm.refl _
  refine ⟨C, effP ρ C r, h1, hs.perm ?_, fun v cs W' hΦ hs' => ?_⟩
  · refine (p1.append_right REST).trans ?_
    rw [List.append_assoc]
    exact List.perm_append_comm.append_left _
  · have hne : ∀ d, d ∈ ds ++ r → d ≠ e := fun d hd' e' => by
      rw [List.cons_append, List.nodup_cons] at hnr
      exact hnr.1 (e' ▸ hd')
    refine ⟨fun k => if k = e then cs else C k, fun k u hk hu => ?_, hs'.perm ?_⟩
    · by_cases hke : k = e
      · subst hke
        have : v = u := by simpa [upd] using hu
        subst this
        show Φ k _ v (if k = k then cs else C k)
        rw [if_pos rfl]; exact hΦ
      · show Φ k _ u (if k = e then cs else C k)
        rw [if_neg hke]
        have hu' : ρ k = some u := by simpa [upd, hke] using hu
        exact hm k ρ u _ e v hk he (h1 k u hk hu')
    · have p2 : (effP (upd ρ e v) (fun k => if k = e then cs else C k) es).Perm (cs ++ (ds.flatMap C ++ effP ρ C r)) := by
        refine (flatMap_perm _ hr).trans ?_
        rw [List.cons_append, List.flatMap_cons, List.flatMap_append]
        have a1 : ds.flatMap (fun e_1 => if (upd ρ e v e_1).isSome = true then (if e_1 = e then cs else C e_1) else []) = ds.flatMap C := flatMap_same fun d hd' => by
          have := hne d (List.mem_append_left _ hd')
          have u : upd ρ e v d = ρ d := by simp [upd, this]
          rw [u, if_pos (hds d hd'), if_neg this]
        have a2 : r.flatMap (fun e_1 => if (upd ρ e v e_1).isSome = true then (if e_1 = e then cs else C e_1) else []) = effP ρ C r := flatMap_same fun d hd' => by
          have := hne d (List.mem_append_right _ hd')
          have u : upd ρ e v d = ρ d := by simp [upd, this]
          rw [u, if_neg this]
        rw [a1, a2]
        have u : (upd ρ e v e).isSome = true := by simp [upd]
        rw [if_pos u]
        show ((if e = e then cs else C e) ++ _).Perm _
        rw [if_pos rfl]
      refine List.Perm.trans ?_ (p2.append_right REST).symm
      rw [List.append_assoc, List.append_assoc]
      exact (List.Perm.append_left _ (List.Perm.append_left _ List.perm_append_comm))
/-- An effect that changes nothing. -/
theorem GR.know (h : GR K REST es Φ ρ W) (hm : Mono es Φ) (e : Nat) (hn : es.Nodup) (hin : e ∈ es) (he : ρ e = none) (v : Value) (hΦ : Φ e (upd ρ e v) v []) : GR K REST es Φ (upd ρ e v) W := by
  obtain ⟨C, R, h1, hs, hnext⟩ := h.step hm e [] hn (by simp) (by simpa using hin) he (by simp)
  exact hnext v [] W hΦ hs
/-- What has been done. -/
theorem GR.at (h : GR K REST es Φ ρ W) (d : Nat) (hd : d ∈ es) {v : Value} (hv : ρ d = some v) : ∃ cs R, Φ d ρ v cs ∧ St K W (cs ++ (REST ++ R)) := by
  obtain ⟨C, h1, hs⟩ := h
  obtain ⟨r, hr⟩ := take_out [d] es (by simp) (by simpa using hd)
  refine ⟨C d, effP ρ C r, h1 d v hd hv, hs.perm ?_⟩
  have p1 : (effP ρ C es).Perm (C d ++ effP ρ C r) := by
    refine (flatMap_perm _ hr).trans ?_
    rw [List.cons_append, List.flatMap_cons, hv]
    exact List.Perm.refl _
  refine (p1.append_right REST).trans ?_
  rw [List.append_assoc]
  exact List.perm_append_comm.append_left _
/-- All has been done. -/
theorem GR.last (h : GR K REST es Φ ρ W) (hall : ∀ e, e ∈ es → (ρ e).isSome = true) : ∃ C : Nat → List Comp, (∀ e, e ∈ es → ∃ v, ρ e = some v ∧ Φ e ρ v (C e)) ∧ St K W (es.flatMap C ++ REST) := by
  obtain ⟨C, h1, hs⟩ := h
  refine ⟨C, fun e he => ?_, ?_⟩
  · obtain ⟨v, hv⟩ := Option.isSome_iff_exists.1 (hall e he)
    exact ⟨v, hv, h1 e v he hv⟩
  · have : effP ρ C es = es.flatMap C := flatMap_same fun d hd' => by rw [if_pos (hall d hd')]
    rw [← this]; exact hs
end
end Go.Proofs.Ytfgjanponijkhaa

namespace Go.Proofs.Ytfgjanponijkhaa
open Go.RowKit
set_option linter.unusedSectionVars false
section
variable {d : Cfg} {id : Int} {L : List Cel} {pg : Pg} {word : Int}
theorem own_oks (hd : d.Ok) (hL : CelsOk L) (n : Nat) : (it (ownStep d id L) n (own0 word)).OkO d := by
  induction n with
  | zero => exact own0_ok d word
  | succ n ih => rw [it_succ]; exact ownStep_ok hd hL ih
theorem own_end (h : PageAt d id L pg) {n : Nat} (h6 : (it (ownStep d id L) n (own0 word)).pc = 6) : it (ownStep d id L) n (own0 word) = ⟨6, pg, 0, word, false⟩ := by
  have e1 := it_add (ownStep d id L) n (pg.sl.length + 3) (own0 word)
  rw [it_fix (own_fix h6), Nat.add_comm, it_add, own_final h, it_fix (own_fix rfl)] at e1
  exact e1.symm
theorem own_more (h : PageAt d id L pg) {n : Nat} (h6 : (it (ownStep d id L) n (own0 word)).pc ≠ 6) : n < pg.sl.length + 3 := by
  rcases Nat.lt_or_ge n (pg.sl.length + 3) with h1 | h1
  · exact h1
  · exfalso
    obtain ⟨k, rfl⟩ := Nat.exists_eq_add_of_le h1
    rw [it_add, own_final h, it_fix (own_fix rfl)] at h6
    exact h6 rfl
theorem rd_more (h : PageAt d id L pg) (hc : ltChg (getC L (d.node id 0)).n = false) {s : RdS} (hs : s.pc = 0) {n : Nat} (h6 : (it (rdStep d id L) n s).pc < 6) : n < pg.sl.length + 5 := by
  rcases Nat.lt_or_ge n (pg.sl.length + 5) with h1 | h1
  · exact h1
  · have := (rd_final h hc hs h1).1
    omega
end
end Go.Proofs.Ytfgjanponijkhaa
