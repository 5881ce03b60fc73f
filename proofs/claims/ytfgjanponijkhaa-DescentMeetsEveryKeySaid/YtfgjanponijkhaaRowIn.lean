/- What the row's step of every law of this seat leans on: the arguments read as they did; a configuration opened to its seven numbers. A slice of integers that came in, as a function of the index. -/
import Derived.Test.YtfgjanponijkhaaOver
import Derived.ProofKit
import Derived.Lib.SmallJoins
namespace Go.Proofs.Ytfgjanponijkhaa
open Go.Joins Go.ChangeShapes Go.WideShapes Go.ChangeAt Go.RowKit Go.Deep

theorem own : ownKnob Try.prog.godebug = none := by kernel_rfl
theorem laidOut : laidOutB Try.prog = true := by kernel_rfl

section
variable {H : Type} {enc : TypeId × Value → H} {P : Program} {W W' : World}
theorem trodAll_below (hl : laidOutB P = true) (hb : Below W.heap.size W W') : ∀ {ts : List TypeId} {vs : List Value} {ds : List (DataW H)} {ps : List MemPlace},
    (∀ t, t ∈ ts → P.readableRec t = true ∧ t < P.types.size) → DataW.TrodAll enc P W 0 (fun _ => true) true ts vs ds ps → DataW.TrodAll enc P W' 0 (fun b => decide (b < W.heap.size)) true ts vs ds ps := by
  intro ts
  induction ts with
  | nil =>
    intro vs ds ps _ h
    obtain ⟨rfl, rfl, rfl⟩ := trodAll_nil h
    exact trodAll_mk0
  | cons t ts ih =>
    intro vs ds ps hts h
    obtain ⟨v, vs', d, ds', p, q, rfl, rfl, rfl, h0, r0⟩ := trodAll_cons h
    have lt0 : ∀ x, x ∈ p → x.block < W.heap.size := by obtain ⟨m, hm⟩ := h0; exact DataW.trod_lt m _ _ _ hm
    exact trodAll_cons_mk (Below.trod hl (hts t (by simp)).1 (hts t (by simp)).2 h0 hb lt0) (ih (fun t' ht' => hts t' (by simp [ht'])) r0)
end

section
variable {H : Type} {enc : TypeId × Value → H} {P : Program} {w : World} {base : Nat} {spare : Nat → Bool} {held : Bool}
theorem open_agg7 {r : Reach} {b0 : Nat} {t : TypeId} {f0 f1 f2 f3 f4 f5 f6 : Field} {v : Value} {d : DataW H} {p : List MemPlace} (hs : P.underlying t = some (.struct #[f0, f1, f2, f3, f4, f5, f6])) (hone : oneCellFields P #[f0, f1, f2, f3, f4, f5, f6] = true) (hC : P.cellsOf t = 7)
    (hv : Value.okWide P w r b0 t v) (h : DataW.Trod enc P w base spare held t v d p) :
    ∃ (v0 v1 v2 v3 v4 v5 v6 : Value) (y0 y1 y2 y3 y4 y5 y6 : DataW H × List MemPlace) (n : Nat), v = .agg #[v0, v1, v2, v3, v4, v5, v6] ∧
      DataW.trod enc P w base spare held n f0.type [v0] = some y0 ∧ DataW.trod enc P w base spare held n f1.type [v1] = some y1 ∧ DataW.trod enc P w base spare held n f2.type [v2] = some y2 ∧ DataW.trod enc P w base spare held n f3.type [v3] = some y3 ∧ DataW.trod enc P w base spare held n f4.type [v4] = some y4 ∧ DataW.trod enc P w base spare held n f5.type [v5] = some y5 ∧ DataW.trod enc P w base spare held n f6.type [v6] = some y6 := by
  obtain ⟨cs, rfl, hsz⟩ := okWide_struct hs hv
  obtain ⟨l⟩ := cs
  match l, hsz.trans hC with
  | [c0, c1, c2, c3, c4, c5, c6], _ =>
    obtain ⟨fuel, hf⟩ := h
    obtain ⟨xs, n, _, hx, _, hlen, hg⟩ := DataW.trod_struct hs hf
    obtain ⟨o0, k0⟩ := hone_of hone 0 f0 rfl
    obtain ⟨o1, k1⟩ := hone_of hone 1 f1 rfl
    obtain ⟨o2, k2⟩ := hone_of hone 2 f2 rfl
    obtain ⟨o3, k3⟩ := hone_of hone 3 f3 rfl
    obtain ⟨o4, k4⟩ := hone_of hone 4 f4 rfl
    obtain ⟨o5, k5⟩ := hone_of hone 5 f5 rfl
    obtain ⟨o6, k6⟩ := hone_of hone 6 f6 rfl
    match xs, hlen with
    | [y0, y1, y2, y3, y4, y5, y6], _ =>
      exact ⟨c0, c1, c2, c3, c4, c5, c6, y0, y1, y2, y3, y4, y5, y6, n, rfl, by simpa [Value.cells, o0, k0] using hg 0 f0 rfl, by simpa [Value.cells, o1, k1] using hg 1 f1 rfl, by simpa [Value.cells, o2, k2] using hg 2 f2 rfl, by simpa [Value.cells, o3, k3] using hg 3 f3 rfl, by simpa [Value.cells, o4, k4] using hg 4 f4 rfl, by simpa [Value.cells, o5, k5] using hg 5 f5 rfl, by simpa [Value.cells, o6, k6] using hg 6 f6 rfl⟩

set_option maxRecDepth 100000 in
/-- A configuration that came in. -/
theorem open_cfg {r : Reach} {b0 : Nat} {v : Value} {d : DataW H} {p : List MemPlace} (hv : Value.okWide Try.prog w r b0 27 v) (h : DataW.Trod enc Try.prog w base spare held 27 v d p) :
    ∃ th sn no ch re fa cl : Int, v = .agg #[.int .i64 th, .int .i64 sn, .int .i64 no, .int .i64 ch, .int .i64 re, .int .i64 fa, .int .u64 cl] ∧ 0 ≤ cl ∧ (Lit.int .i64 th).wf = true ∧ (Lit.int .i64 sn).wf = true ∧ (Lit.int .i64 no).wf = true ∧ (Lit.int .i64 ch).wf = true ∧ (Lit.int .i64 re).wf = true ∧ (Lit.int .i64 fa).wf = true ∧ (Lit.int .u64 cl).wf = true := by
  obtain ⟨v0, v1, v2, v3, v4, v5, v6, y0, y1, y2, y3, y4, y5, y6, n, rfl, h0, h1, h2, h3, h4, h5, h6⟩ := open_agg7 Try.underlying27 (by kernel_rfl) (by kernel_rfl) hv h
  obtain ⟨a0, e0, rfl, w0⟩ := DataW.trod_int Try.underlying3 h0
  obtain ⟨a1, e1, rfl, w1⟩ := DataW.trod_int Try.underlying3 h1
  obtain ⟨a2, e2, rfl, w2⟩ := DataW.trod_int Try.underlying3 h2
  obtain ⟨a3, e3, rfl, w3⟩ := DataW.trod_int Try.underlying3 h3
  obtain ⟨a4, e4, rfl, w4⟩ := DataW.trod_int Try.underlying3 h4
  obtain ⟨a5, e5, rfl, w5⟩ := DataW.trod_int Try.underlying3 h5
  obtain ⟨a6, e6, rfl, w6⟩ := DataW.trod_int Try.underlying23 h6
  simp only [List.cons.injEq, and_true] at e0 e1 e2 e3 e4 e5 e6
  subst e0 e1 e2 e3 e4 e5 e6
  refine ⟨a0, a1, a2, a3, a4, a5, a6, rfl, ?_, w0, w1, w2, w3, w4, w5, w6⟩
  have := bounds_u64 w6
  omega
end

theorem wf_u64 {n : Int} (h : (Lit.int .u64 n).wf = true) : 0 ≤ n ∧ n < 18446744073709551616 := by have := bounds_u64 h; omega
theorem wf_i64 {n : Int} (h : (Lit.int .i64 n).wf = true) : -9223372036854775808 ≤ n ∧ n ≤ 9223372036854775807 := by have := bounds_i64 h; omega
theorem wf_u8 {n : Int} (h : (Lit.int .u8 n).wf = true) : 0 ≤ n ∧ n < 256 := by have := bounds_u8 h; omega
end Go.Proofs.Ytfgjanponijkhaa

namespace Go.Proofs.Ytfgjanponijkhaa
open Go.ChangeShapes Go.WideShapes Go.ChangeAt Go.RowKit

def RowIn (k : IntKind) (w : World) (a : Option Addr) (len : Nat) (f : Nat → Int) : Prop :=
  len ≤ maxLen ∧ ∀ i, i < len → ∃ b off, a = some ⟨b, off, none⟩ ∧ b < w.heap.size ∧ w.cell? ⟨b, off + i, none⟩ = some (.int k (f i)) ∧ (Lit.int k (f i)).wf = true

theorem open_row {H : Type} {enc : TypeId × Value → H} {P : Program} {w : World} {base : Nat} {spare : Nat → Bool} {held : Bool} {t e : TypeId} {k : IntKind} {a : Option Addr} {len cap : Nat} {d : DataW H} {p : List MemPlace}
    (ht : P.underlying t = some (.slice e)) (he : P.underlying e = some (.int k)) (hc : P.cellsOf e = 1) (h : DataW.Trod enc P w base spare held t (.slice a len cap) d p) :
    ∃ f : Nat → Int, RowIn k w a len f := by
  obtain ⟨fuel, hf⟩ := h
  rcases open_ints ht he hc hf with ⟨hcs, _⟩ | ⟨x, l, c, zs, hcs, _, hl, hm, hz, _, hcell, hwz⟩
  · simp [Value.cells] at hcs
    obtain ⟨rfl, rfl, rfl⟩ := hcs
    exact ⟨fun _ => 0, by simp [maxLen], fun i hi => by omega⟩
  · simp [Value.cells] at hcs
    obtain ⟨rfl, rfl, rfl⟩ := hcs
    refine ⟨fun i => zs.getD i 0, by omega, fun i hi => ?_⟩
    have hzl : len ≤ zs.length := by rw [hz]; split <;> omega
    have h0 := hcell 0 (by omega)
    rw [show x.add 0 = x from rfl] at h0
    have hsp : x.spot = none := by
      cases hs : x.spot with
      | none => rfl
      | some s =>
        simp only [World.cell?, hs] at h0
        split at h0 <;> simp at h0
    obtain ⟨b, off, sp⟩ := x
    simp only at hsp
    subst hsp
    refine ⟨b, off, rfl, World.block_lt_of_cell? _ _ h0, ?_, ?_⟩
    · have hi' := hcell i (by omega)
      by_cases h00 : i = 0
      · subst h00; exact h0
      · simpa [Addr.add, h00] using hi'
    · have hlt : i < zs.length := by omega
      have : zs.getD i 0 = zs[i] := by simp [List.getD_eq_getElem?_getD, List.getElem?_eq_getElem hlt]
      show (Lit.int k (zs.getD i 0)).wf = true
      rw [this]
      exact hwz _ (List.getElem_mem _)

theorem RowIn.keep {k : IntKind} {w w' : World} {a : Option Addr} {len : Nat} {f : Nat → Int} (h : RowIn k w a len f) (hb : Below w.heap.size w w') : RowIn k w' a len f :=
  ⟨h.1, fun i hi => by
    obtain ⟨b, off, e, hlt, hc, hw⟩ := h.2 i hi
    exact ⟨b, off, e, Nat.lt_of_lt_of_le hlt hb.size, by rw [hb.cell (p := ⟨b, off + i, none⟩) hlt]; exact hc, hw⟩⟩
end Go.Proofs.Ytfgjanponijkhaa
