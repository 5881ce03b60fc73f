/- A page that came in: its five fields, its slots as a function of the index. -/
import Derived.Test.YtfgjanponijkhaaNode9
import Derived.Test.YtfgjanponijkhaaRowIn
import Derived.Deep.Slices
namespace Go.Proofs.Ytfgjanponijkhaa
open Go.Joins Go.ChangeShapes Go.WideShapes Go.ChangeAt Go.RowKit Go.Deep
set_option maxRecDepth 100000

instance : Inhabited Sl := ⟨⟨⟨#[]⟩, 0⟩⟩
/-- A slice of slots that came in. -/
def SlIn (w : World) (a : Option Addr) (len : Nat) (f : Nat → Sl) : Prop :=
  len ≤ maxLen ∧ ∀ i, i < len → ∃ b off, a = some ⟨b, off, none⟩ ∧ b < w.heap.size ∧ w.cell? ⟨b, off + i * 2, none⟩ = some (.string (f i).k) ∧ w.cell? ⟨b, off + i * 2 + 1, none⟩ = some (.int .u64 (f i).r) ∧
    (f i).k.size ≤ maxLen ∧ (Lit.int .u64 (f i).r).wf = true

theorem SlIn.keep {w w' : World} {a : Option Addr} {len : Nat} {f : Nat → Sl} (h : SlIn w a len f) (hb : Below w.heap.size w w') : SlIn w' a len f :=
  ⟨h.1, fun i hi => by
    obtain ⟨b, off, e, hlt, c0, c1, r⟩ := h.2 i hi
    exact ⟨b, off, e, Nat.lt_of_lt_of_le hlt hb.size, by rw [hb.cell (p := ⟨b, _, none⟩) hlt]; exact c0, by rw [hb.cell (p := ⟨b, _, none⟩) hlt]; exact c1, r⟩⟩

/-- Its first n slots. -/
theorem SlIn.take {w : World} {a : Option Addr} {len : Nat} {f : Nat → Sl} (h : SlIn w a len f) {n : Nat} (hn : n ≤ len) (hb : n ≤ 1000000000) : SlAt w a ((List.range n).map f) := by
  refine ⟨by simpa using hb, fun i s hs => ?_⟩
  have hi : i < n := by have := (List.getElem?_eq_some_iff.1 hs).1; simpa using this
  rw [List.getElem?_map, List.getElem?_range hi] at hs
  have e : f i = s := by simpa using hs
  subst e
  obtain ⟨b, off, e, hlt, c0, c1, _⟩ := h.2 i (by omega)
  exact ⟨b, off, e, hlt, c0, c1⟩

section
variable {H : Type} {enc : TypeId × Value → H} {w : World} {base : Nat} {spare : Nat → Bool} {held : Bool}
theorem open_slots {n : Nat} {v : Value} {y : DataW H × List MemPlace}
    (hf : DataW.trod enc Try.prog w base spare held n 22 [v] = some y) : ∃ (a : Option Addr) (len cap : Nat) (f : Nat → Sl), v = .slice a len cap ∧ SlIn w a len f ∧ len ≤ cap ∧ cap ≤ maxLen := by
  rcases open_slice Try.underlying22 hf with ⟨hcs, _⟩ | ⟨x, l, c, m, n, D, Pl, hcs, _, hl, hcap, hm, _, hx⟩
  · simp only [List.cons.injEq, and_true] at hcs
    subst hcs
    exact ⟨none, 0, 0, fun _ => ⟨⟨#[]⟩, 0⟩, rfl, ⟨by simp [maxLen], fun i hi => by omega⟩, by omega, by simp [maxLen]⟩
  · simp only [List.cons.injEq, and_true] at hcs
    subst hcs
    have hlm : l ≤ m := by rw [hm]; split <;> omega
    have ce : Try.prog.cellsOf 132 = 2 := by kernel_rfl
    have each : ∀ i, i < l → ∃ q : Sl, w.cell? (x.add (i * 2)) = some (.string q.k) ∧ w.cell? (x.add (i * 2 + 1)) = some (.int .u64 q.r) ∧ q.k.size ≤ maxLen ∧ (Lit.int .u64 q.r).wf = true := by
      intro i hi
      obtain ⟨cs', h1, h2⟩ := hx i (by omega)
      rw [ce] at h1
      obtain ⟨_, hlen, hcell⟩ := World.cells?_some h1
      obtain ⟨y0, y1, k, _, _, g0, g1⟩ := Go.ChangeShapes.trod_struct2 Try.underlying132 h2
      match cs', hlen with
      | [v0, v1], _ =>
        have e0 := hcell 0 (by omega)
        have e1 := hcell 1 (by omega)
        rw [add_add] at e0 e1
        simp only [show Try.prog.cellsOf 23 = 1 by kernel_rfl, show Try.prog.cellsOf 9 = 1 by kernel_rfl, List.drop_zero, List.drop_succ_cons, List.take_succ_cons, List.take_zero] at g0 g1
        obtain ⟨a0, q0, _, w0⟩ := DataW.trod_string Try.underlying9 g0
        obtain ⟨a1, q1, _, w1⟩ := DataW.trod_int Try.underlying23 g1
        simp only [List.cons.injEq, and_true] at q0 q1
        subst q0 q1
        exact ⟨⟨a0, a1⟩, by simpa using e0, by simpa using e1, w0, w1⟩
    obtain ⟨f, hf'⟩ := choose_lt each
    refine ⟨some x, l, c, f, rfl, ⟨by omega, fun i hi => ?_⟩, hl, hcap⟩
    have h0 := (hf' 0 (by omega)).1
    rw [show x.add (0 * 2) = x from rfl] at h0
    have hsp : x.spot = none := by
      cases hs : x.spot with
      | none => rfl
      | some s =>
        simp only [World.cell?, hs] at h0
        split at h0 <;> simp at h0
    obtain ⟨b, off, sp⟩ := x
    simp only at hsp
    subst hsp
    obtain ⟨k0, k1, r⟩ := hf' i hi
    rw [add_plain] at k0 k1
    exact ⟨b, off, rfl, World.block_lt_of_cell? _ _ k0, k0, by rw [Nat.add_assoc]; exact k1, r⟩

/-- What is known of a page that came in. -/
structure PgIn (w : World) (lev : Int) (a : Option Addr) (len cap : Nat) (hi : ByteArray) (ri : Int) (f : Nat → Sl) : Prop where
  sl : SlIn w a len f
  cap : len ≤ cap ∧ cap ≤ maxLen
  lev : (Lit.int .i64 lev).wf = true
  hi : hi.size ≤ maxLen
  ri : (Lit.int .u64 ri).wf = true

theorem open_page {r : Reach} {b0 : Nat} {v : Value} {d : DataW H} {p : List MemPlace} (hv : Value.okWide Try.prog w r b0 25 v) (h : DataW.Trod enc Try.prog w base spare held 25 v d p) :
    ∃ (lev : Int) (a : Option Addr) (len cap : Nat) (hi : ByteArray) (la : Bool) (ri : Int) (f : Nat → Sl), v = .agg #[.int .i64 lev, .slice a len cap, .string hi, .bool la, .int .u64 ri] ∧ PgIn w lev a len cap hi ri f := by
  obtain ⟨cs, rfl, hsz⟩ := okWide_struct Try.underlying25 hv
  obtain ⟨l⟩ := cs
  match l, hsz.trans (show Try.prog.cellsOf 25 = 5 by kernel_rfl) with
  | [c0, c1, c2, c3, c4], _ =>
    obtain ⟨fuel, hf⟩ := h
    obtain ⟨xs, n, _, hx, _, hlen, hg⟩ := DataW.trod_struct Try.underlying25 hf
    match xs, hlen with
    | [y0, y1, y2, y3, y4], _ =>
      have ci : Try.prog.cellsOf 3 = 1 := by kernel_rfl
      have cl : Try.prog.cellsOf 22 = 1 := by kernel_rfl
      have cs : Try.prog.cellsOf 9 = 1 := by kernel_rfl
      have cb : Try.prog.cellsOf 4 = 1 := by kernel_rfl
      have cu : Try.prog.cellsOf 23 = 1 := by kernel_rfl
      have g0 : DataW.trod enc Try.prog w base spare held n 3 [c0] = some y0 := by simpa [Value.cells, ci] using hg 0 _ rfl
      have g1 : DataW.trod enc Try.prog w base spare held n 22 [c1] = some y1 := by simpa [Value.cells, cl] using hg 1 _ rfl
      have g2 : DataW.trod enc Try.prog w base spare held n 9 [c2] = some y2 := by simpa [Value.cells, cs] using hg 2 _ rfl
      have g3 : DataW.trod enc Try.prog w base spare held n 4 [c3] = some y3 := by simpa [Value.cells, cb] using hg 3 _ rfl
      have g4 : DataW.trod enc Try.prog w base spare held n 23 [c4] = some y4 := by simpa [Value.cells, cu] using hg 4 _ rfl
      obtain ⟨a0, e0, _, w0⟩ := DataW.trod_int Try.underlying3 g0
      obtain ⟨a, len, cap, f, e1, hsl, hcap⟩ := open_slots g1
      obtain ⟨a2, e2, _, w2⟩ := DataW.trod_string Try.underlying9 g2
      obtain ⟨a3, e3, _⟩ := DataW.trod_bool Try.underlying4 g3
      obtain ⟨a4, e4, _, w4⟩ := DataW.trod_int Try.underlying23 g4
      simp only [List.cons.injEq, and_true] at e0 e2 e3 e4
      subst e0 e1 e2 e3 e4
      exact ⟨a0, a, len, cap, a2, a3, a4, f, rfl, hsl, hcap, w0, w2, w4⟩
end
end Go.Proofs.Ytfgjanponijkhaa
