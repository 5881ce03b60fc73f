
/- What the row's step of every law of this seat leans on: the arguments read as they did; a configuration opened to its seven numbers. A slice of integers that came in, as a function of the index. A page that came in: its five fields, its slots as a function of the index. blinktreelaw8's content: a page made from raw slots. Pages that content has made; the configurations of the laws of layer 8. -/
import Derived.Test.YtlpdhhhgckpcfaaGreatStA
import Derived.ProofKit
import Derived.Lib.SmallJoins
import Derived.Test.YtlpdhhhgckpcfaaGreatNodeB
import Derived.Deep.Slices
import Derived.Test.YtlpdhhhgckpcfaaGreatNodeLawB
import Derived.Test.YtlpdhhhgckpcfaaGreatTailC
namespace Go.Proofs.YtlpdhhhgckpcfaaGreat
open Go.Joins Go.ChangeShapes Go.WideShapes Go.ChangeAt Go.RowKit Go.Deep

theorem own : ownKnob Tryz.prog.godebug = none := by kernel_rfl
theorem laidOut : laidOutB Tryz.prog = true := by kernel_rfl

section
variable {H : Type} {enc : TypeId × Value → H} {P : Program} {W W' : World}
theorem trodAll_below (hl : laidOutB P = true) (hb : Below W.heap.size W W') : ∀ {ts : List TypeId} {vs : List Value} {ds : List (DataW H)} {ps : List MemPlace},
    (∀ t, t ∈ ts → P.readableRec t = true ∧ t < P.types.size) → DataW.TrodAll enc P W 0 (fun _ => true) true ts vs ds ps → DataW.TrodAll enc P W' 0 (fun b => decide (b < W.heap.size)) true ts vs ds ps := by
  intro ts
  induction ts with
  | nil =>
    intro vs ds ps _ h
    obtain ⟨rfl, rfl, rfl⟩ := trodAll_nil h
    exact trodAll_mk0
  | cons t ts ih =>
    intro vs ds ps hts h
    obtain ⟨v, vs', d, ds', p, q, rfl, rfl, rfl, h0, r0⟩ := trodAll_cons h
    have lt0 : ∀ x, x ∈ p → x.block < W.heap.size := by obtain ⟨m, hm⟩ := h0; exact DataW.trod_lt m _ _ _ hm
    exact trodAll_cons_mk (Below.trod hl (hts t (by simp)).1 (hts t (by simp)).2 h0 hb lt0) (ih (fun t' ht' => hts t' (by simp [ht'])) r0)
end

section
variable {H : Type} {enc : TypeId × Value → H} {P : Program} {w : World} {base : Nat} {spare : Nat → Bool} {held : Bool}
theorem open_agg7 {r : Reach} {b0 : Nat} {t : TypeId} {f0 f1 f2 f3 f4 f5 f6 : Field} {v : Value} {d : DataW H} {p : List MemPlace} (hs : P.underlying t = some (.struct #[f0, f1, f2, f3, f4, f5, f6])) (hone : oneCellFields P #[f0, f1, f2, f3, f4, f5, f6] = true) (hC : P.cellsOf t = 7)
    (hv : Value.okWide P w r b0 t v) (h : DataW.Trod enc P w base spare held t v d p) :
    ∃ (v0 v1 v2 v3 v4 v5 v6 : Value) (y0 y1 y2 y3 y4 y5 y6 : DataW H × List MemPlace) (n : Nat), v = .agg #[v0, v1, v2, v3, v4, v5, v6] ∧
      DataW.trod enc P w base spare held n f0.type [v0] = some y0 ∧ DataW.trod enc P w base spare held n f1.type [v1] = some y1 ∧ DataW.trod enc P w base spare held n f2.type [v2] = some y2 ∧ DataW.trod enc P w base spare held n f3.type [v3] = some y3 ∧ DataW.trod enc P w base spare held n f4.type [v4] = some y4 ∧ DataW.trod enc P w base spare held n f5.type [v5] = some y5 ∧ DataW.trod enc P w base spare held n f6.type [v6] = some y6 := by
  obtain ⟨cs, rfl, hsz⟩ := okWide_struct hs hv
  obtain ⟨l⟩ := cs
  match l, hsz.trans hC with
  | [c0, c1, c2, c3, c4, c5, c6], _ =>
    obtain ⟨fuel, hf⟩ := h
    obtain ⟨xs, n, _, hx, _, hlen, hg⟩ := DataW.trod_struct hs hf
    obtain ⟨o0, k0⟩ := hone_of hone 0 f0 rfl
    obtain ⟨o1, k1⟩ := hone_of hone 1 f1 rfl
    obtain ⟨o2, k2⟩ := hone_of hone 2 f2 rfl
    obtain ⟨o3, k3⟩ := hone_of hone 3 f3 rfl
    obtain ⟨o4, k4⟩ := hone_of hone 4 f4 rfl
    obtain ⟨o5, k5⟩ := hone_of hone 5 f5 rfl
    obtain ⟨o6, k6⟩ := hone_of hone 6 f6 rfl
    match xs, hlen with
    | [y0, y1, y2, y3, y4, y5, y6], _ =>
      exact ⟨c0, c1, c2, c3, c4, c5, c6, y0, y1, y2, y3, y4, y5, y6, n, rfl, by simpa [Value.cells, o0, k0] using hg 0 f0 rfl, by simpa [Value.cells, o1, k1] using hg 1 f1 rfl, by simpa [Value.cells, o2, k2] using hg 2 f2 rfl, by simpa [Value.cells, o3, k3] using hg 3 f3 rfl, by simpa [Value.cells, o4, k4] using hg 4 f4 rfl, by simpa [Value.cells, o5, k5] using hg 5 f5 rfl, by simpa [Value.cells, o6, k6] using hg 6 f6 rfl⟩

set_option maxRecDepth 100000 in
/-- A configuration that came in. -/
theorem open_cfg {r : Reach} {b0 : Nat} {v : Value} {d : DataW H} {p : List MemPlace} (hv : Value.okWide Tryz.prog w r b0 26 v) (h : DataW.Trod enc Tryz.prog w base spare held 26 v d p) :
    ∃ th sn no ch re fa cl : Int, v = .agg #[.int .i64 th, .int .i64 sn, .int .i64 no, .int .i64 ch, .int .i64 re, .int .i64 fa, .int .u64 cl] ∧ 0 ≤ cl ∧ (Lit.int .i64 th).wf = true ∧ (Lit.int .i64 sn).wf = true ∧ (Lit.int .i64 no).wf = true ∧ (Lit.int .i64 ch).wf = true ∧ (Lit.int .i64 re).wf = true ∧ (Lit.int .i64 fa).wf = true ∧ (Lit.int .u64 cl).wf = true := by
  obtain ⟨v0, v1, v2, v3, v4, v5, v6, y0, y1, y2, y3, y4, y5, y6, n, rfl, h0, h1, h2, h3, h4, h5, h6⟩ := open_agg7 Tryz.underlying26 (by kernel_rfl) (by kernel_rfl) hv h
  obtain ⟨a0, e0, rfl, w0⟩ := DataW.trod_int Tryz.underlying3 h0
  obtain ⟨a1, e1, rfl, w1⟩ := DataW.trod_int Tryz.underlying3 h1
  obtain ⟨a2, e2, rfl, w2⟩ := DataW.trod_int Tryz.underlying3 h2
  obtain ⟨a3, e3, rfl, w3⟩ := DataW.trod_int Tryz.underlying3 h3
  obtain ⟨a4, e4, rfl, w4⟩ := DataW.trod_int Tryz.underlying3 h4
  obtain ⟨a5, e5, rfl, w5⟩ := DataW.trod_int Tryz.underlying3 h5
  obtain ⟨a6, e6, rfl, w6⟩ := DataW.trod_int Tryz.underlying23 h6
  simp only [List.cons.injEq, and_true] at e0 e1 e2 e3 e4 e5 e6
  subst e0 e1 e2 e3 e4 e5 e6
  refine ⟨a0, a1, a2, a3, a4, a5, a6, rfl, ?_, w0, w1, w2, w3, w4, w5, w6⟩
  have := bounds_u64 w6
  omega
end

theorem wf_u64 {n : Int} (h : (Lit.int .u64 n).wf = true) : 0 ≤ n ∧ n < 18446744073709551616 := by have := bounds_u64 h; omega
theorem wf_i64 {n : Int} (h : (Lit.int .i64 n).wf = true) : -9223372036854775808 ≤ n ∧ n ≤ 9223372036854775807 := by have := bounds_i64 h; omega
theorem wf_u8 {n : Int} (h : (Lit.int .u8 n).wf = true) : 0 ≤ n ∧ n < 256 := by have := bounds_u8 h; omega
end Go.Proofs.YtlpdhhhgckpcfaaGreat

namespace Go.Proofs.YtlpdhhhgckpcfaaGreat
open Go.ChangeShapes Go.WideShapes Go.ChangeAt Go.RowKit

def RowIn (k : IntKind) (w : World) (a : Option Addr) (len : Nat) (f : Nat → Int) : Prop :=
  len ≤ maxLen ∧ ∀ i, i < len → ∃ b off, a = some ⟨b, off, none⟩ ∧ b < w.heap.size ∧ w.cell? ⟨b, off + i, none⟩ = some (.int k (f i)) ∧ (Lit.int k (f i)).wf = true

theorem open_row {H : Type} {enc : TypeId × Value → H} {P : Program} {w : World} {base : Nat} {spare : Nat → Bool} {held : Bool} {t e : TypeId} {k : IntKind} {a : Option Addr} {len cap : Nat} {d : DataW H} {p : List MemPlace}
    (ht : P.underlying t = some (.slice e)) (he : P.underlying e = some (.int k)) (hc : P.cellsOf e = 1) (h : DataW.Trod enc P w base spare held t (.slice a len cap) d p) :
    ∃ f : Nat → Int, RowIn k w a len f := by
  obtain ⟨fuel, hf⟩ := h
  rcases open_ints ht he hc hf with ⟨hcs, _⟩ | ⟨x, l, c, zs, hcs, _, hl, hm, hz, _, hcell, hwz⟩
  · simp [Value.cells] at hcs
    obtain ⟨rfl, rfl, rfl⟩ := hcs
    exact ⟨fun _ => 0, by simp [maxLen], fun i hi => by omega⟩
  · simp [Value.cells] at hcs
    obtain ⟨rfl, rfl, rfl⟩ := hcs
    refine ⟨fun i => zs.getD i 0, by omega, fun i hi => ?_⟩
    have hzl : len ≤ zs.length := by rw [hz]; split <;> omega
    have h0 := hcell 0 (by omega)
    rw [show x.add 0 = x from rfl] at h0
    have hsp : x.spot = none := by
      cases hs : x.spot with
      | none => rfl
      | some s =>
        simp only [World.cell?, hs] at h0
        split at h0 <;> simp at h0
    obtain ⟨b, off, sp⟩ := x
    simp only at hsp
    subst hsp
    refine ⟨b, off, rfl, World.block_lt_of_cell? _ _ h0, ?_, ?_⟩
    · have hi' := hcell i (by omega)
      by_cases h00 : i = 0
      · subst h00; exact h0
      · simpa [Addr.add, h00] using hi'
    · have hlt : i < zs.length := by omega
      have : zs.getD i 0 = zs[i] := by simp [List.getD_eq_getElem?_getD, List.getElem?_eq_getElem hlt]
      show (Lit.int k (zs.getD i 0)).wf = true
      rw [this]
      exact hwz _ (List.getElem_mem _)

theorem RowIn.keep {k : IntKind} {w w' : World} {a : Option Addr} {len : Nat} {f : Nat → Int} (h : RowIn k w a len f) (hb : Below w.heap.size w w') : RowIn k w' a len f :=
  ⟨h.1, fun i hi => by
    obtain ⟨b, off, e, hlt, hc, hw⟩ := h.2 i hi
    exact ⟨b, off, e, Nat.lt_of_lt_of_le hlt hb.size, by rw [hb.cell (p := ⟨b, off + i, none⟩) hlt]; exact hc, hw⟩⟩
end Go.Proofs.YtlpdhhhgckpcfaaGreat

namespace Go.Proofs.YtlpdhhhgckpcfaaGreat
open Go.Joins Go.ChangeShapes Go.WideShapes Go.ChangeAt Go.RowKit Go.Deep
set_option maxRecDepth 100000

instance : Inhabited Sl := ⟨⟨⟨#[]⟩, 0⟩⟩
/-- A slice of slots that came in. -/
def SlIn (w : World) (a : Option Addr) (len : Nat) (f : Nat → Sl) : Prop :=
  len ≤ maxLen ∧ ∀ i, i < len → ∃ b off, a = some ⟨b, off, none⟩ ∧ b < w.heap.size ∧ w.cell? ⟨b, off + i * 2, none⟩ = some (.string (f i).k) ∧ w.cell? ⟨b, off + i * 2 + 1, none⟩ = some (.int .u64 (f i).r) ∧
    (f i).k.size ≤ maxLen ∧ (Lit.int .u64 (f i).r).wf = true

theorem SlIn.keep {w w' : World} {a : Option Addr} {len : Nat} {f : Nat → Sl} (h : SlIn w a len f) (hb : Below w.heap.size w w') : SlIn w' a len f :=
  ⟨h.1, fun i hi => by
    obtain ⟨b, off, e, hlt, c0, c1, r⟩ := h.2 i hi
    exact ⟨b, off, e, Nat.lt_of_lt_of_le hlt hb.size, by rw [hb.cell (p := ⟨b, _, none⟩) hlt]; exact c0, by rw [hb.cell (p := ⟨b, _, none⟩) hlt]; exact c1, r⟩⟩

/-- Its first n slots. -/
theorem SlIn.take {w : World} {a : Option Addr} {len : Nat} {f : Nat → Sl} (h : SlIn w a len f) {n : Nat} (hn : n ≤ len) (hb : n ≤ 1000000000) : SlAt w a ((List.range n).map f) := by
  refine ⟨by simpa using hb, fun i s hs => ?_⟩
  have hi : i < n := by have := (List.getElem?_eq_some_iff.1 hs).1; simpa using this
  rw [List.getElem?_map, List.getElem?_range hi] at hs
  have e : f i = s := by simpa using hs
  subst e
  obtain ⟨b, off, e, hlt, c0, c1, _⟩ := h.2 i (by omega)
  exact ⟨b, off, e, hlt, c0, c1⟩

section
variable {H : Type} {enc : TypeId × Value → H} {w : World} {base : Nat} {spare : Nat → Bool} {held : Bool}
theorem open_slots {n : Nat} {v : Value} {y : DataW H × List MemPlace}
    (hf : DataW.trod enc Tryz.prog w base spare held n 41 [v] = some y) : ∃ (a : Option Addr) (len cap : Nat) (f : Nat → Sl), v = .slice a len cap ∧ SlIn w a len f ∧ len ≤ cap ∧ cap ≤ maxLen := by
  rcases open_slice Tryz.underlying41 hf with ⟨hcs, _⟩ | ⟨x, l, c, m, n, D, Pl, hcs, _, hl, hcap, hm, _, hx⟩
  · simp only [List.cons.injEq, and_true] at hcs
    subst hcs
    exact ⟨none, 0, 0, fun _ => ⟨⟨#[]⟩, 0⟩, rfl, ⟨by simp [maxLen], fun i hi => by omega⟩, by omega, by simp [maxLen]⟩
  · simp only [List.cons.injEq, and_true] at hcs
    subst hcs
    have hlm : l ≤ m := by rw [hm]; split <;> omega
    have ce : Tryz.prog.cellsOf 69 = 2 := by kernel_rfl
    have each : ∀ i, i < l → ∃ q : Sl, w.cell? (x.add (i * 2)) = some (.string q.k) ∧ w.cell? (x.add (i * 2 + 1)) = some (.int .u64 q.r) ∧ q.k.size ≤ maxLen ∧ (Lit.int .u64 q.r).wf = true := by
      intro i hi
      obtain ⟨cs', h1, h2⟩ := hx i (by omega)
      rw [ce] at h1
      obtain ⟨_, hlen, hcell⟩ := World.cells?_some h1
      obtain ⟨y0, y1, k, _, _, g0, g1⟩ := Go.ChangeShapes.trod_struct2 Tryz.underlying69 h2
      match cs', hlen with
      | [v0, v1], _ =>
        have e0 := hcell 0 (by omega)
        have e1 := hcell 1 (by omega)
        rw [add_add] at e0 e1
        simp only [show Tryz.prog.cellsOf 23 = 1 by kernel_rfl, show Tryz.prog.cellsOf 9 = 1 by kernel_rfl, List.drop_zero, List.drop_succ_cons, List.take_succ_cons, List.take_zero] at g0 g1
        obtain ⟨a0, q0, _, w0⟩ := DataW.trod_string Tryz.underlying9 g0
        obtain ⟨a1, q1, _, w1⟩ := DataW.trod_int Tryz.underlying23 g1
        simp only [List.cons.injEq, and_true] at q0 q1
        subst q0 q1
        exact ⟨⟨a0, a1⟩, by simpa using e0, by simpa using e1, w0, w1⟩
    obtain ⟨f, hf'⟩ := choose_lt each
    refine ⟨some x, l, c, f, rfl, ⟨by omega, fun i hi => ?_⟩, hl, hcap⟩
    have h0 := (hf' 0 (by omega)).1
    rw [show x.add (0 * 2) = x from rfl] at h0
    have hsp : x.spot = none := by
      cases hs : x.spot with
      | none => rfl
      | some s =>
        simp only [World.cell?, hs] at h0
        split at h0 <;> simp at h0
    obtain ⟨b, off, sp⟩ := x
    simp only at hsp
    subst hsp
    obtain ⟨k0, k1, r⟩ := hf' i hi
    rw [add_plain] at k0 k1
    exact ⟨b, off, rfl, World.block_lt_of_cell? _ _ k0, k0, by rw [Nat.add_assoc]; exact k1, r⟩

/-- What is known of a page that came in. -/
structure PgIn (w : World) (lev : Int) (a : Option Addr) (len cap : Nat) (hi : ByteArray) (ri : Int) (f : Nat → Sl) : Prop where
  sl : SlIn w a len f
  cap : len ≤ cap ∧ cap ≤ maxLen
  lev : (Lit.int .i64 lev).wf = true
  hi : hi.size ≤ maxLen
  ri : (Lit.int .u64 ri).wf = true

theorem open_page {r : Reach} {b0 : Nat} {v : Value} {d : DataW H} {p : List MemPlace} (hv : Value.okWide Tryz.prog w r b0 43 v) (h : DataW.Trod enc Tryz.prog w base spare held 43 v d p) :
    ∃ (lev : Int) (a : Option Addr) (len cap : Nat) (hi : ByteArray) (la : Bool) (ri : Int) (f : Nat → Sl), v = .agg #[.int .i64 lev, .slice a len cap, .string hi, .bool la, .int .u64 ri] ∧ PgIn w lev a len cap hi ri f := by
  obtain ⟨cs, rfl, hsz⟩ := okWide_struct Tryz.underlying43 hv
  obtain ⟨l⟩ := cs
  match l, hsz.trans (show Tryz.prog.cellsOf 43 = 5 by kernel_rfl) with
  | [c0, c1, c2, c3, c4], _ =>
    obtain ⟨fuel, hf⟩ := h
    obtain ⟨xs, n, _, hx, _, hlen, hg⟩ := DataW.trod_struct Tryz.underlying43 hf
    match xs, hlen with
    | [y0, y1, y2, y3, y4], _ =>
      have ci : Tryz.prog.cellsOf 3 = 1 := by kernel_rfl
      have cl : Tryz.prog.cellsOf 41 = 1 := by kernel_rfl
      have cs : Tryz.prog.cellsOf 9 = 1 := by kernel_rfl
      have cb : Tryz.prog.cellsOf 4 = 1 := by kernel_rfl
      have cu : Tryz.prog.cellsOf 23 = 1 := by kernel_rfl
      have g0 : DataW.trod enc Tryz.prog w base spare held n 3 [c0] = some y0 := by simpa [Value.cells, ci] using hg 0 _ rfl
      have g1 : DataW.trod enc Tryz.prog w base spare held n 41 [c1] = some y1 := by simpa [Value.cells, cl] using hg 1 _ rfl
      have g2 : DataW.trod enc Tryz.prog w base spare held n 9 [c2] = some y2 := by simpa [Value.cells, cs] using hg 2 _ rfl
      have g3 : DataW.trod enc Tryz.prog w base spare held n 4 [c3] = some y3 := by simpa [Value.cells, cb] using hg 3 _ rfl
      have g4 : DataW.trod enc Tryz.prog w base spare held n 23 [c4] = some y4 := by simpa [Value.cells, cu] using hg 4 _ rfl
      obtain ⟨a0, e0, _, w0⟩ := DataW.trod_int Tryz.underlying3 g0
      obtain ⟨a, len, cap, f, e1, hsl, hcap⟩ := open_slots g1
      obtain ⟨a2, e2, _, w2⟩ := DataW.trod_string Tryz.underlying9 g2
      obtain ⟨a3, e3, _⟩ := DataW.trod_bool Tryz.underlying4 g3
      obtain ⟨a4, e4, _, w4⟩ := DataW.trod_int Tryz.underlying23 g4
      simp only [List.cons.injEq, and_true] at e0 e2 e3 e4
      subst e0 e1 e2 e3 e4
      exact ⟨a0, a, len, cap, a2, a3, a4, f, rfl, hsl, hcap, w0, w2, w4⟩
end
end Go.Proofs.YtlpdhhhgckpcfaaGreat

namespace Go.Proofs.YtlpdhhhgckpcfaaGreat
open Go.RowKit
set_option maxRecDepth 100000

/-- The page that content makes. -/
def ctPg (d : Cfg) (level : Int) (len : Nat) (hi : ByteArray) (la : Bool) (ri : Int) (f : Nat → Sl) : Pg :=
  ⟨level, (List.range (min len d.fa.toNat)).map f, cond la ⟨#[]⟩ hi, la, ri⟩

section
variable {K : Know} {w : World} {F : List Comp} {d : Cfg} {lev level ri : Int} {a : Option Addr} {len cap : Nat} {hi : ByteArray} {la : Bool} {f : Nat → Sl}
end
end Go.Proofs.YtlpdhhhgckpcfaaGreat

namespace Go.Proofs.YtlpdhhhgckpcfaaGreat
open Go.RowKit
set_option maxRecDepth 100000

theorem kit8_ok (fa : Int) : (kitC 1 (4 + fa % 3) 1000).Ok := by
  have h0 : 0 ≤ fa % 3 := by omega
  have h1 : fa % 3 ≤ 2 := by omega
  constructor <;> simp only [kitC] <;> omega
theorem PgIn.keep {w w' : World} {lev ri : Int} {a : Option Addr} {len cap : Nat} {hi : ByteArray} {f : Nat → Sl} (h : PgIn w lev a len cap hi ri f) (hb : Below w.heap.size w w') : PgIn w' lev a len cap hi ri f :=
  ⟨h.sl.keep hb, h.cap, h.lev, h.hi, h.ri⟩

/-- What is known of a page that content has made. -/
structure PgOk (d : Cfg) (pg : Pg) : Prop where
  le : (pg.sl.length : Int) ≤ d.fa
  ri : 0 ≤ pg.ri ∧ pg.ri < 18446744073709551616
  r : ∀ s, s ∈ pg.sl → 0 ≤ s.r ∧ s.r < 18446744073709551616
  k : ∀ s, s ∈ pg.sl → s.k.size ≤ maxLen
  hi : pg.hi.size ≤ maxLen
  la : pg.la = true → pg.hi = ⟨#[]⟩
theorem ctPg_ok {d : Cfg} (hd : d.Ok) {w : World} {lev level ri : Int} {a : Option Addr} {len cap : Nat} {hi : ByteArray} {la : Bool} {f : Nat → Sl} (h : PgIn w lev a len cap hi ri f) : PgOk d (ctPg d level len hi la ri f) := by
  have f1 := hd.fa1
  have hs : ∀ s, s ∈ (ctPg d level len hi la ri f).sl → ∃ i, i < len ∧ s = f i := by
    intro s hs
    simp only [ctPg, List.mem_map, List.mem_range] at hs
    obtain ⟨i, hi, rfl⟩ := hs
    exact ⟨i, by omega, rfl⟩
  refine ⟨by simp [ctPg]; omega, wf_u64 h.ri, fun s h1 => ?_, fun s h1 => ?_, ?_, fun e => ?_⟩
  · obtain ⟨i, hi, rfl⟩ := hs s h1
    obtain ⟨_, _, _, _, _, _, _, hw⟩ := h.sl.2 i hi
    exact wf_u64 hw
  · obtain ⟨i, hi, rfl⟩ := hs s h1
    obtain ⟨_, _, _, _, _, _, hk, _⟩ := h.sl.2 i hi
    exact hk
  · show (cond la ⟨#[]⟩ hi).size ≤ maxLen
    cases la
    · exact h.hi
    · show 0 ≤ maxLen; omega
  · have e' : la = true := e
    show cond la ⟨#[]⟩ hi = ⟨#[]⟩
    rw [e']; rfl

/-! For regions with effects. -/
def optC (o : Option Value) (c : Comp) : Comp := match o with
  | some _ => c
  | none => emptyC
theorem Closed.none {ρ : Nat → Option Value} {all : List Nat} {deps : Nat → List Nat} {j d : Nat} (h : Closed all deps ρ) (hj : j ∈ all) (hd : d ∈ deps j) (hn : ρ d = none) : ρ j = none := by
  cases hx : ρ j with
  | none => rfl
  | some v =>
    have := h j hj (by rw [hx]; rfl) d hd
    rw [hn] at this; cases this
theorem lit_cells {w : World} {b : Nat} {xs : List Value} (h : ∀ k, w.cell? ⟨b, k, none⟩ = xs.toArray[k]?) : ∀ (j : Nat) (u : Value), xs[j]? = some u → ∃ g off, (some ⟨b, 0, none⟩ : Option Addr) = some ⟨g, off, none⟩ ∧ w.cell? ⟨g, off + j, none⟩ = some u :=
  fun j u hu => ⟨b, 0, rfl, by rw [Nat.zero_add, h j]; simpa using hu⟩
end Go.Proofs.YtlpdhhhgckpcfaaGreat
