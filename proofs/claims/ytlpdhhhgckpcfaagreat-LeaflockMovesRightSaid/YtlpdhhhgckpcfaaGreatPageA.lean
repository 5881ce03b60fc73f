
/- What the row's step of every law of this seat leans on: the arguments read as they did; a configuration opened to its seven numbers. A slice of integers that came in, as a function of the index. A page that came in: its five fields, its slots as a function of the index. blinktreelaw8's content: a page made from raw slots. Pages that content has made; the configurations of the laws of layer 8. -/
import Derived.Test.YtlpdhhhgckpcfaaGreatStA
import Derived.ProofKit
import Derived.Lib.SmallJoins
import Derived.Test.YtlpdhhhgckpcfaaGreatNodeB
import Derived.Deep.Slices
import Derived.Test.YtlpdhhhgckpcfaaGreatNodeLawB
import Derived.Test.YtlpdhhhgckpcfaaGreatTailC
namespace Go.Proofs.YtlpdhhhgckpcfaaGreat
open Go.Joins Go.ChangeShapes Go.WideShapes Go.ChangeAt Go.RowKit Go.Deep

theorem own : ownKnob Tryz.prog.godebug = none := by kernel_rfl
theorem laidOut : laidOutB Tryz.prog = true := by kernel_rfl

section
variable {H : Type} {enc : TypeId × Value → H} {P : Program} {W W' : World}
theorem trodAll_below (hl : laidOutB P = true) (hb : Below W.heap.size W W') : ∀ {ts : List TypeId} {vs : List Value} {ds : List (DataW H)} {ps : List MemPlace},
    (∀ t, t ∈ ts → P.readableRec t = true ∧ t < P.types.size) → DataW.TrodAll enc P W 0 (fun _ => true) true ts vs ds ps → DataW.TrodAll enc P W' 0 (fun b => decide (b < W.heap.size)) true ts vs ds ps := by
  intro ts
  induction ts with
  | nil =>
    intro vs ds ps _ h
    obtain ⟨rfl, rfl, rfl⟩ := trodAll_nil h
    exact trodAll_mk0
  | cons t ts ih =>
    intro vs ds ps hts h
    obtain ⟨v, vs', d, ds', p, q, rfl, rfl, rfl, h0, r0⟩ := trodAll_cons h
    have lt0 : ∀ x, x ∈ p → x.block < W.heap.size := by obtain ⟨m, hm⟩ := h0; exact DataW.trod_lt m _ _ _ hm
    exact trodAll_cons_mk (Below.trod hl (hts t (by simp)).1 (hts t (by simp)).2 h0 hb lt0) (ih (fun t' ht' => hts t' (by simp [ht'])) r0)
end

section
variable {H : Type} {enc : TypeId × Value → H} {P : Program} {w : World} {base : Nat} {spare : Nat → Bool} {held : Bool}

end

theorem wf_u8 {n : Int} (h : (Lit.int .u8 n).wf = true) : 0 ≤ n ∧ n < 256 := by have := bounds_u8 h; omega
end Go.Proofs.YtlpdhhhgckpcfaaGreat

namespace Go.Proofs.YtlpdhhhgckpcfaaGreat
open Go.ChangeShapes Go.WideShapes Go.ChangeAt Go.RowKit

def RowIn (k : IntKind) (w : World) (a : Option Addr) (len : Nat) (f : Nat → Int) : Prop :=
  len ≤ maxLen ∧ ∀ i, i < len → ∃ b off, a = some ⟨b, off, none⟩ ∧ b < w.heap.size ∧ w.cell? ⟨b, off + i, none⟩ = some (.int k (f i)) ∧ (Lit.int k (f i)).wf = true

theorem open_row {H : Type} {enc : TypeId × Value → H} {P : Program} {w : World} {base : Nat} {spare : Nat → Bool} {held : Bool} {t e : TypeId} {k : IntKind} {a : Option Addr} {len cap : Nat} {d : DataW H} {p : List MemPlace}
    (ht : P.underlying t = some (.slice e)) (he : P.underlying e = some (.int k)) (hc : P.cellsOf e = 1) (h : DataW.Trod enc P w base spare held t (.slice a len cap) d p) :
    ∃ f : Nat → Int, RowIn k w a len f := by
  obtain ⟨fuel, hf⟩ := h
  rcases open_ints ht he hc hf with ⟨hcs, _⟩ | ⟨x, l, c, zs, hcs, _, hl, hm, hz, _, hcell, hwz⟩
  · simp [Value.cells] at hcs
    obtain ⟨rfl, rfl, rfl⟩ := hcs
    exact ⟨fun _ => 0, by simp [maxLen], fun i hi => by omega⟩
  · simp [Value.cells] at hcs
    obtain ⟨rfl, rfl, rfl⟩ := hcs
    refine ⟨fun i => zs.getD i 0, by omega, fun i hi => ?_⟩
    have hzl : len ≤ zs.length := by rw [hz]; split <;> omega
    have h0 := hcell 0 (by omega)
    rw [show x.add 0 = x from rfl] at h0
    have hsp : x.spot = none := by
      cases hs : x.spot with
      | none => rfl
      | some s =>
        simp only [World.cell?, hs] at h0
        split at h0 <;> simp at h0
    obtain ⟨b, off, sp⟩ := x
    simp only at hsp
    subst hsp
    refine ⟨b, off, rfl, World.block_lt_of_cell? _ _ h0, ?_, ?_⟩
    · have hi' := hcell i (by omega)
      by_cases h00 : i = 0
      · subst h00; exact h0
      · simpa [Addr.add, h00] using hi'
    · have hlt : i < zs.length := by omega
      have : zs.getD i 0 = zs[i] := by simp [List.getD_eq_getElem?_getD, List.getElem?_eq_getElem hlt]
      show (Lit.int k (zs.getD i 0)).wf = true
      rw [this]
      exact hwz _ (List.getElem_mem _)

theorem RowIn.keep {k : IntKind} {w w' : World} {a : Option Addr} {len : Nat} {f : Nat → Int} (h : RowIn k w a len f) (hb : Below w.heap.size w w') : RowIn k w' a len f :=
  ⟨h.1, fun i hi => by
    obtain ⟨b, off, e, hlt, hc, hw⟩ := h.2 i hi
    exact ⟨b, off, e, Nat.lt_of_lt_of_le hlt hb.size, by rw [hb.cell (p := ⟨b, off + i, none⟩) hlt]; exact hc, hw⟩⟩
end Go.Proofs.YtlpdhhhgckpcfaaGreat

namespace Go.Proofs.YtlpdhhhgckpcfaaGreat
open Go.Joins Go.ChangeShapes Go.WideShapes Go.ChangeAt Go.RowKit Go.Deep
set_option maxRecDepth 100000

instance : Inhabited Sl := ⟨⟨⟨#[]⟩, 0⟩⟩
/-- A slice of slots that came in. -/
def SlIn (w : World) (a : Option Addr) (len : Nat) (f : Nat → Sl) : Prop :=
  len ≤ maxLen ∧ ∀ i, i < len → ∃ b off, a = some ⟨b, off, none⟩ ∧ b < w.heap.size ∧ w.cell? ⟨b, off + i * 2, none⟩ = some (.string (f i).k) ∧ w.cell? ⟨b, off + i * 2 + 1, none⟩ = some (.int .u64 (f i).r) ∧
    (f i).k.size ≤ maxLen ∧ (Lit.int .u64 (f i).r).wf = true

theorem SlIn.keep {w w' : World} {a : Option Addr} {len : Nat} {f : Nat → Sl} (h : SlIn w a len f) (hb : Below w.heap.size w w') : SlIn w' a len f :=
  ⟨h.1, fun i hi => by
    obtain ⟨b, off, e, hlt, c0, c1, r⟩ := h.2 i hi
    exact ⟨b, off, e, Nat.lt_of_lt_of_le hlt hb.size, by rw [hb.cell (p := ⟨b, _, none⟩) hlt]; exact c0, by rw [hb.cell (p := ⟨b, _, none⟩) hlt]; exact c1, r⟩⟩

/-- Its first n slots. -/
theorem SlIn.take {w : World} {a : Option Addr} {len : Nat} {f : Nat → Sl} (h : SlIn w a len f) {n : Nat} (hn : n ≤ len) (hb : n ≤ 1000000000) : SlAt w a ((List.range n).map f) := by
  refine ⟨by simpa using hb, fun i s hs => ?_⟩
  have hi : i < n := by have := (List.getElem?_eq_some_iff.1 hs).1; simpa using this
  rw [List.getElem?_map, List.getElem?_range hi] at hs
  have e : f i = s := by simpa using hs
  subst e
  obtain ⟨b, off, e, hlt, c0, c1, _⟩ := h.2 i (by omega)
  exact ⟨b, off, e, hlt, c0, c1⟩

section
variable {H : Type} {enc : TypeId × Value → H} {w : World} {base : Nat} {spare : Nat → Bool} {held : Bool}

/-- What is known of a page that came in. -/
structure PgIn (w : World) (lev : Int) (a : Option Addr) (len cap : Nat) (hi : ByteArray) (ri : Int) (f : Nat → Sl) : Prop where
  sl : SlIn w a len f
  cap : len ≤ cap ∧ cap ≤ maxLen
  lev : (Lit.int .i64 lev).wf = true
  hi : hi.size ≤ maxLen
  ri : (Lit.int .u64 ri).wf = true

end
end Go.Proofs.YtlpdhhhgckpcfaaGreat

namespace Go.Proofs.YtlpdhhhgckpcfaaGreat
open Go.RowKit
set_option maxRecDepth 100000

section
variable {K : Know} {w : World} {F : List Comp} {d : Cfg} {lev level ri : Int} {a : Option Addr} {len cap : Nat} {hi : ByteArray} {la : Bool} {f : Nat → Sl}
end
end Go.Proofs.YtlpdhhhgckpcfaaGreat

namespace Go.Proofs.YtlpdhhhgckpcfaaGreat
open Go.RowKit
set_option maxRecDepth 100000

theorem kit8_ok (fa : Int) : (kitC 1 (4 + fa % 3) 1000).Ok := by
  have h0 : 0 ≤ fa % 3 := by omega
  have h1 : fa % 3 ≤ 2 := by omega
  constructor <;> simp only [kitC] <;> omega
theorem PgIn.keep {w w' : World} {lev ri : Int} {a : Option Addr} {len cap : Nat} {hi : ByteArray} {f : Nat → Sl} (h : PgIn w lev a len cap hi ri f) (hb : Below w.heap.size w w') : PgIn w' lev a len cap hi ri f :=
  ⟨h.sl.keep hb, h.cap, h.lev, h.hi, h.ri⟩

/-- What is known of a page that content has made. -/
structure PgOk (d : Cfg) (pg : Pg) : Prop where
  le : (pg.sl.length : Int) ≤ d.fa
  ri : 0 ≤ pg.ri ∧ pg.ri < 18446744073709551616
  r : ∀ s, s ∈ pg.sl → 0 ≤ s.r ∧ s.r < 18446744073709551616
  k : ∀ s, s ∈ pg.sl → s.k.size ≤ maxLen
  hi : pg.hi.size ≤ maxLen
  la : pg.la = true → pg.hi = ⟨#[]⟩

/-! For regions with effects. -/
def optC (o : Option Value) (c : Comp) : Comp := match o with
  | some _ => c
  | none => emptyC
theorem Closed.none {ρ : Nat → Option Value} {all : List Nat} {deps : Nat → List Nat} {j d : Nat} (h : Closed all deps ρ) (hj : j ∈ all) (hd : d ∈ deps j) (hn : ρ d = none) : ρ j = none := by
  cases hx : ρ j with
  | none => rfl
  | some v =>
    have := h j hj (by rw [hx]; rfl) d hd
    rw [hn] at this; cases this
theorem lit_cells {w : World} {b : Nat} {xs : List Value} (h : ∀ k, w.cell? ⟨b, k, none⟩ = xs.toArray[k]?) : ∀ (j : Nat) (u : Value), xs[j]? = some u → ∃ g off, (some ⟨b, 0, none⟩ : Option Addr) = some ⟨g, off, none⟩ ∧ w.cell? ⟨g, off + j, none⟩ = some u :=
  fun j u hu => ⟨b, 0, rfl, by rw [Nat.zero_add, h j]; simpa using hu⟩
end Go.Proofs.YtlpdhhhgckpcfaaGreat
