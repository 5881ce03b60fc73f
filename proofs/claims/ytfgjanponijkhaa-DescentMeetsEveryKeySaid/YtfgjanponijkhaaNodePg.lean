/- Pages that content has made; the configurations of the laws of layer 8. -/
import Derived.Test.YtfgjanponijkhaaContent
import Derived.Test.YtfgjanponijkhaaTailB
namespace Go.Proofs.Ytfgjanponijkhaa
open Go.RowKit
set_option maxRecDepth 100000

theorem kit8_ok (fa : Int) : (kitC 1 (4 + fa % 3) 1000).Ok := by
  have h0 : 0 ≤ fa % 3 := by omega
  have h1 : fa % 3 ≤ 2 := by omega
  constructor <;> simp only [kitC] <;> omega
theorem PgIn.keep {w w' : World} {lev ri : Int} {a : Option Addr} {len cap : Nat} {hi : ByteArray} {f : Nat → Sl} (h : PgIn w lev a len cap hi ri f) (hb : Below w.heap.size w w') : PgIn w' lev a len cap hi ri f :=
  ⟨h.sl.keep hb, h.cap, h.lev, h.hi, h.ri⟩

/-- What is known of a page that content has made. -/
structure PgOk (d : Cfg) (pg : Pg) : Prop where
  le : (pg.sl.length : Int) ≤ d.fa
  ri : 0 ≤ pg.ri ∧ pg.ri < 18446744073709551616
  r : ∀ s, s ∈ pg.sl → 0 ≤ s.r ∧ s.r < 18446744073709551616
  k : ∀ s, s ∈ pg.sl → s.k.size ≤ maxLen
  hi : pg.hi.size ≤ maxLen
  la : pg.la = true → pg.hi = ⟨#[]⟩
theorem ctPg_ok {d : Cfg} (hd : d.Ok) {w : World} {lev level ri : Int} {a : Option Addr} {len cap : Nat} {hi : ByteArray} {la : Bool} {f : Nat → Sl} (h : PgIn w lev a len cap hi ri f) : PgOk d (ctPg d level len hi la ri f) := by
  have f1 := hd.fa1
  have hs : ∀ s, s ∈ (ctPg d level len hi la ri f).sl → ∃ i, i < len ∧ s = f i := by
    intro s hs
    simp only [ctPg, List.mem_map, List.mem_range] at hs
    obtain ⟨i, hi, rfl⟩ := hs
    exact ⟨i, by omega, rfl⟩
  refine ⟨by simp [ctPg]; omega, wf_u64 h.ri, fun s h1 => ?_, fun s h1 => ?_, ?_, fun e => ?_⟩
  · obtain ⟨i, hi, rfl⟩ := hs s h1
    obtain ⟨_, _, _, _, _, _, _, hw⟩ := h.sl.2 i hi
    exact wf_u64 hw
  · obtain ⟨i, hi, rfl⟩ := hs s h1
    obtain ⟨_, _, _, _, _, _, hk, _⟩ := h.sl.2 i hi
    exact hk
  · show (cond la ⟨#[]⟩ hi).size ≤ maxLen
    cases la
    · exact h.hi
    · show 0 ≤ maxLen; omega
  · have e' : la = true := e
    show cond la ⟨#[]⟩ hi = ⟨#[]⟩
    rw [e']; rfl

/-! For regions with effects. -/
def optC (o : Option Value) (c : Comp) : Comp := match o with
  | some _ => c
  | none => emptyC
theorem Closed.none {ρ : Nat → Option Value} {all : List Nat} {deps : Nat → List Nat} {j d : Nat} (h : Closed all deps ρ) (hj : j ∈ all) (hd : d ∈ deps j) (hn : ρ d = none) : ρ j = none := by
  cases hx : ρ j with
  | none => rfl
  | some v =>
    have := h j hj (by rw [hx]; rfl) d hd
    rw [hn] at this; cases this
theorem lit_cells {w : World} {b : Nat} {xs : List Value} (h : ∀ k, w.cell? ⟨b, k, none⟩ = xs.toArray[k]?) : ∀ (j : Nat) (u : Value), xs[j]? = some u → ∃ g off, (some ⟨b, 0, none⟩ : Option Addr) = some ⟨g, off, none⟩ ∧ w.cell? ⟨g, off + j, none⟩ = some u :=
  fun j u hu => ⟨b, 0, rfl, by rw [Nat.zero_add, h j]; simpa using hu⟩
end Go.Proofs.Ytfgjanponijkhaa
