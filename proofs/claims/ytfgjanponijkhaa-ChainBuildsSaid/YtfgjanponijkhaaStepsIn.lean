/- A slice of steps (layer 10) that came in, as a function of the index. -/
import Derived.Test.YtfgjanponijkhaaRowIn
import Derived.Deep.Slices
namespace Go.Proofs.Ytfgjanponijkhaa
open Go.ChangeShapes Go.WideShapes Go.ChangeAt Go.RowKit Go.Deep
set_option maxRecDepth 100000

/-- A step's four fields. -/
structure StepD where
  kind : Int
  v : ByteArray
  del : Bool
  fl : Int
instance : Inhabited StepD := ⟨⟨0, ⟨#[]⟩, false, 0⟩⟩

def StepsIn (w : World) (a : Option Addr) (len : Nat) (f : Nat → StepD) : Prop :=
  len ≤ maxLen ∧ ∀ i, i < len → ∃ b off, a = some ⟨b, off, none⟩ ∧ b < w.heap.size ∧ w.cell? ⟨b, off + i * 4, none⟩ = some (.int .i64 (f i).kind) ∧ w.cell? ⟨b, off + i * 4 + 1, none⟩ = some (.string (f i).v) ∧
    w.cell? ⟨b, off + i * 4 + 2, none⟩ = some (.bool (f i).del) ∧ w.cell? ⟨b, off + i * 4 + 3, none⟩ = some (.int .u8 (f i).fl) ∧ (f i).v.size ≤ maxLen ∧ (Lit.int .i64 (f i).kind).wf = true ∧ (Lit.int .u8 (f i).fl).wf = true

theorem StepsIn.keep {w w' : World} {a : Option Addr} {len : Nat} {f : Nat → StepD} (h : StepsIn w a len f) (hb : Below w.heap.size w w') : StepsIn w' a len f :=
  ⟨h.1, fun i hi => by
    obtain ⟨b, off, e, hlt, c0, c1, c2, c3, r⟩ := h.2 i hi
    exact ⟨b, off, e, Nat.lt_of_lt_of_le hlt hb.size, by rw [hb.cell (p := ⟨b, _, none⟩) hlt]; exact c0, by rw [hb.cell (p := ⟨b, _, none⟩) hlt]; exact c1, by rw [hb.cell (p := ⟨b, _, none⟩) hlt]; exact c2, by rw [hb.cell (p := ⟨b, _, none⟩) hlt]; exact c3, r⟩⟩

theorem open_steps {H : Type} {enc : TypeId × Value → H} {w : World} {base : Nat} {spare : Nat → Bool} {held : Bool} {a : Option Addr} {len cap : Nat} {d : DataW H} {p : List MemPlace}
    (h : DataW.Trod enc Try.prog w base spare held 49 (.slice a len cap) d p) : ∃ f : Nat → StepD, StepsIn w a len f := by
  obtain ⟨fuel, hf⟩ := h
  rcases open_slice Try.underlying49 hf with ⟨hcs, _⟩ | ⟨x, l, c, m, n, D, Pl, hcs, _, hl, hcap, hm, _, hx⟩
  · simp [Value.cells] at hcs
    obtain ⟨rfl, rfl, rfl⟩ := hcs
    exact ⟨fun _ => default, by simp [maxLen], fun i hi => by omega⟩
  · simp [Value.cells] at hcs
    obtain ⟨rfl, rfl, rfl⟩ := hcs
    have hlm : len ≤ m := by rw [hm]; split <;> omega
    have ce : Try.prog.cellsOf 54 = 4 := by kernel_rfl
    have each : ∀ i, i < len → ∃ q : StepD, w.cell? (x.add (i * 4)) = some (.int .i64 q.kind) ∧ w.cell? (x.add (i * 4 + 1)) = some (.string q.v) ∧ w.cell? (x.add (i * 4 + 2)) = some (.bool q.del) ∧ w.cell? (x.add (i * 4 + 3)) = some (.int .u8 q.fl) ∧ q.v.size ≤ maxLen ∧ (Lit.int .i64 q.kind).wf = true ∧ (Lit.int .u8 q.fl).wf = true := by
      intro i hi
      obtain ⟨cs', h1, h2⟩ := hx i (by omega)
      rw [ce] at h1
      obtain ⟨_, hlen, hcell⟩ := World.cells?_some h1
      obtain ⟨y0, y1, y2, y3, k, _, _, g0, g1, g2, g3⟩ := Go.Joins.trod_struct4 Try.underlying54 h2
      match cs', hlen with
      | [v0, v1, v2, v3], _ =>
        have e0 := hcell 0 (by omega)
        have e1 := hcell 1 (by omega)
        have e2 := hcell 2 (by omega)
        have e3 := hcell 3 (by omega)
        rw [add_add] at e0 e1 e2 e3
        simp only [show Try.prog.cellsOf 3 = 1 by kernel_rfl, show Try.prog.cellsOf 9 = 1 by kernel_rfl, show Try.prog.cellsOf 4 = 1 by kernel_rfl, show Try.prog.cellsOf 5 = 1 by kernel_rfl, List.drop_zero, List.drop_succ_cons, List.take_succ_cons, List.take_zero] at g0 g1 g2 g3
        obtain ⟨a0, q0, _, w0⟩ := DataW.trod_int Try.underlying3 g0
        obtain ⟨a1, q1, _, w1⟩ := DataW.trod_string Try.underlying9 g1
        obtain ⟨a2, q2, _⟩ := DataW.trod_bool Try.underlying4 g2
        obtain ⟨a3, q3, _, w3⟩ := DataW.trod_int Try.underlying5 g3
        simp only [List.cons.injEq, and_true] at q0 q1 q2 q3
        subst q0 q1 q2 q3
        exact ⟨⟨a0, a1, a2, a3⟩, by simpa using e0, by simpa using e1, by simpa using e2, by simpa using e3, w1, w0, w3⟩
    obtain ⟨f, hf'⟩ := choose_lt each
    refine ⟨f, by omega, fun i hi => ?_⟩
    have h0 := (hf' 0 (by omega)).1
    rw [show x.add (0 * 4) = x from rfl] at h0
    have hsp : x.spot = none := by
      cases hs : x.spot with
      | none => rfl
      | some s =>
        simp only [World.cell?, hs] at h0
        split at h0 <;> simp at h0
    obtain ⟨b, off, sp⟩ := x
    simp only at hsp
    subst hsp
    obtain ⟨k0, k1, k2, k3, r⟩ := hf' i hi
    rw [add_plain] at k0 k1 k2 k3
    exact ⟨b, off, rfl, World.block_lt_of_cell? _ _ k0, k0, by rw [Nat.add_assoc]; exact k1, by rw [Nat.add_assoc]; exact k2, by rw [Nat.add_assoc]; exact k3, r⟩
end Go.Proofs.Ytfgjanponijkhaa
