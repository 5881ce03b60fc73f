/- A slice of pages that came in, as a function of the index. -/
import Derived.Test.YtfgjanponijkhaaPageIn
import Derived.Test.YtfgjanponijkhaaNodePg
namespace Go.Proofs.Ytfgjanponijkhaa
open Go.Joins Go.ChangeShapes Go.WideShapes Go.ChangeAt Go.RowKit Go.Deep
set_option maxRecDepth 100000

/-- A page's cells and its slots. -/
structure PgD where
  lev : Int
  a : Option Addr
  len : Nat
  cap : Nat
  hi : ByteArray
  la : Bool
  ri : Int
  f : Nat → Sl
instance : Inhabited PgD := ⟨⟨0, none, 0, 0, ⟨#[]⟩, false, 0, fun _ => default⟩⟩

def PagesIn (w : World) (a : Option Addr) (len : Nat) (z : Nat → PgD) : Prop :=
  len ≤ maxLen ∧ ∀ i, i < len → (∃ b off, a = some ⟨b, off, none⟩ ∧ b < w.heap.size ∧ w.cell? ⟨b, off + i * 5, none⟩ = some (.int .i64 (z i).lev) ∧ w.cell? ⟨b, off + i * 5 + 1, none⟩ = some (.slice (z i).a (z i).len (z i).cap) ∧
    w.cell? ⟨b, off + i * 5 + 2, none⟩ = some (.string (z i).hi) ∧ w.cell? ⟨b, off + i * 5 + 3, none⟩ = some (.bool (z i).la) ∧ w.cell? ⟨b, off + i * 5 + 4, none⟩ = some (.int .u64 (z i).ri)) ∧
    PgIn w (z i).lev (z i).a (z i).len (z i).cap (z i).hi (z i).ri (z i).f

theorem PagesIn.keep {w w' : World} {a : Option Addr} {len : Nat} {z : Nat → PgD} (h : PagesIn w a len z) (hb : Below w.heap.size w w') : PagesIn w' a len z :=
  ⟨h.1, fun i hi => by
    obtain ⟨⟨b, off, e, hlt, c0, c1, c2, c3, c4⟩, r⟩ := h.2 i hi
    exact ⟨⟨b, off, e, Nat.lt_of_lt_of_le hlt hb.size, by rw [hb.cell (p := ⟨b, _, none⟩) hlt]; exact c0, by rw [hb.cell (p := ⟨b, _, none⟩) hlt]; exact c1, by rw [hb.cell (p := ⟨b, _, none⟩) hlt]; exact c2, by rw [hb.cell (p := ⟨b, _, none⟩) hlt]; exact c3, by rw [hb.cell (p := ⟨b, _, none⟩) hlt]; exact c4⟩, r.keep hb⟩⟩

theorem open_pages {H : Type} {enc : TypeId × Value → H} {w : World} {base : Nat} {spare : Nat → Bool} {held : Bool} {a : Option Addr} {len cap : Nat} {d : DataW H} {p : List MemPlace}
    (h : DataW.Trod enc Try.prog w base spare held 71 (.slice a len cap) d p) : ∃ z : Nat → PgD, PagesIn w a len z := by
  obtain ⟨fuel, hf⟩ := h
  rcases open_slice Try.underlying71 hf with ⟨hcs, _⟩ | ⟨x, l, c, m, n, D, Pl, hcs, _, hl, hcap, hm, _, hx⟩
  · simp [Value.cells] at hcs
    obtain ⟨rfl, rfl, rfl⟩ := hcs
    exact ⟨fun _ => default, by simp [maxLen], fun i hi => by omega⟩
  · simp [Value.cells] at hcs
    obtain ⟨rfl, rfl, rfl⟩ := hcs
    have hlm : len ≤ m := by rw [hm]; split <;> omega
    have ce : Try.prog.cellsOf 25 = 5 := by kernel_rfl
    have each : ∀ i, i < len → ∃ q : PgD, w.cell? (x.add (i * 5)) = some (.int .i64 q.lev) ∧ w.cell? (x.add (i * 5 + 1)) = some (.slice q.a q.len q.cap) ∧ w.cell? (x.add (i * 5 + 2)) = some (.string q.hi) ∧ w.cell? (x.add (i * 5 + 3)) = some (.bool q.la) ∧ w.cell? (x.add (i * 5 + 4)) = some (.int .u64 q.ri) ∧ PgIn w q.lev q.a q.len q.cap q.hi q.ri q.f := by
      intro i hi
      obtain ⟨cs', h1, h2⟩ := hx i (by omega)
      rw [ce] at h1
      obtain ⟨_, hlen, hcell⟩ := World.cells?_some h1
      obtain ⟨xs, k, _, hxx, _, hlen2, hg⟩ := DataW.trod_struct Try.underlying25 h2
      match cs', hlen with
      | [v0, v1, v2, v3, v4], _ =>
      match xs, hlen2 with
      | [y0, y1, y2, y3, y4], _ =>
        have e0 := hcell 0 (by omega)
        have e1 := hcell 1 (by omega)
        have e2 := hcell 2 (by omega)
        have e3 := hcell 3 (by omega)
        have e4 := hcell 4 (by omega)
        rw [add_add] at e0 e1 e2 e3 e4
        have ci : Try.prog.cellsOf 3 = 1 := by kernel_rfl
        have cl : Try.prog.cellsOf 22 = 1 := by kernel_rfl
        have cs : Try.prog.cellsOf 9 = 1 := by kernel_rfl
        have cb : Try.prog.cellsOf 4 = 1 := by kernel_rfl
        have cu : Try.prog.cellsOf 23 = 1 := by kernel_rfl
        have g0 : DataW.trod enc Try.prog w base spare held k 3 [v0] = some y0 := by simpa [Value.cells, ci] using hg 0 _ rfl
        have g1 : DataW.trod enc Try.prog w base spare held k 22 [v1] = some y1 := by simpa [Value.cells, cl] using hg 1 _ rfl
        have g2 : DataW.trod enc Try.prog w base spare held k 9 [v2] = some y2 := by simpa [Value.cells, cs] using hg 2 _ rfl
        have g3 : DataW.trod enc Try.prog w base spare held k 4 [v3] = some y3 := by simpa [Value.cells, cb] using hg 3 _ rfl
        have g4 : DataW.trod enc Try.prog w base spare held k 23 [v4] = some y4 := by simpa [Value.cells, cu] using hg 4 _ rfl
        obtain ⟨a0, q0, _, w0⟩ := DataW.trod_int Try.underlying3 g0
        obtain ⟨sa, slen, scap, f, q1, hsl, hscap⟩ := open_slots g1
        obtain ⟨a2, q2, _, w2⟩ := DataW.trod_string Try.underlying9 g2
        obtain ⟨a3, q3, _⟩ := DataW.trod_bool Try.underlying4 g3
        obtain ⟨a4, q4, _, w4⟩ := DataW.trod_int Try.underlying23 g4
        simp only [List.cons.injEq, and_true] at q0 q2 q3 q4
        subst q0 q1 q2 q3 q4
        exact ⟨⟨a0, sa, slen, scap, a2, a3, a4, f⟩, by simpa using e0, by simpa using e1, by simpa using e2, by simpa using e3, by simpa using e4, ⟨hsl, hscap, w0, w2, w4⟩⟩
    obtain ⟨z, hz⟩ := choose_lt each
    refine ⟨z, by omega, fun i hi => ?_⟩
    have h0 := (hz 0 (by omega)).1
    rw [show x.add (0 * 5) = x from rfl] at h0
    have hsp : x.spot = none := by
      cases hs : x.spot with
      | none => rfl
      | some s =>
        simp only [World.cell?, hs] at h0
        split at h0 <;> simp at h0
    obtain ⟨b, off, sp⟩ := x
    simp only at hsp
    subst hsp
    obtain ⟨k0, k1, k2, k3, k4, r⟩ := hz i hi
    rw [add_plain] at k0 k1 k2 k3 k4
    exact ⟨⟨b, off, rfl, World.block_lt_of_cell? _ _ k0, k0, by rw [Nat.add_assoc]; exact k1, by rw [Nat.add_assoc]; exact k2, by rw [Nat.add_assoc]; exact k3, by rw [Nat.add_assoc]; exact k4⟩, r⟩
end Go.Proofs.Ytfgjanponijkhaa
