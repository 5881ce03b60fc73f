
/- Rows of versions; slices of versions that are only read; blinktreeref9.Check. -/
import Derived.Test.YtlpdhhhgckpcfaaGreatNodeB
import Derived.Test.YtlpdhhhgckpcfaaGreatPageA
namespace Go.Proofs.YtlpdhhhgckpcfaaGreat
open Go.RowKit
set_option maxRecDepth 100000

/-- A version's cells. -/
def verCells (v : Ver) : List Value := [.int .u64 v.st, .string v.k, .bool v.del]
def verRow (vs : List Ver) : List Value := vs.flatMap verCells
theorem verRow_at (vs : List Ver) : ∀ (i : Nat) (v : Ver), vs[i]? = some v → (verRow vs)[i * 3]? = some (.int .u64 v.st) ∧ (verRow vs)[i * 3 + 1]? = some (.string v.k) ∧ (verRow vs)[i * 3 + 2]? = some (.bool v.del) := by
  induction vs with
  | nil => intro i v h; simp at h
  | cons a vs ih =>
    intro i v h
    have e : verRow (a :: vs) = .int .u64 a.st :: .string a.k :: .bool a.del :: verRow vs := rfl
    rw [e]
    cases i with
    | zero => simp at h; subst h; exact ⟨rfl, rfl, rfl⟩
    | succ i =>
      have := ih i v (by simpa using h)
      rw [show (i + 1) * 3 = i * 3 + 3 by omega]
      simpa using this

theorem infoVer : (Tryz.prog.info? 186).map (fun i => (i.zero, i.size, i.bytes)) = some (some (.agg #[.int .u64 0, .string ⟨#[]⟩, .bool false]), 3, 32) := by kernel_rfl
/-- A slice of versions. -/
def VersAt (w : World) (a : Option Addr) (vs : List Ver) : Prop := vs.length ≤ 1000000000 ∧ ∀ (i : Nat) (v : Ver), vs[i]? = some v →
  ∃ b off, a = some ⟨b, off, none⟩ ∧ b < w.heap.size ∧ w.cell? ⟨b, off + i * 3, none⟩ = some (.int .u64 v.st) ∧ w.cell? ⟨b, off + i * 3 + 1, none⟩ = some (.string v.k) ∧ w.cell? ⟨b, off + i * 3 + 2, none⟩ = some (.bool v.del)
theorem VersAt.same {w w' : World} {a : Option Addr} {vs : List Ver} (h : VersAt w a vs) (hb : Below w.heap.size w w') : VersAt w' a vs :=
  ⟨h.1, fun i v hv => by
    obtain ⟨b, off, e, hlt, c0, c1, c2⟩ := h.2 i v hv
    exact ⟨b, off, e, Nat.lt_of_lt_of_le hlt hb.size, by rw [hb.cell (p := ⟨b, _, none⟩) hlt]; exact c0, by rw [hb.cell (p := ⟨b, _, none⟩) hlt]; exact c1, by rw [hb.cell (p := ⟨b, _, none⟩) hlt]; exact c2⟩⟩
theorem St.row_vers {K : Know} {w : World} {F : List Comp} {a : Option Addr} {n cap : Nat} {T : TypeId} {vs : List Ver} (h : St K w (rowC (.slice a n cap) T 3 n (verRow vs) :: F)) (hn : vs.length ≤ 1000000000) : VersAt w a vs := by
  refine ⟨hn, fun i v hv => ?_⟩
  obtain ⟨r0, r1, r2⟩ := verRow_at vs i v hv
  obtain ⟨g, e, c0⟩ := h.row_at r0
  obtain ⟨g1, e1, c1⟩ := h.row_at r1
  obtain ⟨g2, e2, c2⟩ := h.row_at r2
  rw [e] at e1 e2
  simp only [Option.some.injEq, Addr.mk.injEq, and_true] at e1 e2
  subst e1 e2
  exact ⟨g, 0, e, World.block_lt_of_cell? _ _ c0, by rw [Nat.zero_add]; exact c0, by rw [Nat.zero_add]; exact c1, by rw [Nat.zero_add]; exact c2⟩

/-- Versions as they must be when nothing is in progress. -/
def V9 (N : Int) (vs : List Ver) : Prop := ∀ (i : Nat) (v : Ver), vs[i]? = some v → 0 < v.st ∧ v.st ≤ N ∧ (v.del = true → v.k = ⟨#[]⟩) ∧ ∀ u, vs[i + 1]? = some u → u.st < v.st
theorem check9_any {a : Option Addr} {cap : Nat} {vs : List Ver} {N : Int} (w : World) (h : VersAt w a vs) (hv : V9 N vs) : Calls Tryz.prog 125 #[.slice a vs.length cap] w fun e w' => e = .returned (.bool true) ∧ Below w.heap.size w w' := by
  have hlen := h.1
  have H := Lib.hid h
  have HV := Lib.hid hv
  obtain ⟨n, hn⟩ : ∃ n, n = vs.length := ⟨_, rfl⟩
  rw [← hn] at hlen ⊢
  have Hn := Lib.hid hn
  clear h hn hv
  go_enter Tryz.func125, Tryz.ntmps125
  go_wp2
  go_loopw [3] (fun v wr => ∃ i : Nat, i ≤ n ∧ v = .int .i64 i ∧ Hid (Below w.heap.size w wr)) (fun v _ => n - (intOf v).toNat)
  case atStart => exact ⟨0, by omega, rfl, Lib.hid (Below.refl _ _)⟩
  case round =>
    obtain ⟨i, hi, rfl, HB⟩ := hrel
    by_cases hlt : i < n
    · have hl' : i < vs.length := by rw [← Hn.out]; exact hlt
      obtain ⟨u, hu⟩ : ∃ u, vs[i]? = some u := ⟨_, List.getElem?_eq_getElem hl'⟩
      have hvw := H.out.same HB.out
      obtain ⟨b, off, rfl, hb, c0, c1, c2⟩ := hvw.2 i u hu
      obtain ⟨q1, q2, q3, q4⟩ := HV.out i u hu
      have z1 : (u.st == 0) = false := by simp; omega
      obtain ⟨de, hde⟩ : ∃ de, de = u.del := ⟨_, rfl⟩
      obtain ⟨ke, hke⟩ : ∃ ke, ke = u.k := ⟨_, rfl⟩
      rw [← hde] at c2 q3
      rw [← hke] at c1 q3
      rcases Nat.eq_zero_or_pos i with h0 | h0
      · subst h0
        have c0' : wr.cell? ⟨b, off, none⟩ = some (.int .u64 u.st) := by simpa using c0
        have c1' : wr.cell? ⟨b, off + 1, none⟩ = some (.string ke) := by simpa using c1
        have c2' : wr.cell? ⟨b, off + 2, none⟩ = some (.bool de) := by simpa using c2
        clear q4 hvw
        rcases Bool.eq_false_or_eq_true de with rfl | rfl
        · rw [q3 rfl] at c1 c1'
          clear q3 hke hde
          as_aux_lemma =>
          go_upto_region 6 with (fail)
          refine region_pure (by kernel_rfl) (by kernel_rfl) ?_
          repeat (go_big_quiet_step (fail))
          refine wpQuiet_nil ?_
          intro w2 hb2
          go_wp2
          go_roundw
          case rel => exact ⟨1, by omega, by go_num, Lib.hid (HB.out.trans (hb2.mono HB.out.size))⟩
          case measure => simp [intOf]; omega
        · clear q3 hke hde
          as_aux_lemma =>
          go_upto_region 6 with (fail)
          refine region_pure (by kernel_rfl) (by kernel_rfl) ?_
          repeat (go_big_quiet_step (fail))
          refine wpQuiet_nil ?_
          intro w2 hb2
          go_wp2
          go_roundw
          case rel => exact ⟨1, by omega, by go_num, Lib.hid (HB.out.trans (hb2.mono HB.out.size))⟩
          case measure => simp [intOf]; omega
      · obtain ⟨j, rfl⟩ : ∃ j, i = j + 1 := ⟨i - 1, by omega⟩
        obtain ⟨p, hp⟩ : ∃ p, vs[j]? = some p := ⟨_, List.getElem?_eq_getElem (by have := Hn.out; omega)⟩
        obtain ⟨b', off', e', hb', p0, p1, p2⟩ := hvw.2 j p hp
        simp only [Option.some.injEq, Addr.mk.injEq, and_true] at e'
        obtain ⟨rfl, rfl⟩ := e'
        obtain ⟨r1, _, _, r4⟩ := HV.out j p hp
        have z2 : (p.st != 0) = true := by simp; omega
        have z3 : ¬ (p.st ≤ u.st) := by have := r4 u hu; omega
        have hj : ((j + 1 : Nat) : Int) - 1 = j := by omega
        clear q4 hvw r4 p1 p2 hp
        rcases Bool.eq_false_or_eq_true de with rfl | rfl
        · rw [q3 rfl] at c1
          clear q3 hke hde
          as_aux_lemma =>
          go_upto_region 6 with (fail)
          refine region_pure (by kernel_rfl) (by kernel_rfl) ?_
          repeat (go_big_quiet_step (fail))
          refine wpQuiet_nil ?_
          intro w2 hb2
          go_wp2
          go_roundw
          case rel => exact ⟨j + 2, by omega, by go_num, Lib.hid (HB.out.trans (hb2.mono HB.out.size))⟩
          case measure => simp [intOf]; omega
        · clear q3 hke hde
          as_aux_lemma =>
          go_upto_region 6 with (fail)
          refine region_pure (by kernel_rfl) (by kernel_rfl) ?_
          repeat (go_big_quiet_step (fail))
          refine wpQuiet_nil ?_
          intro w2 hb2
          go_wp2
          go_roundw
          case rel => exact ⟨j + 2, by omega, by go_num, Lib.hid (HB.out.trans (hb2.mono HB.out.size))⟩
          case measure => simp [intOf]; omega
    · obtain rfl : i = n := by omega
      go_wp2
      go_ret
      exact ⟨rfl, HB.out⟩
end Go.Proofs.YtlpdhhhgckpcfaaGreat
