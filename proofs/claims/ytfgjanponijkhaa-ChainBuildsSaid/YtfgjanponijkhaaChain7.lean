/- Slices of versions that are only read: the reference of layer 9, Same. -/
import Derived.Test.YtfgjanponijkhaaChain6
namespace Go.Proofs.Ytfgjanponijkhaa
open Go.RowKit
set_option maxRecDepth 100000

/-- A slice of versions. -/
def VersAt (w : World) (a : Option Addr) (vs : List Ver) : Prop := vs.length ≤ 1000000000 ∧ ∀ (i : Nat) (v : Ver), vs[i]? = some v →
  ∃ b off, a = some ⟨b, off, none⟩ ∧ b < w.heap.size ∧ w.cell? ⟨b, off + i * 3, none⟩ = some (.int .u64 v.st) ∧ w.cell? ⟨b, off + i * 3 + 1, none⟩ = some (.string v.k) ∧ w.cell? ⟨b, off + i * 3 + 2, none⟩ = some (.bool v.del)
theorem VersAt.same {w w' : World} {a : Option Addr} {vs : List Ver} (h : VersAt w a vs) (hb : Below w.heap.size w w') : VersAt w' a vs :=
  ⟨h.1, fun i v hv => by
    obtain ⟨b, off, e, hlt, c0, c1, c2⟩ := h.2 i v hv
    exact ⟨b, off, e, Nat.lt_of_lt_of_le hlt hb.size, by rw [hb.cell (p := ⟨b, _, none⟩) hlt]; exact c0, by rw [hb.cell (p := ⟨b, _, none⟩) hlt]; exact c1, by rw [hb.cell (p := ⟨b, _, none⟩) hlt]; exact c2⟩⟩
theorem St.row_vers {K : Know} {w : World} {F : List Comp} {a : Option Addr} {n cap : Nat} {T : TypeId} {vs : List Ver} (h : St K w (rowC (.slice a n cap) T 3 n (verRow vs) :: F)) (hn : vs.length ≤ 1000000000) : VersAt w a vs := by
  refine ⟨hn, fun i v hv => ?_⟩
  obtain ⟨r0, r1, r2⟩ := verRow_at vs i v hv
  obtain ⟨g, e, c0⟩ := h.row_at r0
  obtain ⟨g1, e1, c1⟩ := h.row_at r1
  obtain ⟨g2, e2, c2⟩ := h.row_at r2
  rw [e] at e1 e2
  simp only [Option.some.injEq, Addr.mk.injEq, and_true] at e1 e2
  subst e1 e2
  exact ⟨g, 0, e, World.block_lt_of_cell? _ _ c0, by rw [Nat.zero_add]; exact c0, by rw [Nat.zero_add]; exact c1, by rw [Nat.zero_add]; exact c2⟩

def vidx (t : Int) : List Ver → Nat
  | [] => 0
  | v :: vs => if vis t v then 0 else vidx t vs + 1
theorem vidx_le (t : Int) (vs : List Ver) : vidx t vs ≤ vs.length := by
  induction vs with
  | nil => simp [vidx]
  | cons v vs ih => unfold vidx; split <;> simp <;> omega
theorem vidx_find (t : Int) (vs : List Ver) : vs[vidx t vs]? = vfind t vs := by
  induction vs with
  | nil => rfl
  | cons v vs ih =>
    unfold vidx vfind
    split
    · rfl
    · simpa using ih
theorem vidx_end {t : Int} {vs : List Ver} (h : vfind t vs = none) : vidx t vs = vs.length := by
  rw [← vidx_find, List.getElem?_eq_none_iff] at h
  have := vidx_le t vs
  omega
theorem vidx_lt {t : Int} {vs : List Ver} {v : Ver} (h : vfind t vs = some v) : vidx t vs < vs.length ∧ vs[vidx t vs]? = some v := by
  rw [← vidx_find] at h
  exact ⟨(List.getElem?_eq_some_iff.1 h).1, h⟩

theorem vis_yes {t : Int} {v : Ver} (h : vis t v = true) : (v.st != 0) = true ∧ decide (v.st ≤ t) = true := by
  have : v.st ≠ 0 ∧ v.st ≤ t := by simpa [vis] using h
  exact ⟨by simpa using this.1, by simpa using this.2⟩
theorem vis_no {t : Int} {v : Ver} (h : vis t v = false) : ∃ o, (v.st != 0) = o ∧ (o = true → decide (v.st ≤ t) = false) := by
  have h' : ¬(v.st ≠ 0 ∧ v.st ≤ t) := by simpa [vis] using h
  exact ⟨_, rfl, fun h0 => by simp only [decide_eq_false_iff_not]; exact fun h2 => h' ⟨by simpa using h0, h2⟩⟩

theorem first_any {a : Option Addr} {cap : Nat} {vs : List Ver} (t : Int) (w : World) (h : VersAt w a vs) : Calls Try.prog 125 #[.slice a vs.length cap, .int .u64 t] w fun e w' => e = .returned (.int .i64 (vidx t vs)) ∧ w = w' := by
  have hlen := h.1
  have H := Lib.hid h
  obtain ⟨n, hn⟩ : ∃ n, n = vs.length := ⟨_, rfl⟩
  rw [← hn] at hlen ⊢
  have Hn := Lib.hid hn
  clear h hn
  go_enter Try.func125, Try.ntmps125
  go_wp2
  go_loopw [5] (fun v wr => ∃ i : Nat, i ≤ n ∧ v = .int .i64 i ∧ wr = w ∧ vidx t vs = i + vidx t (vs.drop i)) (fun v _ => n - (intOf v).toNat)
  case atStart => exact ⟨0, by omega, rfl, rfl, by simp⟩
  case round =>
    obtain ⟨i, hi, rfl, rfl, hv⟩ := hrel
    by_cases hlt : i < n
    · have hl' : i < vs.length := by rw [← Hn.out]; exact hlt
      obtain ⟨b, off, rfl, hb, c0, c1, c2⟩ := H.out.2 i vs[i] (List.getElem?_eq_getElem hl')
      have hd : vs.drop i = vs[i] :: vs.drop (i + 1) := List.drop_eq_getElem_cons hl'
      rw [hd] at hv
      generalize vs[i] = u at *
      clear c1 c2 hd hl'
      cases hvis : vis t u with
      | true =>
        have e : vidx t vs = i := by rw [hv]; unfold vidx; rw [if_pos hvis]; rfl
        obtain ⟨g1, g2⟩ := vis_yes hvis
        have E := Lib.hid e
        clear hv hvis e
        go_wp2
        go_ret
        exact ⟨by rw [E.out]; rfl, rfl⟩
      | false =>
        have e : vidx t vs = i + 1 + vidx t (vs.drop (i + 1)) := by rw [hv]; conv => lhs; unfold vidx
                                                                    rw [if_neg (by simp [hvis])]; omega
        obtain ⟨o, g1, g2⟩ := vis_no hvis
        have E := Lib.hid e
        clear hv hvis e
        cases o with
        | true =>
          have g2 := g2 rfl
          go_wp2
          go_roundw
          case rel => exact ⟨i + 1, by omega, by go_num, trivial, E.out⟩
          case measure => simp [intOf]; omega
        | false =>
          clear g2
          go_wp2
          go_roundw
          case rel => exact ⟨i + 1, by omega, by go_num, trivial, E.out⟩
          case measure => simp [intOf]; omega
    · obtain rfl : i = n := by omega
      have e : vidx t vs = i := by
        rw [hv, List.drop_eq_nil_of_le (by rw [← Hn.out]; exact Nat.le_refl _)]; rfl
      have E := Lib.hid e
      clear hv e
      go_wp2
      go_ret
      exact ⟨by rw [E.out]; rfl, rfl⟩

theorem vis_res (tmps : Array Value) (w : World) (b : Nat) (v0 v1 v2 v3 : Value) (hp : tmps[4]? = some (.pointer (some ⟨b, 0, none⟩))) (h5 : tmps[5]? = some v3) (hk : ∀ k, w.cell? ⟨b, k, none⟩ = (#[v0, v1, v2] : Array Value)[k]?) :
    (results Try.f113 tmps).run Try.prog w = .ok (.tuple #[.agg #[v0, v1, v2], v3]) w := by
  simp [results, Try.results113, go_sem, hp, hk, h5]

theorem visible_yes {a : Option Addr} {cap : Nat} {vs : List Ver} {t : Int} {v : Ver} (w : World) (h : VersAt w a vs) (hv : vfind t vs = some v) : Calls Try.prog 113 #[.slice a vs.length cap, .int .u64 t] w fun e w' => e = .returned (.tuple #[.agg #[.int .u64 v.st, .string v.k, .bool v.del], .bool true]) ∧ Below w.heap.size w w' := by
  obtain ⟨hl, hg⟩ := vidx_lt hv
  obtain ⟨b, off, rfl, hb, c0, c1, c2⟩ := h.2 _ _ hg
  have h' := h.same (((Below.refl w.heap.size w).alloc (Nat.le_refl _) (.cells #[.int .u64 0, .string ⟨#[]⟩, .bool false] 69)))
  have q := first_any (cap := cap) t _ h'
  have hlen := h.1
  obtain ⟨n, hn⟩ : ∃ n, n = vs.length := ⟨_, rfl⟩
  obtain ⟨i, hi⟩ : ∃ i, i = vidx t vs := ⟨_, rfl⟩
  have hin : i < n := by omega
  rw [← hn, ← hi] at q
  rw [← hi] at c0 c1 c2
  rw [← hn] at hlen ⊢
  have Q := Lib.hid q
  have hne : ((i : Int) == (n : Int)) = false := by simp; omega
  have hbn : b ≠ w.heap.size := by omega
  have hk2 : ∀ (o : Obj) (k : Nat), (w.alloc o).cell? ⟨b, k, none⟩ = w.cell? ⟨b, k, none⟩ := fun o k => by rw [World.cell?_of_block (w := w) (a := ⟨b, k, none⟩)]; exact Below.heap_alloc w o b hb
  clear q hn hi hg h h' hv
  go_enter Try.func113, Try.ntmps113
  go_wp2_with fail
  refine (Q.out).mono ?_
  clear Q
  rintro e w1 ⟨rfl, rfl⟩
  go_wp2
  refine bodyPost_ret (vis_res _ _ w.heap.size _ _ _ _ rfl rfl (blk_cell (blk_alloc w _))) rfl ⟨rfl, (Below.refl _ _).alloc (Nat.le_refl _) _⟩
theorem visible_no {a : Option Addr} {cap : Nat} {vs : List Ver} {t : Int} (w : World) (h : VersAt w a vs) (hv : vfind t vs = none) : Calls Try.prog 113 #[.slice a vs.length cap, .int .u64 t] w fun e w' => e = .returned (.tuple #[.agg #[.int .u64 0, .string ⟨#[]⟩, .bool false], .bool false]) ∧ Below w.heap.size w w' := by
  have h' := h.same (((Below.refl w.heap.size w).alloc (Nat.le_refl _) (.cells #[.int .u64 0, .string ⟨#[]⟩, .bool false] 69)))
  have q := first_any (cap := cap) t _ h'
  rw [vidx_end hv] at q
  have hlen := h.1
  obtain ⟨n, hn⟩ : ∃ n, n = vs.length := ⟨_, rfl⟩
  rw [← hn] at q hlen ⊢
  have Q := Lib.hid q
  clear q hn h h' hv
  go_enter Try.func113, Try.ntmps113
  go_wp2_with fail
  refine (Q.out).mono ?_
  clear Q
  rintro e w1 ⟨rfl, rfl⟩
  go_wp2
  refine bodyPost_ret (vis_res _ _ w.heap.size _ _ _ _ rfl rfl (blk_cell (blk_alloc w _))) rfl ⟨rfl, (Below.refl _ _).alloc (Nat.le_refl _) _⟩

theorem value_yes {a : Option Addr} {cap : Nat} {vs : List Ver} {t : Int} {v : Ver} (w : World) (h : VersAt w a vs) (hv : vfind t vs = some v) : Calls Try.prog 40 #[.slice a vs.length cap, .int .u64 t] w fun e w' => e = .returned (.tuple #[.string (vval t vs).1, .bool (vval t vs).2]) ∧ Below w.heap.size w w' := by
  have q := visible_yes (cap := cap) w h hv
  have Q := Lib.hid q
  have e : vval t vs = if v.del then (⟨#[]⟩, false) else (v.k, true) := by unfold vval; rw [hv]
  rw [e]
  clear q h hv e
  cases hdel : v.del with
  | true =>
    rw [hdel] at Q
    simp only [if_true]
    go_enter Try.func40, Try.ntmps40
    go_wp2_with fail
    refine (Q.out).mono ?_
    clear Q
    rintro e w1 ⟨rfl, hb⟩
    go_wp2
    go_ret2
    exact ⟨rfl, hb.alloc hb.size _⟩
  | false =>
    rw [hdel] at Q
    simp only [Bool.false_eq_true, if_false]
    go_enter Try.func40, Try.ntmps40
    go_wp2_with fail
    refine (Q.out).mono ?_
    clear Q
    rintro e w1 ⟨rfl, hb⟩
    go_wp2
    go_ret2
    exact ⟨rfl, hb.alloc hb.size _⟩
theorem value_no {a : Option Addr} {cap : Nat} {vs : List Ver} {t : Int} (w : World) (h : VersAt w a vs) (hv : vfind t vs = none) : Calls Try.prog 40 #[.slice a vs.length cap, .int .u64 t] w fun e w' => e = .returned (.tuple #[.string (vval t vs).1, .bool (vval t vs).2]) ∧ Below w.heap.size w w' := by
  have q := visible_no (cap := cap) w h hv
  have Q := Lib.hid q
  have e : vval t vs = (⟨#[]⟩, false) := by unfold vval; rw [hv]
  rw [e]
  clear q h hv e
  go_enter Try.func40, Try.ntmps40
  go_wp2_with fail
  refine (Q.out).mono ?_
  clear Q
  rintro e w1 ⟨rfl, hb⟩
  go_wp2
  go_ret2
  exact ⟨rfl, hb.alloc hb.size _⟩
theorem valueRef_any {a : Option Addr} {cap : Nat} {vs : List Ver} (t : Int) (w : World) (h : VersAt w a vs) : Calls Try.prog 40 #[.slice a vs.length cap, .int .u64 t] w fun e w' => e = .returned (.tuple #[.string (vval t vs).1, .bool (vval t vs).2]) ∧ Below w.heap.size w w' := by
  cases hv : vfind t vs with
  | some v => exact value_yes w h hv
  | none => exact value_no w h hv

theorem neq_ver (n : Int) (k : ByteArray) (b : Bool) (w : World) : (binOp .neq 69 (.agg #[.int .u64 n, .string k, .bool b]) (.agg #[.int .u64 n, .string k, .bool b])).run Try.prog w = .ok (.bool false) w := by
  simp [go_sem]

set_option maxHeartbeats 1000000 in
/-- Two slices with the same versions. -/
theorem same_vers (w : World) {a a' : Option Addr} {cap cap' : Nat} {vs : List Ver} (hg : VersAt w a vs) (hh : VersAt w a' vs) :
    Calls Try.prog 44 #[.slice a vs.length cap, .slice a' vs.length cap'] w fun e w' => e = .returned (.bool true) ∧ Below w.heap.size w w' := by
  have hX := hg.1
  obtain ⟨n, hn⟩ : ∃ n, n = vs.length := ⟨_, rfl⟩
  rw [← hn] at hX ⊢
  have Hn := Lib.hid hn
  have Hg := Lib.hid hg
  have Hh := Lib.hid hh
  clear hn hg hh
  go_enter Try.func44, Try.ntmps44
  go_wp2
  go_loopw [5] (fun v wr => ∃ k : Nat, k ≤ n ∧ v = .int .i64 k ∧ Below w.heap.size w wr) (fun v _ => n - (intOf v).toNat)
  case atStart => exact ⟨0, by omega, rfl, Below.refl _ _⟩
  case round =>
    obtain ⟨k, hk, rfl, hb⟩ := hrel
    by_cases hlt : k < n
    · have hl' : k < vs.length := by rw [← Hn.out]; exact hlt
      obtain ⟨b1, off1, rfl, _, c0, c1, c2⟩ := (Hg.out.same hb).2 k vs[k] (List.getElem?_eq_getElem hl')
      obtain ⟨b2, off2, rfl, _, d0, d1, d2⟩ := (Hh.out.same hb).2 k vs[k] (List.getElem?_eq_getElem hl')
      generalize vs[k] = u at *
      have hq := neq_ver u.st u.k u.del
      clear hl'
      go_upto_region 6 with (fail)
      refine region_pure (by kernel_rfl) (by kernel_rfl) ?_
      repeat (go_big_quiet_step (fail))
      refine wpQuiet_nil ?_
      intro w2 hb2
      have hb := hb.trans (hb2.mono hb.size)
      clear c0 c1 c2 d0 d1 d2 hq hb2
      go_wp2
      go_roundw
      case rel => exact ⟨k + 1, by omega, by go_num, hb⟩
      case measure => simp [intOf]; omega
    · obtain rfl : k = n := by omega
      go_wp2
      go_ret
      exact ⟨rfl, hb⟩
end Go.Proofs.Ytfgjanponijkhaa
