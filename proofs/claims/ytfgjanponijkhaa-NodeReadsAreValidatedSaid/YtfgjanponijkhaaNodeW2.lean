/- The writer of a node as a machine (package node): newWriter, store, Step. -/
import Derived.Test.YtfgjanponijkhaaPtMap
namespace Go.Proofs.Ytfgjanponijkhaa
open Go.RowKit
set_option maxRecDepth 100000

def wrStore (b : Nat) : Option FV := some ⟨159, #[.pointer (some ⟨b, 0, none⟩)], #[]⟩
def wrCells (nx pv : Value) (id word : Int) (pg : Pg) (va : Value) : List Value := [nx, .bool true, pv, .int .u64 id, .int .u64 word, .int .i64 (pg).lev, va, .string (pg).hi, .bool (pg).la, .int .u64 (pg).ri]

section
variable {K : Know} {w : World} {F : List Comp} {pg : Pg} {id word : Int}
theorem newWriter_st {ap ag : Option Addr} {np cp ns cs : Nat} (hs : St K w F) :
    Calls Try.prog 116 #[.slice ap np cp, .agg #[.int .u64 id, .int .u64 word, .int .i64 (pg).lev, (.slice ag ns cs), .string (pg).hi, .bool (pg).la, .int .u64 (pg).ri]] w fun e w' => ∃ b, e = .returned (.pointer (some ⟨b, 0, none⟩)) ∧
      St K w' (blk b (.cells (wrCells (stV (wrStore b)) (.slice ap np cp) id word pg (.slice ag ns cs)).toArray 184) :: F) := by
  have hs := hs.pass (.cells #[.int .u64 id, .int .u64 word, .int .i64 (pg).lev, (.slice ag ns cs), .string (pg).hi, .bool (pg).la, .int .u64 (pg).ri] 74)
  have hs := hs.made (.cells #[.nilFunc, .bool false, .slice ap np cp, .int .u64 id, .int .u64 word, .int .i64 (pg).lev, (.slice ag ns cs), .string (pg).hi, .bool (pg).la, .int .u64 (pg).ri] 184)
  rw [World.size_alloc] at hs
  go_enter Try.func116, Try.ntmps116
  go_wp2_with fail
  refine (calls_same hs (begin_any _ _ _ _)).mono ?_
  clear hs
  rintro e w2 ⟨rfl, hs⟩
  have k := hs.k0
  have kf := hs.f0
  have hs := (hs.setL 0 (.func (.func 159) #[.pointer (some ⟨(w.heap.size + 1), 0, none⟩)] #[])).setL 1 (.bool true)
  simp only [List.set_cons_zero, List.set_cons_succ] at hs
  go_wp2
  go_ret
  exact ⟨_, rfl, hs⟩

/-- A store: the first of those that are left. -/
theorem store_any_st {b bm bc g off m c acc : Nat} {L : List Cel} {nx va : Value} {p : Pt} (hm : 1 ≤ m) (hmc : m ≤ c) (ha : acc ≤ 1000000000000)
    (hc0 : w.cell? ⟨g, off, none⟩ = some (.int .i64 p.i)) (hc1 : w.cell? ⟨g, off + 1, none⟩ = some (.int .u64 p.c.n)) (hc4 : w.cell? ⟨g, off + 2, none⟩ = some (.string p.c.k)) (hc3 : w.cell? ⟨g, off + 3, none⟩ = some (.int .u64 p.c.m))
    (hs : St K w (blk b (.cells (wrCells nx (.slice (some ⟨g, off, none⟩) m c) id word pg va).toArray 184) :: memC bm bc L acc :: F)) :
    Calls Try.prog 159 #[.pointer (some ⟨b, 0, none⟩), .pointer (some ⟨bm, 0, none⟩)] w fun e w' => e = .returned (stV (if m = 1 then none else wrStore b)) ∧
      St K w' (blk b (.cells (wrCells nx (.slice (some ⟨g, if c = 1 then off else off + 4, none⟩) (m - 1) (c - 1)) id word pg va).toArray 184) :: memC bm bc (putC L p.i p.c) (acc + 1) :: F) := by
  rcases (show (c = 1 ∧ m = 1) ∨ (c ≠ 1 ∧ m = 1) ∨ (c ≠ 1 ∧ m ≠ 1) by omega) with ⟨rfl, rfl⟩ | ⟨hx, rfl⟩ | ⟨hx, hy⟩
  · simp only [if_true]
    have k := hs.k0
    have kf := hs.f0
    have hs := hs.made (.cells #[.int .i64 p.i, .int .u64 p.c.n, .string p.c.k, .int .u64 p.c.m] 178)
    unfold wrCells at k
    go_enter Try.func159, Try.ntmps159
    go_upto_region 2 with (fail)
    refine wp_ck hs ?_
    clear hs k kf hc0 hc1 hc4 hc3
    generalize w.heap.size = bn
    intro W hs
    have k := hs.k1
    have kf := hs.f1
    unfold wrCells at k
    have hs := hs.b1.setL 2 (.slice (some ⟨g, off, none⟩) 0 0)
    simp only [wrCells, List.set_cons_zero, List.set_cons_succ] at hs
    go_upto_region 3 with (fail)
    refine wp_ck hs ?_
    clear hs k kf
    intro W2 hs
    have kn := hs.k1
    go_wp2_with fail
    refine (store_st (i := p.i) (c := p.c) hs.b2 (by omega)).mono ?_
    clear hs kn
    rintro e w3 ⟨rfl, hs⟩
    have k := hs.k1
    have hs := hs.b1.b2.tail
    go_wp2
    go_ret
    exact ⟨rfl, hs⟩
  · have hc2 : 1 ≤ c := by omega
    simp only [if_true]
    rw [if_neg hx]
    have k := hs.k0
    have kf := hs.f0
    have hs := hs.made (.cells #[.int .i64 p.i, .int .u64 p.c.n, .string p.c.k, .int .u64 p.c.m] 178)
    unfold wrCells at k
    go_enter Try.func159, Try.ntmps159
    go_upto_region 2 with (fail)
    refine wp_ck hs ?_
    clear hs k kf hc0 hc1 hc4 hc3
    generalize w.heap.size = bn
    intro W hs
    have k := hs.k1
    have kf := hs.f1
    unfold wrCells at k
    have hs := hs.b1.setL 2 (.slice (some ⟨g, off + 4, none⟩) 0 (c - 1))
    simp only [wrCells, List.set_cons_zero, List.set_cons_succ] at hs
    go_upto_region 3 with (fail)
    refine wp_ck hs ?_
    clear hs k kf
    intro W2 hs
    have kn := hs.k1
    go_wp2_with fail
    refine (store_st (i := p.i) (c := p.c) hs.b2 (by omega)).mono ?_
    clear hs kn
    rintro e w3 ⟨rfl, hs⟩
    have k := hs.k1
    have hs := hs.b1.b2.tail
    go_wp2
    go_ret
    exact ⟨rfl, hs⟩
  · have hc2 : 1 ≤ c := by omega
    rw [if_neg hx, if_neg hy]
    have k := hs.k0
    have kf := hs.f0
    have hs := hs.made (.cells #[.int .i64 p.i, .int .u64 p.c.n, .string p.c.k, .int .u64 p.c.m] 178)
    unfold wrCells at k
    go_enter Try.func159, Try.ntmps159
    go_upto_region 2 with (fail)
    refine wp_ck hs ?_
    clear hs k kf hc0 hc1 hc4 hc3
    generalize w.heap.size = bn
    intro W hs
    have k := hs.k1
    have kf := hs.f1
    unfold wrCells at k
    have hs := hs.b1.setL 2 (.slice (some ⟨g, off + 4, none⟩) (m - 1) (c - 1))
    simp only [wrCells, List.set_cons_zero, List.set_cons_succ] at hs
    go_upto_region 3 with (fail)
    refine wp_ck hs ?_
    clear hs k kf
    intro W2 hs
    have kn := hs.k1
    go_wp2_with fail
    refine (store_st (i := p.i) (c := p.c) hs.b2 (by omega)).mono ?_
    clear hs kn
    rintro e w3 ⟨rfl, hs⟩
    have k := hs.k1
    have hs := hs.b1.b2.tail
    go_wp2
    go_ret
    exact ⟨rfl, hs⟩
end

theorem enters_store : Enters 159 := fun _ _ => rfl
/-- The writer's block when k stores have been made. -/
def wrC (b : Nat) (id word : Int) (pg : Pg) (va : Value) (g cap : Nat) (ps : List Pt) (k : Nat) : Comp where
  foot := [b]
  ok := fun w => ∃ pv, (k < ps.length → pv = .slice (some ⟨g, k * 4, none⟩) (ps.length - k) (cap - k)) ∧ w.heap[b]? = some (.cells (wrCells (stV (if k < ps.length then wrStore b else none)) pv id word pg va).toArray 184)
  loc := by
    rintro w w' h ⟨pv, h1, h2⟩
    exact ⟨pv, h1, by rw [h b (by simp)]; exact h2⟩
  dom := by
    rintro w ⟨pv, h1, h2⟩ b' hb
    simp at hb; subst hb; exact blk_lt h2

section
variable {K : Know} {w : World} {F : List Comp} {pg : Pg} {id word : Int} {b g cap k bm bc acc : Nat} {va : Value} {ps : List Pt} {L : List Cel}
theorem St.wr_open (h : St K w (wrC b id word pg va g cap ps k :: F)) : ∃ pv, (k < ps.length → pv = .slice (some ⟨g, k * 4, none⟩) (ps.length - k) (cap - k)) ∧ St K w (blk b (.cells (wrCells (stV (if k < ps.length then wrStore b else none)) pv id word pg va).toArray 184) :: F) := by
  obtain ⟨pv, h1, h2⟩ := h.head
  exact ⟨pv, h1, h.chg1 (c' := blk b (.cells (wrCells (stV (if k < ps.length then wrStore b else none)) pv id word pg va).toArray 184)) (Chg.refl _ _) h2 rfl⟩
theorem St.wr_close {pv : Value} (h : St K w (blk b (.cells (wrCells (stV (if k < ps.length then wrStore b else none)) pv id word pg va).toArray 184) :: F)) (hp : k < ps.length → pv = .slice (some ⟨g, k * 4, none⟩) (ps.length - k) (cap - k)) : St K w (wrC b id word pg va g cap ps k :: F) :=
  h.chg1 (c' := wrC b id word pg va g cap ps k) (Chg.refl _ _) ⟨pv, hp, h.head⟩ rfl

/-- A step of the writer. -/
theorem wrRun_st {p : Pt} (hk : ps[k]? = some p) (ha : acc ≤ 1000000000000)
    (hs : St K w (wrC b id word pg va g cap ps k :: memC bm bc L acc :: rowC (.slice (some ⟨g, 0, none⟩) ps.length cap) 178 4 ps.length (ptRow ps) :: F)) :
    Calls Try.prog 103 #[.pointer (some ⟨b, 0, none⟩), .pointer (some ⟨bm, 0, none⟩)] w fun e w' => e = .returned (.bool (decide (k + 1 = ps.length))) ∧
      St K w' (wrC b id word pg va g cap ps (k + 1) :: memC bm bc (putC L p.i p.c) (acc + 1) :: rowC (.slice (some ⟨g, 0, none⟩) ps.length cap) 178 4 ps.length (ptRow ps) :: F) := by
  have hlt : k < ps.length := (List.getElem?_eq_some_iff.1 hk).1
  obtain ⟨pv, hpv, hs⟩ := hs.wr_open
  rw [if_pos hlt] at hs
  have hpv := hpv hlt
  subst hpv
  obtain ⟨_, cap', hv, hle, _⟩ := hs.b2.row_read
  have hcap : ps.length ≤ cap := by
    have e : cap = cap' := by injection hv
    omega
  obtain ⟨r0, r1, r2, r3⟩ := ptRow_at ps k p hk
  have q := store_any_st (off := k * 4) (m := ps.length - k) (c := cap - k) (p := p) (by omega) (by omega) ha (hs.b2.row_cell r0) (hs.b2.row_cell r1) (hs.b2.row_cell r2) (hs.b2.row_cell r3) hs
  have hc : w.cell? ⟨b, 0, none⟩ = some (stV (wrStore b)) := hs.k0 0
  refine (runStep_some (α := Unit) (m := bm) (f := ⟨159, #[.pointer (some ⟨b, 0, none⟩)], #[]⟩) (o := if ps.length - k = 1 then none else wrStore b) (nx := stV (wrStore b))
    (tl := fun _ => (wrCells (stV (wrStore b)) (.slice (some ⟨g, if cap - k = 1 then k * 4 else k * 4 + 4, none⟩) (ps.length - k - 1) (cap - k - 1)) id word pg va).tail) (T := 184)
    (F' := fun _ => memC bm bc (putC L p.i p.c) (acc + 1) :: rowC (.slice (some ⟨g, 0, none⟩) ps.length cap) 178 4 ps.length (ptRow ps) :: F) enters_store hc (q.mono fun e w1 ⟨he, h⟩ => ⟨(), he, h⟩)).mono ?_
  rintro e w' ⟨_, rfl, hs⟩
  refine ⟨?_, ?_⟩
  · by_cases h1 : ps.length - k = 1
    · rw [if_pos h1, decide_eq_true (by omega)]; rfl
    · rw [if_neg h1, decide_eq_false (by omega)]; rfl
  · have e : (if ps.length - k = 1 then none else wrStore b) = (if k + 1 < ps.length then wrStore b else none) := by
      by_cases h1 : ps.length - k = 1
      · rw [if_pos h1, if_neg (by omega)]
      · rw [if_neg h1, if_pos (by omega)]
    rw [e] at hs
    exact hs.wr_close (fun h => by rw [if_neg (by omega), show (k + 1) * 4 = k * 4 + 4 by omega, show ps.length - (k + 1) = ps.length - k - 1 by omega, show cap - (k + 1) = cap - k - 1 by omega])

theorem writeStep_st {p : Pt} {bw : Nat} (hk : ps[k]? = some p) (ha : acc ≤ 1000000000000)
    (hs : St K w (wrC b id word pg va g cap ps k :: memC bm bc L acc :: rowC (.slice (some ⟨g, 0, none⟩) ps.length cap) 178 4 ps.length (ptRow ps) :: blk bw (.cells #[.pointer (some ⟨b, 0, none⟩)] 182) :: F)) :
    Calls Try.prog 47 #[.pointer (some ⟨bw, 0, none⟩), .pointer (some ⟨bm, 0, none⟩)] w fun e w' => e = .returned (.bool (decide (k + 1 = ps.length))) ∧
      St K w' (wrC b id word pg va g cap ps (k + 1) :: memC bm bc (putC L p.i p.c) (acc + 1) :: rowC (.slice (some ⟨g, 0, none⟩) ps.length cap) 178 4 ps.length (ptRow ps) :: blk bw (.cells #[.pointer (some ⟨b, 0, none⟩)] 182) :: F) := by
  have Q := Lib.hid (wrRun_st hk ha hs)
  have kw := hs.b3.k0
  clear hs
  go_enter Try.func47, Try.ntmps47
  go_wp2_with fail
  refine (Q.out).mono ?_
  rintro e w1 ⟨rfl, hs⟩
  go_wp2
  go_ret
  exact ⟨rfl, hs⟩
end
end Go.Proofs.Ytfgjanponijkhaa
