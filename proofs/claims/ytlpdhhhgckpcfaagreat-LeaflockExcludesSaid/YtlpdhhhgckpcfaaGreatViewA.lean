
/- blinktreekit.Cells: the contents of a memory as a slice. Peek (package node): a node's page without an access. blinktreecells.View: the cells as plain data. blinktreecells.View: Page. blinktreecells.View: node, Height; blinktreekit.View. -/
import Derived.Test.YtlpdhhhgckpcfaaGreatBaseA
import Derived.Test.YtlpdhhhgckpcfaaGreatNodeB
import Derived.Test.YtlpdhhhgckpcfaaGreatNodeLawB
import Derived.Test.YtlpdhhhgckpcfaaGreatPageA
import Derived.Test.YtlpdhhhgckpcfaaGreatGrA
namespace Go.Proofs.YtlpdhhhgckpcfaaGreat
open Go.RowKit
set_option maxRecDepth 100000

theorem makeCells_run (n : Nat) (hn : n ≤ 1048576) (w : World) : (Instr.makeSlice 50 (.int .i64 n) (.int .i64 n)).run Tryz.prog w = .ok (.slice (some ⟨w.heap.size, 0, none⟩) n n) (w.alloc (.cells (flat (List.replicate n Cel.zero)).toArray 63)) := by
  obtain ⟨i, hi, hz, h3, hby⟩ := info_parts infoCell
  have := run_make w 50 63 i _ Tryz.underlying50 hi hz .i64 .i64 (n : Int) n (by omega) (by omega) (by rw [hby]; omega) (by omega)
  rw [this, h3, Int.toNat_natCast, show (Value.agg #[.int .u64 0, .string ⟨#[]⟩, .int .u64 0]).cells = #[.int .u64 0, .string ⟨#[]⟩, .int .u64 0] from rfl, flat_zero]

section
variable {K : Know} {w w' : World} {c d : Comp} {cs F : List Comp}

theorem St.setC {g : Nat} {X : List Cel} {T : TypeId} (h : St K w (blk g (.cells (flat X).toArray T) :: F)) (i : Nat) (c : Cel) :
    St K (((w.setCell ⟨g, i * 3, none⟩ (.int .u64 c.n)).setCell ⟨g, i * 3 + 1, none⟩ (.string c.k)).setCell ⟨g, i * 3 + 2, none⟩ (.int .u64 c.m)) (blk g (.cells (flat (X.set i c)).toArray T) :: F) := by
  have := ((h.setL (i * 3) (.int .u64 c.n)).setL (i * 3 + 1) (.string c.k)).setL (i * 3 + 2) (.int .u64 c.m)
  rwa [flat_set] at this
theorem flat_cell {w : World} {g : Nat} {X : List Cel} {T : TypeId} (h : w.heap[g]? = some (.cells (flat X).toArray T)) {i : Nat} {c : Cel} (hi : X[i]? = some c) :
    w.cell? ⟨g, i * 3, none⟩ = some (.int .u64 c.n) ∧ w.cell? ⟨g, i * 3 + 1, none⟩ = some (.string c.k) ∧ w.cell? ⟨g, i * 3 + 2, none⟩ = some (.int .u64 c.m) := by
  have := flat_at X i c hi
  simpa [blk_cell h] using this

set_option maxHeartbeats 1000000 in
theorem kitCells_st {bm bc : Nat} {L : List Cel} {acc : Nat} (hs : St K w (memC bm bc L acc :: F)) :
    Calls Tryz.prog 34 #[.pointer (some ⟨bm, 0, none⟩)] w fun e w' => ∃ g, e = .returned (.slice (some ⟨g, 0, none⟩) L.length L.length) ∧ St K w' (blk g (.cells (flat L).toArray 63) :: memC bm bc L acc :: F) := by
  have hlen := hs.mem.len
  obtain ⟨n, hn⟩ : ∃ n, n = L.length := ⟨_, rfl⟩
  have q1 := memCells_any w bm bc L acc hs.mem
  rw [← hn] at hlen q1 ⊢
  have Hn := Lib.hid hn
  have Q1 := Lib.hid q1
  clear q1 hn
  have hmk := makeCells_run n hlen
  have hs := hs.made (.cells (flat (List.replicate n Cel.zero)).toArray 63)
  go_enter Tryz.func34, Tryz.ntmps34
  go_wp2_with fail
  refine (Q1.out).mono ?_
  rintro e w1 ⟨rfl, rfl⟩
  go_wp2
  clear hmk
  obtain ⟨g, hg⟩ : ∃ g, g = w.heap.size := ⟨_, rfl⟩
  rw [← hg] at hs ⊢
  clear hg Q1
  go_loopw [4] (fun v wr => ∃ k : Nat, k ≤ n ∧ v = .int .i64 k ∧ St K wr (blk g (.cells (flat (L.take k ++ List.replicate (n - k) Cel.zero)).toArray 63) :: memC bm bc L acc :: F)) (fun v _ => n - (intOf v).toNat)
  case atStart => exact ⟨0, by omega, rfl, by simpa using hs⟩
  case round =>
    clear hs
    obtain ⟨k, hk, rfl, hs⟩ := hrel
    by_cases hlt : k < n
    · obtain ⟨c, hc, hz⟩ : ∃ c, getC L k = c ∧ L[k]? = some c := ⟨_, rfl, getC_at (by rw [← Hn.out]; exact hlt)⟩
      have Hz := Lib.hid hz
      have q := peek_st hs hs.mem1 (i := (k : Int))
      rw [hc] at q
      have Q := Lib.hid q
      clear q hc hz hs
      go_wp2_with fail
      refine (Q.out).mono ?_
      clear Q
      rintro e w2 ⟨rfl, hs⟩
      obtain ⟨c0, c1, c2⟩ := flat_cell hs.head (i := k) (c := Cel.zero) (by have := Hn.out; rw [List.getElem?_append_right (by simp; omega)]; simp [List.getElem?_replicate]; omega)
      have kf := hs.f0
      have hs := hs.setC k c
      have e : (L.take k ++ List.replicate (n - k) Cel.zero).set k c = L.take (k + 1) ++ List.replicate (n - (k + 1)) Cel.zero := by
        rw [List.set_append_right _ _ (by simp; omega), List.take_add_one, Hz.out, show n - k = (n - (k + 1)) + 1 by omega, List.replicate_succ]
        simp [show k - min k L.length = 0 by rw [← Hn.out]; omega]
      rw [e] at hs
      clear e
      go_wp2
      go_roundw
      case rel => exact ⟨k + 1, by omega, by go_num, hs⟩
      case measure => simp [intOf]; omega
    · obtain rfl : k = n := by omega
      have e : L.take k ++ List.replicate (k - k) Cel.zero = L := by rw [Nat.sub_self]; simp [Hn.out]
      rw [e] at hs
      clear e
      go_wp2
      go_ret
      exact ⟨g, rfl, hs⟩

end
end Go.Proofs.YtlpdhhhgckpcfaaGreat

namespace Go.Proofs.YtlpdhhhgckpcfaaGreat
open Go.RowKit
set_option maxRecDepth 100000

/-- What Peek answers. -/
def slOf (d : Cfg) (id : Int) (L : List Cel) (i : Nat) : Sl := ⟨(getC L (d.slot id i)).k, (getC L (d.slot id i)).n⟩
def pgOf (d : Cfg) (id : Int) (L : List Cel) : Pg :=
  ⟨wrap64 (getC L (d.node id 1)).m, (List.range (leftOf d (getC L (d.node id 1)))).map (slOf d id L), (getC L (d.node id 2)).k, decide ((getC L (d.node id 2)).m = 1), (getC L (d.node id 3)).n⟩
theorem pgOf_at {d : Cfg} {id : Int} {L : List Cel} {pg : Pg} (h : PageAt d id L pg) : pgOf d id L = pg := by
  have hl : leftOf d (getC L (d.node id 1)) = pg.sl.length := by
    have := h.le
    unfold leftOf
    rw [h.n, Int.min_eq_left this]
    omega
  obtain ⟨lev, sl, hi, la, ri⟩ := pg
  have h1 := h.lev; have h2 := h.hi; have h3 := h.la; have h4 := h.ri
  simp only at h1 h2 h3 h4 hl
  unfold pgOf
  rw [h1, h2, h3, h4, hl]
  congr 1
  apply List.ext_getElem?
  intro i
  rw [List.getElem?_map]
  rcases Nat.lt_or_ge i sl.length with hi | hi
  · rw [List.getElem?_range hi]
    obtain ⟨e1, e2⟩ := h.sl i sl[i] (List.getElem?_eq_getElem hi)
    rw [List.getElem?_eq_getElem hi]
    simp only [Option.map_some, slOf, e1, e2]
  · rw [List.getElem?_eq_none (by simpa using hi), List.getElem?_eq_none hi]; rfl

def celO (o : Option Value) (c : Cel) : Array Value := match o with
  | some _ => #[.int .u64 c.n, .string c.k, .int .u64 c.m]
  | none => #[.int .u64 0, .string ⟨#[]⟩, .int .u64 0]
/-- While head and high are fetched. -/
def PkR (K : Know) (REST : List Comp) (c1 c2 : Cel) (ρ : Nat → Option Value) (W : World) : Prop :=
  ∃ b7 b8 : Nat, (∀ v, ρ 10 = some v → v = .pointer (some ⟨b7, 0, none⟩)) ∧ (∀ v, ρ 11 = some v → v = .pointer (some ⟨b8, 0, none⟩)) ∧
    St K W (optC (ρ 10) (blk b7 (.cells (celO (ρ 12) c1) 63)) :: optC (ρ 11) (blk b8 (.cells (celO (ρ 13) c2) 63)) :: REST)
section
variable {K : Know} {W : World} {REST : List Comp} {c1 c2 : Cel} {ρ : Nat → Option Value} {v10 v11 : Value}
theorem PkR.start (hs : St K W REST) : PkR K REST c1 c2 (fun _ => none) W :=
  ⟨0, 0, fun v h => (by cases h), fun v h => (by cases h), hs.empty.empty⟩
theorem PkR.same {W' : World} (h : PkR K REST c1 c2 ρ W) (hb : Below W.heap.size W W') : PkR K REST c1 c2 ρ W' := by
  obtain ⟨b7, b8, e1, e2, hs⟩ := h
  exact ⟨b7, b8, e1, e2, hs.same hb⟩
theorem PkR.rest (h : PkR K REST c1 c2 ρ W) : St K W REST := by
  obtain ⟨b7, b8, e1, e2, hs⟩ := h
  exact hs.tail.tail
theorem PkR.e10 (h : PkR K REST c1 c2 ρ W) (h10 : ρ 10 = none) (h12 : ρ 12 = none) : PkR K REST c1 c2 (upd ρ 10 (.pointer (some ⟨W.heap.size, 0, none⟩))) (W.alloc (.cells #[.int .u64 0, .string ⟨#[]⟩, .int .u64 0] 63)) := by
  obtain ⟨b7, b8, e1, e2, hs⟩ := h
  rw [h10] at hs
  refine ⟨W.heap.size, b8, fun v hv => (Option.some.inj hv).symm, e2, ?_⟩
  show St K _ (blk _ (.cells (celO (ρ 12) c1) _) :: optC (ρ 11) _ :: REST)
  rw [h12]
  exact hs.tail.made _
theorem PkR.last (h : PkR K REST c1 c2 ρ W) (hall : ∀ e, e ∈ [10, 11, 12, 13] → (ρ e).isSome = true) : ∃ b7 b8 : Nat, ρ 10 = some (.pointer (some ⟨b7, 0, none⟩)) ∧ ρ 11 = some (.pointer (some ⟨b8, 0, none⟩)) ∧ (∃ v, ρ 12 = some v) ∧ (∃ v, ρ 13 = some v) ∧
    St K W (blk b7 (.cells #[.int .u64 c1.n, .string c1.k, .int .u64 c1.m] 63) :: blk b8 (.cells #[.int .u64 c2.n, .string c2.k, .int .u64 c2.m] 63) :: REST) := by
  obtain ⟨b7, b8, e1, e2, hs⟩ := h
  have g : ∀ e, e ∈ [10, 11, 12, 13] → ∃ v, ρ e = some v := fun e he => Option.isSome_iff_exists.1 (hall e he)
  obtain ⟨v10, h10⟩ := g 10 (by simp)
  obtain ⟨v11, h11⟩ := g 11 (by simp)
  obtain ⟨v12, h12⟩ := g 12 (by simp)
  obtain ⟨v13, h13⟩ := g 13 (by simp)
  rw [h10, h11, h12, h13] at hs
  exact ⟨b7, b8, by rw [h10, e1 v10 h10], by rw [h11, e2 v11 h11], ⟨v12, h12⟩, ⟨v13, h13⟩, hs⟩
end

section
variable {K : Know} {w : World} {F : List Comp} {bm bc acc : Nat} {L : List Cel} {d : Cfg} {id : Int}
end
end Go.Proofs.YtlpdhhhgckpcfaaGreat

namespace Go.Proofs.YtlpdhhhgckpcfaaGreat
open Go.RowKit
set_option maxRecDepth 100000
/-- The cells of a view. -/
structure VAt (w : World) (g : Nat) (L : List Cel) : Prop where
  lt : g < w.heap.size
  len : L.length ≤ 1000000
  cell : ∀ (i : Nat) (c : Cel), L[i]? = some c → w.cell? ⟨g, i * 3, none⟩ = some (.int .u64 c.n) ∧ w.cell? ⟨g, i * 3 + 1, none⟩ = some (.string c.k) ∧ w.cell? ⟨g, i * 3 + 2, none⟩ = some (.int .u64 c.m)
theorem VAt.same {w w' : World} {g : Nat} {L : List Cel} (h : VAt w g L) (hb : Below w.heap.size w w') : VAt w' g L :=
  ⟨Nat.lt_of_lt_of_le h.lt hb.size, h.len, fun i c hc => by
    have := h.cell i c hc
    rw [hb.cell (p := ⟨g, _, none⟩) h.lt, hb.cell (p := ⟨g, _, none⟩) h.lt, hb.cell (p := ⟨g, _, none⟩) h.lt]
    exact this⟩
theorem vat_res (tmps : Array Value) (w : World) (b : Nat) (v0 v1 v2 : Value) (hp : tmps[4]? = some (.pointer (some ⟨b, 0, none⟩))) (hk : ∀ k, w.cell? ⟨b, k, none⟩ = (#[v0, v1, v2] : Array Value)[k]?) :
    (results Tryz.f83 tmps).run Tryz.prog w = .ok (.agg #[v0, v1, v2]) w := by
  simp [results, Tryz.results83, go_sem, hp, hk]
section
variable {d : Cfg} {g : Nat} {L : List Cel}
set_option maxHeartbeats 1000000 in
theorem viewAt_any (i : Int) (w : World) (hv : VAt w g L) :
    Calls Tryz.prog 83 #[.agg #[.int .i64 (d).th, .int .i64 (d).sn, .int .i64 (d).no, .int .i64 (d).ch, .int .i64 (d).re, .int .i64 (d).fa, .int .u64 (d).cl, .slice (some ⟨g, 0, none⟩) L.length L.length], .int .i64 i] w fun e w' => e = .returned (.agg #[.int .u64 (getC L i).n, .string (getC L i).k, .int .u64 (getC L i).m]) ∧ Below w.heap.size w w' := by
  have hs := (St.start w).made (.cells #[.int .i64 (d).th, .int .i64 (d).sn, .int .i64 (d).no, .int .i64 (d).ch, .int .i64 (d).re, .int .i64 (d).fa, .int .u64 (d).cl, .slice (some ⟨g, 0, none⟩) L.length L.length] 52)
  have hl := hv.len
  obtain ⟨n, hn⟩ : ∃ n, n = L.length := ⟨_, rfl⟩
  by_cases h0 : i < 0
  · have e : getC L i = Cel.zero := getC_neg h0
    rw [e]
    show Calls Tryz.prog 83 #[.agg #[.int .i64 (d).th, .int .i64 (d).sn, .int .i64 (d).no, .int .i64 (d).ch, .int .i64 (d).re, .int .i64 (d).fa, .int .u64 (d).cl, .slice (some ⟨g, 0, none⟩) L.length L.length], .int .i64 i] w fun e w' => e = .returned (.agg #[.int .u64 0, .string ⟨#[]⟩, .int .u64 0]) ∧ Below w.heap.size w w'
    rw [← hn] at hs hl ⊢
    clear e hn hv
    have hs := hs.made (.cells #[.int .u64 0, .string ⟨#[]⟩, .int .u64 0] 63)
    simp only [World.size_alloc] at hs
    go_enter Tryz.func83, Tryz.ntmps83
    go_wp2
    refine bodyPost_ret (vat_res _ _ (w.heap.size + 1) _ _ _ rfl hs.k0) rfl ⟨rfl, hs.below (Know.Le.refl _)⟩
  · by_cases h1 : i < n
    · obtain ⟨k, rfl⟩ : ∃ k : Nat, i = k := ⟨i.toNat, by omega⟩
      obtain ⟨c, hc⟩ : ∃ c, L[k]? = some c := ⟨_, List.getElem?_eq_getElem (by omega)⟩
      have e : getC L k = c := by unfold getC; rw [if_pos (by omega), show (k : Int).toNat = k by omega, hc]; rfl
      rw [e]
      obtain ⟨c0, c1, c2⟩ := hv.cell k c hc
      have hlt := hv.lt
      rw [← hn] at hs hl ⊢
      clear e hn hv hc
      have hs := hs.made (.cells #[.int .u64 c.n, .string c.k, .int .u64 c.m] 63)
      simp only [World.size_alloc] at hs
      go_enter Tryz.func83, Tryz.ntmps83
      go_wp2
      refine bodyPost_ret (vat_res _ _ (w.heap.size + 1) _ _ _ rfl hs.k0) rfl ⟨rfl, hs.below (Know.Le.refl _)⟩
    · have e : getC L i = Cel.zero := by
        unfold getC
        rw [if_pos (by omega), List.getElem?_eq_none (by omega)]; rfl
      rw [e]
      show Calls Tryz.prog 83 #[.agg #[.int .i64 (d).th, .int .i64 (d).sn, .int .i64 (d).no, .int .i64 (d).ch, .int .i64 (d).re, .int .i64 (d).fa, .int .u64 (d).cl, .slice (some ⟨g, 0, none⟩) L.length L.length], .int .i64 i] w fun e w' => e = .returned (.agg #[.int .u64 0, .string ⟨#[]⟩, .int .u64 0]) ∧ Below w.heap.size w w'
      rw [← hn] at hs hl ⊢
      clear e hn hv
      have hs := hs.made (.cells #[.int .u64 0, .string ⟨#[]⟩, .int .u64 0] 63)
      simp only [World.size_alloc] at hs
      go_enter Tryz.func83, Tryz.ntmps83
      go_wp2
      refine bodyPost_ret (vat_res _ _ (w.heap.size + 1) _ _ _ rfl hs.k0) rfl ⟨rfl, hs.below (Know.Le.refl _)⟩
theorem vpart_res (tmps : Array Value) (w : World) (b : Nat) (v0 v1 v2 : Value) (hp : tmps[6]? = some (.pointer (some ⟨b, 0, none⟩))) (hk : ∀ k, w.cell? ⟨b, k, none⟩ = (#[v0, v1, v2] : Array Value)[k]?) :
    (results Tryz.f87 tmps).run Tryz.prog w = .ok (.agg #[v0, v1, v2]) w := by
  simp [results, Tryz.results87, go_sem, hp, hk]
set_option maxHeartbeats 1000000 in
theorem viewPart_any (hd : d.Ok) (id k : Int) (hid : 0 ≤ id ∧ id < 18446744073709551616) (hk : 0 ≤ k ∧ k < d.fa + 4) (w : World) (hv : VAt w g L) :
    Calls Tryz.prog 87 #[.agg #[.int .i64 (d).th, .int .i64 (d).sn, .int .i64 (d).no, .int .i64 (d).ch, .int .i64 (d).re, .int .i64 (d).fa, .int .u64 (d).cl, .slice (some ⟨g, 0, none⟩) L.length L.length], .int .u64 id, .int .i64 k] w fun e w' => e = .returned (.agg #[.int .u64 (getC L (d.node id k)).n, .string (getC L (d.node id k)).k, .int .u64 (getC L (d.node id k)).m]) ∧ Below w.heap.size w w' := by
  have hs := (St.start w).made (.cells #[.int .i64 (d).th, .int .i64 (d).sn, .int .i64 (d).no, .int .i64 (d).ch, .int .i64 (d).re, .int .i64 (d).fa, .int .u64 (d).cl, .slice (some ⟨g, 0, none⟩) L.length L.length] 52)
  have hs := hs.made (.cells #[.int .u64 0, .string ⟨#[]⟩, .int .u64 0] 63)
  simp only [World.size_alloc] at hs
  have Q1 := Lib.hid (fun w => refNode_any d hd id k hid.1 hid.2 hk.1 hk.2 w)
  have Q2 := Lib.hid (fun W (hb : Below w.heap.size w W) => viewAt_any (d := d) (d.node id k) W (hv.same hb))
  generalize getC L (d.node id k) = c at *
  generalize L.length = n at *
  clear hv
  go_enter Tryz.func87, Tryz.ntmps87
  go_upto_region 1 with (fail)
  have k1 := hs.k1
  have hb0 := hs.below (Know.Le.refl _)
  have Hb0 := Lib.hid hb0
  clear hb0
  refine region_tail 7 (by kernel_rfl) (by as_aux_lemma => kernel_rfl) ?_
  have Qy := Lib.hid (fun wz (hy : ∃ x : Ext, wz = over ((w.alloc (.cells #[.int .i64 (d).th, .int .i64 (d).sn, .int .i64 (d).no, .int .i64 (d).ch, .int .i64 (d).re, .int .i64 (d).fa, .int .u64 (d).cl, .slice (some ⟨g, 0, none⟩) n n] 52)).alloc (.cells #[.int .u64 0, .string ⟨#[]⟩, .int .u64 0] 63)) x) => Q2.out wz (Hb0.out.trans ((Pure.below hy).mono Hb0.out.size)))
  simp only [List.take_succ_cons, List.take_zero, List.drop_succ_cons, List.drop_zero]
  repeat (go_big_quiet_step (first | (go_at_call 21; exact pure_of (Q1.out _)) | (go_at_call 83; exact pure_of (Qy.out _ ⟨_, rfl⟩))))
  refine wpQuiet_nil ?_
  intro w3 hb3
  have hs := hs.same hb3
  clear k1 hb3
  have f0 := hs.f0
  have k0 := hs.k0
  have hs := ((hs.setL 0 (.int .u64 c.n)).setL 1 (.string c.k)).setL 2 (.int .u64 c.m)
  simp only [List.set_cons_zero, List.set_cons_succ] at hs
  go_wp2
  refine bodyPost_ret (vpart_res _ _ (w.heap.size + 1) _ _ _ rfl hs.k0) rfl ⟨rfl, hs.below (Know.Le.refl _)⟩
end
end Go.Proofs.YtlpdhhhgckpcfaaGreat

namespace Go.Proofs.YtlpdhhhgckpcfaaGreat
open Go.RowKit
set_option maxRecDepth 100000
theorem vpage_res (tmps : Array Value) (w : World) (b : Nat) (v0 v1 v2 v3 v4 : Value) (hp : tmps[4]? = some (.pointer (some ⟨b, 0, none⟩))) (hk : ∀ k, w.cell? ⟨b, k, none⟩ = (#[v0, v1, v2, v3, v4] : Array Value)[k]?) :
    (results Tryz.f28 tmps).run Tryz.prog w = .ok (.agg #[v0, v1, v2, v3, v4]) w := by
  simp [results, Tryz.results28, go_sem, hp, hk]
theorem St.row_eq {K : Know} {w : World} {F : List Comp} {v : Value} {T : TypeId} {size n : Nat} {xs ys : List Value} (h : St K w (rowC v T size n xs :: F)) (e : xs = ys) : St K w (rowC v T size n ys :: F) := by subst e; exact h
section
variable {K : Know} {w : World} {F : List Comp} {d : Cfg} {g : Nat} {L : List Cel} {id : Int} {pg : Pg}
theorem vat_of {W : World} {cs : List Comp} (hg : K.map g = some (.cells (flat L).toArray 63)) (hl : L.length ≤ 1000000) (hs : St K W cs) : VAt W g L := by
  have hk := hs.know g _ hg
  refine ⟨blk_lt hk, hl, fun i c hc => ?_⟩
  obtain ⟨r0, r1, r2⟩ := flat_at L i c hc
  have k := blk_cell hk
  exact ⟨by rw [k]; simpa using r0, by rw [k]; simpa using r1, by rw [k]; simpa using r2⟩
set_option maxHeartbeats 8000000 in
theorem viewPage_st (hd : d.Ok) (h1 : 1 ≤ id) (h2 : id ≤ d.no) (hp : PageAt d id L pg) (hg : K.map g = some (.cells (flat L).toArray 63)) (hl : L.length ≤ 1000000) (hs : St K w F) :
    Calls Tryz.prog 28 #[.agg #[.int .i64 (d).th, .int .i64 (d).sn, .int .i64 (d).no, .int .i64 (d).ch, .int .i64 (d).re, .int .i64 (d).fa, .int .u64 (d).cl, .slice (some ⟨g, 0, none⟩) L.length L.length], .int .u64 id] w fun e w' => ∃ va, e = .returned (.agg #[.int .i64 (pg).lev, va, .string (pg).hi, .bool (pg).la, .int .u64 (pg).ri]) ∧ St K w' (rowC va 69 2 pg.sl.length (slRow pg.sl) :: F) := by
  have f1 := hd.fa1
  have f2 := hd.fa2
  have hno := hd.no2
  have hid : 0 ≤ id ∧ id < 18446744073709551616 := by omega
  have hpos := (node_in hd h1 h2 (k := 0) (by omega) (by omega)).2.1
  have hle := hp.le
  obtain ⟨n, hn⟩ : ∃ n, n = pg.sl.length := ⟨_, rfl⟩
  obtain ⟨nl, hnl⟩ : ∃ nl, nl = L.length := ⟨_, rfl⟩
  obtain ⟨c1, hc1⟩ : ∃ c, c = getC L (d.node id 1) := ⟨_, rfl⟩
  obtain ⟨cf, hcf⟩ : ∃ cf : Int → Cel, cf = fun k => getC L (d.node id k) := ⟨_, rfl⟩
  have hc2 : cf 2 = getC L (d.node id 2) := by rw [hcf]
  have hc3 : cf 3 = getC L (d.node id 3) := by rw [hcf]
  have hpg : pg = ⟨wrap64 c1.m, pg.sl, (cf 2).k, ((cf 2).m == 1), (cf 3).n⟩ := by
    obtain ⟨lev, sl, hi, la, ri⟩ := pg
    have e1 := hp.lev; have e2 := hp.hi; have e3 := hp.la; have e4 := hp.ri
    rw [← hc1] at e1; rw [← hc2] at e2 e3; rw [← hc3] at e4
    simp only at e1 e2 e3 e4 ⊢
    rw [e1, e2, e4, ← e3]
    rfl
  have hn1 : c1.n = n := by rw [hc1, hn]; exact hp.n
  have hw : ∀ k : Int, 0 ≤ k → k < d.fa + 4 → ∀ W cs, St K W cs → Calls Tryz.prog 87 #[.agg #[.int .i64 (d).th, .int .i64 (d).sn, .int .i64 (d).no, .int .i64 (d).ch, .int .i64 (d).re, .int .i64 (d).fa, .int .u64 (d).cl, .slice (some ⟨g, 0, none⟩) nl nl], .int .u64 id, .int .i64 k] W fun e w' => e = .returned (.agg #[.int .u64 (getC L (d.node id k)).n, .string (getC L (d.node id k)).k, .int .u64 (getC L (d.node id k)).m]) ∧ Below W.heap.size W w' := fun k k0 k1 W cs h => by
    rw [hnl]; exact viewPart_any hd id k hid ⟨k0, k1⟩ W (vat_of hg hl h)
  have q1 := fun W cs h => hw 1 (by omega) (by omega) W cs h
  have q2 : ∀ k : Int, 2 ≤ k → k ≤ 3 → ∀ W cs, St K W cs → Calls Tryz.prog 87 #[.agg #[.int .i64 (d).th, .int .i64 (d).sn, .int .i64 (d).no, .int .i64 (d).ch, .int .i64 (d).re, .int .i64 (d).fa, .int .u64 (d).cl, .slice (some ⟨g, 0, none⟩) nl nl], .int .u64 id, .int .i64 k] W fun e w' => e = .returned (.agg #[.int .u64 (cf k).n, .string (cf k).k, .int .u64 (cf k).m]) ∧ Below W.heap.size W w' := fun k a b W cs h => by rw [hcf]; exact hw k (by omega) (by omega) W cs h
  have qs : ∀ i : Nat, i < n → ∃ s : Sl, ∃ m : Int, pg.sl[i]? = some s ∧ ∀ W cs, St K W cs → Calls Tryz.prog 87 #[.agg #[.int .i64 (d).th, .int .i64 (d).sn, .int .i64 (d).no, .int .i64 (d).ch, .int .i64 (d).re, .int .i64 (d).fa, .int .u64 (d).cl, .slice (some ⟨g, 0, none⟩) nl nl], .int .u64 id, .int .i64 (4 + (i : Int))] W fun e w' => e = .returned (.agg #[.int .u64 s.r, .string s.k, .int .u64 m]) ∧ Below W.heap.size W w' := fun i hi => by
    obtain ⟨s, hsl⟩ : ∃ s, pg.sl[i]? = some s := ⟨_, List.getElem?_eq_getElem (by omega)⟩
    obtain ⟨e1, e2⟩ := hp.sl i s hsl
    have es : d.slot id i = d.node id (4 + (i : Int)) := by
      unfold Cfg.slot
      rw [if_pos ⟨by omega, by omega⟩]
    rw [es] at e1 e2
    refine ⟨s, (getC L (d.node id (4 + (i : Int)))).m, hsl, fun W cs h => ?_⟩
    have := hw (4 + (i : Int)) (by omega) (by omega) W cs h
    rw [e1, e2] at this
    exact this
  have Qs := Lib.hid qs
  rw [← hc1, hn1] at q1
  have Q1 := Lib.hid q1
  have Q2 := Lib.hid q2
  have Ql := Lib.hid (fun w => refNode_any d hd id 0 hid.1 hid.2 (by omega) (by omega) w)
  have Hpg := Lib.hid hpg
  have Hn := Lib.hid hn
  obtain ⟨j0, hj0⟩ : ∃ j, j = d.node id 0 := ⟨_, rfl⟩
  rw [← hj0] at Ql hpos
  rw [← hn] at hle ⊢
  rw [← hnl]
  clear hw q1 q2 qs hc1 hc2 hc3 hcf hn1 hpg hn hnl hj0 hp hg hl h1 h2 hno
  obtain ⟨i64, hiv0, hiv1, hiv2, hiv3⟩ := info_parts infoSlot
  have Hi0 := Lib.hid hiv0
  have Hi1 := Lib.hid hiv1
  have Hi2 := Lib.hid hiv2
  have Hi3 := Lib.hid hiv3
  clear hiv0 hiv1 hiv2 hiv3
  have hs := (hs.made (.cells #[.int .i64 (d).th, .int .i64 (d).sn, .int .i64 (d).no, .int .i64 (d).ch, .int .i64 (d).re, .int .i64 (d).fa, .int .u64 (d).cl, .slice (some ⟨g, 0, none⟩) nl nl] 52)).made (.cells #[.int .i64 0, .slice none 0 0, .string ⟨#[]⟩, .bool false, .int .u64 0] 43)
  rw [World.size_alloc] at hs
  have kv := hs.k1
  go_enter Tryz.func28, Tryz.ntmps28
  go_wp2_with fail
  refine (calls_same hs (Ql.out _)).mono ?_
  clear hs kv
  generalize w.heap.size = b0
  rintro e w1 ⟨rfl, hs⟩
  have kv := hs.k1
  go_wp2_with fail
  refine (calls_same hs (Q1.out _ _ hs)).mono ?_
  clear hs kv
  rintro e w2 ⟨rfl, hs⟩
  have hs := hs.made (.cells #[.int .u64 n, .string c1.k, .int .u64 c1.m] 63)
  obtain ⟨b5, hb5⟩ : ∃ b, b = w2.heap.size := ⟨_, rfl⟩
  go_upto_region 4 with (fail)
  rw [← hb5] at hs ⊢
  clear hb5
  have Hs := Lib.hid hs
  clear hs
  refine region_two [false, false, false, false, false, false, false, false, false, false, false, false, false, false, false, false, false, true, true] 17 18
    (fun W => St K W (blk b5 (.cells #[.int .u64 n, .string c1.k, .int .u64 c1.m] 63) :: blk (b0 + 1) (.cells #[.int .i64 0, .slice none 0 0, .string ⟨#[]⟩, .bool false, .int .u64 0] 43) :: blk b0 (.cells #[.int .i64 (d).th, .int .i64 (d).sn, .int .i64 (d).no, .int .i64 (d).ch, .int .i64 (d).re, .int .i64 (d).fa, .int .u64 (d).cl, .slice (some ⟨g, 0, none⟩) nl nl] 52) :: F))
    (fun v W => ∃ b6 : Nat, v = (.pointer (some ⟨b6, 0, none⟩)) ∧ St K W (blk b6 (.cells #[.int .i64 0, .slice none 0 0, .string ⟨#[]⟩, .bool false, .int .u64 0] 43) :: blk b5 (.cells #[.int .u64 n, .string c1.k, .int .u64 c1.m] 63) :: blk (b0 + 1) (.cells #[.int .i64 0, .slice none 0 0, .string ⟨#[]⟩, .bool false, .int .u64 0] 43) :: blk b0 (.cells #[.int .i64 (d).th, .int .i64 (d).sn, .int .i64 (d).no, .int .i64 (d).ch, .int .i64 (d).re, .int .i64 (d).fa, .int .u64 (d).cl, .slice (some ⟨g, 0, none⟩) nl nl] 52) :: F))
    (fun v u W => u = undef ∧ ∃ b6 : Nat, v = (.pointer (some ⟨b6, 0, none⟩)) ∧ St K W (blk b6 (.cells #[.int .i64 (wrap64 c1.m), .slice none 0 0, .string (cf 2).k, .bool ((cf 2).m == 1), .int .u64 (cf 3).n] 43) :: blk b5 (.cells #[.int .u64 n, .string c1.k, .int .u64 c1.m] 63) :: blk (b0 + 1) (.cells #[.int .i64 0, .slice none 0 0, .string ⟨#[]⟩, .bool false, .int .u64 0] 43) :: blk b0 (.cells #[.int .i64 (d).th, .int .i64 (d).sn, .int .i64 (d).no, .int .i64 (d).ch, .int .i64 (d).re, .int .i64 (d).fa, .int .u64 (d).cl, .slice (some ⟨g, 0, none⟩) nl nl] 52) :: F))
    (fun W => ∃ cs, St K W (blk b5 (.cells #[.int .u64 n, .string c1.k, .int .u64 c1.m] 63) :: blk (b0 + 1) (.cells #[.int .i64 0, .slice none 0 0, .string ⟨#[]⟩, .bool false, .int .u64 0] 43) :: blk b0 (.cells #[.int .i64 (d).th, .int .i64 (d).sn, .int .i64 (d).no, .int .i64 (d).ch, .int .i64 (d).re, .int .i64 (d).fa, .int .u64 (d).cl, .slice (some ⟨g, 0, none⟩) nl nl] 52) :: cs)) ?aS (by decide) (by kernel_rfl) ?hB ?H ?haS Hs.out ?hI ?hR ?hE1 ?hE2 ?hQ
  case hB => as_aux_lemma => kernel_rfl
  case H =>
    rintro W2 ⟨cs, hs⟩
    have k5 := hs.k0
    have kv := hs.k2
    have Q2y := Lib.hid (fun wz (hy : ∃ x : Ext, wz = over W2 x) (k : Int) (ka : 2 ≤ k) (kb : k ≤ 3) => Q2.out k ka kb wz _ (hs.same (Pure.below hy)))
    clear hs
    simp only [withM]
    repeat (go_big_quiet_step ((go_at_call 87; exact pure_of (Q2y.out _ ⟨_, rfl⟩ _ (by omega) (by omega)))))
    refine wpQuiet_nil ?_
    rfl
  case haS => rfl
  case hI => exact ⟨fun W h => ⟨_, h⟩, fun v W ⟨_, _, h⟩ => ⟨_, h.tail⟩, fun v u W ⟨_, _, _, h⟩ => ⟨_, h.tail⟩⟩
  case hR => exact ⟨fun W W' h hb => h.same hb, fun v W W' ⟨b, e, h⟩ hb => ⟨b, e, h.same hb⟩, fun v u W W' ⟨e0, b, e, h⟩ hb => ⟨e0, b, e, h.same hb⟩⟩
  case hE1 =>
    intro R2' o ho ρ W2 hs hk af haf
    obtain rfl := Option.some.inj ho
    subst haf
    have Hk := Lib.hid hk
    clear hk
    have hs := hs.made (.cells #[.int .i64 0, .slice none 0 0, .string ⟨#[]⟩, .bool false, .int .u64 0] 43)
    go_wp2
    exact ⟨rfl, _, rfl, Hk.out _ _ ⟨_, rfl, hs⟩⟩
  case hE2 =>
    rintro R2' o ho ρ v W2 ⟨b6, rfl, hs⟩ hk af haf
    obtain rfl := Option.some.inj ho
    have Hk := Lib.hid hk
    clear hk
    simp only [dstAt, List.getElem?_cons_succ, List.getElem?_cons_zero, Option.bind_some, Act.put, List.setIfInBounds_toArray, List.set_cons_zero, List.set_cons_succ] at haf
    subst haf
    have k0 := hs.k0
    have f0 := hs.f0
    have hs := ((((hs.setL 0 (.int .i64 (wrap64 c1.m))).setL 1 (.slice none 0 0)).setL 2 (.string (cf 2).k)).setL 3 (.bool ((cf 2).m == 1))).setL 4 (.int .u64 (cf 3).n)
    simp only [List.set_cons_zero, List.set_cons_succ] at hs
    go_wp2
    exact ⟨rfl, undef, rfl, Hk.out _ _ ⟨rfl, b6, rfl, hs⟩⟩
  case hQ =>
    rintro v u W2 ⟨rfl, b6, rfl, hs⟩
    simp only [dstAt, List.getElem?_cons_succ, List.getElem?_cons_zero, Option.bind_some, Option.bind_none, Act.put, List.setIfInBounds_toArray, List.set_cons_zero, List.set_cons_succ]
    have hs := hs.row_nil (T := 69) (size := 2)
    go_wp2
    go_loopw [7, 8] (fun v7 _ wr => ∃ (i : Nat) (a : Option Addr) (co : Nat), v7 = .int .i64 i ∧ i ≤ n ∧ St K wr (rowC (.slice a i co) 69 2 i (slRow (pg.sl.take i)) :: blk b6 (.cells #[.int .i64 (wrap64 c1.m), .slice a i co, .string (cf 2).k, .bool ((cf 2).m == 1), .int .u64 (cf 3).n] 43) :: blk b5 (.cells #[.int .u64 n, .string c1.k, .int .u64 c1.m] 63) :: blk (b0 + 1) (.cells #[.int .i64 0, .slice none 0 0, .string ⟨#[]⟩, .bool false, .int .u64 0] 43) :: blk b0 (.cells #[.int .i64 (d).th, .int .i64 (d).sn, .int .i64 (d).no, .int .i64 (d).ch, .int .i64 (d).re, .int .i64 (d).fa, .int .u64 (d).cl, .slice (some ⟨g, 0, none⟩) nl nl] 52) :: F)) (fun v7 _ _ => n - (intOf v7).toNat)
    case atStart => exact ⟨0, none, 0, rfl, by omega, hs⟩
    case round =>
      clear hs
      obtain ⟨i, a, co, rfl, hi, hs⟩ := hrel
      by_cases hin : i < n
      · obtain ⟨s, m, hsl, hq⟩ := Qs.out i hin
        have kp := hs.k1
        have k5 := hs.k2
        have kv := hs.b4.k0
        have hq2 := hq _ _ hs
        have HQ := Lib.hid hq2
        have hpush : pg.sl.take (i + 1) = pg.sl.take i ++ [s] := by rw [List.take_add_one, hsl]; rfl
        have Hpush := Lib.hid hpush
        have hif : (i : Int) < d.fa := by omega
        clear hq hq2 hsl hpush
        go_wp2_with fail
        refine (calls_same hs HQ.out).mono ?_
        clear hs kp k5 kv HQ
        rintro e w4 ⟨rfl, hs⟩
        have hs := hs.made (.cells #[.int .u64 s.r, .string s.k, .int .u64 m] 63)
        go_upto_region 9 with (fail)
        refine wp_ck hs ?_
        generalize w4.heap.size = b8 at *
        clear hs
        intro W hs
        have k8 := hs.k0
        have kp := hs.k2
        have hs := hs.b1
        go_wp2_with (at_builtin; refine append_st _ _ 41 69 _ i 2 24 _ (slCells s) (.agg #[.string ⟨#[]⟩, .int .u64 0]) i64 hs rfl rfl Tryz.underlying41 Hi0.out Hi1.out Hi2.out Hi3.out rfl (by decide) rfl rfl rfl (fun u hu => by simp [slCells] at hu; rcases hu with rfl | rfl <;> rfl) (by omega) (by decide) ?_)
        clear hs k8 kp
        intro v' w' hs
        obtain ⟨ao2, co2, hv, _, _⟩ := hs.row_read
        subst hv
        have hs := hs.drop1.b1
        have kp := hs.k0
        have fp := hs.f0
        have hs := hs.setL 1 (.slice ao2 (i + 1) co2)
        simp only [List.set_cons_zero, List.set_cons_succ] at hs
        go_wp2
        go_roundw
        case rel => exact ⟨i + 1, ao2, co2, by go_num, by omega, by rw [Hpush.out]; unfold slRow; rw [List.flatMap_append]; exact (show St K _ (rowC _ _ _ _ (slRow (pg.sl.take i) ++ slCells s) :: _) from hs.b1).row_eq (by simp [slRow])⟩
        case measure => simp [intOf]; omega
      · obtain rfl : i = n := by omega
        rw [List.take_of_length_le (by rw [← Hn.out]; exact Nat.le_refl _)] at hs
        have k5 := hs.k2
        have kp := hs.k1
        have hs := hs.b3
        have k4 := hs.k0
        have f4 := hs.f0
        have hs := ((((hs.setL 0 (.int .i64 (wrap64 c1.m))).setL 1 (.slice a i co)).setL 2 (.string (cf 2).k)).setL 3 (.bool ((cf 2).m == 1))).setL 4 (.int .u64 (cf 3).n)
        simp only [List.set_cons_zero, List.set_cons_succ] at hs
        have hif : ¬ (i : Int) < i := by omega
        go_wp2
        refine bodyPost_ret (vpage_res _ _ (b0 + 1) _ _ _ _ _ rfl hs.k0) rfl ⟨_, by rw [Hpg.out], ?_⟩
        exact (hs.re [1, 0, 2, 3, 4] rfl).drop1.drop1.drop1.drop1
end
end Go.Proofs.YtlpdhhhgckpcfaaGreat

namespace Go.Proofs.YtlpdhhhgckpcfaaGreat
open Go.RowKit
set_option maxRecDepth 100000
section
variable {K : Know} {w : World} {F : List Comp} {d : Cfg} {g : Nat} {L : List Cel}
set_option maxHeartbeats 1000000 in
theorem viewNode_st (hd : d.Ok) (id : Int) (hid : 0 ≤ id ∧ id < 18446744073709551616) (hg : K.map g = some (.cells (flat L).toArray 63)) (hl : L.length ≤ 1000000) (hs : St K w F) :
    Calls Tryz.prog 82 #[.agg #[.int .i64 (d).th, .int .i64 (d).sn, .int .i64 (d).no, .int .i64 (d).ch, .int .i64 (d).re, .int .i64 (d).fa, .int .u64 (d).cl, .slice (some ⟨g, 0, none⟩) L.length L.length], .int .u64 id] w fun e w' => e = .returned (.bool (decide (1 ≤ id ∧ id ≤ d.no ∧ id ≤ (getC L 4).n))) ∧ St K w' F := by
  have hno1 := hd.no1
  have hno2 := hd.no2
  have hs := hs.made (.cells #[.int .i64 (d).th, .int .i64 (d).sn, .int .i64 (d).no, .int .i64 (d).ch, .int .i64 (d).re, .int .i64 (d).fa, .int .u64 (d).cl, .slice (some ⟨g, 0, none⟩) L.length L.length] 52)
  have Q := Lib.hid (fun W cs (h : St K W cs) => viewAt_any (d := d) 4 W (vat_of hg hl h))
  generalize L.length = n at *
  generalize getC L 4 = c at *
  have k := hs.k0
  by_cases h1 : 1 ≤ id
  · by_cases h2 : id ≤ d.no
    · rw [show decide (1 ≤ id ∧ id ≤ d.no ∧ id ≤ c.n) = decide (id ≤ c.n) by simp [h1, h2]]
      go_enter Tryz.func82, Tryz.ntmps82
      go_wp2_with fail
      refine (calls_same hs (Q.out _ _ hs)).mono ?_
      clear hs k Q
      rintro e w1 ⟨rfl, hs⟩
      go_wp2
      go_ret
      exact ⟨rfl, hs.tail⟩
    · rw [show decide (1 ≤ id ∧ id ≤ d.no ∧ id ≤ c.n) = false by simp [h2]]
      go_enter Tryz.func82, Tryz.ntmps82
      go_wp2
      go_ret
      exact ⟨rfl, hs.tail⟩
  · rw [show decide (1 ≤ id ∧ id ≤ d.no ∧ id ≤ c.n) = false by simp [h1]]
    go_enter Tryz.func82, Tryz.ntmps82
    go_wp2
    go_ret
    exact ⟨rfl, hs.tail⟩

theorem field_page0 (w : World) (lev ri : Int) (a : Option Addr) (n c : Nat) (hi : ByteArray) (la : Bool) : (Instr.field 43 (.agg #[.int .i64 lev, .slice a n c, .string hi, .bool la, .int .u64 ri]) 0).run Tryz.prog w = .ok (.int .i64 lev) w := rfl
theorem field_page2 (w : World) (lev ri : Int) (a : Option Addr) (n c : Nat) (hi : ByteArray) (la : Bool) : (Instr.field 43 (.agg #[.int .i64 lev, .slice a n c, .string hi, .bool la, .int .u64 ri]) 2).run Tryz.prog w = .ok (.string hi) w := rfl
theorem field_page4' (w : World) (lev ri : Int) (a : Option Addr) (n c : Nat) (hi : ByteArray) (la : Bool) : (Instr.field 43 (.agg #[.int .i64 lev, .slice a n c, .string hi, .bool la, .int .u64 ri]) 4).run Tryz.prog w = .ok (.int .u64 ri) w := rfl
attribute [go_sem] field_page0 field_page2 field_page4'
/-- While Height runs: the root's page (4), its level (5), one more (6), the result (7). -/
def HtR (K : Know) (pg : Pg) (REST : List Comp) (ρ : Nat → Option Value) (W : World) : Prop :=
  St K W REST ∧ (∀ v, ρ 4 = some v → ∃ (a : Option Addr) (c : Nat), v = .agg #[.int .i64 pg.lev, .slice a pg.sl.length c, .string pg.hi, .bool pg.la, .int .u64 pg.ri]) ∧ (∀ v, ρ 5 = some v → v = .int .i64 pg.lev) ∧ (∀ v, ρ 6 = some v → v = .int .i64 (pg.lev + 1)) ∧ (∀ v, ρ 7 = some v → v = .int .i64 (pg.lev + 1))
set_option maxHeartbeats 4000000 in
/-- The number of levels, at a root whose page is known. -/
theorem viewHeight_st {pg : Pg} (hd : d.Ok) (h1 : 1 ≤ (getC L 0).n) (h2 : (getC L 0).n ≤ d.no) (hp : PageAt d (getC L 0).n L pg) (hlev : 0 ≤ pg.lev ∧ pg.lev < 1000000) (hg : K.map g = some (.cells (flat L).toArray 63)) (hl : L.length ≤ 1000000) (hs : St K w F) :
    Calls Tryz.prog 26 #[.agg #[.int .i64 (d).th, .int .i64 (d).sn, .int .i64 (d).no, .int .i64 (d).ch, .int .i64 (d).re, .int .i64 (d).fa, .int .u64 (d).cl, .slice (some ⟨g, 0, none⟩) L.length L.length]] w fun e w' => e = .returned (.int .i64 (pg.lev + 1)) ∧ St K w' F := by
  have hs := hs.made (.cells #[.int .i64 (d).th, .int .i64 (d).sn, .int .i64 (d).no, .int .i64 (d).ch, .int .i64 (d).re, .int .i64 (d).fa, .int .u64 (d).cl, .slice (some ⟨g, 0, none⟩) L.length L.length] 52)
  have Q := Lib.hid (fun W cs (h : St K W cs) => viewAt_any (d := d) 0 W (vat_of hg hl h))
  have Q2 := Lib.hid (fun W cs (h : St K W cs) => viewPage_st hd h1 h2 hp hg hl h)
  generalize L.length = n at *
  generalize getC L 0 = c at *
  go_enter Tryz.func26, Tryz.ntmps26
  go_upto_region 1 with (fail)
  have Hs := Lib.hid hs
  clear hs
  refine region_effects [false, false, false, false, true, true, true, true] [4, 5, 6, 7] (fun | 5 => [4] | 6 => [5] | 7 => [6] | _ => [])
    (HtR K pg (blk w.heap.size (.cells #[.int .i64 (d).th, .int .i64 (d).sn, .int .i64 (d).no, .int .i64 (d).ch, .int .i64 (d).re, .int .i64 (d).fa, .int .u64 (d).cl, .slice (some ⟨g, 0, none⟩) n n] 52) :: F))
    (fun W => St K W (blk w.heap.size (.cells #[.int .i64 (d).th, .int .i64 (d).sn, .int .i64 (d).no, .int .i64 (d).ch, .int .i64 (d).re, .int .i64 (d).fa, .int .u64 (d).cl, .slice (some ⟨g, 0, none⟩) n n] 52) :: F)) ?aS (by kernel_rfl) ?hB ?H ?haS ?h0 ?hI ?hR ?hE ?hQ
  case hB => as_aux_lemma => kernel_rfl
  case H =>
    intro W2 hs
    have kv := hs.k0
    have Qy := Lib.hid (fun wz (hy : ∃ x : Ext, wz = over W2 x) => Q.out wz _ (hs.same (Pure.below hy)))
    clear hs
    simp only [withM]
    repeat (go_big_quiet_step ((go_at_call 83; exact pure_of (Qy.out _ ⟨_, rfl⟩))))
    refine wpQuiet_nil ?_
    rfl
  case haS => rfl
  case h0 => exact ⟨Hs.out, fun v h => (by cases h), fun v h => (by cases h), fun v h => (by cases h), fun v h => (by cases h)⟩
  case hI => exact fun ρ W2 h => h.1
  case hR => exact fun ρ W2 W3 h hb => ⟨h.1.same hb, h.2⟩
  case hE =>
    refine ⟨?e4, ?e5, ?e6, ?e7, trivial⟩
    case e4 =>
      intro o ho ρ W2 h hcl h4 hd2 af haf
      obtain rfl := Option.some.inj ho
      replace haf : af = fillD _ ρ [] _ := haf
      simp only [fillD] at haf
      subst haf
      obtain ⟨hs, q4, q5, q6, q7⟩ := h
      have H5 := Lib.hid q5
      have H6 := Lib.hid q6
      have H7 := Lib.hid q7
      clear q4 q5 q6 q7 hcl hd2
      go_wp2_with fail
      refine (Q2.out _ _ hs).mono ?_
      rintro e W3 ⟨va, rfl, hs'⟩
      obtain ⟨a, c, rfl, _, _⟩ := hs'.row_read
      go_wp2
      refine ⟨rfl, _, rfl, hs'.tail, fun v h => ⟨a, c, by simpa [upd] using h.symm⟩, fun v h => H5.out v (by simpa [upd] using h), fun v h => H6.out v (by simpa [upd] using h), fun v h => H7.out v (by simpa [upd] using h)⟩
    case e5 =>
      intro o ho ρ W2 h hcl h5 hd2 af haf
      obtain rfl := Option.some.inj ho
      replace haf : af = fillD _ ρ [4] _ := haf
      obtain ⟨v4, h4⟩ := Option.isSome_iff_exists.1 (hd2 4 (by show _ ∈ [4]; simp))
      obtain ⟨hs, q4, q5, q6, q7⟩ := h
      obtain ⟨a, c, rfl⟩ := q4 v4 h4
      simp only [fillD, h4, Option.getD_some, dstAt, List.getElem?_cons_succ, List.getElem?_cons_zero, Option.bind_some, Option.bind_none, Act.put, List.setIfInBounds_toArray, List.set_cons_zero, List.set_cons_succ] at haf
      subst haf
      have H4 := Lib.hid q4
      have H6 := Lib.hid q6
      have H7 := Lib.hid q7
      have Hs2 := Lib.hid hs
      clear q4 q5 q6 q7 hcl hd2 h4 hs
      go_wp2
      refine ⟨rfl, _, rfl, Hs2.out, fun v h => H4.out v (by simpa [upd] using h), fun v h => by simpa [upd] using h.symm, fun v h => H6.out v (by simpa [upd] using h), fun v h => H7.out v (by simpa [upd] using h)⟩
    case e6 =>
      intro o ho ρ W2 h hcl h6 hd2 af haf
      obtain rfl := Option.some.inj ho
      replace haf : af = fillD _ ρ [5] _ := haf
      obtain ⟨v5, h5⟩ := Option.isSome_iff_exists.1 (hd2 5 (by show _ ∈ [5]; simp))
      obtain ⟨hs, q4, q5, q6, q7⟩ := h
      obtain rfl := q5 v5 h5
      simp only [fillD, h5, Option.getD_some, dstAt, List.getElem?_cons_succ, List.getElem?_cons_zero, Option.bind_some, Option.bind_none, Act.put, List.setIfInBounds_toArray, List.set_cons_zero, List.set_cons_succ] at haf
      subst haf
      have H4 := Lib.hid q4
      have H5 := Lib.hid q5
      have H7 := Lib.hid q7
      have Hs2 := Lib.hid hs
      clear q4 q5 q6 q7 hcl hd2 h5 hs
      go_wp2
      refine ⟨rfl, _, rfl, Hs2.out, fun v h => H4.out v (by simpa [upd] using h), fun v h => H5.out v (by simpa [upd] using h), fun v h => by simpa [upd] using h.symm, fun v h => H7.out v (by simpa [upd] using h)⟩
    case e7 =>
      intro o ho ρ W2 h hcl h7 hd2 af haf
      obtain rfl := Option.some.inj ho
      replace haf : af = fillD _ ρ [6] _ := haf
      obtain ⟨v6, h6⟩ := Option.isSome_iff_exists.1 (hd2 6 (by show _ ∈ [6]; simp))
      obtain ⟨hs, q4, q5, q6, q7⟩ := h
      obtain rfl := q6 v6 h6
      simp only [fillD, h6, Option.getD_some, dstAt, List.getElem?_cons_succ, List.getElem?_cons_zero, Option.bind_some, Option.bind_none, Act.put, List.setIfInBounds_toArray, List.set_cons_zero, List.set_cons_succ] at haf
      subst haf
      have H4 := Lib.hid q4
      have H5 := Lib.hid q5
      have H6 := Lib.hid q6
      have Hs2 := Lib.hid hs
      clear q4 q5 q6 q7 hcl hd2 h6 hs
      go_wp2
      refine ⟨rfl, _, rfl, Hs2.out, fun v h => H4.out v (by simpa [upd] using h), fun v h => H5.out v (by simpa [upd] using h), fun v h => H6.out v (by simpa [upd] using h), fun v h => by simpa [upd] using h.symm⟩
  case hQ =>
    intro ρ W2 h hall
    obtain ⟨v4, h4⟩ := Option.isSome_iff_exists.1 (hall 4 (by simp))
    obtain ⟨v5, h5⟩ := Option.isSome_iff_exists.1 (hall 5 (by simp))
    obtain ⟨v6, h6⟩ := Option.isSome_iff_exists.1 (hall 6 (by simp))
    obtain ⟨v7, h7⟩ := Option.isSome_iff_exists.1 (hall 7 (by simp))
    obtain ⟨hs, q4, q5, q6, q7⟩ := h
    obtain ⟨a, c, rfl⟩ := q4 v4 h4
    obtain rfl := q5 v5 h5
    obtain rfl := q6 v6 h6
    obtain rfl := q7 v7 h7
    simp only [fillD, h4, h5, h6, h7, Option.getD_some, dstAt, List.getElem?_cons_succ, List.getElem?_cons_zero, Option.bind_some, Option.bind_none, Act.put, List.setIfInBounds_toArray, List.set_cons_zero, List.set_cons_succ]
    clear q4 q5 q6 q7 h4 h5 h6 h7 hall
    go_wp2
    go_ret
    exact ⟨rfl, hs.tail⟩

/-- A memory as plain data: its cells lie in a block that nobody writes. -/
theorem kview_res (tmps : Array Value) (w : World) (b : Nat) (v0 v1 v2 v3 v4 v5 v6 v7 : Value) (hp : tmps[4]? = some (.pointer (some ⟨b, 0, none⟩))) (hk : ∀ k, w.cell? ⟨b, k, none⟩ = (#[v0, v1, v2, v3, v4, v5, v6, v7] : Array Value)[k]?) :
    (results Tryz.f23 tmps).run Tryz.prog w = .ok (.agg #[v0, v1, v2, v3, v4, v5, v6, v7]) w := by
  simp [results, Tryz.results23, go_sem, hp, hk]
/-- While View runs: the row of cells (2), the view (3), its variable (4). -/
def KvR (K : Know) (d : Cfg) (L : List Cel) (b : Nat) (REST : List Comp) (ρ : Nat → Option Value) (W : World) : Prop :=
  ∃ g : Nat, (∀ v, ρ 2 = some v → v = .slice (some ⟨g, 0, none⟩) L.length L.length) ∧ (∀ v, ρ 3 = some v → v = .agg #[.int .i64 (d).th, .int .i64 (d).sn, .int .i64 (d).no, .int .i64 (d).ch, .int .i64 (d).re, .int .i64 (d).fa, .int .u64 (d).cl, .slice (some ⟨g, 0, none⟩) L.length L.length]) ∧ (∀ v, ρ 4 = some v → (ρ 3).isSome = true) ∧
    St K W (blk (b + 1) (.cells (if (ρ 4).isSome then #[.int .i64 (d).th, .int .i64 (d).sn, .int .i64 (d).no, .int .i64 (d).ch, .int .i64 (d).re, .int .i64 (d).fa, .int .u64 (d).cl, .slice (some ⟨g, 0, none⟩) L.length L.length] else #[.int .i64 0, .int .i64 0, .int .i64 0, .int .i64 0, .int .i64 0, .int .i64 0, .int .u64 0, .slice none 0 0]) 52) :: optC (ρ 2) (blk g (.cells (flat L).toArray 63)) :: blk b (.cells #[.int .i64 (d).th, .int .i64 (d).sn, .int .i64 (d).no, .int .i64 (d).ch, .int .i64 (d).re, .int .i64 (d).fa, .int .u64 (d).cl] 26) :: REST)
set_option maxHeartbeats 4000000 in
theorem kitView_st {bm bc acc : Nat} (hs : St K w (memC bm bc L acc :: F)) :
    Calls Tryz.prog 23 #[.agg #[.int .i64 (d).th, .int .i64 (d).sn, .int .i64 (d).no, .int .i64 (d).ch, .int .i64 (d).re, .int .i64 (d).fa, .int .u64 (d).cl], (.pointer (some ⟨bm, 0, none⟩))] w fun e w' => ∃ g, e = .returned (.agg #[.int .i64 (d).th, .int .i64 (d).sn, .int .i64 (d).no, .int .i64 (d).ch, .int .i64 (d).re, .int .i64 (d).fa, .int .u64 (d).cl, .slice (some ⟨g, 0, none⟩) L.length L.length]) ∧ K.Le (K.add g (.cells (flat L).toArray 63)) ∧ (K.add g (.cells (flat L).toArray 63)).map g = some (.cells (flat L).toArray 63) ∧ St (K.add g (.cells (flat L).toArray 63)) w' (memC bm bc L acc :: F) := by
  have hs := hs.made (.cells #[.int .i64 (d).th, .int .i64 (d).sn, .int .i64 (d).no, .int .i64 (d).ch, .int .i64 (d).re, .int .i64 (d).fa, .int .u64 (d).cl] 26)
  have hs := hs.made (.cells #[.int .i64 0, .int .i64 0, .int .i64 0, .int .i64 0, .int .i64 0, .int .i64 0, .int .u64 0, .slice none 0 0] 52)
  simp only [World.size_alloc] at hs
  go_enter Tryz.func23, Tryz.ntmps23
  go_upto_region 1 with (fail)
  have Hs := Lib.hid hs
  clear hs
  refine region_effects [false, false, true, true, true] [2, 3, 4] (fun | 3 => [2] | 4 => [3] | _ => [])
    (KvR K d L w.heap.size (memC bm bc L acc :: F))
    (fun W => ∃ cs, St K W (blk w.heap.size (.cells #[.int .i64 (d).th, .int .i64 (d).sn, .int .i64 (d).no, .int .i64 (d).ch, .int .i64 (d).re, .int .i64 (d).fa, .int .u64 (d).cl] 26) :: cs)) ?aS (by kernel_rfl) ?hB ?H ?haS ?h0 ?hI ?hR ?hE ?hQ
  case hB => as_aux_lemma => kernel_rfl
  case H =>
    rintro W2 ⟨cs, hs⟩
    have kv := hs.k0
    clear hs
    simp only [withM]
    repeat (go_big_quiet_step (fail))
    refine wpQuiet_nil ?_
    rfl
  case haS => rfl
  case h0 => exact ⟨0, fun v h => (by cases h), fun v h => (by cases h), fun v h => (by cases h), (Hs.out.b1.empty.b2 : St K _ (_ :: emptyC :: _))⟩
  case hI => exact fun ρ W2 ⟨g, _, _, _, hs⟩ => ⟨_, hs.b2⟩
  case hR => exact fun ρ W2 W3 ⟨g, a, b, c, hs⟩ hb => ⟨g, a, b, c, hs.same hb⟩
  case hE =>
    refine ⟨?e2, ?e3, ?e4, trivial⟩
    case e2 =>
      intro o ho ρ W2 h hcl h2 hd2 af haf
      obtain rfl := Option.some.inj ho
      replace haf : af = fillD _ ρ [] _ := haf
      have h3 : ρ 3 = none := hcl.none (by simp) (show 2 ∈ [2] by simp) h2
      have h4 : ρ 4 = none := hcl.none (by simp) (show 3 ∈ [3] by simp) h3
      simp only [fillD] at haf
      subst haf
      obtain ⟨g, q2, q3, q4, hs⟩ := h
      rw [h2, h4] at hs
      have hs := (show St K W2 (_ :: emptyC :: _ :: memC bm bc L acc :: F) from hs).drop1.b2
      have H3 := Lib.hid h3
      have H4 := Lib.hid h4
      clear q2 q3 q4 hcl hd2 h2 h3 h4
      go_wp2_with fail
      refine (kitCells_st hs).mono ?_
      rintro e W3 ⟨g', rfl, hs'⟩
      have Hs' := Lib.hid hs'
      clear hs hs'
      go_wp2
      refine ⟨rfl, _, rfl, g', fun v h => by simpa [upd] using h.symm, fun v h => ?_, fun v h => ?_, ?_⟩
      · have : ρ 3 = some v := by simpa [upd] using h
        rw [H3.out] at this; cases this
      · have : ρ 4 = some v := by simpa [upd] using h
        rw [H4.out] at this; cases this
      · have e4 : upd ρ 2 (.slice (some ⟨g', 0, none⟩) L.length L.length) 4 = none := by simp [upd, H4.out]
        have e2 : upd ρ 2 (.slice (some ⟨g', 0, none⟩) L.length L.length) 2 = some (.slice (some ⟨g', 0, none⟩) L.length L.length) := by simp [upd]
        rw [e4, e2]
        exact Hs'.out.re [2, 0, 3, 1] rfl
    case e3 =>
      intro o ho ρ W2 h hcl h3 hd2 af haf
      obtain rfl := Option.some.inj ho
      replace haf : af = fillD _ ρ [2] _ := haf
      obtain ⟨v2, h2⟩ := Option.isSome_iff_exists.1 (hd2 2 (by show _ ∈ [2]; simp))
      have h4 : ρ 4 = none := hcl.none (by simp) (show 3 ∈ [3] by simp) h3
      obtain ⟨g, q2, q3, q4, hs⟩ := h
      obtain rfl := q2 v2 h2
      simp only [fillD, h2, Option.getD_some, dstAt, List.getElem?_cons_succ, List.getElem?_cons_zero, Option.bind_some, Option.bind_none, Act.put, List.setIfInBounds_toArray, List.set_cons_zero, List.set_cons_succ] at haf
      subst haf
      have Hq2 := Lib.hid q2
      have H4 := Lib.hid h4
      have Hs2 := Lib.hid hs
      clear q2 q3 q4 hcl hd2 h2 h3 h4 hs
      go_wp2
      refine ⟨rfl, _, rfl, g, fun v h => Hq2.out v (by simpa [upd] using h), fun v h => by simpa [upd] using h.symm, fun v h => ?_, by simpa [upd] using Hs2.out⟩
      have : ρ 4 = some v := by simpa [upd] using h
      rw [H4.out] at this; cases this
    case e4 =>
      intro o ho ρ W2 h hcl h4 hd2 af haf
      obtain rfl := Option.some.inj ho
      replace haf : af = fillD _ ρ [3] _ := haf
      obtain ⟨v3, h3⟩ := Option.isSome_iff_exists.1 (hd2 3 (by show _ ∈ [3]; simp))
      obtain ⟨g, q2, q3, q4, hs⟩ := h
      obtain rfl := q3 v3 h3
      simp only [fillD, h3, Option.getD_some, dstAt, List.getElem?_cons_succ, List.getElem?_cons_zero, Option.bind_some, Option.bind_none, Act.put, List.setIfInBounds_toArray, List.set_cons_zero, List.set_cons_succ] at haf
      subst haf
      rw [h4] at hs
      have hs : St K W2 (blk (w.heap.size + 1) (.cells #[.int .i64 0, .int .i64 0, .int .i64 0, .int .i64 0, .int .i64 0, .int .i64 0, .int .u64 0, .slice none 0 0] 52) :: _) := hs
      have k0 := hs.k0
      have f0 := hs.f0
      have hs := (((((((hs.setL 0 (.int .i64 d.th)).setL 1 (.int .i64 d.sn)).setL 2 (.int .i64 d.no)).setL 3 (.int .i64 d.ch)).setL 4 (.int .i64 d.re)).setL 5 (.int .i64 d.fa)).setL 6 (.int .u64 d.cl)).setL 7 (.slice (some ⟨g, 0, none⟩) L.length L.length)
      simp only [List.set_cons_zero, List.set_cons_succ] at hs
      have Hq2 := Lib.hid q2
      have Hq3 := Lib.hid q3
      have H3 := Lib.hid h3
      have Hs2 := Lib.hid hs
      clear q2 q3 q4 hcl hd2 h3 h4 hs
      go_wp2
      refine ⟨rfl, undef, rfl, g, fun v h => Hq2.out v (by simpa [upd] using h), fun v h => Hq3.out v (by simpa [upd] using h), fun v h => by simp [upd, H3.out], by simpa [upd] using Hs2.out⟩
  case hQ =>
    intro ρ W2 h hall
    obtain ⟨v2, h2⟩ := Option.isSome_iff_exists.1 (hall 2 (by simp))
    obtain ⟨v3, h3⟩ := Option.isSome_iff_exists.1 (hall 3 (by simp))
    obtain ⟨v4, h4⟩ := Option.isSome_iff_exists.1 (hall 4 (by simp))
    obtain ⟨g, q2, q3, q4, hs⟩ := h
    rw [h2, h4] at hs
    have hs : St K W2 (blk (w.heap.size + 1) (.cells #[.int .i64 (d).th, .int .i64 (d).sn, .int .i64 (d).no, .int .i64 (d).ch, .int .i64 (d).re, .int .i64 (d).fa, .int .u64 (d).cl, .slice (some ⟨g, 0, none⟩) L.length L.length] 52) :: blk g (.cells (flat L).toArray 63) :: _ :: memC bm bc L acc :: F) := hs
    obtain rfl := q2 v2 h2
    obtain rfl := q3 v3 h3
    simp only [fillD, h2, h3, h4, Option.getD_some, dstAt, List.getElem?_cons_succ, List.getElem?_cons_zero, Option.bind_some, Option.bind_none, Act.put, List.setIfInBounds_toArray, List.set_cons_zero, List.set_cons_succ]
    clear q2 q3 q4 h2 h3 h4 hall
    obtain ⟨z1, z2, z3⟩ := hs.b1.freeze
    have Hz1 := Lib.hid z1
    have Hz2 := Lib.hid z2
    clear z1 z2
    go_wp2
    refine bodyPost_ret (kview_res _ _ (w.heap.size + 1) _ _ _ _ _ _ _ _ rfl z3.k0) rfl ⟨g, rfl, Hz1.out, Hz2.out, z3.tail.tail⟩
end
end Go.Proofs.YtlpdhhhgckpcfaaGreat
