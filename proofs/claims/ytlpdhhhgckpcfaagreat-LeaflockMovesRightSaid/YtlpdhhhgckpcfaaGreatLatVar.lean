
/- Memories that differ from a tree's in the lock bits of its latches only: what readers do in them. -/
import Derived.Test.YtlpdhhhgckpcfaaGreatLockLaw
namespace Go.Proofs.YtlpdhhhgckpcfaaGreat
open Go.RowKit
set_option maxRecDepth 100000
/-- L is L0, but that some latches of the tree may be locked. -/
structure LatVar (d : Cfg) (t : List (List Nd)) (L0 L : List Cel) : Prop where
  len : L.length = L0.length
  oth : ∀ i : Int, (∀ (k : Nat) (l : List Nd), t[k]? = some l → ∀ nd : Nd, nd ∈ l → i ≠ d.node nd.id 0) → getC L i = getC L0 i
  lat : ∀ (k : Nat) (l : List Nd), t[k]? = some l → ∀ nd : Nd, nd ∈ l → (getC L (d.node nd.id 0)).n = (getC L0 (d.node nd.id 0)).n ∨ (getC L (d.node nd.id 0)).n = (getC L0 (d.node nd.id 0)).n + 1
/-- Two readers that differ in the lock bit of their words. -/
structure RdEq (a b : RdS) : Prop where
  pc : a.pc = b.pc
  pg : a.pg = b.pg
  left : a.left = b.left
  t : a.t = b.t
  word : ltUnlock a.word = ltUnlock b.word
  bd : 0 ≤ a.word ∧ a.word < 18446744073709551616
theorem RdEq.refl {a : RdS} (h : 0 ≤ a.word ∧ a.word < 18446744073709551616) : RdEq a a := ⟨rfl, rfl, rfl, rfl, rfl, h⟩
theorem RdEq.ok {d : Cfg} {a b : RdS} (h : RdEq a b) (hb : b.Ok d) : a.Ok d :=
  ⟨by rw [h.pc]; exact hb.pc, h.bd, by rw [h.pc, h.pg, h.left]; exact hb.len, by rw [h.pc, h.t]; exact hb.th, by rw [h.pc, h.left]; exact hb.left⟩
section
variable {d : Cfg} {t : List (List Nd)} {L0 L : List Cel} {nd : Nd} {a b : RdS}
theorem LatVar.refl : LatVar d t L0 L0 := ⟨rfl, fun _ _ => rfl, fun _ _ _ _ _ => .inl rfl⟩
/-- A node's cells but for its latch. -/
theorem LatVar.cell (hd : d.Ok) (ht : TreeOk d L0 t) (hv : LatVar d t L0 L) {k : Nat} {l : List Nd} (hl : t[k]? = some l) (hn : nd ∈ l) {j : Int} (h1 : 1 ≤ j) (h2 : j < d.fa + 4) : getC L (d.node nd.id j) = getC L0 (d.node nd.id j) := by
  refine hv.oth _ fun k' l' hl' nd' hn' => ?_
  have f1 := hd.fa1
  have i1 := (ht.nodes k l hl nd hn).id
  have i2 := (ht.nodes k' l' hl' nd' hn').id
  by_cases h : nd.id = nd'.id
  · rw [← h]
    exact node_ne hd i1.1 i1.2 (by omega) h2 (by omega) (by omega) (by omega)
  · exact node_apart hd i1.1 i1.2 i2.1 i2.2 (by omega) h2 (by omega) (by omega) h
theorem LatVar.low (hd : d.Ok) (ht : TreeOk d L0 t) (hv : LatVar d t L0 L) {i : Int} (h : i < 8) : getC L i = getC L0 i := by
  refine hv.oth _ fun k' l' hl' nd' hn' => ?_
  have f1 := hd.fa1
  have i2 := (ht.nodes k' l' hl' nd' hn').id
  have := (node_in hd i2.1 i2.2 (k := 0) (by omega) (by omega)).1
  have := hd.A_bd
  have : 0 ≤ (nd'.id - 1) * (d.fa + 4) := Int.mul_nonneg (by omega) (by omega)
  omega
theorem LatVar.slot (hd : d.Ok) (ht : TreeOk d L0 t) (hv : LatVar d t L0 L) {k : Nat} {l : List Nd} (hl : t[k]? = some l) (hn : nd ∈ l) (i : Int) : getC L (d.slot nd.id i) = getC L0 (d.slot nd.id i) := by
  unfold Cfg.slot
  by_cases h : 0 ≤ i ∧ i < d.fa
  · rw [if_pos h]
    exact hv.cell hd ht hl hn (by omega) (by omega)
  · rw [if_neg h]
    rw [getC_neg (by omega), getC_neg (by omega)]
theorem LatVar.page (hd : d.Ok) (ht : TreeOk d L0 t) (hv : LatVar d t L0 L) {k : Nat} {l : List Nd} (hl : t[k]? = some l) (hn : nd ∈ l) : PageAt d nd.id L nd.pg := by
  have hN := ht.nodes k l hl nd hn
  exact hN.page.frame hN.id.1 hN.id.2 hd.fa1 (fun j a b => hv.cell hd ht hl hn a b)
theorem LatVar.cels (ht : TreeOk d L0 t) (hL : CelsOk L0) (hv : LatVar d t L0 L) : CelsOk L := by
  intro i
  by_cases h : ∃ (k : Nat) (l : List Nd), t[k]? = some l ∧ ∃ nd : Nd, nd ∈ l ∧ i = d.node nd.id 0
  · obtain ⟨k, l, hl, nd, hn, rfl⟩ := h
    have h1 := hv.lat k l hl nd hn
    have h2 := (ht.nodes k l hl nd hn).free.n
    have h3 := hL (d.node nd.id 0)
    unfold CelOk at h3 ⊢
    omega
  · rw [hv.oth i (fun k l hl nd hn e => h ⟨k, l, hl, nd, hn, e⟩)]
    exact hL i
/-- One step of readers of the same node in both memories. -/
theorem rd_var (hd : d.Ok) (hL : CelsOk L0) (ht : TreeOk d L0 t) (hv : LatVar d t L0 L) {k : Nat} {l : List Nd} (hl : t[k]? = some l) (hn : nd ∈ l) (h : RdEq a b) : RdEq (rdStep d nd.id L a) (rdStep d nd.id L0 b) := by
  have hN := ht.nodes k l hl nd hn
  have f1 := hd.fa1
  have hw := hv.lat k l hl nd hn
  have hbL := (hv.cels ht hL) (d.node nd.id 0)
  have c1 := hv.cell hd ht hl hn (j := 1) (by omega) (by omega)
  have c2 := hv.cell hd ht hl hn (j := 2) (by omega) (by omega)
  have c3 := hv.cell hd ht hl hn (j := 3) (by omega) (by omega)
  have cs := fun i => hv.slot hd ht hl hn i
  obtain ⟨pc, pg, left, word, tt⟩ := a
  obtain ⟨pc', pg', left', word', tt'⟩ := b
  obtain ⟨e1, e2, e3, e4, e5, e6⟩ := h
  simp only at e1 e2 e3 e4 e5 e6
  subst e1 e2 e3 e4
  unfold rdStep
  match pc with
  | 0 =>
    have g2 : ltChg (getC L0 (d.node nd.id 0)).n = false := hN.free.chg
    have g3 := hN.free.n
    have g1 : ltChg (getC L (d.node nd.id 0)).n = false := by unfold ltChg; exact decide_eq_false (by omega)
    simp only [g1, g2, if_false, Bool.false_eq_true]
    refine ⟨rfl, rfl, rfl, rfl, ?_, ?_⟩
    · simp only [ltUnlock]
      omega
    · simp only; exact hbL
  | 1 => simp only [c1]; exact ⟨rfl, rfl, rfl, rfl, e5, e6⟩
  | 2 => simp only [c2]; exact ⟨rfl, rfl, rfl, rfl, e5, e6⟩
  | 3 => simp only [c3]; exact ⟨rfl, rfl, rfl, rfl, e5, e6⟩
  | 4 => simp only [cs]; exact ⟨rfl, rfl, rfl, rfl, e5, e6⟩
  | 5 =>
    have g : ltUnlock (getC L (d.node nd.id 0)).n = ltUnlock (getC L0 (d.node nd.id 0)).n := by
      have g3 := hN.free.n
      simp only [ltUnlock]
      omega
    simp only [e5, g]
    split
    · exact ⟨rfl, rfl, rfl, rfl, e5, e6⟩
    · exact ⟨rfl, rfl, rfl, rfl, e5, e6⟩
  | n + 6 => exact ⟨rfl, rfl, rfl, rfl, e5, e6⟩
def FdEq (s s0 : FdS) : Prop := s.pc = s0.pc ∧ s.id = s0.id ∧ s.pg = s0.pg ∧ RdEq s.rd s0.rd
/-- Find in a memory with locks. -/
def FdV (d : Cfg) (L0 : List Cel) (t : List (List Nd)) (key : ByteArray) (level : Nat) (s : FdS) (m : Nat) : Prop :=
  ∃ s0, FdInv d L0 t key level s0 m ∧ s.pc = s0.pc ∧ s.id = s0.id ∧ s.pg = s0.pg ∧ RdEq s.rd s0.rd
variable {key : ByteArray} {level m : Nat} {s : FdS}
theorem fdGo_eq {s s0 : FdS} (h1 : s.id = s0.id) (h2 : s.pg = s0.pg) (i : Int) : fdGo s i = fdGo s0 i := by
  unfold fdGo; rw [h1, h2]
theorem FdV.start : FdV d L0 t key level fd0 ((t.map List.length).sum * nodeSteps d + 1) := ⟨fd0, FdInv.start, rfl, rfl, rfl, RdEq.refl (by decide)⟩
theorem fdGo_word (s : FdS) (i : Int) : 0 ≤ (fdGo s i).rd.word ∧ (fdGo s i).rd.word < 18446744073709551616 := by
  unfold fdGo
  split
  · exact (by decide : 0 ≤ rd0.word ∧ rd0.word < 18446744073709551616)
  · exact (by decide : 0 ≤ rd0.word ∧ rd0.word < 18446744073709551616)
theorem fdTurn_word (key : ByteArray) (level id : Int) (pg : Pg) : 0 ≤ (fdTurn key level id pg).rd.word ∧ (fdTurn key level id pg).rd.word < 18446744073709551616 := by
  unfold fdTurn
  split
  · exact (by decide : 0 ≤ rd0.word ∧ rd0.word < 18446744073709551616)
  · split
    · split
      · exact (by decide : 0 ≤ rd0.word ∧ rd0.word < 18446744073709551616)
      · exact fdGo_word _ _
    · exact fdGo_word _ _
theorem FdV.step (hd : d.Ok) (hL : CelsOk L0) (ht : TreeOk d L0 t) (hv : LatVar d t L0 L) (h : FdV d L0 t key level s m) (hpc : s.pc ≠ 2) :
    1 ≤ m ∧ FdV d L0 t key (level : Nat) (fdStep d L key level s) (m - 1) ∧ s.Ok d ∧ (s.pc = 1 → (rdStep d s.id L s.rd).pc = 6 → PgGood level (rdStep d s.id L s.rd).pg) := by
  obtain ⟨s0, hI, e1, e2, e3, e4⟩ := h
  obtain ⟨q1, q2, q3, q4⟩ := hI.step hd hL ht (by rw [← e1]; exact hpc)
  have hin : s0.pc = 1 → ∃ (k : Nat) (l : List Nd) (nd : Nd), t[k]? = some l ∧ nd ∈ l ∧ s0.id = nd.id := by
    intro h1
    rcases hI with ⟨h0, _⟩ | ⟨_, k, i, l, nd, n, hk, hi, hid, _⟩ | ⟨h2, _⟩
    · omega
    · exact ⟨k, l, nd, hk, List.mem_of_getElem? hi, hid⟩
    · omega
  have hrd : s0.pc = 1 → RdEq (rdStep d s.id L s.rd) (rdStep d s0.id L0 s0.rd) := by
    intro h1
    obtain ⟨k, l, nd, hk, hn, hid⟩ := hin h1
    rw [e2, hid]
    exact rd_var hd hL ht hv hk hn e4
  refine ⟨q1, ?_, ⟨by rw [e1]; exact q3.pc, fun h => ?_⟩, fun h h6 => ?_⟩
  · refine ⟨_, q2, ?_⟩
    obtain ⟨pc, id, pg, rd⟩ := s
    obtain ⟨pc0, id0, pg0', rd0'⟩ := s0
    simp only at e1 e2 e3 e4 hrd hpc
    subst e1 e2 e3
    rcases (by omega : pc = 0 ∨ pc = 1 ∨ 2 < pc) with rfl | rfl | h3
    · show FdEq (fdGo ⟨0, id, pg, rd⟩ (getC L 0).n) (fdGo ⟨0, id, pg, rd0'⟩ (getC L0 0).n)
      rw [hv.low hd ht (show (0 : Int) < 8 by omega), fdGo_eq (s := ⟨0, id, pg, rd⟩) (s0 := ⟨0, id, pg, rd0'⟩) rfl rfl]
      exact ⟨rfl, rfl, rfl, RdEq.refl (fdGo_word _ _)⟩
    · have hr := hrd rfl
      show FdEq (if (rdStep d id L rd).pc = 6 then fdTurn key level id (rdStep d id L rd).pg else ⟨1, id, pg, rdStep d id L rd⟩) (if (rdStep d id L0 rd0').pc = 6 then fdTurn key level id (rdStep d id L0 rd0').pg else ⟨1, id, pg, rdStep d id L0 rd0'⟩)
      rw [hr.pc, hr.pg]
      split
      · exact ⟨rfl, rfl, rfl, RdEq.refl (fdTurn_word _ _ _ _)⟩
      · exact ⟨rfl, rfl, rfl, hr⟩
    · have := q3.pc
      simp only at this
      omega
  · rw [e2, e4.pc]
    obtain ⟨x1, x2, x3, x4⟩ := q3.rd (by rw [← e1]; exact h)
    exact ⟨x1, x2, e4.ok x3, x4⟩
  · have hr := hrd (by rw [← e1]; exact h)
    rw [hr.pg]
    exact q4 (by rw [← e1]; exact h) (by rw [← hr.pc]; exact h6)
theorem FdV.done (h : FdV d L0 t key level s m) (h2 : 2 ≤ s.pc) : s.pc = 2 ∧ FdRes t key level s := by
  obtain ⟨s0, hI, e1, e2, e3, e4⟩ := h
  obtain ⟨x1, x2⟩ := hI.done (by rw [← e1]; exact h2)
  refine ⟨by rw [e1]; exact x1, fun hl => ?_, fun hl => ?_⟩
  · rw [e2, e3]; exact x2.1 hl
  · rw [e2, e3]; exact x2.2 hl
end
end Go.Proofs.YtlpdhhhgckpcfaaGreat
