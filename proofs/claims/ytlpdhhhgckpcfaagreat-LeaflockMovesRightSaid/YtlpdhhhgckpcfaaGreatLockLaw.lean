
/- Lock in a tree that nobody else changes: what it has found and locked. -/
import Derived.Test.YtlpdhhhgckpcfaaGreatLock
import Derived.Test.YtlpdhhhgckpcfaaGreatFindLaw
import Derived.Test.YtlpdhhhgckpcfaaGreatLaw11a
namespace Go.Proofs.YtlpdhhhgckpcfaaGreat
open Go.RowKit
set_option maxRecDepth 100000
/-- The node of the level that covers the key. -/
def Cover (t : List (List Nd)) (key : ByteArray) (level : Nat) (nd : Nd) : Prop :=
  ∃ (l : List Nd) (i : Nat), t[level]? = some l ∧ l[i]? = some nd ∧ klt key nd.low = false ∧ (nd.pg.la || klt key nd.pg.hi) = true
/-- The word in a node's latch. -/
def latW (d : Cfg) (L : List Cel) (nd : Nd) : Int := (getC L (d.node nd.id 0)).n
/-- The cells with a node's latch locked. -/
def latL (d : Cfg) (L : List Cel) (nd : Nd) : List Cel := putC L (d.node nd.id 0) ⟨ltLock (latW d L nd), ⟨#[]⟩, 0⟩
theorem ltLock_free {x : Int} (h : x % 4 = 0) : ltLock x = x + 1 := by
  unfold ltLock
  rw [if_pos (by omega)]
theorem ltUnlock_free {x : Int} (h : x % 4 = 0) : ltUnlock (x + 1) = x := by
  unfold ltUnlock
  omega
/-- Where Lock is, L1 being the cells now; at most m steps are left. -/
def LoI (d : Cfg) (L : List Cel) (t : List (List Nd)) (key : ByteArray) (level : Nat) (s : LkS) (L1 : List Cel) (m : Nat) : Prop :=
  (s.pc = 0 ∧ s.h = hd0 ∧ L1 = L ∧ s.fd.pc ≠ 2 ∧ ∃ m0, FdInv d L t key level s.fd m0 ∧ m0 + (d.fa.toNat + 6) ≤ m) ∨
  (s.pc = 1 ∧ s.h = hd0 ∧ L1 = L ∧ ∃ nd, Cover t key level nd ∧ s.id = nd.id ∧ ((s.aq.pc = 0 ∧ s.aq.word = 0 ∧ d.fa.toNat + 5 ≤ m) ∨ (s.aq.pc = 1 ∧ s.aq.word = ltLock (latW d L nd) ∧ d.fa.toNat + 4 ≤ m))) ∨
  (s.pc = 2 ∧ s.h = hd0 ∧ ∃ nd n, Cover t key level nd ∧ s.id = nd.id ∧ L1 = latL d L nd ∧ s.ow = it (ownStep d nd.id L1) n (own0 (ltLock (latW d L nd))) ∧ s.ow.pc ≠ 6 ∧ n < nd.pg.sl.length + 3 ∧ nd.pg.sl.length + 3 - n ≤ m) ∨
  (s.pc = 4 ∧ ((∃ nd, Cover t key level nd ∧ s.h = ⟨nd.id, ltLock (latW d L nd), nd.pg⟩ ∧ L1 = latL d L nd) ∨ (t.length ≤ level ∧ s.h = hd0 ∧ L1 = L)))
section
variable {d : Cfg} {L : List Cel} {t : List (List Nd)} {key : ByteArray} {level : Nat} {s : LkS} {L1 : List Cel} {m : Nat}
theorem LoI.start (m : Nat) (h : (t.map List.length).sum * nodeSteps d + 1 + (d.fa.toNat + 6) ≤ m) : LoI d L t key level lok0 L m :=
  .inl ⟨rfl, rfl, rfl, by show (0 : Nat) ≠ 2; decide, _, FdInv.start, h⟩
theorem Cover.nd (ht : TreeOk d L t) {nd : Nd} (h : Cover t key level nd) : NdOk d L nd := by
  obtain ⟨l, i, hl, hi, _⟩ := h
  exact ht.nodes level l hl nd (List.mem_of_getElem? hi)
theorem lat_bd (hL : CelsOk L) {nd : Nd} (h : (latW d L nd) % 4 = 0) : 0 ≤ ltLock (latW d L nd) ∧ ltLock (latW d L nd) < 18446744073709551616 := by
  have h1 := (hL (d.node nd.id 0)).1
  have h2 := (hL (d.node nd.id 0)).2
  rw [ltLock_free h]
  unfold latW at *
  omega
theorem lat_cels (hL : CelsOk L) {nd : Nd} (h : (latW d L nd) % 4 = 0) : CelsOk (latL d L nd) := hL.put (lat_bd hL h)
theorem own_oks (hd : d.Ok) {id : Int} {L : List Cel} (hL : CelsOk L) {s : RdS} (h : s.OkO d) (n : Nat) : (it (ownStep d id L) n s).OkO d := by
  induction n with
  | zero => exact h
  | succ n ih => rw [it_succ]; exact ownStep_ok hd hL ih
theorem own_page {id : Int} {L : List Cel} {pg : Pg} (h : PageAt d id L pg) {word : Int} {n : Nat} (h6 : (it (ownStep d id L) n (own0 word)).pc = 6) : it (ownStep d id L) n (own0 word) = ⟨6, pg, 0, word, false⟩ := by
  have h3 := own_final h (word := word)
  rcases Nat.le_total n (pg.sl.length + 3) with hle | hle
  · rw [show pg.sl.length + 3 = n + (pg.sl.length + 3 - n) by omega, it_add, it_fix (own_fix h6)] at h3
    exact h3
  · exact it_rest h3 (own_fix rfl) hle
theorem own_more {id : Int} {L : List Cel} {pg : Pg} (h : PageAt d id L pg) {word : Int} {n : Nat} (h6 : (it (ownStep d id L) n (own0 word)).pc ≠ 6) : n < pg.sl.length + 3 := by
  refine Nat.lt_of_not_le fun hle => h6 ?_
  rw [it_rest (own_final h) (own_fix rfl) hle]
theorem LoI.step (hd : d.Ok) (hL : CelsOk L) (hlen : (L.length : Int) = d.cells) (ht : TreeOk d L t) (h : LoI d L t key level s L1 m) (hpc : s.pc ≠ 4) :
    1 ≤ m ∧ s.Ok d key level L1 ∧ s.h = hd0 ∧ CelsOk L1 ∧ LoI d L t key level (lokStep d key level L1 s).1 (lokStep d key level L1 s).2 (m - 1) := by
  have hno2 := hd.no2
  have hfa2 := hd.fa2
  obtain ⟨pc, fd, id, aq, ow, hh⟩ := s
  rcases h with ⟨h0, h1, rfl, h2, m0, hI, hm⟩ | ⟨h0, h1, rfl, nd, hc, h2, h3⟩ | ⟨h0, h1, nd, n, hc, h2, rfl, h3, h4, h5, hm⟩ | ⟨h0, _⟩
  · simp only at h0 h1 h2 hI
    subst h0 h1
    obtain ⟨q1, q2, q3, q4⟩ := hI.step hd hL ht h2
    have hid : (fdStep d L1 key level fd).pc = 2 → FdRes t key level (fdStep d L1 key level fd) := fun e => (q2.done (by omega)).2
    have hbd : (fdStep d L1 key level fd).pc = 2 → (0 ≤ (fdStep d L1 key level fd).id ∧ (fdStep d L1 key level fd).id < 18446744073709551616) ∧ (fdStep d L1 key level fd).pg.sl.length ≤ 1000000 := by
      intro e
      obtain ⟨r1, r2⟩ := hid e
      rcases Nat.lt_or_ge level t.length with hl | hl
      · obtain ⟨l, i, nd, hl, hi, e1, e2, _⟩ := r1 hl
        have hN := ht.nodes level l hl nd (List.mem_of_getElem? hi)
        have h3 := hN.id
        have h4 := hN.page.le
        rw [e1, e2]
        exact ⟨by omega, by omega⟩
      · obtain ⟨e1, e2⟩ := r2 hl
        rw [e1, e2]
        exact ⟨by omega, by show (0 : Nat) ≤ 1000000; omega⟩
    refine ⟨by omega, ⟨Nat.zero_le _, fun _ => ⟨q3, h2, q4, hbd⟩, fun h => by simp at h, fun h => by simp at h, fun h => by simp at h, fun h => by simp at h⟩, rfl, hL, ?_⟩
    unfold lokStep
    simp only
    by_cases hp : (fdStep d L1 key level fd).pc = 2
    · rw [if_pos hp]
      obtain ⟨r1, r2⟩ := hid hp
      rcases Nat.lt_or_ge level t.length with hl | hl
      · obtain ⟨l, i, nd, hl, hi, e1, e2, e3, e4⟩ := r1 hl
        have hN := ht.nodes level l hl nd (List.mem_of_getElem? hi)
        have h3 := hN.id
        rw [if_neg (by rw [e1]; omega)]
        exact .inr (.inl ⟨rfl, rfl, rfl, nd, ⟨l, i, hl, hi, e3, e4⟩, e1, .inl ⟨rfl, rfl, by omega⟩⟩)
      · rw [if_pos (r2 hl).1]
        exact .inr (.inr (.inr ⟨rfl, .inr ⟨hl, rfl, rfl⟩⟩))
    · rw [if_neg hp]
      exact .inl ⟨rfl, rfl, rfl, hp, _, q2, by omega⟩
  · simp only at h0 h1 h2 h3
    subst h0 h1 h2
    have hN := hc.nd ht
    have hid := hN.id
    have hw4 : latW d L1 nd % 4 = 0 := hN.free.n
    have hlk := ltLock_free hw4
    have hbd := lat_bd hL hw4
    have hw : (getC L1 (d.node nd.id 0)).n = latW d L1 nd := rfl
    have hpos := node_in hd hid.1 hid.2 (k := 0) (by omega) (by have := hd.fa1; omega)
    refine ⟨by rcases h3 with ⟨_, _, h⟩ | ⟨_, _, h⟩ <;> omega, ⟨by show 1 ≤ 3; omega, fun h => by simp at h, fun _ => by simp only; omega, fun _ => ?_, fun h => by simp at h, fun h => by simp at h⟩, rfl, hL, ?_⟩
    · rcases h3 with ⟨e1, e2, _⟩ | ⟨e1, e2, _⟩
      · exact ⟨⟨by simp only [e1]; omega, by simp only [e2]; omega⟩, by simp only [e1]; omega⟩
      · exact ⟨⟨by simp only [e1]; omega, by simp only [e2]; exact hbd⟩, by simp only [e1]; omega⟩
    · obtain ⟨ap, aw⟩ := aq
      simp only at h3
      unfold lokStep acqStep
      rcases h3 with ⟨rfl, rfl, h⟩ | ⟨rfl, rfl, h⟩
      · have h2 : ¬ (latW d L1 nd % 2 = 1) := by omega
        simp only [hw, if_neg h2]
        rw [if_neg (by simp)]
        exact .inr (.inl ⟨rfl, rfl, rfl, nd, hc, rfl, .inr ⟨rfl, rfl, by omega⟩⟩)
      · have hsw : swapOk L1 (d.node nd.id 0) (ltUnlock (ltLock (latW d L1 nd))) = true := by
          unfold swapOk
          rw [hw, hlk, ltUnlock_free hw4]
          rw [decide_eq_true (by omega : 0 ≤ d.node nd.id 0), decide_eq_true (by omega : d.node nd.id 0 < (L1.length : Int)), decide_eq_true (by rfl)]
          rfl
        simp only [hsw, if_true]
        refine .inr (.inr (.inl ⟨rfl, rfl, nd, 0, hc, rfl, rfl, rfl, by show (1 : Nat) ≠ 6; decide, by omega, ?_⟩))
        have := hN.page.le
        omega
  · simp only at h0 h1 h2 h3 h4
    subst h0 h1 h2
    have hN := hc.nd ht
    have hid := hN.id
    have hp : PageAt d nd.id (latL d L nd) nd.pg := PageAt.latch hd hid.1 hid.2 hN.page
    have hLc := lat_cels (d := d) hL (nd := nd) hN.free.n
    have hok : ow.OkO d := by rw [h3]; exact own_oks hd hLc (own0_ok d _) n
    refine ⟨by omega, ⟨by show 2 ≤ 3; omega, fun h => by simp at h, fun _ => by simp only; omega, fun h => by simp at h, fun _ => ⟨hok, h4⟩, fun h => by simp at h⟩, rfl, hLc, ?_⟩
    unfold lokStep
    simp only
    have hst : ownStep d nd.id (latL d L nd) ow = it (ownStep d nd.id (latL d L nd)) (n + 1) (own0 (ltLock (latW d L nd))) := by rw [it_succ, ← h3]
    by_cases h6 : (ownStep d nd.id (latL d L nd) ow).pc = 6
    · rw [if_pos h6]
      have hfin := own_page hp (by rw [← hst]; exact h6)
      rw [← hst] at hfin
      rw [hfin]
      simp only
      have hin : pgIn key nd.pg = true := by obtain ⟨_, _, _, _, _, h⟩ := hc; exact h
      rw [if_pos hin]
      exact .inr (.inr (.inr ⟨rfl, .inl ⟨nd, hc, rfl, rfl⟩⟩))
    · rw [if_neg h6]
      have := own_more hp (by rw [← hst]; exact h6)
      exact .inr (.inr (.inl ⟨rfl, rfl, nd, n + 1, hc, rfl, rfl, hst, h6, by omega, by omega⟩))
  · exact absurd h0 hpc
end
end Go.Proofs.YtlpdhhhgckpcfaaGreat
