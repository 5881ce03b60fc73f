
/- Find in a tree: where it is, and how many steps are left. -/
import Derived.Test.YtlpdhhhgckpcfaaGreatFindA
import Derived.Test.YtlpdhhhgckpcfaaGreatTreeB
import Derived.Test.YtlpdhhhgckpcfaaGreatNodeLawB
namespace Go.Proofs.YtlpdhhhgckpcfaaGreat
open Go.RowKit
set_option maxRecDepth 100000
/-- The nodes below a level. -/
def belowN (t : List (List Nd)) (k : Nat) : Nat := ((t.take k).map List.length).sum
theorem belowN_succ {t : List (List Nd)} {k : Nat} {l : List Nd} (h : t[k]? = some l) : belowN t (k + 1) = belowN t k + l.length := by
  unfold belowN
  rw [List.take_add_one, h]; simp
theorem belowN_le (t : List (List Nd)) (k : Nat) : belowN t k ≤ (t.map List.length).sum := by
  unfold belowN
  have h : (t.map List.length).sum = ((t.take k).map List.length).sum + ((t.drop k).map List.length).sum := by
    rw [← List.sum_append, ← List.map_append, List.take_append_drop]
  omega
/-- What Find has found. -/
def FdRes (t : List (List Nd)) (key : ByteArray) (level : Nat) (s : FdS) : Prop :=
  (level < t.length → ∃ (l : List Nd) (i : Nat) (nd : Nd), t[level]? = some l ∧ l[i]? = some nd ∧ s.id = nd.id ∧ s.pg = nd.pg ∧ klt key nd.low = false ∧ (nd.pg.la || klt key nd.pg.hi) = true) ∧ (t.length ≤ level → s.id = 0 ∧ s.pg = pg0)
/-- A step takes at most this many for a node. -/
def nodeSteps (d : Cfg) : Nat := d.fa.toNat + 5
/-- Where Find is; at most m steps are left. -/
def FdInv (d : Cfg) (L : List Cel) (t : List (List Nd)) (key : ByteArray) (level : Nat) (s : FdS) (m : Nat) : Prop :=
  (s.pc = 0 ∧ (t.map List.length).sum * nodeSteps d + 1 ≤ m) ∨
  (s.pc = 1 ∧ ∃ (k i : Nat) (l : List Nd) (nd : Nd) (n : Nat), t[k]? = some l ∧ l[i]? = some nd ∧ s.id = nd.id ∧ s.rd = it (rdStep d nd.id L) n rd0 ∧ s.rd.pc < 6 ∧ klt key nd.low = false ∧ (level ≤ k ∨ k + 1 = t.length) ∧
    (l.length - i + belowN t k - 1) * nodeSteps d + (nodeSteps d - n) ≤ m) ∨
  (s.pc = 2 ∧ FdRes t key level s)
section
variable {d : Cfg} {L : List Cel} {t : List (List Nd)} {key : ByteArray} {level : Nat} {s : FdS} {m : Nat}
theorem FdInv.start : FdInv d L t key level fd0 ((t.map List.length).sum * nodeSteps d + 1) := .inl ⟨rfl, Nat.le_refl _⟩
/-- Find goes to a node. -/
theorem FdInv.go (ht : TreeOk d L t) {k i : Nat} {l : List Nd} {nd : Nd} (hk : t[k]? = some l) (hi : l[i]? = some nd) (hlow : klt key nd.low = false) (hlev : level ≤ k ∨ k + 1 = t.length) {s0 : FdS}
    (hm : (l.length - i + belowN t k) * nodeSteps d ≤ m) : FdInv d L t key level (fdGo s0 nd.id) m := by
  have hid := (ht.nodes k l hk nd (List.mem_of_getElem? hi)).id.1
  have hil := (List.getElem?_eq_some_iff.1 hi).1
  have e : fdGo s0 nd.id = ⟨1, nd.id, s0.pg, rd0⟩ := by unfold fdGo; rw [if_neg (by omega)]
  rw [e]
  refine .inr (.inl ⟨rfl, k, i, l, nd, 0, hk, hi, rfl, rfl, (show (0 : Nat) < 6 by omega), hlow, hlev, ?_⟩)
  have h1 : l.length - i + belowN t k = (l.length - i + belowN t k - 1) + 1 := by omega
  rw [h1, Nat.add_mul, Nat.one_mul] at hm
  omega
theorem FdInv.step (hd : d.Ok) (hL : CelsOk L) (ht : TreeOk d L t) (h : FdInv d L t key level s m) (hpc : s.pc ≠ 2) :
    1 ≤ m ∧ FdInv d L t key (level : Nat) (fdStep d L key level s) (m - 1) ∧ s.Ok d ∧ (s.pc = 1 → (rdStep d s.id L s.rd).pc = 6 → PgGood level (rdStep d s.id L s.rd).pg) := by
  have hfa := hd.fa1
  have hno2 := hd.no2
  rcases h with ⟨h0, hm⟩ | ⟨h1, k, i, l, nd, n, hk, hi, hid, hrd, h6, hlow, hlev, hm⟩ | ⟨h2, _⟩
  · obtain ⟨pc, id, pg, rd⟩ := s
    simp only at h0
    subst h0
    obtain ⟨nd, rest, htop, hroot⟩ := ht.top
    refine ⟨by omega, ?_, ⟨(show (0 : Nat) ≤ 2 by omega), fun h => by cases h⟩, fun h => by cases h⟩
    show FdInv d L t key level (fdGo _ (getC L 0).n) _
    rw [hroot]
    have hne := ht.ne
    have hfirst := (ht.rows _ _ htop).first nd rfl
    refine FdInv.go ht htop (i := 0) rfl (by rw [hfirst]; exact klt_empty _) (.inr (by omega)) ?_
    have hb := belowN_succ htop
    have hle := belowN_le t (t.length - 1 + 1)
    have e : (nd :: rest).length - 0 + belowN t (t.length - 1) ≤ (t.map List.length).sum := by
      simp only [List.length_cons, List.length_nil] at hb ⊢; omega
    have := Nat.mul_le_mul_right (nodeSteps d) e
    omega
  · obtain ⟨pc, id, pg, rd⟩ := s
    simp only at h1 hid hrd h6
    subst h1 hid
    have hmem := List.mem_of_getElem? hi
    have hN := ht.nodes k l hk nd hmem
    have hR := ht.rows k l hk
    have hil := (List.getElem?_eq_some_iff.1 hi).1
    have hchg : ltChg (getC L (d.node nd.id 0)).n = false := hN.free.chg
    have hle := hN.page.le
    have hn5 : n < nd.pg.sl.length + 5 := rd_more hN.page hchg rfl (by rw [← hrd]; exact h6)
    have hns : nodeSteps d = d.fa.toNat + 5 := rfl
    have hrdok : rd.Ok d := by rw [hrd]; exact rd_oks hd hL (rd0_ok d) n
    have hnext : rdStep d nd.id L rd = it (rdStep d nd.id L) (n + 1) rd0 := by rw [it_succ, ← hrd]
    have hpage : (rdStep d nd.id L rd).pc = 6 → (rdStep d nd.id L rd).pg = nd.pg := fun h => by
      rw [hnext] at h ⊢
      exact rd_page hN.page hchg rfl h
    refine ⟨by omega, ?_, ⟨by show 1 ≤ 2; omega, fun _ => ⟨hN.id.1, by have := hN.id.2; show nd.id < _; omega, hrdok, by show rd.pc ≤ 5; omega⟩⟩, fun _ h => ?_⟩
    rotate_left
    · show PgGood (level : Int) (rdStep d nd.id L rd).pg
      rw [hpage h]
      refine ⟨?_, fun s hs => by have := hN.rf s hs; omega, fun _ => hN.asc⟩
      rcases Nat.lt_or_ge (i + 1) l.length with hlt | hge
      · obtain ⟨b, hb⟩ : ∃ b, l[i + 1]? = some b := ⟨_, List.getElem?_eq_getElem hlt⟩
        rw [(hR.next i nd b hi hb).2.2.1]
        have := (ht.nodes k l hk b (List.mem_of_getElem? hb)).id.1
        omega
      · rw [(hR.last i nd hi (by omega)).2.2]; omega
    by_cases h6' : (rdStep d nd.id L rd).pc = 6
    · have e : fdStep d L key level ⟨1, nd.id, pg, rd⟩ = fdTurn key level nd.id nd.pg := by
        show (if _ then _ else _) = _
        rw [if_pos h6', hpage h6']
      rw [e]
      have hlevk := hR.lev nd hmem
      have hrem : 1 ≤ l.length - i + belowN t k := by omega
      have hmm : (l.length - i + belowN t k - 1) * nodeSteps d ≤ m - 1 := by omega
      unfold fdTurn
      by_cases hlt : nd.pg.lev < level
      · rw [if_pos hlt]
        refine .inr (.inr ⟨rfl, fun h => by omega, fun _ => ⟨rfl, rfl⟩⟩)
      · rw [if_neg hlt]
        cases hin : (nd.pg.la || klt key nd.pg.hi) with
        | true =>
          rw [if_pos rfl]
          by_cases heq : nd.pg.lev = level
          · rw [if_pos heq]
            have hkl : k = level := by omega
            subst hkl
            refine .inr (.inr ⟨rfl, fun _ => ⟨l, i, nd, hk, hi, rfl, rfl, hlow, hin⟩, fun h => ?_⟩)
            have := (List.getElem?_eq_some_iff.1 hk).1
            omega
          · rw [if_neg heq]
            obtain ⟨k', rfl⟩ : ∃ k', k = k' + 1 := ⟨k - 1, by omega⟩
            obtain ⟨l', hk'⟩ : ∃ l', t[k']? = some l' := ⟨_, List.getElem?_eq_getElem (by have := (List.getElem?_eq_some_iff.1 hk).1; omega)⟩
            obtain ⟨⟨s0, r, hsl, hs0⟩, hall⟩ := ht.down k' l' l hk' hk nd hmem
            have hpos : 0 < hiK nd.pg.sl key := (hiK_iff hN.asc (i := 0) (s := s0) (by rw [hsl]; rfl)).1 (by rw [hs0]; exact hlow)
            have hhle := hiK_le nd.pg.sl key
            obtain ⟨sv, hsv⟩ : ∃ sv, nd.pg.sl[hiK nd.pg.sl key - 1]? = some sv := ⟨_, List.getElem?_eq_getElem (by omega)⟩
            have hsk := (hiK_iff hN.asc (key := key) hsv).2 (by omega)
            have hcr : childRef key nd.pg.sl = sv.r := by
              unfold childRef slOpt
              rw [if_neg (by omega), show ((hiK nd.pg.sl key : Int) - 1).toNat = hiK nd.pg.sl key - 1 by omega, hsv]
            obtain ⟨c, hc, hcid, hclow⟩ := hall sv (List.mem_of_getElem? hsv)
            obtain ⟨j, hj⟩ := List.getElem?_of_mem hc
            rw [hcr, ← hcid]
            refine FdInv.go ht hk' hj (by rw [hclow]; exact hsk) (.inl (by omega)) ?_
            have hb := belowN_succ hk'
            have e2 : l'.length - j + belowN t k' ≤ l.length - i + belowN t (k' + 1) - 1 := by omega
            exact Nat.le_trans (Nat.mul_le_mul_right _ e2) hmm
        | false =>
          rw [if_neg (by simp)]
          simp only [Bool.or_eq_false_iff] at hin
          have hlt2 : i + 1 < l.length := by
            rcases Nat.lt_or_ge (i + 1) l.length with h | h
            · exact h
            · have := (hR.last i nd hi (by omega)).1
              rw [hin.1] at this; cases this
          obtain ⟨b, hb⟩ : ∃ b, l[i + 1]? = some b := ⟨_, List.getElem?_eq_getElem hlt2⟩
          obtain ⟨_, q2, q3, _⟩ := hR.next i nd b hi hb
          rw [q3]
          refine FdInv.go ht hk hb (by rw [← q2]; exact hin.2) hlev ?_
          have e2 : l.length - (i + 1) + belowN t k ≤ l.length - i + belowN t k - 1 := by omega
          exact Nat.le_trans (Nat.mul_le_mul_right _ e2) hmm
    · have e : fdStep d L key level ⟨1, nd.id, pg, rd⟩ = ⟨1, nd.id, pg, rdStep d nd.id L rd⟩ := by
        show (if _ then _ else _) = _
        rw [if_neg h6']
      rw [e]
      have hok := rdStep_ok hd (id := nd.id) hL hrdok
      refine .inr (.inl ⟨rfl, k, i, l, nd, n + 1, hk, hi, rfl, hnext, by have := hok.pc; show (rdStep d nd.id L rd).pc < 6; omega, hlow, hlev, by omega⟩)
  · exact absurd h2 hpc
end
end Go.Proofs.YtlpdhhhgckpcfaaGreat
