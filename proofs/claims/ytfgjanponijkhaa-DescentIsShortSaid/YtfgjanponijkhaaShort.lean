/- Find in a tree in which every node is entered above: the nodes it reads cover the key. -/
import Derived.Test.YtfgjanponijkhaaFindLaw
namespace Go.Proofs.Ytfgjanponijkhaa
open Go.RowKit
set_option maxRecDepth 100000
/-- The child that covers a key, in a full tree. -/
theorem child_covers {d : Cfg} {ks : List ByteArray} {L : List Cel} {t : List (List Nd)} {key : ByteArray} {k i : Nat} {l l' : List Nd} {nd : Nd} (hx : TreeX d ks false L t) (hl : t[k]? = some l) (hl' : t[k + 1]? = some l') (hi : l'[i]? = some nd)
    (hlow : klt key nd.low = false) (hcov : (nd.pg.la || klt key nd.pg.hi) = true) : ∃ (j : Nat) (c : Nd), l[j]? = some c ∧ childRef key nd.pg.sl = c.id ∧ klt key c.low = false ∧ (c.pg.la || klt key c.pg.hi) = true := by
  have ht := hx.ok
  have hfull := hx.full rfl k l l' hl hl'
  have hr := ht.rows k l hl
  have hr' := ht.rows (k + 1) l' hl'
  have hmem := List.mem_of_getElem? hi
  have hN := ht.nodes (k + 1) l' hl' nd hmem
  obtain ⟨⟨s0, r, hsl, hs0⟩, hall⟩ := ht.down k l l' hl hl' nd hmem
  have hpos : 0 < hiK nd.pg.sl key := (hiK_iff hN.asc (i := 0) (s := s0) (by rw [hsl]; rfl)).1 (by rw [hs0]; exact hlow)
  have hhle := hiK_le nd.pg.sl key
  obtain ⟨sv, hsv⟩ : ∃ sv, nd.pg.sl[hiK nd.pg.sl key - 1]? = some sv := ⟨_, List.getElem?_eq_getElem (by omega)⟩
  have hsk := (hiK_iff hN.asc (key := key) hsv).2 (by omega)
  have hcr : childRef key nd.pg.sl = sv.r := by
    unfold childRef slOpt
    rw [if_neg (by omega), show ((hiK nd.pg.sl key : Int) - 1).toNat = hiK nd.pg.sl key - 1 by omega, hsv]
  obtain ⟨c, hc, hcid, hclow⟩ := hall sv (List.mem_of_getElem? hsv)
  obtain ⟨j, hj⟩ := List.getElem?_of_mem hc
  refine ⟨j, c, hj, by rw [hcr, hcid], by rw [hclow]; exact hsk, ?_⟩
  have hjl := (List.getElem?_eq_some_iff.1 hj).1
  by_cases hlast : j + 1 = l.length
  · rw [(hr.last j c hj hlast).1]; rfl
  obtain ⟨b, hb⟩ : ∃ b, l[j + 1]? = some b := ⟨_, List.getElem?_eq_getElem (by omega)⟩
  obtain ⟨n1, n2, _, n4⟩ := hr.next j c b hj hb
  rw [n1, n2, Bool.false_or]
  cases hkb : klt key b.low with
  | true => rfl
  | false =>
    exfalso
    have hsb : slotOf b ∈ l'.flatMap (fun nd => nd.pg.sl) := by
      rw [hfull]; exact List.mem_map_of_mem (List.mem_of_getElem? hb)
    obtain ⟨nd', hn', hs'⟩ := List.mem_flatMap.1 hsb
    obtain ⟨i', hi'⟩ := List.getElem?_of_mem hn'
    have hN' := ht.nodes (k + 1) l' hl' nd' hn'
    obtain ⟨b1, b2⟩ := hN'.bd _ hs'
    have hbk : (slotOf b).k = b.low := rfl
    rw [hbk] at b1 b2
    have hil := (List.getElem?_eq_some_iff.1 hi).1
    have hil' := (List.getElem?_eq_some_iff.1 hi').1
    rcases Nat.lt_trichotomy i' i with h | h | h
    · obtain ⟨e, he⟩ : ∃ e, l'[i' + 1]? = some e := ⟨_, List.getElem?_eq_getElem (by omega)⟩
      obtain ⟨m1, m2, _, _⟩ := hr'.next i' nd' e hi' he
      have h1 := b2 m1
      rw [m2] at h1
      have h2 : klt nd.low e.low = false := by
        by_cases hh : i' + 1 = i
        · rw [hh, hi] at he
          rw [Option.some.inj he]; exact klt_irrefl _
        · exact klt_asymm (hr'.low_lt i (i' + 1) e nd he hi (by omega))
      have h3 := (hN.bd sv (List.mem_of_getElem? hsv)).1
      have h4 := klt_lt_le (klt_lt_le h1 h2) h3
      rw [← hclow] at h4
      rw [klt_asymm h4] at n4; cases n4
    · subst h
      rw [hi] at hi'
      cases hi'
      obtain ⟨p, hp⟩ := List.getElem?_of_mem hs'
      have hp1 := (hiK_iff hN.asc (key := key) hp).1 (by rw [hbk]; exact hkb)
      have hcp : klt sv.k (slotOf b).k = true := by rw [hbk, ← hclow]; exact n4
      by_cases hh : p = hiK nd.pg.sl key - 1
      · rw [hh, hsv] at hp
        rw [Option.some.inj hp, klt_irrefl] at hcp; cases hcp
      · have hlt : p < hiK nd.pg.sl key - 1 := by omega
        have hq := (List.pairwise_iff_getElem.1 hN.asc) p (hiK nd.pg.sl key - 1) (by omega) (by omega) hlt
        rw [(List.getElem?_eq_some_iff.1 hp).2, (List.getElem?_eq_some_iff.1 hsv).2] at hq
        rw [klt_asymm hq] at hcp; cases hcp
    · have h2 := hr'.low_lt i' i nd nd' hi hi' h
      obtain ⟨e, he⟩ : ∃ e, l'[i + 1]? = some e := ⟨_, List.getElem?_eq_getElem (by omega)⟩
      obtain ⟨m1, m2, _, _⟩ := hr'.next i nd e hi he
      rw [m1, m2, Bool.false_or] at hcov
      have h3 : klt nd'.low e.low = false := by
        by_cases hh : i + 1 = i'
        · rw [hh, hi'] at he
          rw [Option.some.inj he]; exact klt_irrefl _
        · exact klt_asymm (hr'.low_lt i' (i + 1) e nd' he hi' (by omega))
      have h4 := klt_lt_le (klt_lt_le hcov h3) b1
      rw [h4] at hkb; cases hkb
/-- Where Find is in a full tree; at most m steps are left. -/
def ShInv (d : Cfg) (L : List Cel) (t : List (List Nd)) (key : ByteArray) (s : FdS) (m : Nat) : Prop :=
  (s.pc = 0 ∧ t.length * nodeSteps d + 1 ≤ m) ∨
  (s.pc = 1 ∧ ∃ (k i : Nat) (l : List Nd) (nd : Nd) (n : Nat), t[k]? = some l ∧ l[i]? = some nd ∧ s.id = nd.id ∧ s.rd = it (rdStep d nd.id L) n rd0 ∧ s.rd.pc < 6 ∧ klt key nd.low = false ∧ (nd.pg.la || klt key nd.pg.hi) = true ∧
    k * nodeSteps d + (nodeSteps d - n) ≤ m) ∨ s.pc = 2
section
variable {d : Cfg} {ks : List ByteArray} {L : List Cel} {t : List (List Nd)} {key : ByteArray} {s : FdS} {m : Nat}
theorem ShInv.start : ShInv d L t key fd0 (t.length * nodeSteps d + 1) := .inl ⟨rfl, Nat.le_refl _⟩
theorem ShInv.go (ht : TreeOk d L t) {k i : Nat} {l : List Nd} {nd : Nd} (hk : t[k]? = some l) (hi : l[i]? = some nd) (hlow : klt key nd.low = false) (hcov : (nd.pg.la || klt key nd.pg.hi) = true) {s0 : FdS}
    (hm : (k + 1) * nodeSteps d ≤ m) : ShInv d L t key (fdGo s0 nd.id) m := by
  have hid := (ht.nodes k l hk nd (List.mem_of_getElem? hi)).id.1
  have e : fdGo s0 nd.id = ⟨1, nd.id, s0.pg, rd0⟩ := by unfold fdGo; rw [if_neg (by omega)]
  rw [e]
  refine .inr (.inl ⟨rfl, k, i, l, nd, 0, hk, hi, rfl, rfl, (show (0 : Nat) < 6 by omega), hlow, hcov, ?_⟩)
  rw [Nat.add_mul, Nat.one_mul] at hm
  omega
theorem ShInv.step (hd : d.Ok) (hx : TreeX d ks false L t) (h : ShInv d L t key s m) (hpc : s.pc ≠ 2) : 1 ≤ m ∧ ShInv d L t key (fdStep d L key (0 : Nat) s) (m - 1) := by
  have hfa := hd.fa1
  have ht := hx.ok
  rcases h with ⟨h0, hm⟩ | ⟨h1, k, i, l, nd, n, hk, hi, hid, hrd, h6, hlow, hcov, hm⟩ | h2
  · obtain ⟨pc, id, pg, rd⟩ := s
    simp only at h0
    subst h0
    obtain ⟨nd, htop, hroot⟩ := ht.top
    refine ⟨by omega, ?_⟩
    show ShInv d L t key (fdGo _ (getC L 0).n) _
    rw [hroot]
    have hne := ht.ne
    have hfirst := (ht.rows _ _ htop).first nd rfl
    have hlast := (ht.rows _ _ htop).last 0 nd rfl rfl
    refine ShInv.go ht htop (i := 0) rfl (by rw [hfirst]; exact klt_empty _) (by rw [hlast.1]; rfl) ?_
    rw [show t.length - 1 + 1 = t.length by omega]
    omega
  · obtain ⟨pc, id, pg, rd⟩ := s
    simp only at h1 hid hrd h6
    subst h1 hid
    have hmem := List.mem_of_getElem? hi
    have hN := ht.nodes k l hk nd hmem
    have hR := ht.rows k l hk
    have hchg : ltChg (getC L (d.node nd.id 0)).n = false := by rw [hN.free]; rfl
    have hle := hN.page.le
    have hn5 : n < nd.pg.sl.length + 5 := rd_more hN.page hchg rfl (by rw [← hrd]; exact h6)
    have hns : nodeSteps d = d.fa.toNat + 5 := rfl
    have hrdok : rd.Ok d := by rw [hrd]; exact rd_oks hd hx.cels (rd0_ok d) n
    have hnext : rdStep d nd.id L rd = it (rdStep d nd.id L) (n + 1) rd0 := by rw [it_succ, ← hrd]
    have hpage : (rdStep d nd.id L rd).pc = 6 → (rdStep d nd.id L rd).pg = nd.pg := fun h => by
      rw [hnext] at h ⊢
      exact rd_page hN.page hchg rfl h
    refine ⟨by omega, ?_⟩
    by_cases h6' : (rdStep d nd.id L rd).pc = 6
    · have e : fdStep d L key ((0 : Nat) : Int) ⟨1, nd.id, pg, rd⟩ = fdTurn key (0 : Nat) nd.id nd.pg := by
        show (if _ then _ else _) = _
        rw [if_pos h6', hpage h6']
      rw [e]
      have hlevk := hR.lev nd hmem
      unfold fdTurn
      rw [if_neg (by omega), if_pos hcov]
      by_cases heq : nd.pg.lev = ((0 : Nat) : Int)
      · rw [if_pos heq]
        exact .inr (.inr rfl)
      · rw [if_neg heq]
        obtain ⟨k', rfl⟩ : ∃ k', k = k' + 1 := ⟨k - 1, by omega⟩
        obtain ⟨l', hk'⟩ : ∃ l', t[k']? = some l' := ⟨_, List.getElem?_eq_getElem (by have := (List.getElem?_eq_some_iff.1 hk).1; omega)⟩
        obtain ⟨j, c, hj, hcr, hcl, hcc⟩ := child_covers hx hk' hk hi hlow hcov
        rw [hcr]
        refine ShInv.go ht hk' hj hcl hcc ?_
        omega
    · have e : fdStep d L key ((0 : Nat) : Int) ⟨1, nd.id, pg, rd⟩ = ⟨1, nd.id, pg, rdStep d nd.id L rd⟩ := by
        show (if _ then _ else _) = _
        rw [if_neg h6']
      rw [e]
      have hok := rdStep_ok hd (id := nd.id) hx.cels hrdok
      refine .inr (.inl ⟨rfl, k, i, l, nd, n + 1, hk, hi, rfl, hnext, by have := hok.pc; show (rdStep d nd.id L rd).pc < 6; omega, hlow, hcov, by omega⟩)
  · exact absurd h2 hpc
end
end Go.Proofs.Ytfgjanponijkhaa
