
/- Lock in a tree that others change (pure). -/
import Derived.Test.YtlpdhhhgckpcfaaGreatConcR
import Derived.Test.YtlpdhhhgckpcfaaGreatLockLaw
namespace Go.Proofs.YtlpdhhhgckpcfaaGreat
open Go.RowKit
set_option maxRecDepth 100000
/-- A node of the level, whose range does not begin behind the key. -/
structure LkAt (t : List (List Nd)) (key : ByteArray) (level : Nat) (l : List Nd) (i : Nat) (nd : Nd) : Prop where
  hl : t[level]? = some l
  hi : l[i]? = some nd
  low : klt key nd.low = false
/-- A latch that its owner has locked. -/
structure LtOwn (d : Cfg) (L : List Cel) (id word : Int) : Prop where
  c : getC L (d.node id 0) = ⟨word, ⟨#[]⟩, 0⟩
  w : word % 4 = 1
  bd : 0 ≤ word ∧ word < 18446744073709551616
/-- The steps that one node costs. -/
def lkC (d : Cfg) : Nat := d.fa.toNat + 8
/-- The steps that Acquire still makes if the latch is free. -/
def aqQ (c : Int) (s : AcqS) : Nat := if s.pc = 0 then 2 else if c = ltUnlock s.word then 1 else 3
/-- The nodes of the row that are still ahead: q. -/
def LkFar (key : ByteArray) (l : List Nd) (i : Nat) (nd : Nd) (q : Nat) : Prop := pgIn key nd.pg = true ∨ l.length ≤ i + 1 + q
/-- Where Lock is. -/
def LkC (d : Cfg) (L : List Cel) (t : List (List Nd)) (key : ByteArray) (level : Nat) (s : LkS) (m : Nat) : Prop := match s.pc with
  | 0 => s.h = hd0 ∧ s.fd.pc ≠ 2 ∧ ∃ m0, FdC d L t key s.fd m0 ∧ m0 + lkC d ≤ m
  | 1 => s.h = hd0 ∧ ∃ l i nd q, LkAt t key level l i nd ∧ s.id = nd.id ∧ s.aq.pc ≤ 1 ∧ (s.aq.pc = 1 → s.aq.word % 4 = 1) ∧ (0 ≤ s.aq.word ∧ s.aq.word < 18446744073709551616) ∧ LkFar key l i nd q ∧ q * lkC d + aqQ (getC L (d.node nd.id 0)).n s.aq + (d.fa.toNat + 4) ≤ m
  | 2 => s.h = hd0 ∧ ∃ l i nd q, LkAt t key level l i nd ∧ s.id = nd.id ∧ LtOwn d L nd.id s.ow.word ∧ s.ow.OkO d ∧ s.ow.pc ≠ 6 ∧ OwPart nd.pg s.ow ∧ LkFar key l i nd q ∧ q * lkC d + owLeft d s.ow + 1 ≤ m
  | 3 => s.h = hd0 ∧ ∃ l i nd q, LkAt t key level l i nd ∧ s.id = nd.id ∧ LtOwn d L nd.id s.ow.word ∧ s.ow.pg = nd.pg ∧ pgIn key nd.pg = false ∧ LkFar key l i nd q ∧ q * lkC d ≤ m
  | 4 => (∃ l i nd, LkAt t key level l i nd ∧ s.id = nd.id ∧ (∃ word, s.h = ⟨nd.id, word, nd.pg⟩ ∧ LtOwn d L nd.id word) ∧ pgIn key nd.pg = true ∧ nd.id ≠ 0) ∨ (s.h = hd0 ∧ 0 < level)
  | _ => False
/-- Lock holds its node. -/
def lkOwn (s : LkS) : Bool := s.pc == 2 || s.pc == 3 || (s.pc == 4 && s.h.id != 0)
/-- A node of one's own: others leave it as it is. -/
def Keep (d : Cfg) (L : List Cel) (t : List (List Nd)) (L' : List Cel) (t' : List (List Nd)) (id : Int) : Prop :=
  ∀ (k : Nat) (l : List Nd), t[k]? = some l → ∀ nd, nd ∈ l → nd.id = id → (∃ l', t'[k]? = some l' ∧ nd ∈ l') ∧ ∀ j : Int, 0 ≤ j → j < d.fa + 4 → getC L' (d.node id j) = getC L (d.node id j)
section
variable {d : Cfg} {L L' : List Cel} {t t' : List (List Nd)} {key : ByteArray} {level : Nat} {s : LkS} {m : Nat} {nd : Nd}
theorem LtOwn.chg {id word : Int} (h : LtOwn d L id word) : ltChg (getC L (d.node id 0)).n = false := by
  rw [h.c]
  unfold ltChg
  have := h.w
  exact decide_eq_false (by show ¬ 2 ≤ word % 4; omega)
/-- A latch's lock bit is set or cleared. -/
theorem TreeM.bit (hd : d.Ok) (hlen : (L.length : Int) = d.cells) (ht : TreeM d L t) {k : Nat} {l : List Nd} (hk : t[k]? = some l) (hn : nd ∈ l) {w' : Int} (hv : w' / 4 = (getC L (d.node nd.id 0)).n / 4) (hc : ltChg (getC L (d.node nd.id 0)).n = false) (hc' : ltChg w' = false) :
    TreeM d (putC L (d.node nd.id 0) ⟨w', ⟨#[]⟩, 0⟩) t ∧ Evo d L t (putC L (d.node nd.id 0) ⟨w', ⟨#[]⟩, 0⟩) t ∧
    (∀ (k : Nat) (l : List Nd), t[k]? = some l → ∀ c, c ∈ l → (getC (putC L (d.node nd.id 0) ⟨w', ⟨#[]⟩, 0⟩) (d.node c.id 0)).n / 4 = (getC L (d.node c.id 0)).n / 4 ∧ ltChg (getC (putC L (d.node nd.id 0) ⟨w', ⟨#[]⟩, 0⟩) (d.node c.id 0)).n = ltChg (getC L (d.node c.id 0)).n) := by
  have hb := (ht.sh.nodes k l hk nd hn).1
  have hn4 := ht.n4
  have f1 := hd.fa1
  have hpos := node_in hd (id := nd.id) hb.1 (by omega) (k := 0) (by omega) (by omega)
  have he : getC (putC L (d.node nd.id 0) ⟨w', ⟨#[]⟩, 0⟩) (d.node nd.id 0) = ⟨w', ⟨#[]⟩, 0⟩ := getC_eq hpos.2.1 (by omega)
  have ho : ∀ c : Nd, 1 ≤ c.id → c.id ≤ d.no → ∀ j : Int, 0 ≤ j → j < d.fa + 4 → (c.id ≠ nd.id ∨ j ≠ 0) → getC (putC L (d.node nd.id 0) ⟨w', ⟨#[]⟩, 0⟩) (d.node c.id j) = getC L (d.node c.id j) := by
    intro c c1 c2 j j1 j2 hne
    refine getC_ne ?_
    by_cases hci : c.id = nd.id
    · rw [hci]
      exact node_ne hd hb.1 (by omega) j1 j2 (by omega) (by omega) (by rcases hne with h | h; exact absurd hci h; exact h)
    · exact node_apart hd c1 c2 hb.1 (by omega) j1 j2 (by omega) (by omega) hci
  have hlow : ∀ j : Int, j < 8 → getC (putC L (d.node nd.id 0) ⟨w', ⟨#[]⟩, 0⟩) j = getC L j := fun j hj => by
    refine getC_ne ?_
    have n0 := (node_in hd (id := nd.id) hb.1 (by omega) (k := 0) (by omega) (by omega)).1
    have hA := hd.A_bd
    have m3 : 0 ≤ (nd.id - 1) * (d.fa + 4) := Int.mul_nonneg (by omega) (by omega)
    omega
  have hw : ∀ (k : Nat) (l : List Nd), t[k]? = some l → ∀ c, c ∈ l → (getC (putC L (d.node nd.id 0) ⟨w', ⟨#[]⟩, 0⟩) (d.node c.id 0)).n / 4 = (getC L (d.node c.id 0)).n / 4 ∧ ltChg (getC (putC L (d.node nd.id 0) ⟨w', ⟨#[]⟩, 0⟩) (d.node c.id 0)).n = ltChg (getC L (d.node c.id 0)).n := by
    intro k l hk c hcm
    have hcb := (ht.sh.nodes k l hk c hcm).1
    by_cases hci : c.id = nd.id
    · rw [hci, he]
      exact ⟨hv, by rw [hc]; exact hc'⟩
    · rw [ho c hcb.1 (by omega) 0 (by omega) (by omega) (.inl hci)]
      exact ⟨rfl, rfl⟩
  refine ⟨⟨by rw [hlow 4 (by omega)]; exact ht.sh, by rw [hlow 4 (by omega)]; exact ht.n4, by rw [hlow 0 (by omega)]; exact ht.root, fun k' l' hk' c hcm hch => ?_, fun k' l' hk' c hcm hev => ?_⟩, fun k' l' hk' c hcm => ⟨l', c, hk', hcm, rfl, rfl, ?_⟩, hw⟩
  · have hcb := (ht.sh.nodes k' l' hk' c hcm).1
    have hold := ht.node k' l' hk' c hcm (by rw [← (hw k' l' hk' c hcm).2]; exact hch)
    refine ⟨hold.page.frame hcb.1 (by omega) f1 (fun j a b => ho c hcb.1 (by omega) j (by omega) b (.inr (by omega))), hold.hold.frame hd hcb.1 (by omega) hold.page.le (fun j a b => ho c hcb.1 (by omega) j (by omega) b (.inr (by omega))), ?_, ?_⟩
    · by_cases hci : c.id = nd.id
      · rw [hci, he]
      · rw [ho c hcb.1 (by omega) 0 (by omega) (by omega) (.inl hci)]; exact hold.k
    · by_cases hci : c.id = nd.id
      · rw [hci, he]
      · rw [ho c hcb.1 (by omega) 0 (by omega) (by omega) (.inl hci)]; exact hold.m
  · have hcb := (ht.sh.nodes k' l' hk' c hcm).1
    by_cases hci : c.id = nd.id
    · rw [hci, he] at hev ⊢
      simp only at hev ⊢
      unfold ltChg at hc'
      have := of_decide_eq_false hc'
      omega
    · rw [ho c hcb.1 (by omega) 0 (by omega) (by omega) (.inl hci)] at hev ⊢
      exact ht.wd k' l' hk' c hcm hev
  · obtain ⟨e1, e2⟩ := hw k' l' hk' c hcm
    exact ⟨by omega, fun _ h => ⟨by rw [← e2]; exact h, rfl⟩⟩
theorem LkFar.env {l l' : List Nd} {i i' : Nat} {q : Nat} : LkFar key l' i' nd (l'.length) := .inr (by omega)
theorem aqQ_le (c : Int) (a : AcqS) : aqQ c a ≤ 3 := by
  unfold aqQ
  split
  · omega
  · split <;> omega
theorem aqQ_pos (c : Int) (a : AcqS) : 1 ≤ aqQ c a := by
  unfold aqQ
  split
  · omega
  · split <;> omega
theorem owLeft_le (hd : d.Ok) {r : RdS} (h : r.OkO d) : owLeft d r ≤ d.fa.toNat + 3 := by
  have h2 := h.len
  have f1 := hd.fa1
  obtain ⟨pc, pg, left, word, tt⟩ := r
  simp only at h2
  unfold owLeft
  match pc with
  | 0 => simp only; omega
  | 1 => simp only; omega
  | 2 => simp only; omega
  | 3 => simp only; omega
  | 4 => simp only; omega
  | n + 5 => simp only; omega
/-- The steps that a Lock may still make in a tree. -/
def lkBig (d : Cfg) (t : List (List Nd)) (level : Nat) : Nat := ((t.map List.length).sum + 2) * nodeSteps d + 1 + ((t[level]?.getD []).length + 1) * lkC d
theorem LkC.mono {m' : Nat} (h : LkC d L t key level s m) (hm : m ≤ m') : LkC d L t key level s m' := by
  obtain ⟨pc, fd, id, aq, ow, hh⟩ := s
  match pc, h with
  | 0, h =>
    obtain ⟨h1, h2, m0, h3, h4⟩ := h
    exact ⟨h1, h2, m0, h3, by omega⟩
  | 1, h =>
    obtain ⟨h1, l, i, nd, q, a, b, c, e, f, g, h⟩ := h
    exact ⟨h1, l, i, nd, q, a, b, c, e, f, g, by omega⟩
  | 2, h =>
    obtain ⟨h1, l, i, nd, q, a, b, c, e, f, g, g2, h⟩ := h
    exact ⟨h1, l, i, nd, q, a, b, c, e, f, g, g2, by omega⟩
  | 3, h =>
    obtain ⟨h1, l, i, nd, q, a, b, c, e, f, g, h⟩ := h
    exact ⟨h1, l, i, nd, q, a, b, c, e, f, g, by omega⟩
  | 4, h => exact h
  | n + 5, h => exact h.elim
/-- Others have changed the tree. -/
theorem LkC.env (hd : d.Ok) (h : LkC d L t key level s m) (he : Evo d L t L' t') (hk : lkOwn s = true → Keep d L t L' t' s.id) : LkC d L' t' key level s (lkBig d t' level) := by
  have f1 := hd.fa1
  obtain ⟨pc, fd, id, aq, ow, hh⟩ := s
  match pc, h with
  | 0, h =>
    obtain ⟨h1, h2, m0, hf, hm⟩ := h
    refine ⟨h1, h2, _, hf.env hd he, ?_⟩
    unfold lkBig
    rw [Nat.add_mul (t'[level]?.getD []).length 1 (lkC d), Nat.one_mul]
    omega
  | 1, h =>
    obtain ⟨h1, l, i, nd, q, ha, hid, hp, hw, hb, hq, hm⟩ := h
    obtain ⟨l', nd', hl', hn', e1, e2, _⟩ := he level l ha.hl nd (List.mem_of_getElem? ha.hi)
    obtain ⟨j, hj⟩ := List.getElem?_of_mem hn'
    refine ⟨h1, l', j, nd', l'.length, ⟨hl', hj, by rw [e2]; exact ha.low⟩, hid.trans e1.symm, hp, hw, hb, .inr (by omega), ?_⟩
    have := aqQ_le (getC L' (d.node nd'.id 0)).n aq
    unfold lkBig
    rw [hl', Option.getD_some, Nat.add_mul l'.length 1 (lkC d), Nat.one_mul]
    show l'.length * lkC d + aqQ (getC L' (d.node nd'.id 0)).n aq + (d.fa.toNat + 4) ≤ _
    unfold lkC
    omega
  | 2, h =>
    obtain ⟨h1, l, i, nd, q, ha, hid, hlt, hok, h6, hpt, hq, hm⟩ := h
    simp only at hid hok
    subst hid
    obtain ⟨⟨l', hl', hn'⟩, hc⟩ := hk rfl level l ha.hl nd (List.mem_of_getElem? ha.hi) rfl
    obtain ⟨j, hj⟩ := List.getElem?_of_mem hn'
    refine ⟨h1, l', j, nd, l'.length, ⟨hl', hj, ha.low⟩, rfl, ⟨(hc 0 (by omega) (by omega)).trans hlt.c, hlt.w, hlt.bd⟩, hok, h6, hpt, .inr (by omega), ?_⟩
    have := owLeft_le hd hok
    unfold lkBig
    rw [hl', Option.getD_some, Nat.add_mul l'.length 1 (lkC d), Nat.one_mul]
    show l'.length * lkC d + owLeft d ow + 1 ≤ _
    unfold lkC
    omega
  | 3, h =>
    obtain ⟨h1, l, i, nd, q, ha, hid, hlt, hpg, hin, hq, hm⟩ := h
    simp only at hid
    subst hid
    obtain ⟨⟨l', hl', hn'⟩, hc⟩ := hk rfl level l ha.hl nd (List.mem_of_getElem? ha.hi) rfl
    obtain ⟨j, hj⟩ := List.getElem?_of_mem hn'
    refine ⟨h1, l', j, nd, l'.length, ⟨hl', hj, ha.low⟩, rfl, ⟨(hc 0 (by omega) (by omega)).trans hlt.c, hlt.w, hlt.bd⟩, hpg, hin, .inr (by omega), ?_⟩
    unfold lkBig
    rw [hl', Option.getD_some, Nat.add_mul l'.length 1 (lkC d), Nat.one_mul]
    omega
  | 4, h =>
    rcases h with ⟨l, i, nd, ha, hid, ⟨word, hh', hlt⟩, hin, h0⟩ | h
    · simp only at hid hh'
      subst hid hh'
      obtain ⟨⟨l', hl', hn'⟩, hc⟩ := hk (by simp [lkOwn, h0]) level l ha.hl nd (List.mem_of_getElem? ha.hi) rfl
      obtain ⟨j, hj⟩ := List.getElem?_of_mem hn'
      exact .inl ⟨l', j, nd, ⟨hl', hj, ha.low⟩, rfl, ⟨word, rfl, ⟨(hc 0 (by omega) (by omega)).trans hlt.c, hlt.w, hlt.bd⟩⟩, hin, h0⟩
    · exact .inr h
  | n + 5, h => exact h.elim
/-- Others have locked or released latches only. -/
theorem LkC.calm (hd : d.Ok) (h : LkC d L t key level s m) (hv : ∀ (k : Nat) (l : List Nd), t[k]? = some l → ∀ nd, nd ∈ l → (getC L' (d.node nd.id 0)).n / 4 = (getC L (d.node nd.id 0)).n / 4 ∧ ltChg (getC L' (d.node nd.id 0)).n = ltChg (getC L (d.node nd.id 0)).n)
    (hk : lkOwn s = true → getC L' (d.node s.id 0) = getC L (d.node s.id 0)) : LkC d L' t key level s (m + 2) ∧ (getC L' (d.node s.id 0) = getC L (d.node s.id 0) → LkC d L' t key level s m) := by
  obtain ⟨pc, fd, id, aq, ow, hh⟩ := s
  match pc, h with
  | 0, h =>
    obtain ⟨h1, h2, m0, hf, hm⟩ := h
    exact ⟨⟨h1, h2, m0, hf.calm hv, by omega⟩, fun _ => ⟨h1, h2, m0, hf.calm hv, hm⟩⟩
  | 1, h =>
    obtain ⟨h1, l, i, nd, q, ha, hid, hp, hw, hb, hq, hm⟩ := h
    have a1 := aqQ_le (getC L' (d.node nd.id 0)).n aq
    have a2 := aqQ_pos (getC L (d.node nd.id 0)).n aq
    refine ⟨⟨h1, l, i, nd, q, ha, hid, hp, hw, hb, hq, ?_⟩, fun e => ⟨h1, l, i, nd, q, ha, hid, hp, hw, hb, hq, ?_⟩⟩
    · simp only at hm ⊢
      omega
    · simp only at hid e hm ⊢
      subst hid
      rw [e]
      exact hm
  | 2, h =>
    obtain ⟨h1, l, i, nd, q, ha, hid, hlt, hok, h6, hpt, hq, hm⟩ := h
    simp only at hid
    subst hid
    have e := hk rfl
    have hlt' : LtOwn d L' nd.id ow.word := ⟨e.trans hlt.c, hlt.w, hlt.bd⟩
    exact ⟨⟨h1, l, i, nd, q, ha, rfl, hlt', hok, h6, hpt, hq, by omega⟩, fun _ => ⟨h1, l, i, nd, q, ha, rfl, hlt', hok, h6, hpt, hq, hm⟩⟩
  | 3, h =>
    obtain ⟨h1, l, i, nd, q, ha, hid, hlt, hpg, hin, hq, hm⟩ := h
    simp only at hid
    subst hid
    have e := hk rfl
    have hlt' : LtOwn d L' nd.id ow.word := ⟨e.trans hlt.c, hlt.w, hlt.bd⟩
    exact ⟨⟨h1, l, i, nd, q, ha, rfl, hlt', hpg, hin, hq, by omega⟩, fun _ => ⟨h1, l, i, nd, q, ha, rfl, hlt', hpg, hin, hq, hm⟩⟩
  | 4, h =>
    rcases h with ⟨l, i, nd, ha, hid, ⟨word, hh', hlt⟩, hin, h0⟩ | h
    · simp only at hid hh'
      subst hid hh'
      have e := hk (by simp [lkOwn, h0])
      have := (show LkC d L' t key level ⟨4, fd, nd.id, aq, ow, ⟨nd.id, word, nd.pg⟩⟩ m from .inl ⟨l, i, nd, ha, rfl, ⟨word, rfl, ⟨e.trans hlt.c, hlt.w, hlt.bd⟩⟩, hin, h0⟩)
      exact ⟨this, fun _ => this⟩
    · exact ⟨.inr h, fun _ => .inr h⟩
  | n + 5, h => exact h.elim
/-- What a step does to the memory. -/
def LkEff (d : Cfg) (L : List Cel) (t : List (List Nd)) (level : Nat) (s s' : LkS) (L1 : List Cel) : Prop :=
  (L1 = L ∧ lkOwn s' = lkOwn s ∧ (lkOwn s = true → s'.id = s.id)) ∨
  (lkOwn s = false ∧ lkOwn s' = true ∧ s'.id = s.id ∧ (∃ l nd, t[level]? = some l ∧ nd ∈ l ∧ nd.id = s.id) ∧ (getC L (d.node s.id 0)).n % 4 = 0 ∧ L1 = putC L (d.node s.id 0) ⟨(getC L (d.node s.id 0)).n + 1, ⟨#[]⟩, 0⟩) ∨
  (lkOwn s = true ∧ lkOwn s' = false ∧ (∃ l nd, t[level]? = some l ∧ nd ∈ l ∧ nd.id = s.id) ∧ (getC L (d.node s.id 0)).n % 4 = 1 ∧ L1 = putC L (d.node s.id 0) ⟨(getC L (d.node s.id 0)).n - 1, ⟨#[]⟩, 0⟩)
theorem LkC.step (hd : d.Ok) (hL : CelsOk L) (hlen : (L.length : Int) = d.cells) (ht : TreeM d L t) (h : LkC d L t key level s m) (hpc : s.pc ≠ 4) :
    s.Ok d key level L ∧ s.h = hd0 ∧ LkEff d L t level s (lokStep d key level L s).1 (lokStep d key level L s).2 ∧
    ∃ m', LkC d (lokStep d key level L s).2 t key level (lokStep d key level L s).1 m' ∧ m' ≤ m ∧
      ((s.pc = 0 → s.fd.pc = 1 → ltChg (getC L (d.node s.fd.id 0)).n = false) → (s.pc = 1 → s.aq.pc = 0 → (getC L (d.node s.id 0)).n % 2 = 0) → m' + 1 ≤ m) := by
  have hno2 := hd.no2
  have hfa2 := hd.fa2
  have f1 := hd.fa1
  have hn4 := ht.n4
  have hpcs : s.pc = 0 ∨ s.pc = 1 ∨ s.pc = 2 ∨ s.pc = 3 := by
    by_cases h5 : 5 ≤ s.pc
    · obtain ⟨pc, fd, id, aq, ow, hh⟩ := s
      obtain ⟨n, rfl⟩ : ∃ n, pc = n + 5 := ⟨pc - 5, by simp only at h5; omega⟩
      exact h.elim
    · omega
  obtain ⟨pc, fd, id, aq, ow, hh⟩ := s
  simp only at hpcs
  clear hpc
  rcases hpcs with rfl | rfl | rfl | rfl
  · obtain ⟨h1, h2, m0, hf, hm⟩ := h
    simp only at h1 h2 hf
    subst h1
    obtain ⟨⟨m0', g1, g5, g6⟩, g2, g3, g4⟩ := hf.step (level := level) hd hL ht h2
    have hbd : (fdStep d L key level fd).pc = 2 → (0 ≤ (fdStep d L key level fd).id ∧ (fdStep d L key level fd).id < 18446744073709551616) ∧ (fdStep d L key level fd).pg.sl.length ≤ 1000000 := by
      intro e
      rcases g4 e with ⟨e1, e2, _⟩ | ⟨l, nd, hl, hn, e1, e2, _, _, e3⟩
      · rw [e1, e2]
        exact ⟨by omega, by show (0 : Nat) ≤ 1000000; omega⟩
      · have hb := (ht.sh.nodes level l hl nd hn).1
        have hp := (ht.page level l hl nd hn e3).le
        rw [e1, e2]
        exact ⟨by omega, by omega⟩
    refine ⟨⟨Nat.zero_le _, fun _ => ⟨g2, h2, g3, hbd⟩, fun h => by simp at h, fun h => by simp at h, fun h => by simp at h, fun h => by simp at h⟩, rfl, ?_⟩
    unfold lokStep
    simp only
    by_cases hp : (fdStep d L key level fd).pc = 2
    · rw [if_pos hp]
      rcases g4 hp with ⟨e1, e2, k, l, hk, _⟩ | ⟨l, nd, hl, hn, e1, e2, e4, e5, e3⟩
      · rw [if_pos e1]
        refine ⟨.inl ⟨rfl, rfl, fun h => by cases h⟩, 0, .inr ⟨rfl, by omega⟩, Nat.zero_le _, fun _ _ => ?_⟩
        unfold lkC at hm
        omega
      · have hb := (ht.sh.nodes level l hl nd hn).1
        rw [if_neg (by rw [e1]; omega)]
        obtain ⟨i, hi⟩ := List.getElem?_of_mem hn
        unfold lkC at hm
        refine ⟨.inl ⟨rfl, rfl, fun h => by cases h⟩, d.fa.toNat + 6, ⟨rfl, l, i, nd, 0, ⟨hl, hi, e4⟩, e1, Nat.zero_le _, fun h => by simp [acq0] at h, ⟨by show (0 : Int) ≤ 0; omega, by show (0 : Int) < _; omega⟩, .inl e5, ?_⟩, by omega, fun _ _ => by omega⟩
        show 0 * lkC d + 2 + (d.fa.toNat + 4) ≤ d.fa.toNat + 6
        omega
    · rw [if_neg hp]
      refine ⟨.inl ⟨rfl, rfl, fun h => by cases h⟩, _, ⟨rfl, hp, m0', g1, Nat.le_refl _⟩, by omega, fun hq _ => ?_⟩
      have := g6 (hq trivial)
      omega
  · obtain ⟨h1, l, i, nd, q, ha, hid, hp, hw, hb, hq, hm⟩ := h
    simp only at h1 hid hp hw hb hm
    subst h1 hid
    have hnm := List.mem_of_getElem? ha.hi
    have hnb := (ht.sh.nodes level l ha.hl nd hnm).1
    have hcb0 : 0 ≤ (getC L (d.node nd.id 0)).n := (hL (d.node nd.id 0)).1
    have hcb1 : (getC L (d.node nd.id 0)).n < 18446744073709551616 := (hL (d.node nd.id 0)).2
    have hpos := node_in hd (id := nd.id) hnb.1 (by omega) (k := 0) (by omega) (by omega)
    have hwd := ht.wd level l ha.hl nd hnm
    refine ⟨⟨by show 1 ≤ 3; omega, fun h => by simp at h, fun _ => by simp only; omega, fun _ => ⟨⟨by show aq.pc ≤ 2; omega, hb⟩, by show aq.pc ≠ 2; omega⟩, fun h => by simp at h, fun h => by simp at h⟩, rfl, ?_⟩
    obtain ⟨ap, aw⟩ := aq
    simp only at hp hw hb
    unfold lokStep
    simp only
    rcases (by omega : ap = 0 ∨ ap = 1) with rfl | rfl
    · have hq2 : aqQ (getC L (d.node nd.id 0)).n ⟨0, aw⟩ = 2 := rfl
      rw [hq2] at hm
      unfold acqStep
      simp only
      by_cases hodd : (getC L (d.node nd.id 0)).n % 2 = 1
      · simp only [if_pos hodd, show ¬ ((0 : Nat) = 2) by omega, if_false]
        refine ⟨.inl ⟨rfl, rfl, fun h => by cases h⟩, m, ⟨rfl, l, i, nd, q, ha, rfl, Nat.zero_le _, fun h => by simp at h, hb, hq, hm⟩, Nat.le_refl _, fun _ hs => ?_⟩
        have := hs trivial trivial
        omega
      · simp only [if_neg hodd, show ¬ ((1 : Nat) = 2) by omega, if_false]
        have h4 := hwd (by omega)
        have hlk := ltLock_free h4
        have hun := ltUnlock_free h4
        refine ⟨.inl ⟨rfl, rfl, fun h => by cases h⟩, m - 1, ⟨rfl, l, i, nd, q, ha, rfl, Nat.le_refl _, fun _ => by show ltLock _ % 4 = 1; rw [hlk]; omega, by show 0 ≤ ltLock _ ∧ ltLock _ < 18446744073709551616; rw [hlk]; exact ⟨by omega, by omega⟩, hq, ?_⟩, by omega, fun _ _ => by omega⟩
        show q * lkC d + aqQ (getC L (d.node nd.id 0)).n ⟨1, ltLock (getC L (d.node nd.id 0)).n⟩ + (d.fa.toNat + 4) ≤ m - 1
        have : aqQ (getC L (d.node nd.id 0)).n ⟨1, ltLock (getC L (d.node nd.id 0)).n⟩ = 1 := by
          unfold aqQ
          rw [if_neg (by show ¬ ((1 : Nat) = 0); omega), if_pos (by show _ = ltUnlock (ltLock _); rw [hlk, hun])]
        omega
    · have hw4 := hw rfl
      unfold acqStep
      simp only
      have hun : ltUnlock aw = aw - 1 := by unfold ltUnlock; omega
      by_cases hsw : swapOk L (d.node nd.id 0) (ltUnlock aw) = true
      · simp only [if_pos hsw, if_true]
        have hc : (getC L (d.node nd.id 0)).n = aw - 1 := by
          unfold swapOk at hsw
          simp only [Bool.and_eq_true, decide_eq_true_eq] at hsw
          rw [hsw.2, hun]
        have hq1 : aqQ (getC L (d.node nd.id 0)).n ⟨1, aw⟩ = 1 := by
          unfold aqQ
          rw [if_neg (by show ¬ ((1 : Nat) = 0); omega), if_pos (by show _ = ltUnlock aw; rw [hun, hc])]
        rw [hq1] at hm
        refine ⟨.inr (.inl ⟨rfl, rfl, rfl, ⟨l, nd, ha.hl, hnm, rfl⟩, by show (getC L (d.node nd.id 0)).n % 4 = 0; omega, by rw [hc]; show _ = putC L (d.node nd.id 0) ⟨aw - 1 + 1, ⟨#[]⟩, 0⟩; rw [show aw - 1 + 1 = aw by omega]⟩), q * lkC d + (d.fa.toNat + 3) + 1, ⟨rfl, l, i, nd, q, ha, rfl, ⟨getC_eq hpos.2.1 (by omega), hw4, hb⟩, own0_ok d aw, by show (1 : Nat) ≠ 6; omega, trivial, hq, Nat.le_refl _⟩, by omega, fun _ _ => by omega⟩
      · simp only [if_neg hsw, show ¬ ((0 : Nat) = 2) by omega, if_false]
        have hc : (getC L (d.node nd.id 0)).n ≠ ltUnlock aw := fun e => by
          apply hsw
          unfold swapOk
          rw [decide_eq_true (by omega), decide_eq_true (by omega), decide_eq_true e]
          rfl
        have hq3 : aqQ (getC L (d.node nd.id 0)).n ⟨1, aw⟩ = 3 := by
          unfold aqQ
          rw [if_neg (by show ¬ ((1 : Nat) = 0); omega), if_neg hc]
        rw [hq3] at hm
        refine ⟨.inl ⟨rfl, rfl, fun h => by cases h⟩, m - 1, ⟨rfl, l, i, nd, q, ha, rfl, Nat.zero_le _, fun h => by simp at h, hb, hq, ?_⟩, by omega, fun _ _ => by omega⟩
        show q * lkC d + 2 + (d.fa.toNat + 4) ≤ m - 1
        omega
  · obtain ⟨h1, l, i, nd, q, ha, hid, hlt, hok, h6, hpt, hq, hm⟩ := h
    simp only at h1 hid hlt hok h6 hpt hm
    subst h1 hid
    have hnm := List.mem_of_getElem? ha.hi
    have hnb := (ht.sh.nodes level l ha.hl nd hnm).1
    have hpage := ht.page level l ha.hl nd hnm hlt.chg
    obtain ⟨p1, p2, p3⟩ := hpt.step hpage h6
    have hok' := ownStep_ok (id := nd.id) hd hL hok
    refine ⟨⟨by show 2 ≤ 3; omega, fun h => by simp at h, fun _ => by simp only; omega, fun h => by simp at h, fun _ => ⟨hok, h6⟩, fun h => by simp at h⟩, rfl, ?_⟩
    unfold lokStep
    simp only
    generalize ownStep d nd.id L ow = o at *
    by_cases ho : o.pc = 6
    · rw [if_pos ho]
      have hopg : o.pg = nd.pg := by
        unfold OwPart at p1
        rw [ho] at p1
        exact p1
      by_cases hin : pgIn key o.pg = true
      · rw [if_pos hin]
        refine ⟨.inl ⟨rfl, by simp [lkOwn]; omega, fun _ => rfl⟩, 0, .inl ⟨l, i, nd, ha, rfl, ⟨o.word, by rw [hopg], by rw [p2]; exact hlt⟩, by rw [← hopg]; exact hin, by omega⟩, Nat.zero_le _, fun _ _ => by omega⟩
      · rw [if_neg hin]
        refine ⟨.inl ⟨rfl, rfl, fun _ => rfl⟩, q * lkC d, ⟨rfl, l, i, nd, q, ha, rfl, by rw [p2]; exact hlt, hopg, ?_, hq, Nat.le_refl _⟩, by omega, fun _ _ => by omega⟩
        rw [← hopg]
        simpa using hin
    · rw [if_neg ho]
      exact ⟨.inl ⟨rfl, rfl, fun _ => rfl⟩, q * lkC d + owLeft d o + 1, ⟨rfl, l, i, nd, q, ha, rfl, by rw [p2]; exact hlt, hok', ho, p1, hq, Nat.le_refl _⟩, by omega, fun _ _ => by omega⟩
  · obtain ⟨h1, l, i, nd, q, ha, hid, hlt, hpg, hin, hq, hm⟩ := h
    simp only at h1 hid hlt hpg hm
    subst h1 hid
    have hnm := List.mem_of_getElem? ha.hi
    have hnb := (ht.sh.nodes level l ha.hl nd hnm).1
    have hR := ht.sh.rows level l ha.hl
    have hil := (List.getElem?_eq_some_iff.1 ha.hi).1
    have hin2 : nd.pg.la = false ∧ klt key nd.pg.hi = false := by
      unfold pgIn at hin
      simpa using hin
    have hlt2 : i + 1 < l.length := by
      rcases Nat.lt_or_ge (i + 1) l.length with h | h
      · exact h
      · have := (hR.last i nd ha.hi (by omega)).1
        rw [hin2.1] at this; cases this
    obtain ⟨b, hb⟩ : ∃ b, l[i + 1]? = some b := ⟨_, List.getElem?_eq_getElem hlt2⟩
    obtain ⟨_, q2, q3, _⟩ := hR.next i nd b ha.hi hb
    have hbb := (ht.sh.nodes level l ha.hl b (List.mem_of_getElem? hb)).1
    have hq1 : l.length ≤ i + 1 + q := by
      rcases hq with h | h
      · rw [hin] at h; cases h
      · exact h
    obtain ⟨q, rfl⟩ : ∃ k, q = k + 1 := ⟨q - 1, by omega⟩
    have hun : ltUnlock ow.word = ow.word - 1 := by have := hlt.w; unfold ltUnlock; omega
    have hw4 := hlt.w
    refine ⟨⟨by show 3 ≤ 3; omega, fun h => by simp at h, fun _ => by simp only; omega, fun h => by simp at h, fun h => by simp at h, fun _ => ⟨hlt.bd, by rw [hpg, q3]; omega⟩⟩, rfl, ?_⟩
    unfold lokStep
    simp only
    refine ⟨.inr (.inr ⟨rfl, rfl, ⟨l, nd, ha.hl, hnm, rfl⟩, by show (getC L (d.node nd.id 0)).n % 4 = 1; rw [hlt.c]; exact hw4, by show putC L (d.node nd.id 0) _ = putC L (d.node nd.id 0) ⟨(getC L (d.node nd.id 0)).n - 1, ⟨#[]⟩, 0⟩; rw [hlt.c, hun]⟩), q * lkC d + 2 + (d.fa.toNat + 4), ⟨rfl, l, i + 1, b, q, ⟨ha.hl, hb, by rw [← q2]; exact hin2.2⟩, by rw [hpg, q3], Nat.zero_le _, fun h => by simp [acq0] at h, ⟨by show (0 : Int) ≤ 0; omega, by show (0 : Int) < _; omega⟩, .inr (by omega), Nat.le_refl _⟩, ?_, fun _ _ => ?_⟩
    · rw [Nat.add_mul, Nat.one_mul] at hm
      have : lkC d = d.fa.toNat + 8 := rfl
      omega
    · rw [Nat.add_mul, Nat.one_mul] at hm
      have : lkC d = d.fa.toNat + 8 := rfl
      omega
/-- What a step leaves of the tree. -/
theorem LkEff.tree {s' : LkS} {L1 : List Cel} (hd : d.Ok) (hL : CelsOk L) (hlen : (L.length : Int) = d.cells) (ht : TreeM d L t) (h : LkEff d L t level s s' L1) :
    TreeM d L1 t ∧ Evo d L t L1 t ∧ CelsOk L1 ∧ (L1.length : Int) = d.cells ∧ (∀ (k : Nat) (l : List Nd), t[k]? = some l → ∀ nd, nd ∈ l → (getC L1 (d.node nd.id 0)).n / 4 = (getC L (d.node nd.id 0)).n / 4 ∧ ltChg (getC L1 (d.node nd.id 0)).n = ltChg (getC L (d.node nd.id 0)).n) ∧
    (∀ j : Int, j ≠ d.node s.id 0 → getC L1 j = getC L j) := by
  rcases h with ⟨rfl, _⟩ | ⟨_, _, _, ⟨l, nd, hl, hn, hid⟩, h4, rfl⟩ | ⟨_, _, ⟨l, nd, hl, hn, hid⟩, h4, rfl⟩
  · exact ⟨ht, Evo.refl _ _ _, hL, hlen, fun _ _ _ _ _ => ⟨rfl, rfl⟩, fun _ _ => rfl⟩
  · rw [← hid] at h4 ⊢
    have hb := hL (d.node nd.id 0)
    obtain ⟨q1, q2, q3⟩ := ht.bit hd hlen hl hn (w' := (getC L (d.node nd.id 0)).n + 1) (by omega) (by unfold ltChg; exact decide_eq_false (by omega)) (by unfold ltChg; exact decide_eq_false (by omega))
    refine ⟨q1, q2, hL.put ⟨by show 0 ≤ (getC L (d.node nd.id 0)).n + 1; have := hb.1; omega, by show (getC L (d.node nd.id 0)).n + 1 < _; have := hb.2; omega⟩, by rw [putC_length]; exact hlen, q3, fun j hj => getC_ne hj⟩
  · rw [← hid] at h4 ⊢
    have hb := hL (d.node nd.id 0)
    obtain ⟨q1, q2, q3⟩ := ht.bit hd hlen hl hn (w' := (getC L (d.node nd.id 0)).n - 1) (by omega) (by unfold ltChg; exact decide_eq_false (by omega)) (by unfold ltChg; exact decide_eq_false (by omega))
    refine ⟨q1, q2, hL.put ⟨by show 0 ≤ (getC L (d.node nd.id 0)).n - 1; have := hb.1; omega, by show (getC L (d.node nd.id 0)).n - 1 < _; have := hb.2; omega⟩, by rw [putC_length]; exact hlen, q3, fun j hj => getC_ne hj⟩
end
end Go.Proofs.YtlpdhhhgckpcfaaGreat
