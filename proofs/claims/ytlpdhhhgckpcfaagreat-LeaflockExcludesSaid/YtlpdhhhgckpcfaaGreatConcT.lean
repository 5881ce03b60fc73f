
/- Insert's steps, and the tree that others read meanwhile (pure). -/
import Derived.Test.YtlpdhhhgckpcfaaGreatConcI
namespace Go.Proofs.YtlpdhhhgckpcfaaGreat
open Go.RowKit
set_option maxRecDepth 100000
/-- A tree that lies still is one that others may read. -/
theorem TreeOk.m {d : Cfg} {L : List Cel} {t : List (List Nd)} (ht : TreeOk d L t) : TreeM d L t :=
  ⟨ht.shp, ht.n4, ht.top, fun k l hk nd hn _ => by
    have h := ht.nodes k l hk nd hn
    exact ⟨h.page, h.hold, h.free.k, h.free.m⟩, fun k l hk nd hn _ => (ht.nodes k l hk nd hn).free.n⟩
/-- Nothing is locked any more. -/
theorem TreeM.ok {d : Cfg} {L : List Cel} {t : List (List Nd)} (ht : TreeM d L t) (hf : ∀ (k : Nat) (l : List Nd), t[k]? = some l → ∀ nd, nd ∈ l → (getC L (d.node nd.id 0)).n % 4 = 0) : TreeOk d L t := by
  refine TreeOk.of ht.sh ht.n4 ht.root (fun k l hk nd hn => ?_)
  have h0 := hf k l hk nd hn
  have h := ht.node k l hk nd hn (by unfold ltChg; exact decide_eq_false (by omega))
  exact ⟨h.page, h.hold, h0, h.k, h.m⟩
/-- The page that a node gets fits in its place. -/
structure FuT (t : List (List Nd)) (k : Nat) (nd : Nd) (fu : Pg) : Prop where
  lev : fu.lev = nd.pg.lev
  hi : fu.hi = nd.pg.hi
  la : fu.la = nd.pg.la
  ri : fu.ri = nd.pg.ri
  nds : NdS { nd with pg := fu }
  down : ∀ (m : Nat) (l0 : List Nd), k = m + 1 → t[m]? = some l0 → DownOk l0 { nd with pg := fu }
/-- Insert holds a node of the tree. -/
structure InsHd (t : List (List Nd)) (k i : Nat) (l : List Nd) (nd : Nd) (fr : InH) (fu : Pg) : Prop where
  hk : t[k]? = some l
  hi : l[i]? = some nd
  id : nd.id = fr.id
  pg : nd.pg = fr.pg
  fu : FuT t k nd fu
/-- A number that no node of the tree has. -/
def NoId (t : List (List Nd)) (id : Int) : Prop := ∀ (k : Nat) (l : List Nd), t[k]? = some l → ∀ c, c ∈ l → c.id ≠ id
/-- Insert has a number that no node of the tree has. -/
def InsFr (t : List (List Nd)) (s : InsS) : Prop := (s.pc = 1 ∨ (s.pc = 2 ∧ s.sp = true)) → NoId t s.id
theorem lk_begin {x : Int} (h : x % 4 = 1) : ltBegin x = x + 2 ∧ ltChg (ltBegin x) = true ∧ ltChg x = false := by
  have e : ltBegin x = x + 2 := by unfold ltBegin; rw [if_pos (by omega)]
  rw [e]
  exact ⟨rfl, by unfold ltChg; exact decide_eq_true (by omega), by unfold ltChg; exact decide_eq_false (by omega)⟩
theorem lk_end {x : Int} (h : x % 4 = 1) (h0 : 0 ≤ x) (h1 : x + 4 < 18446744073709551616) : ltEnd (ltBegin x) = x + 4 := by
  rw [(lk_begin h).1]
  unfold ltEnd ltClear
  rw [if_neg (by omega), IntKind.wrap_u64]
  omega
section
variable {d : Cfg} {L L' : List Cel} {t t' : List (List Nd)} {fr : InH} {fu : Pg} {s s' : InsS} {k i : Nat} {l : List Nd} {nd : Nd}
/-- The word of the node. -/
theorem InsI.word (hd : d.Ok) (K : InsK d fr fu) (h : InsI d L fr fu s) (h2 : s.pc ≤ 2) : getC L (d.node fr.id 0) = ⟨if s.pc = 2 ∧ 1 ≤ s.k then ltBegin fr.word else fr.word, ⟨#[]⟩, 0⟩ := by
  have f1 := hd.fa1
  obtain ⟨pc, tk, k, ps, sp, id, full⟩ := s
  simp only at h2
  rcases (by omega : pc = 0 ∨ pc = 1 ∨ pc = 2) with rfl | rfl | rfl
  · exact h.2.2.2.2.2
  · exact h.2.2.2.2.2.2.1.2
  · obtain ⟨a1, a2, a3, a4, a5, L0, b1, b2, b3⟩ := h
    have a4 : k < ps.length := a4
    rw [b3 0 (by omega) (by omega)]
    show getC (putAll L0 (ps.take k)) _ = ⟨if 2 = 2 ∧ 1 ≤ k then _ else _, _, _⟩
    by_cases h1 : 1 ≤ k
    · rw [if_pos ⟨rfl, h1⟩]
      obtain ⟨mid, hm, e⟩ := a3
      simp only at e
      subst e
      refine stage_mid hd K.hok.id.1 K.hok.id.2 hm.1 b1 (insPg_le hd K a2) h1 ?_
      simp at a4
      omega
    · rw [if_neg (fun h => h1 h.2)]
      obtain rfl : k = 0 := by omega
      exact b2.2
theorem InsI.old (hd : d.Ok) (K : InsK d fr fu) (h : InsI d L fr fu s) (h2 : s.pc ≤ 2) (hc : ltChg (getC L (d.node fr.id 0)).n = false) : OldN d L fr := by
  have hw := h.word hd K h2
  have hlk := K.lk
  obtain ⟨pc, tk, k, ps, sp, id, full⟩ := s
  simp only at h2
  rcases (by omega : pc = 0 ∨ pc = 1 ∨ pc = 2) with rfl | rfl | rfl
  · exact h.2.2.2.2
  · exact h.2.2.2.2.2.2.1
  · obtain ⟨a1, a2, a3, a4, a5, L0, b1, b2, b3⟩ := h
    simp only at hw b3
    by_cases h1 : 1 ≤ k
    · rw [hw, if_pos ⟨trivial, h1⟩] at hc
      rw [show ltChg _ = true from (lk_begin hlk).2.1] at hc
      cases hc
    · obtain rfl : k = 0 := by omega
      exact b2.frame hd K.hok b3
/-- What a step does to the node's version. -/
theorem InsI.ver (hd : d.Ok) (hlen : (L.length : Int) = d.cells) (K : InsK d fr fu) (h4 : fr.id ≤ (getC L 4).n) (h40 : 0 ≤ (getC L 4).n) (h : InsI d L fr fu s) (h2 : s.pc ≤ 2) (hn : InsNx d fr fu L s s') :
    (∀ pg, (s'.pc ≤ 2 ∨ s'.full = true) → VerOk (getC L (d.node fr.id 0)).n (getC (insMm d L s) (d.node fr.id 0)).n pg pg) ∧ (∀ pg pg', s'.pc = 3 → s'.full = false → VerOk (getC L (d.node fr.id 0)).n (getC (insMm d L s) (d.node fr.id 0)).n pg pg') := by
  have hI := insI_step hd hlen K h4 h40 h h2 hn
  have hw := h.word hd K h2
  obtain ⟨e1, e2, e3⟩ := lk_begin K.lk
  have e4 := lk_end K.lk K.hok.word.1 K.ver
  have hlk := K.lk
  have same : getC (insMm d L s) (d.node fr.id 0) = getC L (d.node fr.id 0) → ∀ pg, VerOk (getC L (d.node fr.id 0)).n (getC (insMm d L s) (d.node fr.id 0)).n pg pg := fun e pg => by
    rw [e]; exact VerOk.refl _ _
  constructor
  · intro pg hs
    obtain ⟨pc, tk, k, ps, sp, id, full⟩ := s
    simp only at h2 hw
    rcases (by omega : pc = 0 ∨ pc = 1 ∨ pc = 2) with rfl | rfl | rfl
    · exact same (insMm_other hd K h (fun _ => (node_not4 hd K.hok.id.1 K.hok.id.2 0 (by omega) (by have := hd.fa1; omega)).symm) (fun e => by cases e) (fun e => by cases e)) pg
    · have hid := h.2.2.2.1
      have f1 := hd.fa1
      exact same (insMm_other hd K h (fun e => by cases e) (fun e => by cases e) (fun _ q x y => node_apart hd K.hok.id.1 K.hok.id.2 hid.lo hid.hi (by omega) (by omega) x y hid.ne.symm)) pg
    · rcases hn with ⟨c1, rfl⟩ | ⟨c1, rfl⟩
      · have hw1 : (getC (insMm d L ⟨2, tk, k, ps, sp, id, full⟩) (d.node fr.id 0)).n = ltBegin fr.word := by
          rw [hI.word hd K (Nat.le_refl 2)]
          show (if 2 = 2 ∧ 1 ≤ k + 1 then ltBegin fr.word else fr.word) = _
          rw [if_pos ⟨rfl, Nat.le_add_left 1 k⟩]
        have hw0 : (getC L (d.node fr.id 0)).n = if 1 ≤ k then ltBegin fr.word else fr.word := by
          rw [hw]
          by_cases h1 : 1 ≤ k
          · rw [if_pos h1, if_pos ⟨rfl, h1⟩]
          · rw [if_neg h1, if_neg (fun h => h1 h.2)]
        rw [hw1, hw0]
        by_cases h1 : 1 ≤ k
        · rw [if_pos h1]
          exact VerOk.refl _ _
        · rw [if_neg h1]
          refine ⟨by omega, fun _ hc => ?_⟩
          rw [e2] at hc
          cases hc
      · rcases hs with hs | hs
        · exact absurd hs (by simp)
        · have := h.1
          simp only at hs this
          rw [this] at hs
          cases hs
  · intro pg pg' h3 hf
    have hI' := hI
    obtain ⟨pc', tk', k', ps', sp', id', full'⟩ := s'
    simp only at h3 hf
    subst h3 hf
    obtain ⟨_, ⟨q, _⟩ | ⟨_, _, _, _, hw'⟩⟩ := hI'
    · cases q
    · rw [hw', hw, e4]
      refine ⟨?_, fun h _ => ?_⟩
      · show (if _ then _ else _) / 4 ≤ (fr.word + 4) / 4
        split <;> omega
      · exfalso
        have h : (if s.pc = 2 ∧ 1 ≤ s.k then ltBegin fr.word else fr.word) / 4 = (fr.word + 4) / 4 := h
        split at h <;> omega
/-- The new node's cells are not those of the tree's nodes. -/
theorem InsI.other (hd : d.Ok) (K : InsK d fr fu) (h : InsI d L fr fu s) (hF : InsFr t s) {k' : Nat} {l' : List Nd} {c : Nd} (hk : t[k']? = some l') (hc : c ∈ l') (h1 : 1 ≤ c.id) (h2 : c.id ≤ d.no) (hne : c.id ≠ fr.id) :
    ∀ j : Int, 0 ≤ j → j < d.fa + 4 → getC (insMm d L s) (d.node c.id j) = getC L (d.node c.id j) := by
  intro j x y
  refine insMm_other hd K h (fun _ => (node_not4 hd h1 h2 j x y).symm) (fun _ q p r => node_apart hd h1 h2 K.hok.id.1 K.hok.id.2 x y p r hne) (fun hp q p r => ?_)
  have hs := hF (.inl hp) k' l' hk c hc
  obtain ⟨pc, tk, k, ps, sp, id, full⟩ := s
  simp only at hp
  subst hp
  exact node_apart hd h1 h2 h.2.2.2.1.lo h.2.2.2.1.hi x y p r hs
theorem node_ge8 (hd : d.Ok) : ∀ id j : Int, 1 ≤ id → id ≤ d.no → 0 ≤ j → j < d.fa + 4 → 8 ≤ d.node id j := fun id k i1 i2 a b => by
  have n0 := (node_in hd i1 i2 a b).1
  have hA := hd.A_bd
  have f1 := hd.fa1
  have m3 : 0 ≤ (id - 1) * (d.fa + 4) := Int.mul_nonneg (by omega) (by omega)
  omega
/-- The low cells stay, but for the count of nodes. -/
theorem InsI.low (hd : d.Ok) (K : InsK d fr fu) (h : InsI d L fr fu s) {j : Int} (hj : j < 8) (h4 : j ≠ 4) : getC (insMm d L s) j = getC L j := by
  refine insMm_other hd K h (fun _ => h4) (fun _ q p r => ?_) (fun hp q p r => ?_)
  · have := node_ge8 hd fr.id q K.hok.id.1 K.hok.id.2 p r
    omega
  · obtain ⟨pc, tk, k, ps, sp, id, full⟩ := s
    simp only at hp
    subst hp
    have := node_ge8 hd id q h.2.2.2.1.lo h.2.2.2.1.hi p r
    show j ≠ d.node id q
    omega
theorem InsI.n4 (hd : d.Ok) (hlen : (L.length : Int) = d.cells) (K : InsK d fr fu) (h : InsI d L fr fu s) (hn : (getC L 4).n ≤ d.no) : (getC L 4).n ≤ (getC (insMm d L s) 4).n ∧ (getC (insMm d L s) 4).n ≤ d.no := by
  have hcl := cells_big hd
  by_cases h0 : s.pc = 0
  · obtain ⟨pc, tk, k, ps, sp, id, full⟩ := s
    simp only at h0
    subst h0
    obtain ⟨_, _, _, a4, _⟩ := h
    obtain ⟨tp, seen, ok⟩ := tk
    simp only at a4
    show (getC L 4).n ≤ (getC (takeStep 4 d.no L ⟨tp, seen, ok⟩).2 4).n ∧ (getC (takeStep 4 d.no L ⟨tp, seen, ok⟩).2 4).n ≤ d.no
    rcases a4 with ⟨rfl, rfl⟩ | ⟨rfl, rfl, b1, b2⟩
    · exact ⟨Int.le_refl _, hn⟩
    · unfold takeStep
      simp only
      by_cases hsw : swapOk L 4 seen = true
      · rw [if_pos hsw]
        have hseen : (getC L 4).n = seen := by
          unfold swapOk at hsw
          simp only [Bool.and_eq_true, decide_eq_true_eq] at hsw
          exact hsw.2
        show (getC L 4).n ≤ (getC (putC L 4 ⟨seen + 1, ⟨#[]⟩, 0⟩) 4).n ∧ (getC (putC L 4 ⟨seen + 1, ⟨#[]⟩, 0⟩) 4).n ≤ d.no
        rw [getC_eq (by omega) (by omega)]
        exact ⟨by show _ ≤ seen + 1; omega, by show seen + 1 ≤ _; omega⟩
      · rw [if_neg hsw]
        exact ⟨Int.le_refl _, hn⟩
  · rw [insMm_other hd K h (fun e => absurd e h0) (fun _ => node_not4 hd K.hok.id.1 K.hok.id.2) (fun hp => ?_)]
    · exact ⟨Int.le_refl _, hn⟩
    · obtain ⟨pc, tk, k, ps, sp, id, full⟩ := s
      simp only at hp
      subst hp
      exact node_not4 hd h.2.2.2.1.lo h.2.2.2.1.hi
/-- A number just taken is no node's. -/
theorem InsFr.step (ht : TreeM d L t) (hI : InsI d L fr fu s) (hF : InsFr t s) (h2 : s.pc ≤ 2) (hn : InsNx d fr fu L s s') (h3 : s'.pc ≤ 2) : InsFr t s' := by
  obtain ⟨pc, tk, k, ps, sp, id, full⟩ := s
  simp only at h2
  rcases (by omega : pc = 0 ∨ pc = 1 ∨ pc = 2) with rfl | rfl | rfl
  · rcases hn with ⟨c1, rfl⟩ | ⟨c1, c2, rfl⟩ | ⟨c1, c2, rfl⟩
    · rintro (h | ⟨h, _⟩) <;> exact absurd h (by simp)
    · exact absurd h3 (by simp)
    · intro _ k' l' hk c hc
      obtain ⟨_, _, _, a4, _⟩ := hI
      obtain ⟨tp, seen, ok⟩ := tk
      simp only at a4
      rcases a4 with ⟨rfl, rfl⟩ | ⟨rfl, rfl, b1, b2⟩
      · cases c2
      · by_cases hsw : swapOk L 4 seen = true
        · have e1 : takeStep 4 d.no L ⟨1, seen, false⟩ = (⟨2, seen, true⟩, putC L 4 ⟨seen + 1, ⟨#[]⟩, 0⟩) := by
            show (if swapOk L 4 seen then _ else _) = _
            rw [if_pos hsw]
          have hseen : (getC L 4).n = seen := by
            unfold swapOk at hsw
            simp only [Bool.and_eq_true, decide_eq_true_eq] at hsw
            exact hsw.2
          have := (ht.sh.nodes k' l' hk c hc).1.2
          show c.id ≠ (takeStep 4 d.no L ⟨1, seen, false⟩).1.seen + 1
          rw [e1]
          show c.id ≠ seen + 1
          omega
        · have e1 : takeStep 4 d.no L ⟨1, seen, false⟩ = (⟨0, seen, false⟩, L) := by
            show (if swapOk L 4 seen then _ else _) = _
            rw [if_neg hsw]
          rw [e1] at c1
          exact absurd c1 (by simp)
  · rcases hn with ⟨c1, rfl⟩ | ⟨c1, ps', hw, rfl⟩
    · exact fun _ => hF (.inl rfl)
    · exact fun _ => hF (.inl rfl)
  · rcases hn with ⟨c1, rfl⟩ | ⟨c1, rfl⟩
    · rintro (h | ⟨_, h⟩)
      · exact absurd h (by simp)
      · exact hF (.inr ⟨rfl, h⟩)
    · exact absurd h3 (by simp)
theorem InsHd.at (ht : TreeM d L t) (H : InsHd t k i l nd fr fu) {k' j : Nat} {l' : List Nd} {c : Nd} (hk : t[k']? = some l') (hj : l'[j]? = some c) (he : c.id = fr.id) : k' = k ∧ j = i ∧ c = nd := by
  obtain ⟨rfl, rfl⟩ := ht.sh.inj k' k l' l j i c nd hk H.hk hj H.hi (by rw [he, H.id])
  have h1 := H.hk
  rw [hk] at h1
  obtain rfl := Option.some.inj h1
  have h2 := H.hi
  rw [hj] at h2
  exact ⟨rfl, rfl, Option.some.inj h2⟩
end
end Go.Proofs.YtlpdhhhgckpcfaaGreat
