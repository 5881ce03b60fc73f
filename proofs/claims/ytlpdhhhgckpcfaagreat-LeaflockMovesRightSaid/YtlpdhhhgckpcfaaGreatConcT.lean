
/- Insert's steps, and the tree that others read meanwhile (pure). -/
import Derived.Test.YtlpdhhhgckpcfaaGreatConcI
namespace Go.Proofs.YtlpdhhhgckpcfaaGreat
open Go.RowKit
set_option maxRecDepth 100000
/-- A tree that lies still is one that others may read. -/
theorem TreeOk.m {d : Cfg} {L : List Cel} {t : List (List Nd)} (ht : TreeOk d L t) : TreeM d L t :=
  ⟨ht.shp, ht.n4, ht.top, fun k l hk nd hn _ => by
    have h := ht.nodes k l hk nd hn
    exact ⟨h.page, h.hold, h.free.k, h.free.m⟩, fun k l hk nd hn _ => (ht.nodes k l hk nd hn).free.n⟩
/-- Nothing is locked any more. -/
theorem TreeM.ok {d : Cfg} {L : List Cel} {t : List (List Nd)} (ht : TreeM d L t) (hf : ∀ (k : Nat) (l : List Nd), t[k]? = some l → ∀ nd, nd ∈ l → (getC L (d.node nd.id 0)).n % 4 = 0) : TreeOk d L t := by
  refine TreeOk.of ht.sh ht.n4 ht.root (fun k l hk nd hn => ?_)
  have h0 := hf k l hk nd hn
  have h := ht.node k l hk nd hn (by unfold ltChg; exact decide_eq_false (by omega))
  exact ⟨h.page, h.hold, h0, h.k, h.m⟩
/-- The page that a node gets fits in its place. -/
structure FuT (t : List (List Nd)) (k : Nat) (nd : Nd) (fu : Pg) : Prop where
  lev : fu.lev = nd.pg.lev
  hi : fu.hi = nd.pg.hi
  la : fu.la = nd.pg.la
  ri : fu.ri = nd.pg.ri
  nds : NdS { nd with pg := fu }
  down : ∀ (m : Nat) (l0 : List Nd), k = m + 1 → t[m]? = some l0 → DownOk l0 { nd with pg := fu }
/-- Insert holds a node of the tree. -/
structure InsHd (t : List (List Nd)) (k i : Nat) (l : List Nd) (nd : Nd) (fr : InH) (fu : Pg) : Prop where
  hk : t[k]? = some l
  hi : l[i]? = some nd
  id : nd.id = fr.id
  pg : nd.pg = fr.pg
  fu : FuT t k nd fu
/-- A number that no node of the tree has. -/
def NoId (t : List (List Nd)) (id : Int) : Prop := ∀ (k : Nat) (l : List Nd), t[k]? = some l → ∀ c, c ∈ l → c.id ≠ id
/-- Insert has a number that no node of the tree has. -/
def InsFr (t : List (List Nd)) (s : InsS) : Prop := (s.pc = 1 ∨ (s.pc = 2 ∧ s.sp = true)) → NoId t s.id
theorem lk_begin {x : Int} (h : x % 4 = 1) : ltBegin x = x + 2 ∧ ltChg (ltBegin x) = true ∧ ltChg x = false := by
  have e : ltBegin x = x + 2 := by unfold ltBegin; rw [if_pos (by omega)]
  rw [e]
  exact ⟨rfl, by unfold ltChg; exact decide_eq_true (by omega), by unfold ltChg; exact decide_eq_false (by omega)⟩
theorem lk_end {x : Int} (h : x % 4 = 1) (h0 : 0 ≤ x) (h1 : x + 4 < 18446744073709551616) : ltEnd (ltBegin x) = x + 4 := by
  rw [(lk_begin h).1]
  unfold ltEnd ltClear
  rw [if_neg (by omega), IntKind.wrap_u64]
  omega
section
variable {d : Cfg} {L L' : List Cel} {t t' : List (List Nd)} {fr : InH} {fu : Pg} {s s' : InsS} {k i : Nat} {l : List Nd} {nd : Nd}
/-- The word of the node. -/
theorem InsI.word (hd : d.Ok) (K : InsK d fr fu) (h : InsI d L fr fu s) (h2 : s.pc ≤ 2) : getC L (d.node fr.id 0) = ⟨if s.pc = 2 ∧ 1 ≤ s.k then ltBegin fr.word else fr.word, ⟨#[]⟩, 0⟩ := by
  have f1 := hd.fa1
  obtain ⟨pc, tk, k, ps, sp, id, full⟩ := s
  simp only at h2
  rcases (by omega : pc = 0 ∨ pc = 1 ∨ pc = 2) with rfl | rfl | rfl
  · exact h.2.2.2.2.2
  · exact h.2.2.2.2.2.2.1.2
  · obtain ⟨a1, a2, a3, a4, a5, L0, b1, b2, b3⟩ := h
    have a4 : k < ps.length := a4
    rw [b3 0 (by omega) (by omega)]
    show getC (putAll L0 (ps.take k)) _ = ⟨if 2 = 2 ∧ 1 ≤ k then _ else _, _, _⟩
    by_cases h1 : 1 ≤ k
    · rw [if_pos ⟨rfl, h1⟩]
      obtain ⟨mid, hm, e⟩ := a3
      simp only at e
      subst e
      refine stage_mid hd K.hok.id.1 K.hok.id.2 hm.1 b1 (insPg_le hd K a2) h1 ?_
      simp at a4
      omega
    · rw [if_neg (fun h => h1 h.2)]
      obtain rfl : k = 0 := by omega
      exact b2.2
theorem InsI.old (hd : d.Ok) (K : InsK d fr fu) (h : InsI d L fr fu s) (h2 : s.pc ≤ 2) (hc : ltChg (getC L (d.node fr.id 0)).n = false) : OldN d L fr := by
  have hw := h.word hd K h2
  have hlk := K.lk
  obtain ⟨pc, tk, k, ps, sp, id, full⟩ := s
  simp only at h2
  rcases (by omega : pc = 0 ∨ pc = 1 ∨ pc = 2) with rfl | rfl | rfl
  · exact h.2.2.2.2
  · exact h.2.2.2.2.2.2.1
  · obtain ⟨a1, a2, a3, a4, a5, L0, b1, b2, b3⟩ := h
    simp only at hw b3
    by_cases h1 : 1 ≤ k
    · rw [hw, if_pos ⟨trivial, h1⟩] at hc
      rw [show ltChg _ = true from (lk_begin hlk).2.1] at hc
      cases hc
    · obtain rfl : k = 0 := by omega
      exact b2.frame hd K.hok b3
theorem OldN.ndc (hd : d.Ok) (K : InsK d fr fu) (h : OldN d L fr) (hla : fr.pg.la = true → fr.pg.hi = ⟨#[]⟩) (hid : nd.id = fr.id) (hpg : nd.pg = fr.pg) : NdC d L nd := by
  refine ⟨?_, ?_, ?_, ?_⟩
  · rw [hid, hpg]; exact pageAt_of h.1 K.hok.lev K.hok.pg.le hla
  · rw [hid, hpg]; exact h.1
  · rw [hid, h.2]
  · rw [hid, h.2]
/-- What a step does to the node's version. -/
theorem InsI.ver (hd : d.Ok) (hlen : (L.length : Int) = d.cells) (K : InsK d fr fu) (h4 : fr.id ≤ (getC L 4).n) (h40 : 0 ≤ (getC L 4).n) (h : InsI d L fr fu s) (h2 : s.pc ≤ 2) (hn : InsNx d fr fu L s s') :
    (∀ pg, (s'.pc ≤ 2 ∨ s'.full = true) → VerOk (getC L (d.node fr.id 0)).n (getC (insMm d L s) (d.node fr.id 0)).n pg pg) ∧ (∀ pg pg', s'.pc = 3 → s'.full = false → VerOk (getC L (d.node fr.id 0)).n (getC (insMm d L s) (d.node fr.id 0)).n pg pg') := by
  have hI := insI_step hd hlen K h4 h40 h h2 hn
  have hw := h.word hd K h2
  obtain ⟨e1, e2, e3⟩ := lk_begin K.lk
  have e4 := lk_end K.lk K.hok.word.1 K.ver
  have hlk := K.lk
  have same : getC (insMm d L s) (d.node fr.id 0) = getC L (d.node fr.id 0) → ∀ pg, VerOk (getC L (d.node fr.id 0)).n (getC (insMm d L s) (d.node fr.id 0)).n pg pg := fun e pg => by
    rw [e]; exact VerOk.refl _ _
  constructor
  · intro pg hs
    obtain ⟨pc, tk, k, ps, sp, id, full⟩ := s
    simp only at h2 hw
    rcases (by omega : pc = 0 ∨ pc = 1 ∨ pc = 2) with rfl | rfl | rfl
    · exact same (insMm_other hd K h (fun _ => (node_not4 hd K.hok.id.1 K.hok.id.2 0 (by omega) (by have := hd.fa1; omega)).symm) (fun e => by cases e) (fun e => by cases e)) pg
    · have hid := h.2.2.2.1
      have f1 := hd.fa1
      exact same (insMm_other hd K h (fun e => by cases e) (fun e => by cases e) (fun _ q x y => node_apart hd K.hok.id.1 K.hok.id.2 hid.lo hid.hi (by omega) (by omega) x y hid.ne.symm)) pg
    · rcases hn with ⟨c1, rfl⟩ | ⟨c1, rfl⟩
      · have hw1 : (getC (insMm d L ⟨2, tk, k, ps, sp, id, full⟩) (d.node fr.id 0)).n = ltBegin fr.word := by
          rw [hI.word hd K (Nat.le_refl 2)]
          show (if 2 = 2 ∧ 1 ≤ k + 1 then ltBegin fr.word else fr.word) = _
          rw [if_pos ⟨rfl, Nat.le_add_left 1 k⟩]
        have hw0 : (getC L (d.node fr.id 0)).n = if 1 ≤ k then ltBegin fr.word else fr.word := by
          rw [hw]
          by_cases h1 : 1 ≤ k
          · rw [if_pos h1, if_pos ⟨rfl, h1⟩]
          · rw [if_neg h1, if_neg (fun h => h1 h.2)]
        rw [hw1, hw0]
        by_cases h1 : 1 ≤ k
        · rw [if_pos h1]
          exact VerOk.refl _ _
        · rw [if_neg h1]
          refine ⟨by omega, fun _ hc => ?_⟩
          rw [e2] at hc
          cases hc
      · rcases hs with hs | hs
        · exact absurd hs (by simp)
        · have := h.1
          simp only at hs this
          rw [this] at hs
          cases hs
  · intro pg pg' h3 hf
    have hI' := hI
    obtain ⟨pc', tk', k', ps', sp', id', full'⟩ := s'
    simp only at h3 hf
    subst h3 hf
    obtain ⟨_, ⟨q, _⟩ | ⟨_, _, _, _, hw'⟩⟩ := hI'
    · cases q
    · rw [hw', hw, e4]
      refine ⟨?_, fun h _ => ?_⟩
      · show (if _ then _ else _) / 4 ≤ (fr.word + 4) / 4
        split <;> omega
      · exfalso
        have h : (if s.pc = 2 ∧ 1 ≤ s.k then ltBegin fr.word else fr.word) / 4 = (fr.word + 4) / 4 := h
        split at h <;> omega
/-- The new node's cells are not those of the tree's nodes. -/
theorem InsI.other (hd : d.Ok) (K : InsK d fr fu) (h : InsI d L fr fu s) (hF : InsFr t s) {k' : Nat} {l' : List Nd} {c : Nd} (hk : t[k']? = some l') (hc : c ∈ l') (h1 : 1 ≤ c.id) (h2 : c.id ≤ d.no) (hne : c.id ≠ fr.id) :
    ∀ j : Int, 0 ≤ j → j < d.fa + 4 → getC (insMm d L s) (d.node c.id j) = getC L (d.node c.id j) := by
  intro j x y
  refine insMm_other hd K h (fun _ => (node_not4 hd h1 h2 j x y).symm) (fun _ q p r => node_apart hd h1 h2 K.hok.id.1 K.hok.id.2 x y p r hne) (fun hp q p r => ?_)
  have hs := hF (.inl hp) k' l' hk c hc
  obtain ⟨pc, tk, k, ps, sp, id, full⟩ := s
  simp only at hp
  subst hp
  exact node_apart hd h1 h2 h.2.2.2.1.lo h.2.2.2.1.hi x y p r hs
theorem node_ge8 (hd : d.Ok) : ∀ id j : Int, 1 ≤ id → id ≤ d.no → 0 ≤ j → j < d.fa + 4 → 8 ≤ d.node id j := fun id k i1 i2 a b => by
  have n0 := (node_in hd i1 i2 a b).1
  have hA := hd.A_bd
  have f1 := hd.fa1
  have m3 : 0 ≤ (id - 1) * (d.fa + 4) := Int.mul_nonneg (by omega) (by omega)
  omega
/-- The low cells stay, but for the count of nodes. -/
theorem InsI.low (hd : d.Ok) (K : InsK d fr fu) (h : InsI d L fr fu s) {j : Int} (hj : j < 8) (h4 : j ≠ 4) : getC (insMm d L s) j = getC L j := by
  refine insMm_other hd K h (fun _ => h4) (fun _ q p r => ?_) (fun hp q p r => ?_)
  · have := node_ge8 hd fr.id q K.hok.id.1 K.hok.id.2 p r
    omega
  · obtain ⟨pc, tk, k, ps, sp, id, full⟩ := s
    simp only at hp
    subst hp
    have := node_ge8 hd id q h.2.2.2.1.lo h.2.2.2.1.hi p r
    show j ≠ d.node id q
    omega
theorem InsI.n4 (hd : d.Ok) (hlen : (L.length : Int) = d.cells) (K : InsK d fr fu) (h : InsI d L fr fu s) (hn : (getC L 4).n ≤ d.no) : (getC L 4).n ≤ (getC (insMm d L s) 4).n ∧ (getC (insMm d L s) 4).n ≤ d.no := by
  have hcl := cells_big hd
  by_cases h0 : s.pc = 0
  · obtain ⟨pc, tk, k, ps, sp, id, full⟩ := s
    simp only at h0
    subst h0
    obtain ⟨_, _, _, a4, _⟩ := h
    obtain ⟨tp, seen, ok⟩ := tk
    simp only at a4
    show (getC L 4).n ≤ (getC (takeStep 4 d.no L ⟨tp, seen, ok⟩).2 4).n ∧ (getC (takeStep 4 d.no L ⟨tp, seen, ok⟩).2 4).n ≤ d.no
    rcases a4 with ⟨rfl, rfl⟩ | ⟨rfl, rfl, b1, b2⟩
    · exact ⟨Int.le_refl _, hn⟩
    · unfold takeStep
      simp only
      by_cases hsw : swapOk L 4 seen = true
      · rw [if_pos hsw]
        have hseen : (getC L 4).n = seen := by
          unfold swapOk at hsw
          simp only [Bool.and_eq_true, decide_eq_true_eq] at hsw
          exact hsw.2
        show (getC L 4).n ≤ (getC (putC L 4 ⟨seen + 1, ⟨#[]⟩, 0⟩) 4).n ∧ (getC (putC L 4 ⟨seen + 1, ⟨#[]⟩, 0⟩) 4).n ≤ d.no
        rw [getC_eq (by omega) (by omega)]
        exact ⟨by show _ ≤ seen + 1; omega, by show seen + 1 ≤ _; omega⟩
      · rw [if_neg hsw]
        exact ⟨Int.le_refl _, hn⟩
  · rw [insMm_other hd K h (fun e => absurd e h0) (fun _ => node_not4 hd K.hok.id.1 K.hok.id.2) (fun hp => ?_)]
    · exact ⟨Int.le_refl _, hn⟩
    · obtain ⟨pc, tk, k, ps, sp, id, full⟩ := s
      simp only at hp
      subst hp
      exact node_not4 hd h.2.2.2.1.lo h.2.2.2.1.hi
/-- A number just taken is no node's. -/
theorem InsFr.step (ht : TreeM d L t) (hI : InsI d L fr fu s) (hF : InsFr t s) (h2 : s.pc ≤ 2) (hn : InsNx d fr fu L s s') (h3 : s'.pc ≤ 2) : InsFr t s' := by
  obtain ⟨pc, tk, k, ps, sp, id, full⟩ := s
  simp only at h2
  rcases (by omega : pc = 0 ∨ pc = 1 ∨ pc = 2) with rfl | rfl | rfl
  · rcases hn with ⟨c1, rfl⟩ | ⟨c1, c2, rfl⟩ | ⟨c1, c2, rfl⟩
    · rintro (h | ⟨h, _⟩) <;> exact absurd h (by simp)
    · exact absurd h3 (by simp)
    · intro _ k' l' hk c hc
      obtain ⟨_, _, _, a4, _⟩ := hI
      obtain ⟨tp, seen, ok⟩ := tk
      simp only at a4
      rcases a4 with ⟨rfl, rfl⟩ | ⟨rfl, rfl, b1, b2⟩
      · cases c2
      · by_cases hsw : swapOk L 4 seen = true
        · have e1 : takeStep 4 d.no L ⟨1, seen, false⟩ = (⟨2, seen, true⟩, putC L 4 ⟨seen + 1, ⟨#[]⟩, 0⟩) := by
            show (if swapOk L 4 seen then _ else _) = _
            rw [if_pos hsw]
          have hseen : (getC L 4).n = seen := by
            unfold swapOk at hsw
            simp only [Bool.and_eq_true, decide_eq_true_eq] at hsw
            exact hsw.2
          have := (ht.sh.nodes k' l' hk c hc).1.2
          show c.id ≠ (takeStep 4 d.no L ⟨1, seen, false⟩).1.seen + 1
          rw [e1]
          show c.id ≠ seen + 1
          omega
        · have e1 : takeStep 4 d.no L ⟨1, seen, false⟩ = (⟨0, seen, false⟩, L) := by
            show (if swapOk L 4 seen then _ else _) = _
            rw [if_neg hsw]
          rw [e1] at c1
          exact absurd c1 (by simp)
  · rcases hn with ⟨c1, rfl⟩ | ⟨c1, ps', hw, rfl⟩
    · exact fun _ => hF (.inl rfl)
    · exact fun _ => hF (.inl rfl)
  · rcases hn with ⟨c1, rfl⟩ | ⟨c1, rfl⟩
    · rintro (h | ⟨_, h⟩)
      · exact absurd h (by simp)
      · exact hF (.inr ⟨rfl, h⟩)
    · exact absurd h3 (by simp)
theorem InsHd.at (ht : TreeM d L t) (H : InsHd t k i l nd fr fu) {k' j : Nat} {l' : List Nd} {c : Nd} (hk : t[k']? = some l') (hj : l'[j]? = some c) (he : c.id = fr.id) : k' = k ∧ j = i ∧ c = nd := by
  obtain ⟨rfl, rfl⟩ := ht.sh.inj k' k l' l j i c nd hk H.hk hj H.hi (by rw [he, H.id])
  have h1 := H.hk
  rw [hk] at h1
  obtain rfl := Option.some.inj h1
  have h2 := H.hi
  rw [hj] at h2
  exact ⟨rfl, rfl, Option.some.inj h2⟩
/-- A step that is not the last of a full Insert. -/
theorem insT_mid (hd : d.Ok) (hlen : (L.length : Int) = d.cells) (K : InsK d fr fu) (ht : TreeM d L t) (H : InsHd t k i l nd fr fu) (hI : InsI d L fr fu s) (hF : InsFr t s) (h2 : s.pc ≤ 2) (hn : InsNx d fr fu L s s') (h3 : s'.pc ≤ 2 ∨ s'.full = true) :
    TreeM d (insMm d L s) t ∧ Evo d L t (insMm d L s) t := by
  have hnd := List.mem_of_getElem? H.hi
  have hus := (ht.sh.nodes k l H.hk nd hnd).1
  have hidd := H.id
  have hIs := insI_step hd hlen K (by omega) (by omega) hI h2 hn
  have hv := (hI.ver hd hlen K (by omega) (by omega) h2 hn).1
  obtain ⟨n1, n2⟩ := hI.n4 hd hlen K ht.n4
  have htn := ht.n4
  have hla : fr.pg.la = true → fr.pg.hi = ⟨#[]⟩ := fun h => by
    rw [← H.pg] at h ⊢
    exact ((ht.sh.rows k l H.hk).la_hi hnd h).1
  have hwd : ∀ (k' : Nat) (l' : List Nd), t[k']? = some l' → ∀ c, c ∈ l' → (getC (insMm d L s) (d.node c.id 0)).n % 2 = 0 → (getC (insMm d L s) (d.node c.id 0)).n % 4 = 0 := by
    intro k' l' hk' c hc hev
    have hcb := (ht.sh.nodes k' l' hk' c hc).1
    by_cases he : c.id = fr.id
    · exfalso
      rw [he] at hev
      have hlk := K.lk
      have hodd : (getC (insMm d L s) (d.node fr.id 0)).n % 2 = 1 := by
        by_cases h3' : s'.pc ≤ 2
        · rw [hIs.word hd K h3']
          show (if s'.pc = 2 ∧ 1 ≤ s'.k then ltBegin fr.word else fr.word) % 2 = 1
          have := (lk_begin K.lk).1
          split <;> omega
        · obtain ⟨pc', tk', k', ps', sp', id', full'⟩ := s'
          obtain ⟨pc', rfl⟩ : ∃ m, pc' = m + 3 := ⟨pc' - 3, by simp only at h3'; omega⟩
          rcases h3 with h3 | h3
          · exact absurd h3 h3'
          · simp only at h3
            subst h3
            obtain ⟨_, ⟨_, _, q⟩ | ⟨q, _⟩⟩ := hIs
            · rw [q.2]
              show fr.word % 2 = 1
              omega
            · cases q
      omega
    · have ho := hI.other hd K hF hk' hc hcb.1 (by omega) he
      have f1 := hd.fa1
      rw [ho 0 (by omega) (by omega)] at hev ⊢
      exact ht.wd k' l' hk' c hc hev
  constructor
  · refine ⟨ht.sh.mono n1, n2, by rw [hI.low hd K (by omega) (by omega)]; exact ht.root, fun k' l' hk' c hc hch => ?_, hwd⟩
    have hcb := (ht.sh.nodes k' l' hk' c hc).1
    by_cases he : c.id = fr.id
    · obtain ⟨j, hj⟩ := List.getElem?_of_mem hc
      obtain ⟨rfl, rfl, rfl⟩ := H.at ht hk' hj he
      have hold : OldN d (insMm d L s) fr := by
        rcases h3 with h3 | h3
        · exact hIs.old hd K h3 (by rw [← he]; exact hch)
        · by_cases h3' : s'.pc ≤ 2
          · exact hIs.old hd K h3' (by rw [← he]; exact hch)
          · obtain ⟨pc', tk', k', ps', sp', id', full'⟩ := s'
            obtain ⟨pc', rfl⟩ : ∃ m, pc' = m + 3 := ⟨pc' - 3, by simp only at h3'; omega⟩
            simp only at h3
            subst h3
            obtain ⟨_, ⟨_, _, q⟩ | ⟨q, _⟩⟩ := hIs
            · exact q
            · cases q
      exact hold.ndc hd K hla he H.pg
    · have ho := hI.other hd K hF hk' hc hcb.1 (by omega) he
      have f1 := hd.fa1
      exact (ht.node k' l' hk' c hc (by rw [← ho 0 (by omega) (by omega)]; exact hch)).frame hd hcb.1 (by omega) ho
  · intro k' l' hk' c hc
    have hcb := (ht.sh.nodes k' l' hk' c hc).1
    refine ⟨l', c, hk', hc, rfl, rfl, ?_⟩
    by_cases he : c.id = fr.id
    · rw [he]; exact hv c.pg h3
    · have ho := hI.other hd K hF hk' hc hcb.1 (by omega) he
      have f1 := hd.fa1
      rw [ho 0 (by omega) (by omega)]
      exact VerOk.refl _ _
/-- What is in the tree behind the last step. -/
theorem insT_end (hd : d.Ok) (hlen : (L.length : Int) = d.cells) (K : InsK d fr fu) (ht : TreeM d L t) (H : InsHd t k i l nd fr fu) (hI : InsI d L fr fu s) (hF : InsFr t s) (h2 : s.pc ≤ 2) (hn : InsNx d fr fu L s s') (h3 : s'.pc = 3) (hf : s'.full = false) :
    TreeM d (insMm d L s) (insT t k i l nd fu s'.id s'.sp) ∧ Evo d L t (insMm d L s) (insT t k i l nd fu s'.id s'.sp) := by
  have hnd := List.mem_of_getElem? H.hi
  have hus := (ht.sh.nodes k l H.hk nd hnd).1
  have hidd := H.id
  have hIs := insI_step hd hlen K (by omega) (by omega) hI h2 hn
  have hv := (hI.ver hd hlen K (by omega) (by omega) h2 hn).2
  obtain ⟨n1, n2⟩ := hI.n4 hd hlen K ht.n4
  have htn := ht.n4
  have f1 := hd.fa1
  have hR := ht.sh.rows k l H.hk
  have hlev := hR.lev nd hnd
  have hfl := H.fu.lev
  have hkl := K.hok.lev
  rw [← H.pg] at hkl
  have hla : fu.la = true → fu.hi = ⟨#[]⟩ := fun h => by
    rw [H.fu.la] at h
    rw [H.fu.hi]
    exact (hR.la_hi hnd h).1
  have hlen' := (List.getElem?_eq_some_iff.1 H.hi).1
  have hS := ht.sh.mono n1
  obtain ⟨rt, rest, htop, hroot⟩ := ht.root
  have hr0 : getC (insMm d L s) 0 = getC L 0 := hI.low hd K (by omega) (by omega)
  have hver := fun pg pg' => hv pg pg' h3 hf
  have hfr1 : (s.pc = 2 ∧ s'.sp = s.sp ∧ s'.id = s.id) := by
    obtain ⟨pc, tk, k, ps, sp, id, full⟩ := s
    simp only at h2
    rcases (by omega : pc = 0 ∨ pc = 1 ∨ pc = 2) with rfl | rfl | rfl
    · rcases hn with ⟨c1, rfl⟩ | ⟨c1, c2, rfl⟩ | ⟨c1, c2, rfl⟩
      · exact absurd h3 (by simp)
      · cases hf
      · exact absurd h3 (by simp)
    · rcases hn with ⟨c1, rfl⟩ | ⟨c1, ps', hw, rfl⟩ <;> exact absurd h3 (by simp)
    · rcases hn with ⟨c1, rfl⟩ | ⟨c1, rfl⟩
      · exact absurd h3 (by simp)
      · exact ⟨rfl, rfl, rfl⟩
  have hold : ∀ (k' : Nat) (l' : List Nd), t[k']? = some l' → ∀ (j : Nat) (c : Nd), l'[j]? = some c → (k' ≠ k ∨ j ≠ i) → c.id ≠ fr.id ∧ ∀ q : Int, 0 ≤ q → q < d.fa + 4 → getC (insMm d L s) (d.node c.id q) = getC L (d.node c.id q) := by
    intro k' l' hk' j c hc hne
    have hcm := List.mem_of_getElem? hc
    have hcb := (ht.sh.nodes k' l' hk' c hcm).1
    have he : c.id ≠ fr.id := fun e => by
      obtain ⟨e1, e2, _⟩ := H.at ht hk' hc e
      rcases hne with h | h
      · exact h e1
      · exact h e2
    exact ⟨he, hI.other hd K hF hk' hcm hcb.1 (by omega) he⟩
  have holdC : ∀ (k' : Nat) (l' : List Nd), t[k']? = some l' → ∀ (j : Nat) (c : Nd), l'[j]? = some c → (k' ≠ k ∨ j ≠ i) → ltChg (getC (insMm d L s) (d.node c.id 0)).n = false → NdC d (insMm d L s) c := by
    intro k' l' hk' j c hc hne hch
    have hcm := List.mem_of_getElem? hc
    have hcb := (ht.sh.nodes k' l' hk' c hcm).1
    have ho := (hold k' l' hk' j c hc hne).2
    exact (ht.node k' l' hk' c hcm (by rw [← ho 0 (by omega) (by omega)]; exact hch)).frame hd hcb.1 (by omega) ho
  have holdW : ∀ (k' : Nat) (l' : List Nd), t[k']? = some l' → ∀ (j : Nat) (c : Nd), l'[j]? = some c → (k' ≠ k ∨ j ≠ i) → (getC (insMm d L s) (d.node c.id 0)).n % 2 = 0 → (getC (insMm d L s) (d.node c.id 0)).n % 4 = 0 := by
    intro k' l' hk' j c hc hne hev
    rw [(hold k' l' hk' j c hc hne).2 0 (by omega) (by omega)] at hev ⊢
    exact ht.wd k' l' hk' c (List.mem_of_getElem? hc) hev
  have hoth : ∀ (k' : Nat) (l' : List Nd), t[k']? = some l' → ∀ (j : Nat) (c : Nd), l'[j]? = some c → (k' ≠ k ∨ j ≠ i) → VerOk (getC L (d.node c.id 0)).n (getC (insMm d L s) (d.node c.id 0)).n c.pg c.pg := by
    intro k' l' hk' j c hc hne
    rw [(hold k' l' hk' j c hc hne).2 0 (by omega) (by omega)]
    exact VerOk.refl _ _
  have hFr := fun h : s.sp = true => hF (.inr ⟨hfr1.1, h⟩)
  obtain ⟨pc', tk', kk', ps', sp', id', full'⟩ := s'
  simp only at h3 hf hfr1 ⊢
  subst h3 hf
  obtain ⟨_, ⟨q, _⟩ | ⟨_, g1, g2, g3, g4⟩⟩ := hIs
  · cases q
  simp only at g1 g2 g3 g4
  cases hsp : sp' with
  | false =>
    rw [hsp] at g1 g3
    have g1 := g1 rfl
    have e : insT t k i l nd fu id' false = t.set k (l.set i { nd with pg := fu }) := rfl
    rw [e]
    have hme : NdC d (insMm d L s) { nd with pg := fu } := by
      have g3 : Holds (insMm d L s) (pgPts d fr.id fu) := g3
      rw [← hidd] at g3 g4
      exact ⟨pageAt_of g3 (show 0 ≤ fu.lev ∧ fu.lev < 1000000 by omega) g1 hla, g3, by rw [g4], by rw [g4]⟩
    refine ⟨⟨hS.put H.hk H.hi hfl H.fu.hi H.fu.la H.fu.ri H.fu.nds H.fu.down, n2, ?_, fun k' l' hk' c hc hch => ?_, fun k' l' hk' c hc => ?_⟩, fun k' l' hk' c hc => ?_⟩
    · obtain ⟨a, rest', h1, h2⟩ := set_top (l' := l.set i { nd with pg := fu }) ht.sh.ne H.hk htop (fun a ha => by
        rw [List.getElem?_set]
        simp only [hlen', if_true]
        split
        · rename_i e
          subst e
          have := H.hi
          rw [this] at ha
          obtain rfl := Option.some.inj ha
          exact ⟨{ nd with pg := fu }, rfl, rfl⟩
        · exact ⟨a, ha, rfl⟩)
      exact ⟨a, rest', h1, by rw [hr0, hroot, h2]⟩
    · rcases set_row hk' with ⟨rfl, rfl⟩ | ⟨hne, hk2⟩
      · obtain ⟨j, hj⟩ := List.getElem?_of_mem hc
        rw [List.getElem?_set] at hj
        simp only [hlen', if_true] at hj
        split at hj
        · obtain rfl := Option.some.inj hj
          exact hme
        · exact holdC _ _ H.hk j c hj (.inr (by rename_i e; exact fun h => e h.symm)) hch
      · obtain ⟨j, hj⟩ := List.getElem?_of_mem hc
        exact holdC _ _ hk2 j c hj (.inl hne) hch
    · intro hev
      have hlk := K.lk
      have e4 := lk_end K.lk K.hok.word.1 K.ver
      rcases set_row hk' with ⟨rfl, rfl⟩ | ⟨hne, hk2⟩
      · obtain ⟨j, hj⟩ := List.getElem?_of_mem hc
        rw [List.getElem?_set] at hj
        simp only [hlen', if_true] at hj
        split at hj
        · obtain rfl := Option.some.inj hj
          exfalso
          have hev : (getC (insMm d L s) (d.node nd.id 0)).n % 2 = 0 := hev
          rw [hidd, g4] at hev
          have hev : ltEnd (ltBegin fr.word) % 2 = 0 := hev
          omega
        · exact holdW _ _ H.hk j c hj (.inr (by rename_i e; exact fun h => e h.symm)) hev
      · obtain ⟨j, hj⟩ := List.getElem?_of_mem hc
        exact holdW _ _ hk2 j c hj (.inl hne) hev
    · obtain ⟨j, hj⟩ := List.getElem?_of_mem hc
      by_cases hkk : k' = k
      · subst hkk
        have h1 := H.hk
        rw [hk'] at h1
        obtain rfl := Option.some.inj h1
        have hkt := (List.getElem?_eq_some_iff.1 hk').1
        by_cases hji : j = i
        · subst hji
          have h1 := H.hi
          rw [hj] at h1
          obtain rfl := Option.some.inj h1
          exact ⟨_, { c with pg := fu }, List.getElem?_set_self hkt, List.mem_of_getElem? (i := j) (by rw [List.getElem?_set_self hlen']), rfl, rfl, by rw [hidd]; exact hver _ _⟩
        · exact ⟨_, c, List.getElem?_set_self hkt, List.mem_of_getElem? (i := j) (by rw [List.getElem?_set_ne (fun e => hji e.symm)]; exact hj), rfl, rfl, hoth _ _ hk' j c hj (.inr hji)⟩
      · exact ⟨l', c, by rw [List.getElem?_set_ne (fun e => hkk e.symm)]; exact hk', hc, rfl, rfl, hoth _ _ hk' j c hj (.inl hkk)⟩
  | true =>
    rw [hsp] at g3
    obtain ⟨g5, g6, g7⟩ := g2 hsp
    have hFr := hFr (by rw [← hfr1.2.1, hsp])
    rw [← hfr1.2.2] at hFr
    have h2' : 2 ≤ fu.sl.length := g5
    obtain ⟨sL, sR, sA, sB⟩ := spl_nds (n := id') H.fu.nds h2'
    have hle1 := insPg_le (s := ⟨3, tk', kk', ps', true, id', false⟩) hd K (fun h => by cases h)
    have hle2 := (K.fok.right hd).le
    have e : insT t k i l nd fu id' true = t.set k (spl l i { nd with pg := splL fu id' } ⟨id', splSep fu, splR fu⟩) := rfl
    rw [e]
    have hme : NdC d (insMm d L s) { nd with pg := splL fu id' } := by
      have g3 : Holds (insMm d L s) (pgPts d fr.id (splL fu id')) := g3
      rw [← hidd] at g3 g4
      exact ⟨pageAt_of g3 (show 0 ≤ fu.lev ∧ fu.lev < 1000000 by omega) hle1 (fun h => by cases h), g3, by rw [g4], by rw [g4]⟩
    have hnew : NdC d (insMm d L s) ⟨id', splSep fu, splR fu⟩ :=
      ⟨pageAt_of g7.1 (show 0 ≤ fu.lev ∧ fu.lev < 1000000 by omega) hle2 hla, g7.1, by show (getC _ (d.node id' 0)).k = _; rw [g7.2], by show (getC _ (d.node id' 0)).m = _; rw [g7.2]⟩
    refine ⟨⟨?_, n2, ?_, fun k' l' hk' c hc hch => ?_, fun k' l' hk' c hc => ?_⟩, fun k' l' hk' c hc => ?_⟩
    · refine hS.splitC (a := { nd with pg := splL fu id' }) (b := ⟨id', splSep fu, splR fu⟩) H.hk H.hi g6.lo g6.us hFr rfl rfl (by show fu.lev = _; rw [hfl, hlev]) rfl rfl rfl (by show fu.lev = _; rw [hfl, hlev]) H.fu.la H.fu.hi H.fu.ri sA (fun h => ?_) sL sR (fun m l0 hkm h0 => ?_)
      · show klt (splSep fu) nd.pg.hi = true
        rw [← H.fu.hi]
        exact sB (by rw [H.fu.la]; exact h)
      · exact spl_down (by omega) (H.fu.down m l0 hkm h0) h2'
    · obtain ⟨a, rest', h1, h2⟩ := set_top (l' := spl l i { nd with pg := splL fu id' } ⟨id', splSep fu, splR fu⟩) ht.sh.ne H.hk htop (fun a ha => by
        rw [spl_at hlen']
        by_cases h0 : 0 < i
        · rw [if_pos h0]; exact ⟨a, ha, rfl⟩
        · have hi0 : i = 0 := by omega
          have := H.hi
          rw [hi0] at this
          rw [this] at ha
          obtain rfl := Option.some.inj ha
          rw [if_neg h0, if_pos hi0.symm]
          exact ⟨_, rfl, rfl⟩)
      exact ⟨a, rest', h1, by rw [hr0, hroot, h2]⟩
    · rcases set_row hk' with ⟨rfl, rfl⟩ | ⟨hne, hk2⟩
      · obtain ⟨j, hj⟩ := List.getElem?_of_mem hc
        rw [spl_at hlen'] at hj
        by_cases c1 : j < i
        · rw [if_pos c1] at hj
          exact holdC _ _ H.hk j c hj (.inr (by omega)) hch
        · rw [if_neg c1] at hj
          by_cases c2 : j = i
          · rw [if_pos c2] at hj
            obtain rfl := Option.some.inj hj
            exact hme
          · rw [if_neg c2] at hj
            by_cases c3 : j = i + 1
            · rw [if_pos c3] at hj
              obtain rfl := Option.some.inj hj
              exact hnew
            · rw [if_neg c3] at hj
              exact holdC _ _ H.hk (j - 1) c hj (.inr (by omega)) hch
      · obtain ⟨j, hj⟩ := List.getElem?_of_mem hc
        exact holdC _ _ hk2 j c hj (.inl hne) hch
    · intro hev
      have hlk := K.lk
      have e4 := lk_end K.lk K.hok.word.1 K.ver
      rcases set_row hk' with ⟨rfl, rfl⟩ | ⟨hne, hk2⟩
      · obtain ⟨j, hj⟩ := List.getElem?_of_mem hc
        rw [spl_at hlen'] at hj
        by_cases c1 : j < i
        · rw [if_pos c1] at hj
          exact holdW _ _ H.hk j c hj (.inr (by omega)) hev
        · rw [if_neg c1] at hj
          by_cases c2 : j = i
          · rw [if_pos c2] at hj
            obtain rfl := Option.some.inj hj
            exfalso
            have hev : (getC (insMm d L s) (d.node nd.id 0)).n % 2 = 0 := hev
            rw [hidd, g4] at hev
            have hev : ltEnd (ltBegin fr.word) % 2 = 0 := hev
            omega
          · rw [if_neg c2] at hj
            by_cases c3 : j = i + 1
            · rw [if_pos c3] at hj
              obtain rfl := Option.some.inj hj
              exfalso
              have hev : (getC (insMm d L s) (d.node id' 0)).n % 2 = 0 := hev
              rw [g7.2] at hev
              have hev : ltLock 0 % 2 = (0 : Int) := hev
              revert hev; decide
            · rw [if_neg c3] at hj
              exact holdW _ _ H.hk (j - 1) c hj (.inr (by omega)) hev
      · obtain ⟨j, hj⟩ := List.getElem?_of_mem hc
        exact holdW _ _ hk2 j c hj (.inl hne) hev
    · obtain ⟨j, hj⟩ := List.getElem?_of_mem hc
      by_cases hkk : k' = k
      · subst hkk
        have h1 := H.hk
        rw [hk'] at h1
        obtain rfl := Option.some.inj h1
        have hkt := (List.getElem?_eq_some_iff.1 hk').1
        rcases Nat.lt_trichotomy j i with hji | hji | hji
        · exact ⟨_, c, List.getElem?_set_self hkt, List.mem_of_getElem? (i := j) (by rw [spl_at hlen', if_pos hji]; exact hj), rfl, rfl, hoth _ _ hk' j c hj (.inr (by omega))⟩
        · subst hji
          have h1 := H.hi
          rw [hj] at h1
          obtain rfl := Option.some.inj h1
          exact ⟨_, { c with pg := splL fu id' }, List.getElem?_set_self hkt, List.mem_of_getElem? (i := j) (by rw [spl_at hlen', if_neg (by omega), if_pos rfl]), rfl, rfl, by rw [hidd]; exact hver _ _⟩
        · exact ⟨_, c, List.getElem?_set_self hkt, List.mem_of_getElem? (i := j + 1) (by rw [spl_at hlen', if_neg (by omega), if_neg (by omega), if_neg (by omega)]; exact hj), rfl, rfl, hoth _ _ hk' j c hj (.inr (by omega))⟩
      · exact ⟨l', c, by rw [List.getElem?_set_ne (fun e => hkk e.symm)]; exact hk', hc, rfl, rfl, hoth _ _ hk' j c hj (.inl hkk)⟩
end
end Go.Proofs.YtlpdhhhgckpcfaaGreat
