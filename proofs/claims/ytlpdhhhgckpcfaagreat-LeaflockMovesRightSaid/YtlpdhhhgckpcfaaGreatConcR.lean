
/- Readers in a tree that others change (pure): what Read has copied, where Find is. -/
import Derived.Test.YtlpdhhhgckpcfaaGreatTreePut
import Derived.Test.YtlpdhhhgckpcfaaGreatFindLaw
import Derived.Test.YtlpdhhhgckpcfaaGreatNodeOwn
namespace Go.Proofs.YtlpdhhhgckpcfaaGreat
open Go.RowKit
set_option maxRecDepth 100000
/-- What has been copied of a page so far. -/
def RdPart (pg : Pg) (s : RdS) : Prop := match s.pc with
  | 1 => True
  | 2 => s.pg = ⟨pg.lev, [], ⟨#[]⟩, false, 0⟩ ∧ s.left = pg.sl.length
  | 3 => s.pg = ⟨pg.lev, [], pg.hi, pg.la, 0⟩ ∧ s.left = pg.sl.length
  | 4 => ∃ j, j < pg.sl.length ∧ s.pg = ⟨pg.lev, pg.sl.take j, pg.hi, pg.la, pg.ri⟩ ∧ s.left = pg.sl.length - j
  | 5 => s.pg = pg
  | _ => False
theorem pg_all {pg : Pg} {j : Nat} (h : pg.sl.length ≤ j) : (⟨pg.lev, pg.sl.take j, pg.hi, pg.la, pg.ri⟩ : Pg) = pg := by
  rw [List.take_of_length_le h]
theorem RdPart.step {d : Cfg} {id : Int} {L : List Cel} {pg : Pg} {s : RdS} (hp : PageAt d id L pg) (h : RdPart pg s) (h4 : s.pc ≤ 4) : RdPart pg (rdStep d id L s) := by
  have hleft : leftOf d (getC L (d.node id 1)) = pg.sl.length := by
    have := hp.le
    unfold leftOf
    rw [hp.n, Int.min_eq_left this]
    omega
  obtain ⟨pc, spg, left, word, tt⟩ := s
  match pc, h, h4 with
  | 0, h, _ => exact h.elim
  | 1, _, _ =>
    unfold rdStep
    simp only [hp.lev, hleft]
    exact ⟨rfl, rfl⟩
  | 2, h, _ =>
    obtain ⟨h1, h2⟩ := h
    simp only at h1 h2
    subst h1 h2
    unfold rdStep Pg.high
    simp only [hp.hi, hp.la]
    exact ⟨rfl, rfl⟩
  | 3, h, _ =>
    obtain ⟨h1, h2⟩ := h
    simp only at h1 h2
    subst h1 h2
    unfold rdStep Pg.right
    simp only [hp.ri]
    by_cases h0 : pg.sl.length = 0
    · rw [if_pos h0]
      show _ = pg
      have := pg_all (pg := pg) (j := 0) (by omega)
      rw [List.take_zero] at this
      exact this
    · rw [if_neg h0]
      exact ⟨0, by omega, rfl, rfl⟩
  | 4, h, _ =>
    obtain ⟨j, hj, h1, h2⟩ := h
    simp only at h1 h2
    subst h1 h2
    obtain ⟨x, hx⟩ : ∃ x, pg.sl[j]? = some x := ⟨_, List.getElem?_eq_getElem hj⟩
    obtain ⟨e1, e2⟩ := hp.sl _ _ hx
    have hlen : (pg.sl.take j).length = j := by rw [List.length_take]; omega
    have hpush : (pg.sl.take j) ++ [⟨x.k, x.r⟩] = pg.sl.take (j + 1) := by rw [List.take_add_one, hx]; rfl
    unfold rdStep Pg.push
    simp only [hlen, e1, e2, hpush]
    by_cases h0 : pg.sl.length - j - 1 = 0
    · rw [if_pos h0]
      exact pg_all (by omega)
    · rw [if_neg h0]
      exact ⟨j + 1, by omega, rfl, by show pg.sl.length - j - 1 = pg.sl.length - (j + 1); omega⟩
  | n + 5, h, h4 => exact absurd h4 (by simp)
/-- What Own has copied of a page so far. -/
def OwPart (pg : Pg) (s : RdS) : Prop := match s.pc with
  | 1 => True
  | 2 => s.pg = ⟨pg.lev, [], ⟨#[]⟩, false, 0⟩ ∧ s.left = pg.sl.length
  | 3 => s.pg = ⟨pg.lev, [], pg.hi, pg.la, 0⟩ ∧ s.left = pg.sl.length
  | 4 => ∃ j, j < pg.sl.length ∧ s.pg = ⟨pg.lev, pg.sl.take j, pg.hi, pg.la, pg.ri⟩ ∧ s.left = pg.sl.length - j
  | 6 => s.pg = pg
  | _ => False
/-- The steps that Own still makes. -/
def owLeft (d : Cfg) (s : RdS) : Nat := match s.pc with
  | 1 => d.fa.toNat + 3
  | 2 => s.left + 2
  | 3 => s.left + 1
  | 4 => s.left
  | _ => 0
theorem OwPart.step {d : Cfg} {id : Int} {L : List Cel} {pg : Pg} {s : RdS} (hp : PageAt d id L pg) (h : OwPart pg s) (h6 : s.pc ≠ 6) : OwPart pg (ownStep d id L s) ∧ (ownStep d id L s).word = s.word ∧ owLeft d (ownStep d id L s) < owLeft d s := by
  have hle := hp.le
  have hleft : leftOf d (getC L (d.node id 1)) = pg.sl.length := by
    unfold leftOf
    rw [hp.n, Int.min_eq_left hle]
    omega
  obtain ⟨pc, spg, left, word, tt⟩ := s
  match pc, h, h6 with
  | 0, h, _ => exact h.elim
  | 1, _, _ =>
    unfold ownStep
    simp only [hp.lev, hleft]
    exact ⟨⟨rfl, rfl⟩, trivial, by simp only [owLeft]; omega⟩
  | 2, h, _ =>
    obtain ⟨h1, h2⟩ := h
    simp only at h1 h2
    subst h1 h2
    unfold ownStep Pg.high
    simp only [hp.hi, hp.la]
    exact ⟨⟨rfl, rfl⟩, trivial, by simp only [owLeft]; omega⟩
  | 3, h, _ =>
    obtain ⟨h1, h2⟩ := h
    simp only at h1 h2
    subst h1 h2
    unfold ownStep Pg.right
    simp only [hp.ri]
    by_cases h0 : pg.sl.length = 0
    · rw [if_pos h0]
      refine ⟨?_, trivial, by simp only [owLeft]; omega⟩
      show _ = pg
      have := pg_all (pg := pg) (j := 0) (by omega)
      rw [List.take_zero] at this
      exact this
    · rw [if_neg h0]
      exact ⟨⟨0, by omega, rfl, rfl⟩, trivial, by simp only [owLeft]; omega⟩
  | 4, h, _ =>
    obtain ⟨j, hj, h1, h2⟩ := h
    simp only at h1 h2
    subst h1 h2
    obtain ⟨x, hx⟩ : ∃ x, pg.sl[j]? = some x := ⟨_, List.getElem?_eq_getElem hj⟩
    obtain ⟨e1, e2⟩ := hp.sl _ _ hx
    have hlen : (pg.sl.take j).length = j := by rw [List.length_take]; omega
    have hpush : (pg.sl.take j) ++ [⟨x.k, x.r⟩] = pg.sl.take (j + 1) := by rw [List.take_add_one, hx]; rfl
    unfold ownStep Pg.push
    simp only [hlen, e1, e2, hpush]
    by_cases h0 : pg.sl.length - j - 1 = 0
    · rw [if_pos h0]
      exact ⟨pg_all (by omega), trivial, by simp only [owLeft]; omega⟩
    · rw [if_neg h0]
      exact ⟨⟨j + 1, by omega, rfl, by show pg.sl.length - j - 1 = pg.sl.length - (j + 1); omega⟩, trivial, by simp only [owLeft]; omega⟩
  | 5, h, _ => exact h.elim
  | 6, _, h6 => exact absurd rfl h6
  | n + 7, h, _ => exact h.elim
/-- A node's word and page, and what they become: the version counts the changes. -/
structure VerOk (c c' : Int) (pg pg' : Pg) : Prop where
  le : c / 4 ≤ c' / 4
  same : c / 4 = c' / 4 → ltChg c' = false → ltChg c = false ∧ pg' = pg
theorem VerOk.refl (c : Int) (pg : Pg) : VerOk c c pg pg := ⟨Int.le_refl _, fun _ h => ⟨h, rfl⟩⟩
/-- A reader of a node: if the word has not been changed since, what it has copied is of the node's page. -/
structure RdC (c : Int) (pg : Pg) (s : RdS) : Prop where
  pc : s.pc ≤ 5
  ok : 1 ≤ s.pc → ltChg s.word = false ∧ s.word / 4 ≤ c / 4 ∧ (s.word / 4 = c / 4 → ltChg c = false → RdPart pg s)
theorem RdC.env {c c' : Int} {pg pg' : Pg} {s : RdS} (h : RdC c pg s) (hv : VerOk c c' pg pg') : RdC c' pg' s := by
  refine ⟨h.pc, fun h1 => ?_⟩
  obtain ⟨q1, q2, q3⟩ := h.ok h1
  have := hv.le
  refine ⟨q1, by omega, fun e1 e2 => ?_⟩
  obtain ⟨r1, r2⟩ := hv.same (by omega) e2
  rw [r2]
  exact q3 (by omega) r1
theorem rd0_c (c : Int) (pg : Pg) : RdC c pg rd0 := ⟨by decide, fun h => absurd h (by decide)⟩
theorem ltUnlock_ver {v c : Int} (hv : ltChg v = false) (h : ltUnlock v = ltUnlock c) : v / 4 = c / 4 ∧ ltChg c = false := by
  unfold ltUnlock at h
  unfold ltChg at hv ⊢
  have hv' := of_decide_eq_false hv
  exact ⟨by omega, decide_eq_false (by omega)⟩
theorem ltUnlock_of_ver {v c : Int} (hv : ltChg v = false) (hc : ltChg c = false) (h : v / 4 = c / 4) : ltUnlock v = ltUnlock c := by
  unfold ltUnlock
  unfold ltChg at hv hc
  have hv' := of_decide_eq_false hv
  have hc' := of_decide_eq_false hc
  omega
theorem RdC.step {d : Cfg} {id : Int} {L : List Cel} {pg : Pg} {s : RdS} (hp : ltChg (getC L (d.node id 0)).n = false → PageAt d id L pg) (h : RdC (getC L (d.node id 0)).n pg s) :
    ((rdStep d id L s).pc ≤ 5 ∧ RdC (getC L (d.node id 0)).n pg (rdStep d id L s)) ∨ ((rdStep d id L s).pc = 6 ∧ ltChg (getC L (d.node id 0)).n = false ∧ (rdStep d id L s).pg = pg) := by
  have h5 := h.pc
  by_cases h0 : s.pc = 0
  · obtain ⟨pc, spg, left, word, tt⟩ := s
    simp only at h0
    subst h0
    refine .inl ?_
    unfold rdStep
    simp only
    cases hc : ltChg (getC L (d.node id 0)).n with
    | true => exact ⟨by simp, by simp, fun h => absurd h (by simp)⟩
    | false => exact ⟨by simp, by simp, fun _ => ⟨hc, Int.le_refl _, fun _ _ => trivial⟩⟩
  · obtain ⟨q1, q2, q3⟩ := h.ok (by omega)
    by_cases h4 : s.pc ≤ 4
    · have hw : (rdStep d id L s).word = s.word ∧ 1 ≤ (rdStep d id L s).pc ∧ (rdStep d id L s).pc ≤ 5 := by
        obtain ⟨pc, spg, left, word, tt⟩ := s
        simp only at h0 h4
        rcases (by omega : pc = 1 ∨ pc = 2 ∨ pc = 3 ∨ pc = 4) with rfl | rfl | rfl | rfl
        · exact ⟨rfl, by show 1 ≤ 2; omega, by show 2 ≤ 5; omega⟩
        · exact ⟨rfl, by show 1 ≤ 3; omega, by show 3 ≤ 5; omega⟩
        · refine ⟨rfl, ?_, ?_⟩ <;> (simp only [rdStep]; split <;> omega)
        · refine ⟨rfl, ?_, ?_⟩ <;> (simp only [rdStep]; split <;> omega)
      refine .inl ⟨hw.2.2, hw.2.2, fun _ => ?_⟩
      rw [hw.1]
      exact ⟨q1, q2, fun e1 e2 => (q3 e1 e2).step (hp e2) h4⟩
    · obtain ⟨pc, spg, left, word, tt⟩ := s
      simp only at h0 h4 h5 q1 q2 q3
      obtain rfl : pc = 5 := by omega
      unfold rdStep
      simp only
      by_cases hu : ltUnlock word = ltUnlock (getC L (d.node id 0)).n
      · rw [if_pos (by rw [hu]; exact beq_self_eq_true _)]
        obtain ⟨r1, r2⟩ := ltUnlock_ver q1 hu
        exact .inr ⟨rfl, r2, q3 r1 r2⟩
      · rw [if_neg (by simpa using hu)]
        exact .inl ⟨by simp, by simp, fun h => absurd h (by simp)⟩
/-- The steps that Read still makes while nothing changes. -/
def rdLeft (d : Cfg) (s : RdS) : Nat := match s.pc with
  | 0 => d.fa.toNat + 5
  | 1 => d.fa.toNat + 4
  | 2 => s.left + 3
  | 3 => s.left + 2
  | 4 => s.left + 1
  | 5 => 1
  | _ => 0
def rdQ (d : Cfg) (c : Int) (s : RdS) : Nat := rdLeft d s + (if s.pc = 0 ∨ (s.word / 4 = c / 4 ∧ ltChg c = false) then 0 else d.fa.toNat + 5)
theorem rdLeft_le {d : Cfg} (hd : d.Ok) {s : RdS} (h : s.Ok d) : rdLeft d s ≤ d.fa.toNat + 5 := by
  have h2 := h.len
  have f1 := hd.fa1
  obtain ⟨pc, spg, left, word, tt⟩ := s
  simp only at h2
  unfold rdLeft
  match pc with
  | 0 => simp only; omega
  | 1 => simp only; omega
  | 2 => simp only; omega
  | 3 => simp only; omega
  | 4 => simp only; omega
  | 5 => simp only; omega
  | n + 6 => simp only; omega
theorem rdQ_step {d : Cfg} (hd : d.Ok) {id : Int} {L : List Cel} {pg : Pg} {s : RdS} (hL : CelsOk L) (hok : s.Ok d) (h : RdC (getC L (d.node id 0)).n pg s) (hc : ltChg (getC L (d.node id 0)).n = false) :
    rdQ d (getC L (d.node id 0)).n (rdStep d id L s) < rdQ d (getC L (d.node id 0)).n s := by
  have h5 := h.pc
  have hk := h.ok
  have hl4 := hok.left
  have hl := leftOf_le hd (c := getC L (d.node id 1)) (hL _)
  have f1 := hd.fa1
  obtain ⟨pc, spg, left, word, tt⟩ := s
  simp only at h5 hk hl4
  rcases (by omega : pc = 0 ∨ pc = 1 ∨ pc = 2 ∨ pc = 3 ∨ pc = 4 ∨ pc = 5) with rfl | rfl | rfl | rfl | rfl | rfl
  · simp only [rdStep, hc, rdQ, rdLeft]
    simp
  · simp only [rdStep, rdQ, rdLeft, hc, and_true]
    simp only [show ¬ (2 = 0) by omega, show ¬ (1 = 0) by omega, false_or]
    omega
  · simp only [rdStep, rdQ, rdLeft, hc, and_true]
    simp only [show ¬ (2 = 0) by omega, show ¬ (3 = 0) by omega, false_or]
    omega
  · simp only [rdStep, rdQ, hc, and_true]
    by_cases h0 : left = 0
    · simp only [if_pos h0, rdLeft, show ¬ (5 = 0) by omega, show ¬ (3 = 0) by omega, false_or]; omega
    · simp only [if_neg h0, rdLeft, show ¬ (4 = 0) by omega, show ¬ (3 = 0) by omega, false_or]; omega
  · have := hl4 rfl
    simp only [rdStep, rdQ, hc, and_true]
    by_cases h0 : left - 1 = 0
    · simp only [if_pos h0, rdLeft, show ¬ (5 = 0) by omega, show ¬ (4 = 0) by omega, false_or]; omega
    · simp only [if_neg h0, rdLeft, show ¬ (4 = 0) by omega, false_or]; omega
  · obtain ⟨q1, _, _⟩ := hk (by omega)
    simp only [rdStep]
    by_cases hu : ltUnlock word = ltUnlock (getC L (d.node id 0)).n
    · rw [if_pos (by rw [hu]; exact beq_self_eq_true _)]
      obtain ⟨r1, _⟩ := ltUnlock_ver q1 hu
      simp only [rdQ, rdLeft, r1, hc, and_true]
      simp
    · rw [if_neg (by simpa using hu)]
      have hne : ¬ (word / 4 = (getC L (d.node id 0)).n / 4) := fun e => hu (ltUnlock_of_ver q1 hc e)
      simp only [rdQ, rdLeft, hc, and_true, show ¬ (5 = 0) by omega, false_or, if_neg hne]
      simp
/-- A reader of a node that is being changed. -/
theorem rdQ_chg {d : Cfg} (hd : d.Ok) {id : Int} {L : List Cel} {pg : Pg} {s : RdS} (hL : CelsOk L) (hok : s.Ok d) (h : RdC (getC L (d.node id 0)).n pg s) (hc : ltChg (getC L (d.node id 0)).n = true) :
    rdQ d (getC L (d.node id 0)).n (rdStep d id L s) ≤ rdQ d (getC L (d.node id 0)).n s := by
  have h5 := h.pc
  have hk := h.ok
  have hl4 := hok.left
  have hl := leftOf_le hd (c := getC L (d.node id 1)) (hL _)
  have f1 := hd.fa1
  obtain ⟨pc, spg, left, word, tt⟩ := s
  simp only at h5 hk hl4
  rcases (by omega : pc = 0 ∨ pc = 1 ∨ pc = 2 ∨ pc = 3 ∨ pc = 4 ∨ pc = 5) with rfl | rfl | rfl | rfl | rfl | rfl
  · simp only [rdStep, hc, rdQ, rdLeft]
    simp
  · simp only [rdStep, rdQ, rdLeft, hc, Bool.true_eq_false, and_false, or_false]
    simp only [show ¬ (2 = 0) by omega, show ¬ (1 = 0) by omega, if_false]
    omega
  · simp only [rdStep, rdQ, rdLeft, hc, Bool.true_eq_false, and_false, or_false]
    simp only [show ¬ (2 = 0) by omega, show ¬ (3 = 0) by omega, if_false]
    omega
  · simp only [rdStep, rdQ, hc, Bool.true_eq_false, and_false, or_false]
    by_cases h0 : left = 0
    · simp only [if_pos h0, rdLeft, show ¬ (5 = 0) by omega, show ¬ (3 = 0) by omega, if_false]; omega
    · simp only [if_neg h0, rdLeft, show ¬ (4 = 0) by omega, show ¬ (3 = 0) by omega, if_false]; omega
  · have := hl4 rfl
    simp only [rdStep, rdQ, hc, Bool.true_eq_false, and_false, or_false]
    by_cases h0 : left - 1 = 0
    · simp only [if_pos h0, rdLeft, show ¬ (5 = 0) by omega, show ¬ (4 = 0) by omega, if_false]; omega
    · simp only [if_neg h0, rdLeft, show ¬ (4 = 0) by omega, if_false]; omega
  · obtain ⟨q1, _, _⟩ := hk (by omega)
    simp only [rdStep]
    by_cases hu : ltUnlock word = ltUnlock (getC L (d.node id 0)).n
    · obtain ⟨_, r2⟩ := ltUnlock_ver q1 hu
      rw [hc] at r2; cases r2
    · rw [if_neg (by simpa using hu)]
      simp only [rdQ, rdLeft, hc, Bool.true_eq_false, and_false, or_false, show ¬ (5 = 0) by omega, if_false]
      simp
/-- A node that is not being changed, in memory. -/
structure NdC (d : Cfg) (L : List Cel) (nd : Nd) : Prop where
  page : PageAt d nd.id L nd.pg
  hold : Holds L (pgPts d nd.id nd.pg)
  k : (getC L (d.node nd.id 0)).k = ⟨#[]⟩
  m : (getC L (d.node nd.id 0)).m = 0
theorem NdC.frame {d : Cfg} {L L' : List Cel} {nd : Nd} (hd : d.Ok) (h1 : 1 ≤ nd.id) (h2 : nd.id ≤ d.no) (h : NdC d L nd) (he : ∀ j : Int, 0 ≤ j → j < d.fa + 4 → getC L' (d.node nd.id j) = getC L (d.node nd.id j)) : NdC d L' nd := by
  have f1 := hd.fa1
  refine ⟨h.page.frame h1 h2 f1 (fun k a b => he k (by omega) b), h.hold.frame hd h1 h2 h.page.le (fun k a b => he k (by omega) b), ?_, ?_⟩
  · rw [he 0 (by omega) (by omega)]; exact h.k
  · rw [he 0 (by omega) (by omega)]; exact h.m
/-- A tree in memory; a node that is being changed need not be there. -/
structure TreeM (d : Cfg) (L : List Cel) (t : List (List Nd)) : Prop where
  sh : Shp (getC L 4).n t
  n4 : (getC L 4).n ≤ d.no
  root : ∃ nd rest, t[t.length - 1]? = some (nd :: rest) ∧ (getC L 0).n = nd.id
  node : ∀ (k : Nat) (l : List Nd), t[k]? = some l → ∀ nd, nd ∈ l → ltChg (getC L (d.node nd.id 0)).n = false → NdC d L nd
  wd : ∀ (k : Nat) (l : List Nd), t[k]? = some l → ∀ nd, nd ∈ l → (getC L (d.node nd.id 0)).n % 2 = 0 → (getC L (d.node nd.id 0)).n % 4 = 0
theorem TreeM.page {d : Cfg} {L : List Cel} {t : List (List Nd)} (h : TreeM d L t) (k : Nat) (l : List Nd) (hk : t[k]? = some l) (nd : Nd) (hn : nd ∈ l) (hc : ltChg (getC L (d.node nd.id 0)).n = false) : PageAt d nd.id L nd.pg := (h.node k l hk nd hn hc).page
/-- No node is being changed. -/
def Quiet (d : Cfg) (L : List Cel) (t : List (List Nd)) : Prop := ∀ (k : Nat) (l : List Nd), t[k]? = some l → ∀ nd, nd ∈ l → ltChg (getC L (d.node nd.id 0)).n = false
/-- What others may do to a tree: nodes stay, with their low keys. -/
def Evo (d : Cfg) (L : List Cel) (t : List (List Nd)) (L' : List Cel) (t' : List (List Nd)) : Prop :=
  ∀ (k : Nat) (l : List Nd), t[k]? = some l → ∀ nd, nd ∈ l → ∃ l' nd', t'[k]? = some l' ∧ nd' ∈ l' ∧ nd'.id = nd.id ∧ nd'.low = nd.low ∧ VerOk (getC L (d.node nd.id 0)).n (getC L' (d.node nd.id 0)).n nd.pg nd'.pg
theorem Evo.refl (d : Cfg) (L : List Cel) (t : List (List Nd)) : Evo d L t L t := fun _ l hk nd hn => ⟨l, nd, hk, hn, rfl, rfl, VerOk.refl _ _⟩
/-- Where Find is in a tree that others change; if nothing changes any more, at most m steps are left. -/
def FdC (d : Cfg) (L : List Cel) (t : List (List Nd)) (key : ByteArray) (s : FdS) (m : Nat) : Prop :=
  (s.pc = 0 ∧ (t.map List.length).sum * nodeSteps d + 1 ≤ m) ∨
  (s.pc = 1 ∧ ∃ (k i : Nat) (l : List Nd) (nd : Nd), t[k]? = some l ∧ l[i]? = some nd ∧ s.id = nd.id ∧ s.rd.Ok d ∧ klt key nd.low = false ∧ RdC (getC L (d.node nd.id 0)).n nd.pg s.rd ∧
    (l.length - i + belowN t k - 1) * nodeSteps d + rdQ d (getC L (d.node nd.id 0)).n s.rd ≤ m) ∨
  s.pc = 2
/-- What Find has found in its last step. -/
def FdFin (d : Cfg) (L : List Cel) (t : List (List Nd)) (key : ByteArray) (level : Nat) (s : FdS) : Prop :=
  (s.id = 0 ∧ s.pg = pg0 ∧ ∃ (k : Nat) (l : List Nd), k < level ∧ t[k]? = some l) ∨ ∃ (l : List Nd) (nd : Nd), t[level]? = some l ∧ nd ∈ l ∧ s.id = nd.id ∧ s.pg = nd.pg ∧ klt key nd.low = false ∧ (nd.pg.la || klt key nd.pg.hi) = true ∧ ltChg (getC L (d.node nd.id 0)).n = false
section
variable {d : Cfg} {L : List Cel} {t : List (List Nd)} {key : ByteArray} {level : Nat} {s : FdS} {m : Nat}
theorem FdC.start : FdC d L t key fd0 ((t.map List.length).sum * nodeSteps d + 1) := .inl ⟨rfl, Nat.le_refl _⟩
theorem rdQ_le (hd : d.Ok) {c : Int} {r : RdS} (h : r.Ok d) : rdQ d c r ≤ 2 * nodeSteps d := by
  have h1 := rdLeft_le hd h
  unfold rdQ nodeSteps
  split <;> omega
theorem rdQ_0 (c : Int) : rdQ d c rd0 = nodeSteps d := rfl
/-- Others have changed the tree. -/
theorem FdC.env (hd : d.Ok) {L' : List Cel} {t' : List (List Nd)} (h : FdC d L t key s m) (he : Evo d L t L' t') : FdC d L' t' key s (((t'.map List.length).sum + 2) * nodeSteps d + 1) := by
  rcases h with ⟨h0, _⟩ | ⟨h1, k, i, l, nd, hk, hi, hid, hok, hlow, hrd, _⟩ | h2
  · exact .inl ⟨h0, by rw [Nat.add_mul]; omega⟩
  · obtain ⟨l', nd', hk', hn', e1, e2, hv⟩ := he k l hk nd (List.mem_of_getElem? hi)
    obtain ⟨j, hj⟩ := List.getElem?_of_mem hn'
    refine .inr (.inl ⟨h1, k, j, l', nd', hk', hj, by rw [hid, e1], hok, by rw [e2]; exact hlow, by rw [e1]; exact hrd.env hv, ?_⟩)
    have hq := rdQ_le hd (c := (getC L' (d.node nd'.id 0)).n) hok
    have hb := belowN_succ hk'
    have hle := belowN_le t' (k + 1)
    have := Nat.mul_le_mul_right (nodeSteps d) (show l'.length - j + belowN t' k - 1 ≤ (t'.map List.length).sum by omega)
    rw [Nat.add_mul]
    omega
  · exact .inr (.inr h2)
theorem FdC.still (h : FdC d L t key s m) (hQ : Quiet d L t) (h1 : s.pc = 1) : ltChg (getC L (d.node s.id 0)).n = false := by
  rcases h with ⟨h, _⟩ | ⟨_, k, i, l, nd, hk, hi, hid, _⟩ | h
  · omega
  · rw [hid]; exact hQ k l hk nd (List.mem_of_getElem? hi)
  · omega
/-- Others have changed nothing that counts. -/
theorem FdC.calm {L' : List Cel} (h : FdC d L t key s m) (hv : ∀ (k : Nat) (l : List Nd), t[k]? = some l → ∀ nd, nd ∈ l → (getC L' (d.node nd.id 0)).n / 4 = (getC L (d.node nd.id 0)).n / 4 ∧ ltChg (getC L' (d.node nd.id 0)).n = ltChg (getC L (d.node nd.id 0)).n) : FdC d L' t key s m := by
  rcases h with h | ⟨h1, k, i, l, nd, hk, hi, hid, hok, hlow, hrd, hm⟩ | h2
  · exact .inl h
  · obtain ⟨e1, e2⟩ := hv k l hk nd (List.mem_of_getElem? hi)
    refine .inr (.inl ⟨h1, k, i, l, nd, hk, hi, hid, hok, hlow, ⟨hrd.pc, fun hp => ?_⟩, ?_⟩)
    · obtain ⟨q1, q2, q3⟩ := hrd.ok hp
      rw [e1, e2]
      exact ⟨q1, q2, q3⟩
    · have e : rdQ d (getC L' (d.node nd.id 0)).n s.rd = rdQ d (getC L (d.node nd.id 0)).n s.rd := by unfold rdQ; rw [e1, e2]
      rw [e]; exact hm
  · exact .inr (.inr h2)
theorem FdC.go {N : Int} (ht : Shp N t) {k i : Nat} {l : List Nd} {nd : Nd} (hk : t[k]? = some l) (hi : l[i]? = some nd) (hlow : klt key nd.low = false) {s0 : FdS}
    (hm : (l.length - i + belowN t k) * nodeSteps d ≤ m) : FdC d L t key (fdGo s0 nd.id) m := by
  have hid := (ht.nodes k l hk nd (List.mem_of_getElem? hi)).1.1
  have hil := (List.getElem?_eq_some_iff.1 hi).1
  have e : fdGo s0 nd.id = ⟨1, nd.id, s0.pg, rd0⟩ := by unfold fdGo; rw [if_neg (by omega)]
  rw [e]
  refine .inr (.inl ⟨rfl, k, i, l, nd, hk, hi, rfl, rd0_ok d, hlow, rd0_c _ _, ?_⟩)
  rw [rdQ_0]
  have h1 : l.length - i + belowN t k = (l.length - i + belowN t k - 1) + 1 := by omega
  rw [h1, Nat.add_mul, Nat.one_mul] at hm
  exact hm
theorem FdC.step (hd : d.Ok) (hL : CelsOk L) (ht : TreeM d L t) (h : FdC d L t key s m) (hpc : s.pc ≠ 2) :
    (∃ m', FdC d L t key (fdStep d L key (level : Nat) s) m' ∧ m' ≤ m ∧ ((s.pc = 1 → ltChg (getC L (d.node s.id 0)).n = false) → m' + 1 ≤ m)) ∧ s.Ok d ∧ (s.pc = 1 → (rdStep d s.id L s.rd).pc = 6 → PgGood level (rdStep d s.id L s.rd).pg) ∧ ((fdStep d L key (level : Nat) s).pc = 2 → FdFin d L t key level (fdStep d L key (level : Nat) s)) := by
  have hno2 := hd.no2
  have hS := ht.sh
  have hn4 := ht.n4
  rcases h with ⟨h0, hm⟩ | ⟨h1, k, i, l, nd, hk, hi, hid, hok, hlow, hrd, hm⟩ | h2
  · obtain ⟨pc, id, pg, rd⟩ := s
    simp only at h0
    subst h0
    obtain ⟨nd, rest, htop, hroot⟩ := ht.root
    have hfirst := (hS.rows _ _ htop).first nd rfl
    have hid := (hS.nodes _ _ htop nd List.mem_cons_self).1.1
    have e : fdStep d L key level ⟨0, id, pg, rd⟩ = ⟨1, nd.id, pg, rd0⟩ := by
      show fdGo _ (getC L 0).n = _
      rw [hroot]
      unfold fdGo
      rw [if_neg (by omega)]
    refine ⟨⟨m - 1, ?_, by omega, fun _ => by omega⟩, ⟨(show (0 : Nat) ≤ 2 by omega), fun h => absurd h (by simp)⟩, fun h => absurd h (by simp), fun h => ?_⟩
    · show FdC d L t key (fdGo _ (getC L 0).n) _
      rw [hroot]
      refine FdC.go hS htop (i := 0) rfl (by rw [hfirst]; exact klt_empty _) ?_
      have hne := hS.ne
      have hb := belowN_succ htop
      have hle := belowN_le t (t.length - 1 + 1)
      have e : (nd :: rest).length - 0 + belowN t (t.length - 1) ≤ (t.map List.length).sum := by
        simp only [List.length_cons, List.length_nil] at hb ⊢; omega
      have := Nat.mul_le_mul_right (nodeSteps d) e
      omega
    · rw [e] at h
      simp at h
  · obtain ⟨pc, id, pg, rd⟩ := s
    simp only at h1 hid hok hrd hm
    subst h1 hid
    have hmem := List.mem_of_getElem? hi
    obtain ⟨hN1, hNS⟩ := hS.nodes k l hk nd hmem
    have hR := hS.rows k l hk
    have hil := (List.getElem?_eq_some_iff.1 hi).1
    have hrd5 := hrd.pc
    have hq := rdQ_step hd hL hok hrd
    have hstep := hrd.step (ht.page k l hk nd hmem)
    have hpri : 0 ≤ nd.pg.ri := by
      rcases Nat.lt_or_ge (i + 1) l.length with hlt | hge
      · obtain ⟨b, hb⟩ : ∃ b, l[i + 1]? = some b := ⟨_, List.getElem?_eq_getElem hlt⟩
        rw [(hR.next i nd b hi hb).2.2.1]
        have := (hS.nodes k l hk b (List.mem_of_getElem? hb)).1.1
        omega
      · rw [(hR.last i nd hi (by omega)).2.2]; omega
    have hpage : (rdStep d nd.id L rd).pc = 6 → ltChg (getC L (d.node nd.id 0)).n = false ∧ (rdStep d nd.id L rd).pg = nd.pg := fun h6 => by
      rcases hstep with ⟨h5, _⟩ | ⟨_, q1, q2⟩
      · omega
      · exact ⟨q1, q2⟩
    have hgood : (rdStep d nd.id L rd).pc = 6 → PgGood level (rdStep d nd.id L rd).pg := fun h6 => by
      rw [(hpage h6).2]
      exact ⟨hpri, fun s hs => by have := hNS.rf s hs; omega, fun _ => hNS.asc⟩
    have hsok : (⟨1, nd.id, pg, rd⟩ : FdS).Ok d := ⟨by show 1 ≤ 2; omega, fun _ => ⟨hN1.1, by show nd.id < _; omega, hok, hrd5⟩⟩
    rcases hstep with ⟨h5, hrd'⟩ | ⟨h6, hchg, hpg⟩
    · have e : fdStep d L key level ⟨1, nd.id, pg, rd⟩ = ⟨1, nd.id, pg, rdStep d nd.id L rd⟩ := by
        show (if _ then _ else _) = _
        rw [if_neg (by show ¬ (rdStep d nd.id L rd).pc = 6; omega)]
      rw [e]
      refine ⟨⟨(l.length - i + belowN t k - 1) * nodeSteps d + rdQ d (getC L (d.node nd.id 0)).n (rdStep d nd.id L rd), .inr (.inl ⟨rfl, k, i, l, nd, hk, hi, rfl, rdStep_ok hd hL hok, hlow, hrd', Nat.le_refl _⟩), ?_, fun hQ => ?_⟩, hsok, fun _ => hgood, fun h => by simp at h⟩
      · cases hc : ltChg (getC L (d.node nd.id 0)).n with
        | true => have := rdQ_chg hd hL hok hrd hc; omega
        | false => have := hq hc; omega
      · have := hq (hQ rfl)
        omega
    · have e : fdStep d L key level ⟨1, nd.id, pg, rd⟩ = fdTurn key level nd.id nd.pg := by
        show (if _ then _ else _) = _
        rw [if_pos h6, hpg]
      rw [e]
      have hlevk := hR.lev nd hmem
      have hq1 := hq hchg
      have hmm : (l.length - i + belowN t k - 1) * nodeSteps d + 1 ≤ m := by omega
      refine ⟨?_, hsok, fun _ => hgood, ?_⟩
      · refine ⟨m - 1, ?_, by omega, fun _ => by omega⟩
        unfold fdTurn
        by_cases hlt : nd.pg.lev < level
        · rw [if_pos hlt]
          exact .inr (.inr rfl)
        · rw [if_neg hlt]
          cases hin : (nd.pg.la || klt key nd.pg.hi) with
          | true =>
            rw [if_pos rfl]
            by_cases heq : nd.pg.lev = level
            · rw [if_pos heq]
              exact .inr (.inr rfl)
            · rw [if_neg heq]
              obtain ⟨k', rfl⟩ : ∃ k', k = k' + 1 := ⟨k - 1, by omega⟩
              obtain ⟨l', hk'⟩ : ∃ l', t[k']? = some l' := ⟨_, List.getElem?_eq_getElem (by have := (List.getElem?_eq_some_iff.1 hk).1; omega)⟩
              obtain ⟨⟨s0, r, hsl, hs0⟩, hall⟩ := hS.down k' l' l hk' hk nd hmem
              have hpos : 0 < hiK nd.pg.sl key := (hiK_iff hNS.asc (i := 0) (s := s0) (by rw [hsl]; rfl)).1 (by rw [hs0]; exact hlow)
              have hhle := hiK_le nd.pg.sl key
              obtain ⟨sv, hsv⟩ : ∃ sv, nd.pg.sl[hiK nd.pg.sl key - 1]? = some sv := ⟨_, List.getElem?_eq_getElem (by omega)⟩
              have hsk := (hiK_iff hNS.asc (key := key) hsv).2 (by omega)
              have hcr : childRef key nd.pg.sl = sv.r := by
                unfold childRef slOpt
                rw [if_neg (by omega), show ((hiK nd.pg.sl key : Int) - 1).toNat = hiK nd.pg.sl key - 1 by omega, hsv]
              obtain ⟨c, hc, hcid, hclow⟩ := hall sv (List.mem_of_getElem? hsv)
              obtain ⟨j, hj⟩ := List.getElem?_of_mem hc
              rw [hcr, ← hcid]
              refine FdC.go hS hk' hj (by rw [hclow]; exact hsk) ?_
              have hb := belowN_succ hk'
              have e2 : l'.length - j + belowN t k' ≤ l.length - i + belowN t (k' + 1) - 1 := by omega
              exact Nat.le_trans (Nat.mul_le_mul_right _ e2) (by omega)
          | false =>
            rw [if_neg (by simp)]
            simp only [Bool.or_eq_false_iff] at hin
            have hlt2 : i + 1 < l.length := by
              rcases Nat.lt_or_ge (i + 1) l.length with h | h
              · exact h
              · have := (hR.last i nd hi (by omega)).1
                rw [hin.1] at this; cases this
            obtain ⟨b, hb⟩ : ∃ b, l[i + 1]? = some b := ⟨_, List.getElem?_eq_getElem hlt2⟩
            obtain ⟨_, q2, q3, _⟩ := hR.next i nd b hi hb
            rw [q3]
            refine FdC.go hS hk hb (by rw [← q2]; exact hin.2) ?_
            have e2 : l.length - (i + 1) + belowN t k ≤ l.length - i + belowN t k - 1 := by omega
            exact Nat.le_trans (Nat.mul_le_mul_right _ e2) (by omega)
      · have hgo : ∀ (s0 : FdS) (id' : Int), (fdGo s0 id').pc ≠ 2 := fun s0 id' => by
          unfold fdGo
          split <;> simp
        unfold fdTurn
        by_cases hlt : nd.pg.lev < level
        · rw [if_pos hlt]
          exact fun _ => .inl ⟨rfl, rfl, k, l, by omega, hk⟩
        · rw [if_neg hlt]
          cases hin : (nd.pg.la || klt key nd.pg.hi) with
          | true =>
            rw [if_pos rfl]
            by_cases heq : nd.pg.lev = level
            · rw [if_pos heq]
              obtain rfl : k = level := by omega
              exact fun _ => .inr ⟨l, nd, hk, hmem, rfl, rfl, hlow, hin, hchg⟩
            · rw [if_neg heq]
              exact fun h => absurd h (hgo _ _)
          | false =>
            rw [if_neg (by simp)]
            exact fun h => absurd h (hgo _ _)
  · exact absurd h2 hpc
end
end Go.Proofs.YtlpdhhhgckpcfaaGreat
