
/- Several Locks in a tree that nobody writes (pure): what LeaflockExcludes keeps. -/
import Derived.Test.YtlpdhhhgckpcfaaGreatLockC
import Derived.Test.YtlpdhhhgckpcfaaGreatConcT
import Derived.Test.YtlpdhhhgckpcfaaGreatRowLaw
namespace Go.Proofs.YtlpdhhhgckpcfaaGreat
open Go.RowKit
set_option maxRecDepth 100000
def updF {α : Type} (f : Nat → α) (i : Nat) (v : α) : Nat → α := fun j => if j = i then v else f j
theorem updF_same {α : Type} (f : Nat → α) (i : Nat) (v : α) : updF f i v i = v := if_pos rfl
theorem updF_ne {α : Type} (f : Nat → α) {i j : Nat} (v : α) (h : j ≠ i) : updF f i v j = f j := if_neg h
def sumN (n : Nat) (p : Nat → Nat) : Nat := ((List.range n).map p).sum
theorem sumN_le {n i c : Nat} {p p' : Nat → Nat} (hn : n ≤ 4) (hi : i < n) (h : ∀ j, j < n → j ≠ i → p' j ≤ p j + c) (hm : p' i + 3 * c + 1 ≤ p i) : sumN n p' + 1 ≤ sumN n p := by
  unfold sumN
  match n, hn with
  | 0, _ => omega
  | 1, _ =>
    obtain rfl : i = 0 := by omega
    simp [List.range_succ]; omega
  | 2, _ =>
    have h0 := h 0 (by omega); have h1 := h 1 (by omega)
    simp [List.range_succ]
    rcases (by omega : i = 0 ∨ i = 1) with rfl | rfl
    · have := h1 (by omega); omega
    · have := h0 (by omega); omega
  | 3, _ =>
    have h0 := h 0 (by omega); have h1 := h 1 (by omega); have h2 := h 2 (by omega)
    simp [List.range_succ]
    rcases (by omega : i = 0 ∨ i = 1 ∨ i = 2) with rfl | rfl | rfl
    · have := h1 (by omega); have := h2 (by omega); omega
    · have := h0 (by omega); have := h2 (by omega); omega
    · have := h0 (by omega); have := h1 (by omega); omega
  | 4, _ =>
    have h0 := h 0 (by omega); have h1 := h 1 (by omega); have h2 := h 2 (by omega); have h3 := h 3 (by omega)
    simp [List.range_succ]
    rcases (by omega : i = 0 ∨ i = 1 ∨ i = 2 ∨ i = 3) with rfl | rfl | rfl | rfl
    · have := h1 (by omega); have := h2 (by omega); have := h3 (by omega); omega
    · have := h0 (by omega); have := h2 (by omega); have := h3 (by omega); omega
    · have := h0 (by omega); have := h1 (by omega); have := h3 (by omega); omega
    · have := h0 (by omega); have := h1 (by omega); have := h2 (by omega); omega
  | n + 5, h => omega
/-- The machines that have not released their node. -/
def leftN (n : Nat) (H : Nat → Int) : Nat := ((List.range n).filter (fun i => H i != -1)).length
theorem leftN_zero {n : Nat} {H : Nat → Int} (h : leftN n H = 0) {i : Nat} (hi : i < n) : H i = -1 := by
  refine Classical.byContradiction fun hc => ?_
  have : i ∈ (List.range n).filter (fun i => H i != -1) := List.mem_filter.2 ⟨List.mem_range.2 hi, by simpa using hc⟩
  unfold leftN at h
  rw [List.length_eq_zero_iff.1 h] at this
  cases this
/-- The node is the one that covers the key. -/
def LkIn (t : List (List Nd)) (key : ByteArray) (level : Nat) (s : LkS) : Prop := s.pc ≠ 3 ∧ (s.pc = 1 ∨ s.pc = 2 → ∃ nd, Cover t key level nd ∧ s.id = nd.id)
section
variable {d : Cfg} {L : List Cel} {t : List (List Nd)} {key : ByteArray} {level : Nat} {s : LkS} {m : Nat}
theorem LkIn.step (hd : d.Ok) (hL : CelsOk L) (ht : TreeM d L t) (h : LkC d L t key level s m) (hin : LkIn t key level s) (h4 : s.pc ≠ 4) : LkIn t key level (lokStep d key level L s).1 := by
  obtain ⟨hn3, hid⟩ := hin
  have hpcs : s.pc = 0 ∨ s.pc = 1 ∨ s.pc = 2 := by
    by_cases h5 : 5 ≤ s.pc
    · obtain ⟨pc, fd, id, aq, ow, hh⟩ := s
      obtain ⟨n, rfl⟩ : ∃ n, pc = n + 5 := ⟨pc - 5, by simp only at h5; omega⟩
      exact h.elim
    · omega
  obtain ⟨pc, fd, id, aq, ow, hh⟩ := s
  simp only at hpcs hid
  rcases hpcs with rfl | rfl | rfl
  · obtain ⟨h1, h2, m0, hf, hm⟩ := h
    simp only at h2 hf
    obtain ⟨_, _, _, g4⟩ := hf.step (level := level) hd hL ht h2
    unfold lokStep
    simp only
    by_cases hp : (fdStep d L key level fd).pc = 2
    · rw [if_pos hp]
      rcases g4 hp with ⟨e1, e2, k, l, hk, _⟩ | ⟨l, nd, hl, hn, e1, e2, e4, e5, e3⟩
      · rw [if_pos e1]
        exact ⟨by show (4 : Nat) ≠ 3; omega, fun h => by rcases h with h | h <;> simp at h⟩
      · have hb := (ht.sh.nodes level l hl nd hn).1
        rw [if_neg (by rw [e1]; omega)]
        obtain ⟨i, hi⟩ := List.getElem?_of_mem hn
        exact ⟨by show (1 : Nat) ≠ 3; omega, fun _ => ⟨nd, ⟨l, i, hl, hi, e4, e5⟩, e1⟩⟩
    · rw [if_neg hp]
      exact ⟨by show (0 : Nat) ≠ 3; omega, fun h => by rcases h with h | h <;> simp at h⟩
  · obtain ⟨nd, hc, he⟩ := hid (.inl rfl)
    unfold lokStep
    simp only
    split
    · exact ⟨by show (2 : Nat) ≠ 3; omega, fun _ => ⟨nd, hc, he⟩⟩
    · exact ⟨by show (1 : Nat) ≠ 3; omega, fun _ => ⟨nd, hc, he⟩⟩
  · obtain ⟨nd, hc, he⟩ := hid (.inr rfl)
    obtain ⟨h1, l, i, nd2, q, ha, hid2, hlt, hok, h6, hpt, hq, hm⟩ := h
    simp only at hid2 hlt hok h6 hpt
    obtain ⟨p1, p2, p3⟩ := hpt.step (ht.page level l ha.hl nd2 (List.mem_of_getElem? ha.hi) hlt.chg) h6
    obtain ⟨l', i', hl', hi', hlow, hrng⟩ := hc
    have hnd : nd2 = nd := by
      have h := ha.hl
      rw [hl'] at h
      obtain rfl := Option.some.inj h
      obtain ⟨_, rfl⟩ := ht.sh.inj level level l' l' i i' nd2 nd hl' hl' ha.hi hi' (by rw [← hid2, ← he])
      have h := ha.hi
      rw [hi'] at h
      exact (Option.some.inj h).symm
    subst hnd
    rw [hid2] at *
    unfold lokStep
    simp only
    generalize ownStep d nd2.id L ow = o at *
    by_cases ho : o.pc = 6
    · have hopg : o.pg = nd2.pg := by
        unfold OwPart at p1
        rw [ho] at p1
        exact p1
      rw [if_pos ho, if_pos (by rw [hopg]; exact hrng)]
      exact ⟨by show (4 : Nat) ≠ 3; omega, fun h => by rcases h with h | h <;> simp at h⟩
    · rw [if_neg ho]
      exact ⟨by show (2 : Nat) ≠ 3; omega, fun _ => ⟨nd2, ⟨l', i', hl', hi', hlow, hrng⟩, rfl⟩⟩
end
/-- One holds a node. -/
def Own (X : Nat → LkS) (H : Nat → Int) (i : Nat) : Prop := lkOwn (X i) = true ∧ 0 ≤ H i
/-- One waits for a latch, or has finished. -/
def Idle (d : Cfg) (L : List Cel) (t : List (List Nd)) (X : Nat → LkS) (H : Nat → Int) (i : Nat) : Prop :=
  H i = -1 ∨ (H i = 0 ∧ (X i).pc = 1 ∧ ∃ (l : List Nd) (nd : Nd), t[0]? = some l ∧ nd ∈ l ∧ (X i).id = nd.id ∧ (getC L (d.node nd.id 0)).n % 2 = 1)
/-- The steps of one that has its node or not. -/
def pOw (b : Bool) (m : Nat) : Nat := if b then m + 16 else m + 23
theorem pOw_add (b : Bool) (m k : Nat) : pOw b (m + k) = pOw b m + k := by cases b <;> simp [pOw] <;> omega
theorem pOw_ge (b : Bool) (m : Nat) : m + 16 ≤ pOw b m := by cases b <;> simp [pOw]
theorem pOw_lt {b : Bool} {m m' : Nat} (h : m' + 1 ≤ m) : pOw b m' + 1 ≤ pOw b m := by cases b <;> simp [pOw] <;> omega
/-- One machine. -/
def ExM (d : Cfg) (L : List Cel) (t : List (List Nd)) (key : ByteArray) (x : LkS) (h : Int) (p : Nat) : Prop :=
  (h = 0 ∧ x.pc ≠ 4 ∧ LkIn t key 0 x ∧ ∃ m, LkC d L t key 0 x m ∧ pOw (lkOwn x) m ≤ p) ∨ (1 ≤ h ∧ h ≤ 4 ∧ x.pc = 4 ∧ x.h.id ≠ 0 ∧ (∃ m, LkC d L t key 0 x m) ∧ h.toNat + 7 ≤ p) ∨ h = -1
structure ExI (d : Cfg) (L0 L : List Cel) (t : List (List Nd)) (n : Nat) (key : Nat → ByteArray) (X : Nat → LkS) (H : Nat → Int) (p : Nat → Nat) : Prop where
  tr : TreeM d L t
  cels : CelsOk L
  clen : (L.length : Int) = d.cells
  base : ∀ j : Int, (∀ (k : Nat) (l : List Nd), t[k]? = some l → ∀ nd, nd ∈ l → j ≠ d.node nd.id 0) → getC L j = getC L0 j
  lat : ∀ (k : Nat) (l : List Nd), t[k]? = some l → ∀ nd, nd ∈ l → getC L (d.node nd.id 0) = ⟨0, ⟨#[]⟩, 0⟩ ∨ getC L (d.node nd.id 0) = ⟨1, ⟨#[]⟩, 0⟩
  odd : ∀ (k : Nat) (l : List Nd), t[k]? = some l → ∀ nd, nd ∈ l → (getC L (d.node nd.id 0)).n % 2 = 1 → ∃ i, i < n ∧ Own X H i ∧ (X i).id = nd.id
  mach : ∀ i, i < n → ExM d L t (key i) (X i) (H i) (p i)
  excl : ∀ i j, i < n → j < n → i ≠ j → Own X H i → Own X H j → (X i).id ≠ (X j).id
section
variable {d : Cfg} {L0 L : List Cel} {t : List (List Nd)} {n : Nat} {key : Nat → ByteArray} {X : Nat → LkS} {H : Nat → Int} {p : Nat → Nat} {i : Nat}
theorem ExI.quiet (h : ExI d L0 L t n key X H p) : Quiet d L t := fun k l hk nd hn => by
  rcases h.lat k l hk nd hn with e | e <;> (rw [e]; rfl)
/-- What a Lock holds is a node whose latch it has locked. -/
theorem LkC.owns {L : List Cel} {key : ByteArray} {level : Nat} {s : LkS} {m : Nat} (h : LkC d L t key level s m) (ho : lkOwn s = true) : ∃ (l : List Nd) (i : Nat) (nd : Nd) (word : Int), LkAt t key level l i nd ∧ s.id = nd.id ∧ LtOwn d L nd.id word ∧ (s.pc = 4 → s.h = ⟨nd.id, word, nd.pg⟩ ∧ pgIn key nd.pg = true) := by
  obtain ⟨pc, fd, id, aq, ow, hh⟩ := s
  match pc, h with
  | 0, h => cases ho
  | 1, h => cases ho
  | 2, h =>
    obtain ⟨h1, l, i, nd, q, ha, hid, hlt, _⟩ := h
    exact ⟨l, i, nd, _, ha, hid, hlt, fun h => by simp at h⟩
  | 3, h =>
    obtain ⟨h1, l, i, nd, q, ha, hid, hlt, _⟩ := h
    exact ⟨l, i, nd, _, ha, hid, hlt, fun h => by simp at h⟩
  | 4, h =>
    rcases h with ⟨l, i, nd, ha, hid, ⟨word, hh', hlt⟩, hin, h0⟩ | ⟨hh', _⟩
    · exact ⟨l, i, nd, word, ha, hid, hlt, fun _ => ⟨hh', hin⟩⟩
    · simp only at hh'
      subst hh'
      cases ho
  | n + 5, h => exact h.elim
theorem ExM.own {L : List Cel} {key : ByteArray} {x : LkS} {h : Int} {p : Nat} (hm : ExM d L t key x h p) (ho : lkOwn x = true) (h0 : 0 ≤ h) : ∃ (l : List Nd) (i : Nat) (nd : Nd) (word : Int), LkAt t key 0 l i nd ∧ x.id = nd.id ∧ LtOwn d L nd.id word ∧ (x.pc = 4 → x.h = ⟨nd.id, word, nd.pg⟩ ∧ pgIn key nd.pg = true) := by
  rcases hm with ⟨_, _, _, m, hc, _⟩ | ⟨_, _, _, _, ⟨m, hc⟩, _⟩ | h1
  · exact hc.owns ho
  · exact hc.owns ho
  · omega
theorem ExM.more {L : List Cel} {key : ByteArray} {x : LkS} {h : Int} {p p' : Nat} (hm : ExM d L t key x h p) (hp : p ≤ p') : ExM d L t key x h p' := by
  rcases hm with ⟨a, b, c, m, e, f⟩ | ⟨a, b, c, e, f, g⟩ | h1
  · exact .inl ⟨a, b, c, m, e, by omega⟩
  · exact .inr (.inl ⟨a, b, c, e, f, by omega⟩)
  · exact .inr (.inr h1)
/-- Another machine has locked or released a latch. -/
theorem ExM.calm {L L' : List Cel} {key : ByteArray} {x : LkS} {h : Int} {p : Nat} (hd : d.Ok) (hm : ExM d L t key x h p) (hv : ∀ (k : Nat) (l : List Nd), t[k]? = some l → ∀ nd, nd ∈ l → (getC L' (d.node nd.id 0)).n / 4 = (getC L (d.node nd.id 0)).n / 4 ∧ ltChg (getC L' (d.node nd.id 0)).n = ltChg (getC L (d.node nd.id 0)).n)
    (hk : lkOwn x = true → 0 ≤ h → getC L' (d.node x.id 0) = getC L (d.node x.id 0)) : ExM d L' t key x h (p + 2) := by
  rcases hm with ⟨a, b, c, m, e, f⟩ | ⟨a, b, c, e, ⟨m, f⟩, g⟩ | h1
  · refine .inl ⟨a, b, c, m + 2, (e.calm hd hv (fun ho => hk ho (by omega))).1, ?_⟩
    rw [pOw_add]; omega
  · exact .inr (.inl ⟨a, b, c, e, ⟨m + 2, (f.calm hd hv (fun ho => hk ho (by omega))).1⟩, by omega⟩)
  · exact .inr (.inr h1)
theorem lok_spin {key : ByteArray} {level : Int} {s : LkS} (h1 : s.pc = 1) (h2 : s.aq.pc = 0) (ho : (getC L (d.node s.id 0)).n % 2 = 1) : lokStep d key level L s = (s, L) := by
  obtain ⟨pc, fd, id, aq, ow, hh⟩ := s
  simp only at h1 h2 ho
  subst h1
  obtain ⟨ap, aw⟩ := aq
  simp only at h2
  subst h2
  unfold lokStep acqStep
  simp only [if_pos ho, show ¬ ((0 : Nat) = 2) by omega, if_false]
/-- A machine that has no node makes a step. -/
theorem ExI.lock (hd : d.Ok) (hn : n ≤ 4) (h : ExI d L0 L t n key X H p) (hi : i < n) (h0 : H i = 0) :
    (X i).Ok d (key i) ((0 : Nat) : Int) L ∧ (X i).h = hd0 ∧ ∃ p', ExI d L0 (lokStep d (key i) ((0 : Nat) : Int) L (X i)).2 t n key (updF X i (lokStep d (key i) ((0 : Nat) : Int) L (X i)).1) (if (lokStep d (key i) ((0 : Nat) : Int) L (X i)).1.pc = 4 then updF H i 4 else H) p' ∧
      (sumN n p' + 1 ≤ sumN n p ∨ (p' = p ∧ (lokStep d (key i) ((0 : Nat) : Int) L (X i)).2 = L ∧ (lokStep d (key i) ((0 : Nat) : Int) L (X i)).1 = X i ∧ Idle d L t X H i)) := by
  have hmi := h.mach i hi
  rcases hmi with ⟨_, h4, hin, m, hc, hp⟩ | ⟨h1, _⟩ | h1
  case inr.inl => omega
  case inr.inr => omega
  obtain ⟨g1, g2, g3, m', g4, g5, g6⟩ := hc.step hd h.cels h.clen h.tr h4
  have hin' := hin.step hd h.cels h.tr hc h4
  refine ⟨g1, g2, ?_⟩
  obtain ⟨t1, t2, t3, t4, t5, t6⟩ := g3.tree hd h.cels h.clen h.tr
  by_cases hsp : (X i).pc = 1 ∧ (X i).aq.pc = 0 ∧ (getC L (d.node (X i).id 0)).n % 2 = 1
  · obtain ⟨s1, s2, s3⟩ := hsp
    have e := lok_spin (d := d) (L := L) (key := key i) (level := ((0 : Nat) : Int)) s1 s2 s3
    rw [e]
    have eX : updF X i (X i) = X := by
      funext j
      unfold updF
      split
      · rename_i e; rw [e]
      · rfl
    have : ¬ (X i).pc = 4 := by omega
    simp only [if_neg this, eX]
    refine ⟨p, h, .inr ⟨rfl, trivial, trivial, .inr ⟨h0, s1, ?_⟩⟩⟩
    have hcc := hc
    generalize X i = x at *
    obtain ⟨pc, fd, id, aq, ow, hh⟩ := x
    simp only at s1
    subst s1
    obtain ⟨_, l, j, nd, q, ha, hid, _⟩ := hcc
    simp only at hid s3
    exact ⟨l, nd, ha.hl, List.mem_of_getElem? ha.hi, hid, by rw [← hid]; exact s3⟩
  · have hprog : m' + 1 ≤ m := by
      refine g6 (fun e0 e1 => ?_) (fun e0 e1 => ?_)
      · have hcc := hc
        generalize X i = x at *
        obtain ⟨pc, fd, id, aq, ow, hh⟩ := x
        simp only at e0 e1
        subst e0
        obtain ⟨_, _, m0, hf, _⟩ := hcc
        exact hf.still h.quiet e1
      · have : ¬ (getC L (d.node (X i).id 0)).n % 2 = 1 := fun e => hsp ⟨e0, e1, e⟩
        omega
    clear g6 hsp
    generalize hs' : (lokStep d (key i) ((0 : Nat) : Int) L (X i)).1 = s' at *
    generalize hL' : (lokStep d (key i) ((0 : Nat) : Int) L (X i)).2 = L' at *
    have hfin : s'.pc = 4 → s'.h.id ≠ 0 ∧ lkOwn s' = true := by
      intro e
      obtain ⟨pc, fd, id, aq, ow, hh⟩ := s'
      simp only at e
      subst e
      rcases g4 with ⟨l, j, nd, ha, hid, ⟨word, hh', hlt⟩, hin4, hne⟩ | ⟨_, h⟩
      · simp only at hh' ⊢
        rw [hh']
        exact ⟨hne, by simp [lkOwn, hne]⟩
      · omega
    have hOwn : ∀ j, j ≠ i → (Own (updF X i s') (if s'.pc = 4 then updF H i 4 else H) j ↔ Own X H j) := fun j hj => by
      unfold Own
      rw [updF_ne _ _ hj]
      split
      · rw [updF_ne _ _ hj]
      · exact Iff.rfl
    have hHi : (if s'.pc = 4 then updF H i 4 else H) i = if s'.pc = 4 then 4 else 0 := by
      split
      · exact updF_same _ _ _
      · exact h0
    have hOwni : Own (updF X i s') (if s'.pc = 4 then updF H i 4 else H) i ↔ lkOwn s' = true := by
      unfold Own
      rw [updF_same, hHi]
      refine ⟨fun h => h.1, fun h => ⟨h, ?_⟩⟩
      split <;> omega
    -- the others
    have hoth : ∀ j, j < n → j ≠ i → lkOwn (X j) = true → 0 ≤ H j → (∀ c : Int, getC L (d.node (X i).id 0) = ⟨c, ⟨#[]⟩, 0⟩ → c % 4 = 1 → Own X H i → getC L' (d.node (X j).id 0) = getC L (d.node (X j).id 0)) := by
      intro j hj hji ho h0j c _ _ hoi
      refine t6 _ (fun e => ?_)
      obtain ⟨l, j', nd, wd, ha, hid, hlt, _⟩ := (h.mach j hj).own ho h0j
      obtain ⟨l2, j2, nd2, wd2, ha2, hid2, hlt2, _⟩ := hc.owns hoi.1
      have b1 := (h.tr.sh.nodes 0 l ha.hl nd (List.mem_of_getElem? ha.hi)).1
      have b2 := (h.tr.sh.nodes 0 l2 ha2.hl nd2 (List.mem_of_getElem? ha2.hi)).1
      have hn4 := h.tr.n4
      have hne := h.excl i j hi hj (fun e => hji e.symm) hoi ⟨ho, h0j⟩
      rw [hid, hid2] at e
      rw [hid, hid2] at hne
      exact node_apart hd b1.1 (by omega) b2.1 (by omega) (by omega) (by have := hd.fa1; omega) (by omega) (by have := hd.fa1; omega) (fun e => hne e.symm) e
    have hp' : ∀ p' : Nat → Nat, p' i + 7 ≤ p i → (∀ j, j < n → j ≠ i → p' j ≤ p j + 2) → sumN n p' + 1 ≤ sumN n p := fun p' q1 q2 => sumN_le (c := 2) hn hi q2 (by omega)
    have hmach : ∀ q : Nat, (if s'.pc = 4 then 11 else pOw (lkOwn s') m') ≤ q → ExM d L' t (key i) (updF X i s' i) ((if s'.pc = 4 then updF H i 4 else H) i) q := by
      intro q hq
      rw [updF_same, hHi]
      by_cases e : s'.pc = 4
      · rw [if_pos e] at hq ⊢
        exact .inr (.inl ⟨by omega, by omega, e, (hfin e).1, ⟨m', g4⟩, by show 4 + 7 ≤ q; omega⟩)
      · rw [if_neg e] at hq ⊢
        exact .inl ⟨rfl, e, hin', m', g4, hq⟩
    rcases g3 with ⟨e1, e2, e3⟩ | ⟨e1, e2, e3, ⟨l, nd, hl, hnm, hid⟩, e4, e5⟩ | ⟨e1, e2, _⟩
    · -- nothing is written
      subst e1
      refine ⟨updF p i (p i - 1), ⟨h.tr, h.cels, h.clen, h.base, h.lat, fun k l hk nd hnm hodd => ?_, fun j hj => ?_, fun a b ha hb hab oa ob => ?_⟩, .inl (sumN_le (c := 0) hn hi (fun j _ hji => by rw [updF_ne _ _ hji]; omega) ?_)⟩
      · obtain ⟨j, hj, ho, he⟩ := h.odd k l hk nd hnm hodd
        refine ⟨j, hj, ?_, ?_⟩
        · by_cases hji : j = i
          · subst hji; exact hOwni.2 (by rw [e2]; exact ho.1)
          · exact (hOwn j hji).2 ho
        · by_cases hji : j = i
          · subst hji; rw [updF_same, e3 ho.1]; exact he
          · rw [updF_ne _ _ hji]; exact he
      · by_cases hji : j = i
        · subst hji
          rw [show updF p j (p j - 1) j = p j - 1 from updF_same _ _ _]
          refine hmach _ ?_
          rw [e2]
          have q1 := pOw_ge (lkOwn (X j)) m
          have q2 := pOw_lt (b := lkOwn (X j)) hprog
          split <;> omega
        · rw [updF_ne _ _ hji, updF_ne _ _ hji, show (if s'.pc = 4 then updF H i 4 else H) j = H j by split; exact updF_ne _ _ hji; rfl]
          exact h.mach j hj
      · have tr : ∀ c, c < n → Own (updF X i s') (if s'.pc = 4 then updF H i 4 else H) c → Own X H c ∧ (updF X i s' c).id = (X c).id := fun c _ oc => by
          by_cases hci : c = i
          · subst hci
            have := hOwni.1 oc
            rw [e2] at this
            exact ⟨⟨this, by omega⟩, by rw [updF_same, e3 this]⟩
          · exact ⟨(hOwn c hci).1 oc, by rw [updF_ne _ _ hci]⟩
        obtain ⟨o1, i1⟩ := tr a ha oa
        obtain ⟨o2, i2⟩ := tr b hb ob
        rw [i1, i2]
        exact h.excl a b ha hb hab o1 o2
      · rw [updF_same]
        have q1 := pOw_ge (lkOwn (X i)) m
        omega
    · -- it locks
      have hb := (h.tr.sh.nodes 0 l hl nd hnm).1
      have hn4 := h.tr.n4
      have hpos := node_in hd (id := nd.id) hb.1 (by omega) (k := 0) (by omega) (by have := hd.fa1; omega)
      have hclen := h.clen
      rw [← hid] at e4 e5 t6
      have hlat := h.lat 0 l hl nd hnm
      have hw0 : getC L (d.node nd.id 0) = ⟨0, ⟨#[]⟩, 0⟩ := by
        rcases hlat with e | e
        · exact e
        · rw [e] at e4; exact absurd e4 (by decide)
      have hLn : getC L' (d.node nd.id 0) = ⟨1, ⟨#[]⟩, 0⟩ := by
        rw [e5, hw0, getC_eq hpos.2.1 (by omega)]
        rfl
      have hnotown : ∀ j, j < n → Own X H j → (X j).id ≠ nd.id := fun j hj ho e => by
        obtain ⟨l2, j', nd2, wd, ha, hid2, hlt, _⟩ := (h.mach j hj).own ho.1 ho.2
        have := hlt.w
        rw [← hid2, e] at hlt
        have hc := hlt.c
        rw [hw0] at hc
        have : wd = 0 := (congrArg Cel.n hc).symm
        omega
      have heq : ∀ c : Nd, 1 ≤ c.id → c.id ≤ d.no → c.id ≠ nd.id → getC L' (d.node c.id 0) = getC L (d.node c.id 0) := fun c c1 c2 hne => t6 _ (node_apart hd c1 c2 hb.1 (by omega) (by omega) (by have := hd.fa1; omega) (by omega) (by have := hd.fa1; omega) hne)
      have hno4 : s'.pc = 4 → False := fun e => by
        have hcc := hc
        generalize X i = x at *
        obtain ⟨pc, fd, id, aq, ow, hh⟩ := x
        have hcc2 : pc = 0 ∨ pc = 1 ∨ pc = 2 ∨ pc = 3 := by
          by_cases h5 : 5 ≤ pc
          · obtain ⟨n, rfl⟩ : ∃ n, pc = n + 5 := ⟨pc - 5, by omega⟩
            exact hcc.elim
          · simp only at h4; omega
        unfold lokStep at hs'
        rcases hcc2 with rfl | rfl | rfl | rfl
        · simp only at hs'
          have e5' : L' = L := by
            rw [← hL']
            unfold lokStep
            simp only
            split
            · split <;> rfl
            · rfl
          rw [e5', hw0] at hLn
          cases hLn
        · simp only at hs'
          rw [← hs'] at e
          split at e <;> simp at e
        · cases e1
        · cases e1
      refine ⟨fun j => if j = i then m' + 16 else p j + 2, ⟨t1, t3, t4, fun j hj => ?_, fun k l2 hk nd2 hn2 => ?_, fun k l2 hk nd2 hn2 hodd => ?_, fun j hj => ?_, fun a b ha hb' hab oa ob => ?_⟩, .inl (hp' _ ?_ (fun j _ hji => by simp only [if_neg hji]; omega))⟩
      · rw [t6 j (hj 0 l hl nd hnm)]
        exact h.base j hj
      · by_cases hci : nd2.id = nd.id
        · rw [hci]; exact .inr hLn
        · have b2 := (h.tr.sh.nodes k l2 hk nd2 hn2).1
          rw [heq nd2 b2.1 (by omega) hci]
          exact h.lat k l2 hk nd2 hn2
      · by_cases hci : nd2.id = nd.id
        · exact ⟨i, hi, hOwni.2 e2, by rw [updF_same, e3, ← hid, hci]⟩
        · have b2 := (h.tr.sh.nodes k l2 hk nd2 hn2).1
          rw [heq nd2 b2.1 (by omega) hci] at hodd
          obtain ⟨j, hj, ho, he⟩ := h.odd k l2 hk nd2 hn2 hodd
          have hji : j ≠ i := fun e => by
            subst e
            have := ho.1
            rw [e1] at this; cases this
          exact ⟨j, hj, (hOwn j hji).2 ho, by rw [updF_ne _ _ hji]; exact he⟩
      · by_cases hji : j = i
        · subst hji
          refine hmach _ ?_
          rw [if_neg hno4, e2]
          simp [pOw]
        · simp only [if_neg hji]
          rw [updF_ne _ _ hji, show (if s'.pc = 4 then updF H i 4 else H) j = H j by split; exact updF_ne _ _ hji; rfl]
          refine (h.mach j hj).calm hd t5 (fun ho h0j => ?_)
          refine t6 _ (fun e => ?_)
          have hne := hnotown j hj ⟨ho, h0j⟩
          obtain ⟨l2, j', nd2, wd, ha, hid2, hlt, _⟩ := (h.mach j hj).own ho h0j
          have b2 := (h.tr.sh.nodes 0 l2 ha.hl nd2 (List.mem_of_getElem? ha.hi)).1
          rw [hid2] at e hne
          exact node_apart hd b2.1 (by omega) hb.1 (by omega) (by omega) (by have := hd.fa1; omega) (by omega) (by have := hd.fa1; omega) hne e
      · have hai : ∀ c, c < n → c ≠ i → Own (updF X i s') (if s'.pc = 4 then updF H i 4 else H) c → (updF X i s' c).id ≠ nd.id := fun c hc hci oc => by
          rw [updF_ne _ _ hci]
          exact hnotown c hc ((hOwn c hci).1 oc)
        by_cases hai2 : a = i
        · subst hai2
          rw [updF_same, e3, ← hid]
          exact fun e => hai b hb' (fun e => hab e.symm) ob e.symm
        · by_cases hbi : b = i
          · subst hbi
            rw [show (updF X b s' b).id = nd.id by rw [updF_same, e3, ← hid]]
            exact hai a ha hai2 oa
          · rw [updF_ne _ _ hai2, updF_ne _ _ hbi]
            exact h.excl a b ha hb' hab ((hOwn a hai2).1 oa) ((hOwn b hbi).1 ob)
      · simp only [if_true]
        rw [e1] at hp
        have hp : m + 23 ≤ p i := hp
        omega
    · -- it does not release
      exfalso
      have hcc := hc
      have hn3 := hin.1
      generalize X i = x at *
      obtain ⟨pc, fd, id, aq, ow, hh⟩ := x
      have : pc = 2 := by
        unfold lkOwn at e1
        simp only [Bool.or_eq_true, beq_iff_eq, Bool.and_eq_true] at e1
        simp only at h4 hn3
        omega
      subst this
      have hs2 : s'.pc = 2 ∨ s'.pc = 3 ∨ s'.pc = 4 := by
        rw [← hs']
        unfold lokStep
        simp only
        split
        · split
          · exact .inr (.inr rfl)
          · exact .inr (.inl rfl)
        · exact .inl rfl
      rcases hs2 with e | e | e
      · unfold lkOwn at e2; rw [e] at e2; cases e2
      · exact hin'.1 e
      · rw [(hfin e).2] at e2; cases e2
/-- A machine holds its node a step longer. -/
theorem ExI.hold (h : ExI d L0 L t n key X H p) (hn : n ≤ 4) (hi : i < n) (h1 : 1 < H i) : ∃ p', ExI d L0 L t n key X (updF H i (H i - 1)) p' ∧ sumN n p' + 1 ≤ sumN n p := by
  have hOwn : ∀ j, Own X (updF H i (H i - 1)) j ↔ Own X H j := fun j => by
    unfold Own
    by_cases e : j = i
    · subst e; rw [updF_same]
      exact ⟨fun h => ⟨h.1, by omega⟩, fun h => ⟨h.1, by omega⟩⟩
    · rw [updF_ne _ _ e]
  refine ⟨updF p i (p i - 1), ⟨h.tr, h.cels, h.clen, h.base, h.lat, fun k l hk nd hnm hodd => ?_, fun j hj => ?_, fun a b ha hb hab oa ob => h.excl a b ha hb hab ((hOwn a).1 oa) ((hOwn b).1 ob)⟩, sumN_le (c := 0) hn hi (fun j _ hji => by rw [updF_ne _ _ hji]; omega) ?_⟩
  · obtain ⟨j, hj, ho, he⟩ := h.odd k l hk nd hnm hodd
    exact ⟨j, hj, (hOwn j).2 ho, he⟩
  · by_cases hji : j = i
    · subst hji
      rw [updF_same, updF_same]
      rcases h.mach j hj with ⟨a, _⟩ | ⟨a, b, c, e, f, g⟩ | a
      · omega
      · exact .inr (.inl ⟨by omega, by omega, c, e, f, by omega⟩)
      · omega
    · rw [updF_ne _ _ hji, updF_ne _ _ hji]
      exact h.mach j hj
  · rw [updF_same]
    rcases h.mach i hi with ⟨a, _⟩ | ⟨a, b, c, e, f, g⟩ | a
    · omega
    · omega
    · omega
/-- What a machine that holds its node has. -/
theorem ExI.held (h : ExI d L0 L t n key X H p) (hi : i < n) (h1 : 0 < H i) : ∃ (l : List Nd) (nd : Nd), t[0]? = some l ∧ nd ∈ l ∧ (X i).pc = 4 ∧ (X i).id = nd.id ∧ (X i).h = ⟨nd.id, 1, nd.pg⟩ ∧ getC L (d.node nd.id 0) = ⟨1, ⟨#[]⟩, 0⟩ ∧ Own X H i := by
  rcases h.mach i hi with ⟨a, _⟩ | ⟨a, b, c, e, ⟨m, f⟩, g⟩ | a
  · omega
  · have ho : lkOwn (X i) = true := by unfold lkOwn; rw [c]; simp [e]
    obtain ⟨l, j, nd, wd, ha, hid, hlt, h4⟩ := f.owns ho
    have hm := List.mem_of_getElem? ha.hi
    have hw : wd = 1 := by
      have hc := hlt.c
      have hw4 := hlt.w
      rcases h.lat 0 l ha.hl nd hm with e | e
      · rw [e] at hc
        have : wd = 0 := (congrArg Cel.n hc).symm
        omega
      · rw [e] at hc
        exact (congrArg Cel.n hc).symm
    subst hw
    exact ⟨l, nd, ha.hl, hm, c, hid, (h4 c).1, hlt.c, ho, by omega⟩
  · omega
/-- No two hold one node. -/
theorem ExI.other {j : Nat} (h : ExI d L0 L t n key X H p) (hi : i < n) (hj : j < n) (hij : j ≠ i) (h1 : 0 < H i) (h2 : 0 < H j) : (X j).h.id ≠ (X i).h.id := by
  obtain ⟨l, nd, _, _, _, e1, e2, _, o1⟩ := h.held hi h1
  obtain ⟨l', nd', _, _, _, e3, e4, _, o2⟩ := h.held hj h2
  rw [e2, e4]
  show nd'.id ≠ nd.id
  rw [← e1, ← e3]
  exact h.excl j i hj hi hij o2 o1
/-- A machine releases its node. -/
theorem ExI.rel (hd : d.Ok) (hn : n ≤ 4) (h : ExI d L0 L t n key X H p) (hi : i < n) (h1 : H i = 1) :
    ∃ p', ExI d L0 (putC L (d.node (X i).h.id 0) ⟨ltUnlock (X i).h.word, ⟨#[]⟩, 0⟩) t n key X (updF H i (-1)) p' ∧ sumN n p' + 1 ≤ sumN n p := by
  obtain ⟨l, nd, hl, hnm, hpc, hid, hh, hc, ho⟩ := h.held hi (by omega)
  rw [hh]
  have e0 : ltUnlock (1 : Int) = 0 := by decide
  show ∃ p', ExI d L0 (putC L (d.node nd.id 0) ⟨ltUnlock 1, ⟨#[]⟩, 0⟩) t n key X (updF H i (-1)) p' ∧ _
  rw [e0]
  have hb := (h.tr.sh.nodes 0 l hl nd hnm).1
  have hn4 := h.tr.n4
  have hclen := h.clen
  have hpos := node_in hd (id := nd.id) hb.1 (by omega) (k := 0) (by omega) (by have := hd.fa1; omega)
  have hLn : getC (putC L (d.node nd.id 0) ⟨0, ⟨#[]⟩, 0⟩) (d.node nd.id 0) = ⟨0, ⟨#[]⟩, 0⟩ := getC_eq hpos.2.1 (by omega)
  obtain ⟨t1, t2, t5⟩ := h.tr.bit hd hclen hl hnm (w' := 0) (by rw [hc]; decide) (by rw [hc]; decide) (by decide)
  have t6 : ∀ j : Int, j ≠ d.node nd.id 0 → getC (putC L (d.node nd.id 0) ⟨0, ⟨#[]⟩, 0⟩) j = getC L j := fun j hj => getC_ne hj
  have t3 : CelsOk (putC L (d.node nd.id 0) ⟨0, ⟨#[]⟩, 0⟩) := h.cels.put ⟨by show (0 : Int) ≤ 0; decide, by show (0 : Int) < 18446744073709551616; decide⟩
  have t4 : ((putC L (d.node nd.id 0) ⟨0, ⟨#[]⟩, 0⟩).length : Int) = d.cells := by rw [putC_length]; exact hclen
  generalize putC L (d.node nd.id 0) ⟨0, ⟨#[]⟩, 0⟩ = L' at *
  have heq : ∀ c : Nd, 1 ≤ c.id → c.id ≤ d.no → c.id ≠ nd.id → getC L' (d.node c.id 0) = getC L (d.node c.id 0) := fun c c1 c2 hne => t6 _ (node_apart hd c1 c2 hb.1 (by omega) (by omega) (by have := hd.fa1; omega) (by omega) (by have := hd.fa1; omega) hne)
  have hOwn : ∀ j, j ≠ i → (Own X (updF H i (-1)) j ↔ Own X H j) := fun j hj => by
    unfold Own
    rw [updF_ne _ _ hj]
  have hOwni : ¬ Own X (updF H i (-1)) i := fun h => by
    have := h.2
    rw [updF_same] at this
    omega
  refine ⟨fun j => if j = i then 0 else p j + 2, ⟨t1, t3, t4, fun j hj => ?_, fun k l2 hk nd2 hn2 => ?_, fun k l2 hk nd2 hn2 hodd => ?_, fun j hj => ?_, fun a b ha hb' hab oa ob => ?_⟩, sumN_le (c := 2) hn hi (fun j _ hji => by simp only [if_neg hji]; omega) ?_⟩
  · rw [t6 j (hj 0 l hl nd hnm)]
    exact h.base j hj
  · by_cases hci : nd2.id = nd.id
    · rw [hci]; exact .inl hLn
    · have b2 := (h.tr.sh.nodes k l2 hk nd2 hn2).1
      rw [heq nd2 b2.1 (by omega) hci]
      exact h.lat k l2 hk nd2 hn2
  · by_cases hci : nd2.id = nd.id
    · rw [hci, hLn] at hodd
      exact absurd hodd (by decide)
    · have b2 := (h.tr.sh.nodes k l2 hk nd2 hn2).1
      rw [heq nd2 b2.1 (by omega) hci] at hodd
      obtain ⟨j, hj, ho2, he⟩ := h.odd k l2 hk nd2 hn2 hodd
      have hji : j ≠ i := fun e => by
        subst e
        exact hci (by rw [← he, hid])
      exact ⟨j, hj, (hOwn j hji).2 ho2, he⟩
  · by_cases hji : j = i
    · subst hji
      rw [updF_same]
      exact .inr (.inr rfl)
    · simp only [if_neg hji]
      rw [updF_ne _ _ hji]
      refine (h.mach j hj).calm hd t5 (fun ho2 h0j => ?_)
      refine t6 _ (fun e => ?_)
      have hne := h.excl j i hj hi hji ⟨ho2, h0j⟩ ho
      obtain ⟨l2, j', nd2, wd, ha, hid2, hlt, _⟩ := (h.mach j hj).own ho2 h0j
      have b2 := (h.tr.sh.nodes 0 l2 ha.hl nd2 (List.mem_of_getElem? ha.hi)).1
      rw [hid2] at e hne
      rw [hid] at hne
      exact node_apart hd b2.1 (by omega) hb.1 (by omega) (by omega) (by have := hd.fa1; omega) (by omega) (by have := hd.fa1; omega) hne e
  · have tr : ∀ c, Own X (updF H i (-1)) c → c ≠ i ∧ Own X H c := fun c oc => by
      by_cases hci : c = i
      · subst hci; exact absurd oc hOwni
      · exact ⟨hci, (hOwn c hci).1 oc⟩
    exact h.excl a b ha hb' hab (tr a oa).2 (tr b ob).2
  · simp only [if_true]
    rcases h.mach i hi with ⟨a, _⟩ | ⟨a, b, c, e, f, g⟩ | a
    · omega
    · omega
    · omega
theorem ExI.start (hd : d.Ok) (hx : TreeOk d L0 t) (hL : CelsOk L0) (hlen : (L0.length : Int) = d.cells) (hlat : ∀ (k : Nat) (l : List Nd), t[k]? = some l → ∀ nd, nd ∈ l → getC L0 (d.node nd.id 0) = Cel.zero) (hc : (t.map List.length).sum ≤ 100) (hfa : d.fa ≤ 6) :
    ExI d L0 L0 t n key (fun _ => lok0) (fun _ => 0) (fun _ => 1138) := by
  refine ⟨hx.m, hL, hlen, fun _ _ => rfl, fun k l hk nd hn => .inl (hlat k l hk nd hn), fun k l hk nd hn ho => ?_, fun i hi => .inl ⟨rfl, by decide, ⟨by decide, fun h => by rcases h with h | h <;> cases h⟩, 1115, ⟨rfl, by decide, _, FdC.start, ?_⟩, by decide⟩, fun i j _ _ _ o _ => by cases o.1⟩
  · rw [hlat k l hk nd hn] at ho
    exact absurd ho (by decide)
  · have hns : nodeSteps d ≤ 11 := by unfold nodeSteps; omega
    have := Nat.mul_le_mul hc hns
    unfold lkC
    omega
theorem cels_ext {L L' : List Cel} (hl : L.length = L'.length) (h : ∀ j : Int, getC L j = getC L' j) : L = L' := by
  refine List.ext_getElem hl (fun i h1 h2 => ?_)
  have := h (i : Int)
  unfold getC at this
  rw [if_pos (by omega), if_pos (by omega), show ((i : Int).toNat) = i by omega, List.getElem?_eq_getElem h1, List.getElem?_eq_getElem h2] at this
  exact this
theorem ExI.last (h : ExI d L0 L t n key X H p) (hl0 : (L0.length : Int) = d.cells) (hlat : ∀ (k : Nat) (l : List Nd), t[k]? = some l → ∀ nd, nd ∈ l → getC L0 (d.node nd.id 0) = Cel.zero) (hl : leftN n H = 0) : L = L0 := by
  have hcl := h.clen
  refine cels_ext (by omega) (fun j => ?_)
  by_cases hj : ∀ (k : Nat) (l : List Nd), t[k]? = some l → ∀ nd, nd ∈ l → j ≠ d.node nd.id 0
  · exact h.base j hj
  · obtain ⟨k, l, hk, nd, hn, e⟩ : ∃ (k : Nat) (l : List Nd), t[k]? = some l ∧ ∃ nd, nd ∈ l ∧ j = d.node nd.id 0 := by
      refine Classical.byContradiction fun hc => hj (fun k l hk nd hn e => hc ⟨k, l, hk, nd, hn, e⟩)
    rw [e]
    rw [hlat k l hk nd hn]
    rcases h.lat k l hk nd hn with e | e
    · exact e
    · obtain ⟨i, hi, ⟨_, o⟩, _⟩ := h.odd k l hk nd hn (by rw [e]; rfl)
      have := leftN_zero hl hi
      omega
end
theorem TreeX.snd {d : Cfg} {L : List Cel} {t : List (List Nd)} {ks : List ByteArray} {hide : Bool} (hd : d.Ok) (h : TreeX d ks hide L t) (hch : (ks.length : Int) ≤ d.ch) : SndOk d L t := by
  have hA := hd.A_bd
  have hB := hd.B_bd
  have hC := hd.C_bd
  have hcb := hd.cells_bd
  have z : ∀ j : Int, 1 ≤ j → j < d.A → j ≠ 4 → j ≠ 5 → getC L j = Cel.zero := fun j a b c e => h.zero j (.inl ⟨a, b, c, e⟩)
  have h5 := h.n5
  have r1 := hd.re1
  refine ⟨h.ok, ⟨?_, ?_, ?_, by rw [h5]; exact hch, ?_, ?_, fun i a b => .inl ?_⟩, fun l' hl' => ?_⟩
  · rw [z 1 (by omega) (by omega) (by omega) (by omega), z 2 (by omega) (by omega) (by omega) (by omega)]
  · rw [z 3 (by omega) (by omega) (by omega) (by omega), z 2 (by omega) (by omega) (by omega) (by omega)]; exact Int.le_refl _
  · exact h.ok.n4
  · rw [z 6 (by omega) (by omega) (by omega) (by omega)]; show (0 : Int) ≤ d.re; omega
  · rw [z 7 (by omega) (by omega) (by omega) (by omega)]; rfl
  · rw [z i (by omega) b (by omega) (by omega)]; rfl
  · have hp := congrArg (List.map (fun s : Sl => s.r)) (h.leaves l' hl')
    rw [keySl_refs] at hp
    refine ⟨fun r hr => ?_, ?_⟩
    · have hr' : r ∈ (List.range ks.length).map (fun j => ((0 + j + 1 : Nat) : Int)) := by rw [← hp]; exact hr
      obtain ⟨j, hj, rfl⟩ := List.mem_map.1 hr'
      have hj := List.mem_range.1 hj
      have hcin := chain_in hd (c := ((0 + j + 1 : Nat) : Int)) (by omega) (by omega)
      refine ⟨by omega, by omega, by rw [h5]; omega, [], ?_, by show (0 : Int) ≤ d.re; omega, fun i v hv => by simp at hv⟩
      show (getC _ _).n = 0
      rw [h.zero _ (.inr (by omega))]
      rfl
    · show (List.map (fun s : Sl => s.r) (List.flatMap (fun nd => nd.pg.sl) l')).Nodup
      rw [hp, List.nodup_iff_pairwise_ne, List.pairwise_map]
      refine List.Pairwise.imp (fun {a b} hab => ?_) (List.nodup_iff_pairwise_ne.1 List.nodup_range)
      intro e
      exact hab (by omega)
/-- The loop's bound: in n picks in turn one makes progress. -/
structure ExB (n lp k : Nat) (ph : Nat) (idle : Nat → Prop) (a : Nat) : Prop where
  phle : ph ≤ 4552
  le : a ≤ n
  b : lp ≤ k → lp + a ≤ k ∧ k + n * ph ≤ lp + n * 4552 + a
  idl : ∀ b, b < a → idle ((k - 1 - b) % n)
  zero : k < lp → a = 0
theorem sumN_const (n c : Nat) : sumN n (fun _ => c) = n * c := by
  unfold sumN
  rw [List.map_const', List.length_range, List.sum_replicate_nat]
theorem ExB.start {n lp : Nat} {idle : Nat → Prop} (hn : n ≤ 4) : ExB n lp 0 (sumN n (fun _ => 1138)) idle 0 := by
  rw [sumN_const]
  refine ⟨by omega, by omega, fun h => ⟨by omega, ?_⟩, fun b hb => by omega, fun _ => rfl⟩
  have : n * (n * 1138) ≤ n * 4552 := Nat.mul_le_mul_left _ (by omega)
  omega
theorem ExB.prog {n lp k ph ph' a : Nat} {idle idle' : Nat → Prop} (h : ExB n lp k ph idle a) (han : a < n) (hp : ph' + 1 ≤ ph) : ExB n lp (k + 1) ph' idle' 0 := by
  have h1 := h.phle
  refine ⟨by omega, by omega, fun hk => ⟨by omega, ?_⟩, fun b hb => by omega, fun _ => rfl⟩
  have h3 : n * (ph' + 1) ≤ n * ph := Nat.mul_le_mul_left _ hp
  rw [Nat.mul_add, Nat.mul_one] at h3
  by_cases hlk : lp ≤ k
  · have := (h.b hlk).2
    omega
  · have : n * ph' ≤ n * 4552 := Nat.mul_le_mul_left _ (by omega)
    omega
theorem ExB.rest {n lp k ph a i : Nat} {idle : Nat → Prop} (h : ExB n lp k ph idle a) (han : a < n) (hi : lp ≤ k → i = k % n) (hid : idle i) : ∃ a', ExB n lp (k + 1) ph idle a' := by
  have h1 := h.phle
  by_cases hlk : lp ≤ k
  · refine ⟨a + 1, by omega, by omega, fun _ => ?_, fun b hb => ?_, fun hk => by omega⟩
    · have := h.b hlk
      omega
    · cases b with
      | zero => rw [show k + 1 - 1 - 0 = k by omega, ← hi hlk]; exact hid
      | succ b =>
        rw [show k + 1 - 1 - (b + 1) = k - 1 - b by omega]
        exact h.idl b (by omega)
  · refine ⟨0, by omega, by omega, fun hk => ⟨by omega, ?_⟩, fun b hb => by omega, fun _ => rfl⟩
    have : n * ph ≤ n * 4552 := Nat.mul_le_mul_left _ (by omega)
    omega
theorem ExB.all {n lp k ph : Nat} {idle : Nat → Prop} (h : ExB n lp k ph idle n) (hn : 0 < n) {i : Nat} (hi : i < n) : idle i := by
  have hk : lp ≤ k := by
    rcases Nat.lt_or_ge k lp with h2 | h2
    · have := h.zero h2; omega
    · exact h2
  have := (h.b hk).1
  have hb := h.idl ((k - 1 - i) % n) (Nat.mod_lt _ hn)
  have e : (k - 1 - (k - 1 - i) % n) % n = i := by
    have h1 := Nat.div_add_mod (k - 1 - i) n
    have h2 : k - 1 - (k - 1 - i) % n = n * ((k - 1 - i) / n) + i := by omega
    rw [h2, Nat.mul_add_mod, Nat.mod_eq_of_lt hi]
  rw [e] at hb
  exact hb
theorem ExB.last {n lp k ph a : Nat} {idle : Nat → Prop} (h : ExB n lp k ph idle a) (hn : n ≤ 4) (hlp : lp ≤ 300) (hk : 30000 ≤ k) : False := by
  have h1 := (h.b (by omega)).2
  have h2 := h.le
  have : n * 4552 ≤ 4 * 4552 := Nat.mul_le_mul_right _ hn
  omega
end Go.Proofs.YtlpdhhhgckpcfaaGreat
