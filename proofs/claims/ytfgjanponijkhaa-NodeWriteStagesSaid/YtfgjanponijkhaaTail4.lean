/- A region that draws its order and ends in a call, the making of a block and a store ('x := m.Load(..)'): the block may be made at any time; two walks serve. -/
import Derived.Test.YtfgjanponijkhaaTail3
namespace Go.Proofs.Ytfgjanponijkhaa
open Go.RowKit

section
variable {P : Program} {n N : Nat} {ops ops' : Array Oper} {Q : Exit → Act → World → Prop} {w : World} {z : Obj} {aS : Act} {dd : Tmp} {oc oa os : Oper}

theorem Pure.refl (w : World) : Pure w w := over_self w
theorem Pure.trans {w1 w2 w3 : World} (h : Pure w1 w2) (k : Pure w2 w3) : Pure w1 w3 := to_pure (h.below.trans (k.below.mono h.below.size))
theorem Pure.alloc {w1 w2 : World} (h : Pure w1 w2) (o : Obj) : Pure w1 (w2.alloc o) := to_pure (h.below.alloc h.below.size o)

theorem put_size (a : Act) (d : Option Tmp) (v : Value) : (a.put d v).tmps.size = a.tmps.size := by
  cases d <;> simp [Act.put]
theorem put_getD_ne (a : Act) (d : Option Tmp) (v : Value) (t : Tmp) (h : d ≠ some t) : (a.put d v).tmps.getD t undef = a.tmps.getD t undef := by
  cases d with
  | none => rfl
  | some u =>
    have : u ≠ t := fun e => h (by rw [e])
    simp [Act.put, Array.getElem?_setIfInBounds_ne this]
theorem put_getD_eq (a : Act) (v : Value) (t : Tmp) (h : t < a.tmps.size) : (a.put (some t) v).tmps.getD t undef = v := by
  simp [Act.put, h]

def LL (ops' : Array Oper) (n : Nat) (aS : Act) : Array Bool → Act → Prop := fun listed' a' => Region.seqB .any ops' 3 n listed' = true ∧ a' = aS
def HA (P : Program) (ops' : Array Oper) (n : Nat) (aS : Act) (w : World) (f : Nat) (listed : Array Bool) (a : Act) : Prop :=
  ∀ W, Pure w W → headQ P .any ops' (fun w' => ∃ x : Ext, w' = over W x) n (LL ops' n aS) f listed a

theorem headQ_keep {C : World → Prop} {t : Tmp} : ∀ (f : Nat) (listed : Array Bool) (a : Act), headQ P .any ops' C n (LL ops' n aS) f listed a →
    (∀ j o, j < n → ops'[j]? = some o → listed.getD j true = false → o.dst ≠ some t) → aS.tmps.getD t undef = a.tmps.getD t undef := by
  intro f
  induction f with
  | zero => intro listed a h _; rw [h.2]
  | succ f ih =>
    intro listed a h hd
    obtain ⟨i, hi⟩ := List.exists_mem_of_ne_nil _ h.1
    obtain ⟨hin, hq⟩ := h.2 i hi
    obtain ⟨hun, o, ho, _⟩ := mem_ready.1 hi
    have hne := hd i o hin ho hun
    have hd' : ∀ j o, j < n → ops'[j]? = some o → (listed.setIfInBounds i true).getD j true = false → o.dst ≠ some t := by
      intro j oj hj hoj hl
      by_cases hij : i = j
      · subst hij; rw [ho] at hoj; cases hoj; exact hne
      · rw [getD_set_ne true hij] at hl; exact hd j oj hj hoj hl
    unfold qOp at hq
    simp only [ho] at hq
    split at hq
    · obtain ⟨v, _, h2⟩ := hq
      rw [ih _ _ h2 hd', put_getD_ne _ _ _ _ hne]
    · rw [ih _ _ hq hd', put_getD_ne _ _ _ _ hne]

/-- The head's operations write slots of their own. -/
structure Dsts (ops' : Array Oper) (n N : Nat) : Prop where
  one : ∀ i j oi oj t, i < n → j < n → ops'[i]? = some oi → ops'[j]? = some oj → oi.dst = some t → oj.dst = some t → i = j
  lt : ∀ i o t, i < n → ops'[i]? = some o → o.dst = some t → t < N

theorem HA.step (hD : Dsts ops' n N) {f : Nat} {listed : Array Bool} {a : Act} (ha : a.tmps.size = N) (H : HA P ops' n aS w (f + 1) listed a) :
    Region.ready .any ops' listed ≠ [] ∧ ∀ i, i ∈ Region.ready .any ops' listed → i < n ∧ ∀ W, Pure w W → qOp P ops' (fun w' => ∃ x : Ext, w' = over W x) i (fun a' => HA P ops' n aS w f (listed.setIfInBounds i true) a' ∧ a'.tmps.size = N) a := by
  refine ⟨(H w (Pure.refl w)).1, fun i hi => ⟨((H w (Pure.refl w)).2 i hi).1, fun W hW => ?_⟩⟩
  have hq := ((H W hW).2 i hi).2
  have hin := ((H w (Pure.refl w)).2 i hi).1
  obtain ⟨hun, o, ho, _⟩ := mem_ready.1 hi
  unfold qOp at hq ⊢
  simp only [ho] at hq ⊢
  split
  · rename_i hw
    simp only [hw, if_true] at hq
    obtain ⟨v, h1, h2⟩ := hq
    refine ⟨v, h1, fun W2 hW2 => ?_, by rw [put_size]; exact ha⟩
    have hq2 := ((H W2 hW2).2 i hi).2
    unfold qOp at hq2
    simp only [ho, hw, if_true] at hq2
    obtain ⟨v2, _, h4⟩ := hq2
    have e : a.put o.dst v = a.put o.dst v2 := by
      cases hd : o.dst with
      | none => rfl
      | some t =>
        have hkeep : ∀ j oj, j < n → ops'[j]? = some oj → (listed.setIfInBounds i true).getD j true = false → oj.dst ≠ some t := by
          intro j oj hj hoj hl e
          have hij := hD.one i j o oj t hin hj ho hoj hd e
          subst hij
          rcases Nat.lt_or_ge i listed.size with hlt | hge
          · simp [hlt] at hl
          · simp [Array.getElem?_eq_none hge] at hun
        have k1 := headQ_keep _ _ _ h2 hkeep
        have k2 := headQ_keep _ _ _ h4 hkeep
        have hlt : t < a.tmps.size := by rw [ha]; exact hD.lt i o t hin ho hd
        rw [hd, put_getD_eq _ _ _ hlt] at k1 k2
        rw [← k1, ← k2]
    rw [e]; exact h4
  · rename_i hw
    simp only [hw] at hq
    refine ⟨fun W2 hW2 => ?_, by rw [put_size]; exact ha⟩
    have hq2 := ((H W2 hW2).2 i hi).2
    unfold qOp at hq2
    simp only [ho, hw] at hq2
    exact hq2

/-- All that the two texts have to do with each other. -/
structure Texts (ops ops' : Array Oper) (n N : Nat) (dd : Tmp) (oc oa os : Oper) : Prop where
  tw : Twin n ops ops'
  ds : Dsts ops' n N
  c : ops[n]? = some oc
  a : ops[n + 1]? = some oa
  s : ops[n + 2]? = some os
  dst : oa.dst = some dd
  bare : oa.guard = none
  beside : ∀ j o, j < n → ops[j]? = some o → dd ∉ o.looksAt ops ∧ o.dst ≠ some dd
  sel : ∀ (j : Nat) (o : Oper), ops[j]? = some o → ∀ cs b, o.op ≠ .select cs b

theorem seq3 {listed : Array Bool} (h : Region.seqB .any ops' 3 n listed = true) : Region.ready .any ops' listed = [n] ∧ Region.ready .any ops' (listed.setIfInBounds n true) = [n + 1] ∧
    Region.ready .any ops' ((listed.setIfInBounds n true).setIfInBounds (n + 1) true) = [n + 2] ∧ Region.ready .any ops' (((listed.setIfInBounds n true).setIfInBounds (n + 1) true).setIfInBounds (n + 2) true) = [] := by
  simp only [Region.seqB, Bool.and_eq_true, decide_eq_true_eq, List.isEmpty_iff] at h
  exact ⟨h.1, h.2.1, h.2.2.1, h.2.2.2⟩

theorem not_ready_set {Z : Array Bool} {j : Nat} : j ∉ Region.ready .any ops (Z.setIfInBounds j true) := by
  intro h
  have := (mem_ready.1 h).1
  rcases Nat.lt_or_ge j Z.size with hlt | hge
  · simp [hlt] at this
  · simp [Array.getElem?_eq_none hge] at this
theorem ready_lt {Z : Array Bool} {j : Nat} (h : j ∈ Region.ready .any ops Z) : j < ops.size := by
  obtain ⟨_, o, ho, _⟩ := mem_ready.1 h
  exact (Array.getElem?_eq_some_iff.1 ho).1

/-- The store alone is left. -/
theorem last_one (T : Texts ops ops' n N dd oc oa os) {listed : Array Bool} (hseq : Region.seqB .any ops' 3 n listed = true) {a : Act} {w' : World} (h : wpList P ops Q [os] a w') :
    wpAny P .any ops Q 1 ((listed.setIfInBounds n true).setIfInBounds (n + 1) true) a w' := by
  obtain ⟨r0, r1, r2, r3⟩ := seq3 hseq
  have key : ∀ j, j ∈ Region.ready .any ops ((listed.setIfInBounds n true).setIfInBounds (n + 1) true) ↔ j = n + 2 := by
    intro j
    by_cases hj : j = n + 1
    · subst hj
      exact ⟨fun h => absurd h not_ready_set, fun h => by omega⟩
    · rw [T.tw.ready hj, r2]; simp
  refine ⟨fun h0 => ?_, fun i hi => ?_⟩
  · have := (key (n + 2)).2 rfl
    rw [h0] at this; cases this
  · obtain rfl := (key i).1 hi
    have hw : wpOp P ops Q (n + 2) (wpList P ops Q []) a w' := by unfold wpOp; simp only [T.s]; exact h
    refine wpOp_mono (fun a2 w2 h2 => ⟨?_, h2⟩) hw
    refine List.eq_nil_iff_forall_not_mem.2 (fun j hj => ?_)
    by_cases hj1 : j = n + 1
    · subst hj1
      have hc : (((listed.setIfInBounds n true).setIfInBounds (n + 1) true).setIfInBounds (n + 2) true) = (((listed.setIfInBounds n true).setIfInBounds (n + 2) true).setIfInBounds (n + 1) true) := Array.setIfInBounds_comm _ _ (by omega)
      rw [hc] at hj
      exact not_ready_set hj
    · rw [T.tw.ready hj1, r3] at hj; cases hj

/-- The block has been made. -/
theorem after_alloc (T : Texts ops ops' n N dd oc oa os) {w0 : World} (hw0 : Pure w w0) {ptr : Value}
    (Ah : ∀ w', Pure (w0.alloc z) w' → wpList P ops Q [oc, os] (aS.put (some dd) ptr) w') : ∀ (f : Nat) (listed : Array Bool) (a : Act) (w' : World), HA P ops' n aS w f listed a → HeadInv .any ops' n listed → a.tmps.size = N → Pure (w0.alloc z) w' →
    wpAny P .any ops Q (f + 2) (listed.setIfInBounds (n + 1) true) (a.put (some dd) ptr) w' := by
  intro f
  induction f with
  | zero =>
    intro listed a w' H inv ha hw'
    obtain ⟨hseq, rfl⟩ := H w (Pure.refl w)
    obtain ⟨r0, r1, r2, r3⟩ := seq3 hseq
    have hnun : listed.getD n true = false := inv.tail n (Nat.le_refl _) (by rw [T.tw.size']; omega)
    have key : ∀ j, j ∈ Region.ready .any ops (listed.setIfInBounds (n + 1) true) ↔ j = n := by
      intro j
      by_cases hj : j = n + 1
      · subst hj
        exact ⟨fun h => absurd h not_ready_set, fun h => by omega⟩
      · rw [T.tw.ready hj]
        by_cases hle : j ≤ n
        · rw [T.tw.ready_low hle, r0]; simp
        · refine ⟨fun h => ?_, fun h => by omega⟩
          have hlt := ready_lt h
          rw [T.tw.size'] at hlt
          have hj2 : j = n + 2 := by omega
          subst hj2
          obtain ⟨o, e, ho, he, hb, hon⟩ := T.tw.last
          obtain ⟨_, o2, ho2, hall⟩ := mem_ready.1 h
          rw [ho] at ho2; cases ho2
          have := hall e he hb
          rw [hon, getD_set_ne false (by omega), getD_both hnun] at this
          cases this
    refine ⟨fun h0 => ?_, fun i hi => ?_⟩
    · have := (key n).2 rfl
      rw [h0] at this; cases this
    · obtain rfl := (key i).1 hi
      have hw : wpOp P ops Q i (wpList P ops Q [os]) (a.put (some dd) ptr) w' := by unfold wpOp; simp only [T.c]; exact Ah w' hw'
      refine wpOp_mono (fun a2 w2 h2 => ?_) hw
      rw [Array.setIfInBounds_comm (i := i + 1) (j := i) _ _ (by omega)]
      exact last_one T hseq h2
  | succ f ih =>
    intro listed a w' H inv ha hw'
    obtain ⟨hne, hst⟩ := H.step T.ds ha
    have key : ∀ j, j ∈ Region.ready .any ops (listed.setIfInBounds (n + 1) true) → j ∈ Region.ready .any ops' listed := by
      intro j h
      by_cases hj : j = n + 1
      · subst hj; exact absurd h not_ready_set
      · have h' := (T.tw.ready hj).1 h
        by_cases hle : j ≤ n
        · exact (T.tw.ready_low hle).1 h'
        · have hlt := ready_lt h
          rw [T.tw.size] at hlt
          have hj2 : j = n + 2 := by omega
          subst hj2
          have hnun : listed.getD n true = false := inv.tail n (Nat.le_refl _) (by rw [T.tw.size']; omega)
          obtain ⟨o, e, ho, he, hb, hon⟩ := T.tw.last
          obtain ⟨_, o2, ho2, hall⟩ := mem_ready.1 h'
          rw [ho] at ho2; cases ho2
          have := hall e he hb
          rw [hon, getD_set_ne false (by omega), getD_both hnun] at this
          cases this
    refine ⟨fun h0 => ?_, fun i hi => ?_⟩
    · obtain ⟨i, hi⟩ := List.exists_mem_of_ne_nil _ hne
      have hin := (hst i hi).1
      have : i ∈ Region.ready .any ops (listed.setIfInBounds (n + 1) true) := (T.tw.ready (by omega)).2 ((T.tw.ready_low (by omega)).2 hi)
      rw [h0] at this; cases this
    · have hi' := key i hi
      obtain ⟨hin, hq⟩ := hst i hi'
      have hW : Pure w w' := (hw0.alloc z).trans hw'
      have h1 := hq w' hW
      rw [T.tw.qOp_iff (by omega)] at h1
      obtain ⟨_, oi, hoi, _⟩ := mem_ready.1 hi
      have h2 := qOp_beside (d := dd) (v := ptr) hoi (T.beside i oi hin hoi).1 (T.beside i oi hin hoi).2 (T.sel i oi hoi) h1
      refine wpOp_of_qOp (C := fun w2 => ∃ x : Ext, w2 = over w' x) (over_self w') (fun a2 w2 hw2 hK => ?_) h2
      obtain ⟨a0, rfl, hH, hs0⟩ := hK
      rw [show (listed.setIfInBounds (n + 1) true).setIfInBounds i true = (listed.setIfInBounds i true).setIfInBounds (n + 1) true from Array.setIfInBounds_comm _ _ (by omega)]
      exact ih _ _ _ hH (inv.set hi' hin) hs0 (hw'.trans hw2)

/-- The block is still to be made. -/
theorem before_alloc (T : Texts ops ops' n N dd oc oa os) (hal : ∀ (a : Act) (w : World), (execOp a.eval oa).run P w = .ok (.value (.pointer (some ⟨w.heap.size, 0, none⟩))) (w.alloc z))
    (Bh : ∀ w', Pure w w' → wpList P ops Q [oc, oa, os] aS w')
    (Ah : ∀ w0 w', Pure w w0 → Pure (w0.alloc z) w' → wpList P ops Q [oc, os] (aS.put (some dd) (.pointer (some ⟨w0.heap.size, 0, none⟩))) w') :
    ∀ (f : Nat) (listed : Array Bool) (a : Act) (w' : World), HA P ops' n aS w f listed a → HeadInv .any ops' n listed → a.tmps.size = N → Pure w w' → wpAny P .any ops Q (f + 3) listed a w' := by
  have halloc : ∀ (f : Nat) (listed : Array Bool) (a : Act) (w' : World), HA P ops' n aS w f listed a → HeadInv .any ops' n listed → a.tmps.size = N → Pure w w' → wpOp P ops Q (n + 1) (wpAny P .any ops Q (f + 2) (listed.setIfInBounds (n + 1) true)) a w' := by
    intro f listed a w' H inv ha hw'
    have hwant : Region.wanted oa (yielded ops a.tmps) = true := by simp [Region.wanted, T.bare]
    unfold wpOp
    simp only [T.a, hwant, if_true]
    refine .inl ?_
    unfold Oper.wp
    rw [hal a w']
    unfold Oper.upon
    rw [T.dst]
    exact after_alloc T hw' (fun w2 hw2 => Ah w' w2 hw' hw2) f listed a _ H inv ha (Pure.refl _)
  have hready : ∀ (listed : Array Bool), HeadInv .any ops' n listed → n + 1 ∈ Region.ready .any ops listed := by
    intro listed inv
    rw [mem_ready]
    refine ⟨inv.tail _ (by omega) (by rw [T.tw.size']; omega), oa, T.a, fun e he => ?_⟩
    rw [T.tw.free oa T.a] at he
    simp at he
  intro f
  induction f with
  | zero =>
    intro listed a w' H inv ha hw'
    have H0 := H
    obtain ⟨hseq, rfl⟩ := H w (Pure.refl w)
    obtain ⟨r0, r1, r2, r3⟩ := seq3 hseq
    refine ⟨fun h0 => ?_, fun i hi => ?_⟩
    · have := hready listed inv
      rw [h0] at this; cases this
    · by_cases hi1 : i = n + 1
      · subst hi1; exact halloc 0 listed a w' H0 inv ha hw'
      · have := (T.tw.ready hi1).1 hi
        rw [r0] at this
        obtain rfl : i = n := by simpa using this
        have hw : wpOp P ops Q i (wpList P ops Q [oa, os]) a w' := by unfold wpOp; simp only [T.c]; exact Bh w' hw'
        refine wpOp_mono (fun a2 w2 h2 => ?_) hw
        have key : ∀ j, j ∈ Region.ready .any ops (listed.setIfInBounds i true) ↔ j = i + 1 := by
          intro j
          by_cases hj : j = i + 1
          · subst hj
            refine ⟨fun _ => rfl, fun _ => ?_⟩
            exact ready_mono (hready listed inv) (by omega)
          · rw [T.tw.ready hj, r1]
            simp
        refine ⟨fun h0 => ?_, fun j hj => ?_⟩
        · have := (key (i + 1)).2 rfl
          rw [h0] at this; cases this
        · obtain rfl := (key j).1 hj
          have hw3 : wpOp P ops Q (i + 1) (wpList P ops Q [os]) a2 w2 := by unfold wpOp; simp only [T.a]; exact h2
          exact wpOp_mono (fun a3 w3 h3 => last_one T hseq h3) hw3
  | succ f ih =>
    intro listed a w' H inv ha hw'
    obtain ⟨hne, hst⟩ := H.step T.ds ha
    refine ⟨fun h0 => ?_, fun i hi => ?_⟩
    · have := hready listed inv
      rw [h0] at this; cases this
    · by_cases hi1 : i = n + 1
      · subst hi1; exact halloc (f + 1) listed a w' H inv ha hw'
      · have hi' := (T.tw.ready hi1).1 hi
        obtain ⟨hin, hq⟩ := hst i hi'
        have h1 := hq w' hw'
        rw [T.tw.qOp_iff (by omega)] at h1
        refine wpOp_of_qOp (C := fun w2 => ∃ x : Ext, w2 = over w' x) (over_self w') (fun a2 w2 hw2 hK => ?_) h1
        exact ih _ _ _ hK.1 (inv.set hi' hin) hK.2 (hw'.trans hw2)
end

def twinOf (n : Nat) (l : List Oper) : List Oper := l.modify (n + 1) fun o => { o with after := #[⟨n, .data⟩] }

/-- The condition, for the kernel: N is the number of slots, dd the slot of the new block's address. -/
def allocB (l : List Oper) (n N : Nat) (dd : Tmp) : Bool :=
  l.length == n + 3 && Region.lexTailB .any (twinOf n l).toArray n && Region.noSelect l.toArray
  && (l[n + 1]?).any (fun o => o.after.isEmpty && (o.dst == some dd) && o.guard.isNone)
  && (l.take (n + 1)).all (fun o => o.after.all fun e => e.on != n + 1)
  && (l[n + 2]?).any (fun o => o.after.any fun e => Region.binds .any e && e.on == n)
  && decide ((l.take n).filterMap (·.dst)).Nodup && ((l.take n).filterMap (·.dst)).all (fun t => decide (t < N))
  && (l.take n).all (fun o => !(o.looksAt l.toArray).contains dd && o.dst != some dd)

theorem nodup_at {l : List Oper} : (l.filterMap (·.dst)).Nodup → ∀ (i j : Nat) (oi oj : Oper) (t : Tmp), l[i]? = some oi → l[j]? = some oj → oi.dst = some t → oj.dst = some t → i = j := by
  induction l with
  | nil => intro _ i j oi oj t h; simp at h
  | cons o l ih =>
    intro hnd i j oi oj t hi hj h1 h2
    cases ho : o.dst with
    | none =>
      rw [List.filterMap_cons_none ho] at hnd
      cases i with
      | zero => simp at hi; subst hi; rw [ho] at h1; cases h1
      | succ i =>
        cases j with
        | zero => simp at hj; subst hj; rw [ho] at h2; cases h2
        | succ j => rw [ih hnd i j oi oj t (by simpa using hi) (by simpa using hj) h1 h2]
    | some u =>
      rw [List.filterMap_cons_some ho, List.nodup_cons] at hnd
      have hm : ∀ (k : Nat) (ok : Oper), l[k]? = some ok → ok.dst = some t → t ∈ l.filterMap (·.dst) := fun k ok hk hd => List.mem_filterMap.2 ⟨ok, List.mem_of_getElem? hk, hd⟩
      cases i with
      | zero =>
        simp at hi; subst hi
        rw [ho] at h1; cases h1
        cases j with
        | zero => rfl
        | succ j => exact absurd (hm j oj (by simpa using hj) h2) hnd.1
      | succ i =>
        cases j with
        | zero =>
          simp at hj; subst hj
          rw [ho] at h2; cases h2
          exact absurd (hm i oi (by simpa using hi) h1) hnd.1
        | succ j => rw [ih hnd.2 i j oi oj t (by simpa using hi) (by simpa using hj) h1 h2]

theorem wpQuiet_twin {P : Program} {ops ops' : Array Oper} {C : World → Prop} {K : Act → Prop} (hy : ∀ tmps, yielded ops tmps = yielded ops' tmps) (l : List Oper) : ∀ a, wpQuiet P ops C K l a → wpQuiet P ops' C K l a := by
  induction l with
  | nil => intro a h; exact h
  | cons o l ih =>
    intro a h
    unfold wpQuiet at h ⊢
    rw [← hy]
    split
    · rename_i hw
      simp only [hw, if_true] at h
      obtain ⟨v, h1, h2⟩ := h
      exact ⟨v, h1, ih _ h2⟩
    · rename_i hw
      simp only [hw] at h
      exact ih _ h

theorem texts_of {l : List Oper} {n N : Nat} {dd : Tmp} {oc oa os : Oper} (hB : allocB l n N dd = true) (hl : l.drop n = [oc, oa, os]) : Texts l.toArray (twinOf n l).toArray n N dd oc oa os ∧ Region.lexTailB .any (twinOf n l).toArray n = true := by
  simp only [allocB, Bool.and_eq_true, beq_iff_eq, decide_eq_true_eq] at hB
  obtain ⟨⟨⟨⟨⟨⟨⟨⟨h1, h2⟩, h3⟩, h4⟩, h5⟩, h6⟩, h7⟩, h8⟩, h9⟩ := hB
  have gc : l[n]? = some oc := by have := congrArg (·[0]?) hl; simpa using this
  have ga : l[n + 1]? = some oa := by have := congrArg (·[1]?) hl; simpa using this
  have gs : l[n + 2]? = some os := by have := congrArg (·[2]?) hl; simpa using this
  rw [ga] at h4
  rw [gs] at h6
  simp only [Option.any_some, Bool.and_eq_true, beq_iff_eq] at h4 h6
  obtain ⟨⟨h4a, h4b⟩, h4c⟩ := h4
  have hsame : ∀ i, i ≠ n + 1 → (twinOf n l)[i]? = l[i]? := fun i hi => by unfold twinOf; rw [List.getElem?_modify]; simp [Ne.symm hi]
  have htw : (twinOf n l)[n + 1]? = some { oa with after := #[⟨n, .data⟩] } := by unfold twinOf; rw [List.getElem?_modify, ga]; simp
  have htake : ∀ (i : Nat) (o : Oper), i < n → (twinOf n l)[i]? = some o → (l.take n)[i]? = some o := fun i o hi ho => by rw [hsame i (by omega)] at ho; rw [List.getElem?_take, if_pos hi]; exact ho
  refine ⟨⟨⟨by simpa using h1, by unfold twinOf; simpa using h1, fun i hi => by simp [hsame i hi], by simp [ga, htw], fun o ho => ?_, fun i o e hi ho he => ?_, ?_⟩, ⟨fun i j oi oj t hi hj hoi hoj => nodup_at h7 i j oi oj t (htake i oi hi (by simpa using hoi)) (htake j oj hj (by simpa using hoj)), fun i o t hi ho hd => ?_⟩, by simpa using gc, by simpa using ga, by simpa using gs, h4b, by simpa using h4c, fun j o hj ho => ?_, fun j o ho cs b => Region.noSelect_spec h3 j o cs b ho⟩, h2⟩
  · have : oa = o := by rw [List.getElem?_toArray, ga] at ho; exact Option.some.inj ho
    subst this; simpa using h4a
  · have ho' : (l.take (n + 1))[i]? = some o := by
      rw [List.getElem?_toArray, hsame i (by omega)] at ho
      rw [List.getElem?_take, if_pos (by omega)]; exact ho
    have := List.all_eq_true.1 h5 o (List.mem_of_getElem? ho')
    have := Array.all_eq_true_iff_forall_mem.1 this e he
    simpa using this
  · obtain ⟨i, hi, hb⟩ := Array.any_eq_true.1 h6
    simp only [Bool.and_eq_true, beq_iff_eq] at hb
    have he := Array.getElem_mem hi
    exact ⟨os, _, by rw [List.getElem?_toArray, hsame _ (by omega)]; exact gs, he, hb.1, hb.2⟩
  · have := List.all_eq_true.1 h8 t (List.mem_filterMap.2 ⟨o, List.mem_of_getElem? (htake i o hi (by simpa using ho)), hd⟩)
    simpa using this
  · have ho' : (l.take n)[j]? = some o := by rw [List.getElem?_take, if_pos hj]; simpa using ho
    have := List.all_eq_true.1 h9 o (List.mem_of_getElem? ho')
    simpa using this

/-- 'x := m.Load(..)', x a struct: the head once, for any world behind (H: its end aS); then the call, the block and the store (B); and the call and the store when the block has been made before (A). -/
theorem region_alloc {P : Program} {id : Nat} {Q : Exit → Act → World → Prop} {a : Act} {w : World} {l : List Oper} (n : Nat) (aS : Act) {oc oa os : Oper} (dd : Tmp) (z : Obj) (hm : P.follows .mixedOrders = true) (hB : allocB l n a.tmps.size dd = true) (hl : l.drop n = [oc, oa, os])
    (hal : ∀ (a : Act) (w : World), (execOp a.eval oa).run P w = .ok (.value (.pointer (some ⟨w.heap.size, 0, none⟩))) (w.alloc z))
    (H : ∀ W, Below w.heap.size w W → wpQuiet P l.toArray (fun w' => ∃ x : Ext, w' = over W x) (fun a' => a' = aS) (l.take n) a)
    (Bh : ∀ w', Below w.heap.size w w' → wpList P l.toArray Q [oc, oa, os] aS w')
    (Ah : ∀ w0 w', Below w.heap.size w w0 → Below (w0.heap.size + 1) (w0.alloc z) w' → wpList P l.toArray Q [oc, os] (aS.put (some dd) (.pointer (some ⟨w0.heap.size, 0, none⟩))) w') : (Code.region id l.toArray true).wp P Q a w := by
  obtain ⟨T, hlex⟩ := texts_of hB hl
  have hlen : l.length = n + 3 := by have := T.tw.size; simpa using this
  have hlen' : (twinOf n l).length = n + 3 := by have := T.tw.size'; simpa using this
  simp only [Region.lexTailB, Bool.and_eq_true, decide_eq_true_eq] at hlex
  obtain ⟨⟨⟨⟨hsel, hn⟩, hs⟩, hc⟩, hlex⟩ := hlex
  have hsz : (twinOf n l).toArray.size - n = 3 := by simp [hlen']
  rw [hsz] at hlex
  have htk : (l.take n).length = n := by simp [hlen]
  have inv0 : HeadInv .any (twinOf n l).toArray n (Array.replicate (twinOf n l).toArray.size false) :=
    ⟨by simp, fun j oj _ hl => (by rw [getD_replicate_false] at hl; cases hl), fun t _ ht => getD_in (by simpa using ht) (getD_replicate_false _ _)⟩
  have HH : HA P (twinOf n l).toArray n aS w n (Array.replicate (twinOf n l).toArray.size false) a := by
    intro W hW
    have h1 := wpQuiet_twin (fun t => T.tw.yield t) _ _ (H W hW.below)
    have := headQ_lex (P := P) (C := fun w' => ∃ x : Ext, w' = over W x) (md := .any) (g := 3) hsel hs hc hn (l.take n) 0 _ a (fun j hj => by
      have hj' : j < n := by rw [htk] at hj; exact hj
      have := T.tw.same j (by omega)
      simp only [List.getElem?_toArray] at this
      rw [List.getElem?_take, if_pos hj', this]; simp) (by rw [htk]; omega) inv0 (by rw [htk]; exact hlex) h1
    rwa [htk] at this
  refine wp_region_any hm ?_
  have key := before_alloc (Q := Q) T hal (fun w' hw' => Bh w' hw'.below) (fun w0 w' h0 h1 => Ah w0 w' h0.below (by have := h1.below; rwa [World.size_alloc] at this)) n _ a _ HH inv0 rfl ⟨_, drew_over w⟩
  rw [show l.toArray.size = n + 3 by simp [hlen]]
  rw [show (twinOf n l).toArray.size = n + 3 by simp [hlen']] at key
  exact key
end Go.Proofs.Ytfgjanponijkhaa
