/- A region that ends in a call, the making of a block and a store ('x := m.Load(..)'): the block may be made at any time. A region that draws its order and ends in a call, the making of a block and a store ('x := m.Load(..)'): the block may be made at any time; two walks serve. A region that draws its order, whose first operation is a move for later, and that makes a block of what its head has read, while other operations of the head may still be under way; what follows waits for all of them ('x.f = append(x.f, a literal)'). One walk. -/
import Derived.Test.YtfgjanponijkhaaTail2
namespace Go.Proofs.Ytfgjanponijkhaa
open Go.RowKit

section
variable {P : Program} {n : Nat} {ops ops' : Array Oper} {C : World → Prop}

/-- The two texts differ in what the operation n + 1 waits for, and in nothing else. -/
structure Twin (n : Nat) (ops ops' : Array Oper) : Prop where
  size : ops.size = n + 3
  size' : ops'.size = n + 3
  same : ∀ i, i ≠ n + 1 → ops[i]? = ops'[i]?
  dst : (ops[n + 1]?).bind (·.dst) = (ops'[n + 1]?).bind (·.dst)
  free : ∀ o, ops[n + 1]? = some o → o.after = #[]
  low : ∀ i o e, i ≤ n → ops'[i]? = some o → e ∈ o.after → e.on ≠ n + 1
  last : ∃ o e, ops'[n + 2]? = some o ∧ e ∈ o.after ∧ Region.binds .any e = true ∧ e.on = n

theorem Twin.yield (h : Twin n ops ops') (tmps : Array Value) : yielded ops tmps = yielded ops' tmps := by
  funext g
  unfold yielded
  by_cases hg : g = n + 1
  · subst hg; rw [h.dst]
  · rw [h.same g hg]
theorem Twin.qOp_iff (h : Twin n ops ops') {i : Nat} (hi : i ≠ n + 1) (K : Act → Prop) (a : Act) : qOp P ops' C i K a = qOp P ops C i K a := by
  unfold qOp
  rw [h.same i hi, h.yield]
theorem Twin.ready (h : Twin n ops ops') {Z : Array Bool} {j : Nat} (hj : j ≠ n + 1) : j ∈ Region.ready .any ops Z ↔ j ∈ Region.ready .any ops' Z := by
  rw [mem_ready, mem_ready, h.same j hj]
theorem Twin.ready_low (h : Twin n ops ops') {Z : Array Bool} {j : Nat} (hj : j ≤ n) : j ∈ Region.ready .any ops' (Z.setIfInBounds (n + 1) true) ↔ j ∈ Region.ready .any ops' Z := by
  rw [mem_ready, mem_ready, getD_set_ne true (by omega)]
  constructor
  · rintro ⟨h0, o, ho, hall⟩
    exact ⟨h0, o, ho, fun e he hb => by have := hall e he hb; rwa [getD_set_ne false (Ne.symm (h.low j o e hj ho he))] at this⟩
  · rintro ⟨h0, o, ho, hall⟩
    exact ⟨h0, o, ho, fun e he hb => by rw [getD_set_ne false (Ne.symm (h.low j o e hj ho he))]; exact hall e he hb⟩

/-- A slot that the operation neither reads nor writes. -/
theorem qOp_beside {j : Nat} {oj : Oper} {d : Tmp} {v : Value} {K : Act → Prop} {a : Act} (hj : ops[j]? = some oj) (h1 : d ∉ oj.looksAt ops) (h2 : oj.dst ≠ some d) (hs : ∀ cs b, oj.op ≠ .select cs b) (h : qOp P ops C j K a) :
    qOp P ops C j (fun a' => ∃ a0, a' = a0.put (some d) v ∧ K a0) (a.put (some d) v) := by
  have e1 := execOp_put oj hs a (some d) v (fun x hx => by cases hx; exact h1)
  have e2 := wanted_put oj a (some d) v (fun x hx => by cases hx; exact h1)
  have e3 : ∀ u, (a.put (some d) v).put oj.dst u = (a.put oj.dst u).put (some d) v := fun u => Act.put_comm a v u (x := some d) (y := oj.dst) (fun x hx => by simp only [Option.some.injEq] at hx; subst hx; exact h2)
  unfold qOp at *
  simp only [hj] at *
  rw [e2]
  split
  · rename_i hw
    simp only [hw, if_true] at h
    obtain ⟨u, k1, k2⟩ := h
    refine ⟨u, fun w hw => ?_, _, e3 u, k2⟩
    have := k1 w hw
    unfold Oper.quietAt at this ⊢
    rw [e1]
    exact this
  · rename_i hw
    simp only [hw] at h
    exact ⟨_, e3 _, h⟩
end
end Go.Proofs.Ytfgjanponijkhaa

namespace Go.Proofs.Ytfgjanponijkhaa
open Go.RowKit

section
variable {P : Program} {n N : Nat} {ops ops' : Array Oper} {Q : Exit → Act → World → Prop} {w : World} {z : Obj} {aS : Act} {dd : Tmp} {oc oa os : Oper}

theorem Pure.refl (w : World) : Pure w w := over_self w
theorem Pure.trans {w1 w2 w3 : World} (h : Pure w1 w2) (k : Pure w2 w3) : Pure w1 w3 := to_pure (h.below.trans (k.below.mono h.below.size))
theorem Pure.alloc {w1 w2 : World} (h : Pure w1 w2) (o : Obj) : Pure w1 (w2.alloc o) := to_pure (h.below.alloc h.below.size o)

theorem put_size (a : Act) (d : Option Tmp) (v : Value) : (a.put d v).tmps.size = a.tmps.size := by
  cases d <;> simp [Act.put]
theorem put_getD_ne (a : Act) (d : Option Tmp) (v : Value) (t : Tmp) (h : d ≠ some t) : (a.put d v).tmps.getD t undef = a.tmps.getD t undef := by
  cases d with
  | none => rfl
  | some u =>
    have : u ≠ t := fun e => h (by rw [e])
    simp [Act.put, Array.getElem?_setIfInBounds_ne this]
theorem put_getD_eq (a : Act) (v : Value) (t : Tmp) (h : t < a.tmps.size) : (a.put (some t) v).tmps.getD t undef = v := by
  simp [Act.put, h]

def LL (ops' : Array Oper) (n : Nat) (aS : Act) : Array Bool → Act → Prop := fun listed' a' => Region.seqB .any ops' 3 n listed' = true ∧ a' = aS
def HA (P : Program) (ops' : Array Oper) (n : Nat) (aS : Act) (w : World) (f : Nat) (listed : Array Bool) (a : Act) : Prop :=
  ∀ W, Pure w W → headQ P .any ops' (fun w' => ∃ x : Ext, w' = over W x) n (LL ops' n aS) f listed a

theorem headQ_keep {C : World → Prop} {t : Tmp} : ∀ (f : Nat) (listed : Array Bool) (a : Act), headQ P .any ops' C n (LL ops' n aS) f listed a →
    (∀ j o, j < n → ops'[j]? = some o → listed.getD j true = false → o.dst ≠ some t) → aS.tmps.getD t undef = a.tmps.getD t undef := by
  intro f
  induction f with
  | zero => intro listed a h _; rw [h.2]
  | succ f ih =>
    intro listed a h hd
    obtain ⟨i, hi⟩ := List.exists_mem_of_ne_nil _ h.1
    obtain ⟨hin, hq⟩ := h.2 i hi
    obtain ⟨hun, o, ho, _⟩ := mem_ready.1 hi
    have hne := hd i o hin ho hun
    have hd' : ∀ j o, j < n → ops'[j]? = some o → (listed.setIfInBounds i true).getD j true = false → o.dst ≠ some t := by
      intro j oj hj hoj hl
      by_cases hij : i = j
      · subst hij; rw [ho] at hoj; cases hoj; exact hne
      · rw [getD_set_ne true hij] at hl; exact hd j oj hj hoj hl
    unfold qOp at hq
    simp only [ho] at hq
    split at hq
    · obtain ⟨v, _, h2⟩ := hq
      rw [ih _ _ h2 hd', put_getD_ne _ _ _ _ hne]
    · rw [ih _ _ hq hd', put_getD_ne _ _ _ _ hne]

/-- The head's operations write slots of their own. -/
structure Dsts (ops' : Array Oper) (n N : Nat) : Prop where
  one : ∀ i j oi oj t, i < n → j < n → ops'[i]? = some oi → ops'[j]? = some oj → oi.dst = some t → oj.dst = some t → i = j
  lt : ∀ i o t, i < n → ops'[i]? = some o → o.dst = some t → t < N

theorem HA.step (hD : Dsts ops' n N) {f : Nat} {listed : Array Bool} {a : Act} (ha : a.tmps.size = N) (H : HA P ops' n aS w (f + 1) listed a) :
    Region.ready .any ops' listed ≠ [] ∧ ∀ i, i ∈ Region.ready .any ops' listed → i < n ∧ ∀ W, Pure w W → qOp P ops' (fun w' => ∃ x : Ext, w' = over W x) i (fun a' => HA P ops' n aS w f (listed.setIfInBounds i true) a' ∧ a'.tmps.size = N) a := by
  refine ⟨(H w (Pure.refl w)).1, fun i hi => ⟨((H w (Pure.refl w)).2 i hi).1, fun W hW => ?_⟩⟩
  have hq := ((H W hW).2 i hi).2
  have hin := ((H w (Pure.refl w)).2 i hi).1
  obtain ⟨hun, o, ho, _⟩ := mem_ready.1 hi
  unfold qOp at hq ⊢
  simp only [ho] at hq ⊢
  split
  · rename_i hw
    simp only [hw, if_true] at hq
    obtain ⟨v, h1, h2⟩ := hq
    refine ⟨v, h1, fun W2 hW2 => ?_, by rw [put_size]; exact ha⟩
    have hq2 := ((H W2 hW2).2 i hi).2
    unfold qOp at hq2
    simp only [ho, hw, if_true] at hq2
    obtain ⟨v2, _, h4⟩ := hq2
    have e : a.put o.dst v = a.put o.dst v2 := by
      cases hd : o.dst with
      | none => rfl
      | some t =>
        have hkeep : ∀ j oj, j < n → ops'[j]? = some oj → (listed.setIfInBounds i true).getD j true = false → oj.dst ≠ some t := by
          intro j oj hj hoj hl e
          have hij := hD.one i j o oj t hin hj ho hoj hd e
          subst hij
          rcases Nat.lt_or_ge i listed.size with hlt | hge
          · simp [hlt] at hl
          · simp [Array.getElem?_eq_none hge] at hun
        have k1 := headQ_keep _ _ _ h2 hkeep
        have k2 := headQ_keep _ _ _ h4 hkeep
        have hlt : t < a.tmps.size := by rw [ha]; exact hD.lt i o t hin ho hd
        rw [hd, put_getD_eq _ _ _ hlt] at k1 k2
        rw [← k1, ← k2]
    rw [e]; exact h4
  · rename_i hw
    simp only [hw] at hq
    refine ⟨fun W2 hW2 => ?_, by rw [put_size]; exact ha⟩
    have hq2 := ((H W2 hW2).2 i hi).2
    unfold qOp at hq2
    simp only [ho, hw] at hq2
    exact hq2

/-- All that the two texts have to do with each other. -/
structure Texts (ops ops' : Array Oper) (n N : Nat) (dd : Tmp) (oc oa os : Oper) : Prop where
  tw : Twin n ops ops'
  ds : Dsts ops' n N
  c : ops[n]? = some oc
  a : ops[n + 1]? = some oa
  s : ops[n + 2]? = some os
  dst : oa.dst = some dd
  bare : oa.guard = none
  beside : ∀ j o, j < n → ops[j]? = some o → dd ∉ o.looksAt ops ∧ o.dst ≠ some dd
  sel : ∀ (j : Nat) (o : Oper), ops[j]? = some o → ∀ cs b, o.op ≠ .select cs b

theorem seq3 {listed : Array Bool} (h : Region.seqB .any ops' 3 n listed = true) : Region.ready .any ops' listed = [n] ∧ Region.ready .any ops' (listed.setIfInBounds n true) = [n + 1] ∧
    Region.ready .any ops' ((listed.setIfInBounds n true).setIfInBounds (n + 1) true) = [n + 2] ∧ Region.ready .any ops' (((listed.setIfInBounds n true).setIfInBounds (n + 1) true).setIfInBounds (n + 2) true) = [] := by
  simp only [Region.seqB, Bool.and_eq_true, decide_eq_true_eq, List.isEmpty_iff] at h
  exact ⟨h.1, h.2.1, h.2.2.1, h.2.2.2⟩

theorem not_ready_set {Z : Array Bool} {j : Nat} : j ∉ Region.ready .any ops (Z.setIfInBounds j true) := by
  intro h
  have := (mem_ready.1 h).1
  rcases Nat.lt_or_ge j Z.size with hlt | hge
  · simp [hlt] at this
  · simp [Array.getElem?_eq_none hge] at this
theorem ready_lt {Z : Array Bool} {j : Nat} (h : j ∈ Region.ready .any ops Z) : j < ops.size := by
  obtain ⟨_, o, ho, _⟩ := mem_ready.1 h
  exact (Array.getElem?_eq_some_iff.1 ho).1

/-- The store alone is left. -/
theorem last_one (T : Texts ops ops' n N dd oc oa os) {listed : Array Bool} (hseq : Region.seqB .any ops' 3 n listed = true) {a : Act} {w' : World} (h : wpList P ops Q [os] a w') :
    wpAny P .any ops Q 1 ((listed.setIfInBounds n true).setIfInBounds (n + 1) true) a w' := by
  obtain ⟨r0, r1, r2, r3⟩ := seq3 hseq
  have key : ∀ j, j ∈ Region.ready .any ops ((listed.setIfInBounds n true).setIfInBounds (n + 1) true) ↔ j = n + 2 := by
    intro j
    by_cases hj : j = n + 1
    · subst hj
      exact ⟨fun h => absurd h not_ready_set, fun h => by omega⟩
    · rw [T.tw.ready hj, r2]; simp
  refine ⟨fun h0 => ?_, fun i hi => ?_⟩
  · have := (key (n + 2)).2 rfl
    rw [h0] at this; cases this
  · obtain rfl := (key i).1 hi
    have hw : wpOp P ops Q (n + 2) (wpList P ops Q []) a w' := by unfold wpOp; simp only [T.s]; exact h
    refine wpOp_mono (fun a2 w2 h2 => ⟨?_, h2⟩) hw
    refine List.eq_nil_iff_forall_not_mem.2 (fun j hj => ?_)
    by_cases hj1 : j = n + 1
    · subst hj1
      have hc : (((listed.setIfInBounds n true).setIfInBounds (n + 1) true).setIfInBounds (n + 2) true) = (((listed.setIfInBounds n true).setIfInBounds (n + 2) true).setIfInBounds (n + 1) true) := Array.setIfInBounds_comm _ _ (by omega)
      rw [hc] at hj
      exact not_ready_set hj
    · rw [T.tw.ready hj1, r3] at hj; cases hj

/-- The block has been made. -/
theorem after_alloc (T : Texts ops ops' n N dd oc oa os) {w0 : World} (hw0 : Pure w w0) {ptr : Value}
    (Ah : ∀ w', Pure (w0.alloc z) w' → wpList P ops Q [oc, os] (aS.put (some dd) ptr) w') : ∀ (f : Nat) (listed : Array Bool) (a : Act) (w' : World), HA P ops' n aS w f listed a → HeadInv .any ops' n listed → a.tmps.size = N → Pure (w0.alloc z) w' →
    wpAny P .any ops Q (f + 2) (listed.setIfInBounds (n + 1) true) (a.put (some dd) ptr) w' := by
  intro f
  induction f with
  | zero =>
    intro listed a w' H inv ha hw'
    obtain ⟨hseq, rfl⟩ := H w (Pure.refl w)
    obtain ⟨r0, r1, r2, r3⟩ := seq3 hseq
    have hnun : listed.getD n true = false := inv.tail n (Nat.le_refl _) (by rw [T.tw.size']; omega)
    have key : ∀ j, j ∈ Region.ready .any ops (listed.setIfInBounds (n + 1) true) ↔ j = n := by
      intro j
      by_cases hj : j = n + 1
      · subst hj
        exact ⟨fun h => absurd h not_ready_set, fun h => by omega⟩
      · rw [T.tw.ready hj]
        by_cases hle : j ≤ n
        · rw [T.tw.ready_low hle, r0]; simp
        · refine ⟨fun h => ?_, fun h => by omega⟩
          have hlt := ready_lt h
          rw [T.tw.size'] at hlt
          have hj2 : j = n + 2 := by omega
          subst hj2
          obtain ⟨o, e, ho, he, hb, hon⟩ := T.tw.last
          obtain ⟨_, o2, ho2, hall⟩ := mem_ready.1 h
          rw [ho] at ho2; cases ho2
          have := hall e he hb
          rw [hon, getD_set_ne false (by omega), getD_both hnun] at this
          cases this
    refine ⟨fun h0 => ?_, fun i hi => ?_⟩
    · have := (key n).2 rfl
      rw [h0] at this; cases this
    · obtain rfl := (key i).1 hi
      have hw : wpOp P ops Q i (wpList P ops Q [os]) (a.put (some dd) ptr) w' := by unfold wpOp; simp only [T.c]; exact Ah w' hw'
      refine wpOp_mono (fun a2 w2 h2 => ?_) hw
      rw [Array.setIfInBounds_comm (i := i + 1) (j := i) _ _ (by omega)]
      exact last_one T hseq h2
  | succ f ih =>
    intro listed a w' H inv ha hw'
    obtain ⟨hne, hst⟩ := H.step T.ds ha
    have key : ∀ j, j ∈ Region.ready .any ops (listed.setIfInBounds (n + 1) true) → j ∈ Region.ready .any ops' listed := by
      intro j h
      by_cases hj : j = n + 1
      · subst hj; exact absurd h not_ready_set
      · have h' := (T.tw.ready hj).1 h
        by_cases hle : j ≤ n
        · exact (T.tw.ready_low hle).1 h'
        · have hlt := ready_lt h
          rw [T.tw.size] at hlt
          have hj2 : j = n + 2 := by omega
          subst hj2
          have hnun : listed.getD n true = false := inv.tail n (Nat.le_refl _) (by rw [T.tw.size']; omega)
          obtain ⟨o, e, ho, he, hb, hon⟩ := T.tw.last
          obtain ⟨_, o2, ho2, hall⟩ := mem_ready.1 h'
          rw [ho] at ho2; cases ho2
          have := hall e he hb
          rw [hon, getD_set_ne false (by omega), getD_both hnun] at this
          cases this
    refine ⟨fun h0 => ?_, fun i hi => ?_⟩
    · obtain ⟨i, hi⟩ := List.exists_mem_of_ne_nil _ hne
      have hin := (hst i hi).1
      have : i ∈ Region.ready .any ops (listed.setIfInBounds (n + 1) true) := (T.tw.ready (by omega)).2 ((T.tw.ready_low (by omega)).2 hi)
      rw [h0] at this; cases this
    · have hi' := key i hi
      obtain ⟨hin, hq⟩ := hst i hi'
      have hW : Pure w w' := (hw0.alloc z).trans hw'
      have h1 := hq w' hW
      rw [T.tw.qOp_iff (by omega)] at h1
      obtain ⟨_, oi, hoi, _⟩ := mem_ready.1 hi
      have h2 := qOp_beside (d := dd) (v := ptr) hoi (T.beside i oi hin hoi).1 (T.beside i oi hin hoi).2 (T.sel i oi hoi) h1
      refine wpOp_of_qOp (C := fun w2 => ∃ x : Ext, w2 = over w' x) (over_self w') (fun a2 w2 hw2 hK => ?_) h2
      obtain ⟨a0, rfl, hH, hs0⟩ := hK
      rw [show (listed.setIfInBounds (n + 1) true).setIfInBounds i true = (listed.setIfInBounds i true).setIfInBounds (n + 1) true from Array.setIfInBounds_comm _ _ (by omega)]
      exact ih _ _ _ hH (inv.set hi' hin) hs0 (hw'.trans hw2)

/-- The block is still to be made. -/
theorem before_alloc (T : Texts ops ops' n N dd oc oa os) (hal : ∀ (a : Act) (w : World), (execOp a.eval oa).run P w = .ok (.value (.pointer (some ⟨w.heap.size, 0, none⟩))) (w.alloc z))
    (Bh : ∀ w', Pure w w' → wpList P ops Q [oc, oa, os] aS w')
    (Ah : ∀ w0 w', Pure w w0 → Pure (w0.alloc z) w' → wpList P ops Q [oc, os] (aS.put (some dd) (.pointer (some ⟨w0.heap.size, 0, none⟩))) w') :
    ∀ (f : Nat) (listed : Array Bool) (a : Act) (w' : World), HA P ops' n aS w f listed a → HeadInv .any ops' n listed → a.tmps.size = N → Pure w w' → wpAny P .any ops Q (f + 3) listed a w' := by
  have halloc : ∀ (f : Nat) (listed : Array Bool) (a : Act) (w' : World), HA P ops' n aS w f listed a → HeadInv .any ops' n listed → a.tmps.size = N → Pure w w' → wpOp P ops Q (n + 1) (wpAny P .any ops Q (f + 2) (listed.setIfInBounds (n + 1) true)) a w' := by
    intro f listed a w' H inv ha hw'
    have hwant : Region.wanted oa (yielded ops a.tmps) = true := by simp [Region.wanted, T.bare]
    unfold wpOp
    simp only [T.a, hwant, if_true]
    refine .inl ?_
    unfold Oper.wp
    rw [hal a w']
    unfold Oper.upon
    rw [T.dst]
    exact after_alloc T hw' (fun w2 hw2 => Ah w' w2 hw' hw2) f listed a _ H inv ha (Pure.refl _)
  have hready : ∀ (listed : Array Bool), HeadInv .any ops' n listed → n + 1 ∈ Region.ready .any ops listed := by
    intro listed inv
    rw [mem_ready]
    refine ⟨inv.tail _ (by omega) (by rw [T.tw.size']; omega), oa, T.a, fun e he => ?_⟩
    rw [T.tw.free oa T.a] at he
    simp at he
  intro f
  induction f with
  | zero =>
    intro listed a w' H inv ha hw'
    have H0 := H
    obtain ⟨hseq, rfl⟩ := H w (Pure.refl w)
    obtain ⟨r0, r1, r2, r3⟩ := seq3 hseq
    refine ⟨fun h0 => ?_, fun i hi => ?_⟩
    · have := hready listed inv
      rw [h0] at this; cases this
    · by_cases hi1 : i = n + 1
      · subst hi1; exact halloc 0 listed a w' H0 inv ha hw'
      · have := (T.tw.ready hi1).1 hi
        rw [r0] at this
        obtain rfl : i = n := by simpa using this
        have hw : wpOp P ops Q i (wpList P ops Q [oa, os]) a w' := by unfold wpOp; simp only [T.c]; exact Bh w' hw'
        refine wpOp_mono (fun a2 w2 h2 => ?_) hw
        have key : ∀ j, j ∈ Region.ready .any ops (listed.setIfInBounds i true) ↔ j = i + 1 := by
          intro j
          by_cases hj : j = i + 1
          · subst hj
            refine ⟨fun _ => rfl, fun _ => ?_⟩
            exact ready_mono (hready listed inv) (by omega)
          · rw [T.tw.ready hj, r1]
            simp
        refine ⟨fun h0 => ?_, fun j hj => ?_⟩
        · have := (key (i + 1)).2 rfl
          rw [h0] at this; cases this
        · obtain rfl := (key j).1 hj
          have hw3 : wpOp P ops Q (i + 1) (wpList P ops Q [os]) a2 w2 := by unfold wpOp; simp only [T.a]; exact h2
          exact wpOp_mono (fun a3 w3 h3 => last_one T hseq h3) hw3
  | succ f ih =>
    intro listed a w' H inv ha hw'
    obtain ⟨hne, hst⟩ := H.step T.ds ha
    refine ⟨fun h0 => ?_, fun i hi => ?_⟩
    · have := hready listed inv
      rw [h0] at this; cases this
    · by_cases hi1 : i = n + 1
      · subst hi1; exact halloc (f + 1) listed a w' H inv ha hw'
      · have hi' := (T.tw.ready hi1).1 hi
        obtain ⟨hin, hq⟩ := hst i hi'
        have h1 := hq w' hw'
        rw [T.tw.qOp_iff (by omega)] at h1
        refine wpOp_of_qOp (C := fun w2 => ∃ x : Ext, w2 = over w' x) (over_self w') (fun a2 w2 hw2 hK => ?_) h1
        exact ih _ _ _ hK.1 (inv.set hi' hin) hK.2 (hw'.trans hw2)
end

def twinOf (n : Nat) (l : List Oper) : List Oper := l.modify (n + 1) fun o => { o with after := #[⟨n, .data⟩] }

/-- The condition, for the kernel: N is the number of slots, dd the slot of the new block's address. -/
def allocB (l : List Oper) (n N : Nat) (dd : Tmp) : Bool :=
  l.length == n + 3 && Region.lexTailB .any (twinOf n l).toArray n && Region.noSelect l.toArray
  && (l[n + 1]?).any (fun o => o.after.isEmpty && (o.dst == some dd) && o.guard.isNone)
  && (l.take (n + 1)).all (fun o => o.after.all fun e => e.on != n + 1)
  && (l[n + 2]?).any (fun o => o.after.any fun e => Region.binds .any e && e.on == n)
  && decide ((l.take n).filterMap (·.dst)).Nodup && ((l.take n).filterMap (·.dst)).all (fun t => decide (t < N))
  && (l.take n).all (fun o => !(o.looksAt l.toArray).contains dd && o.dst != some dd)

theorem nodup_at {l : List Oper} : (l.filterMap (·.dst)).Nodup → ∀ (i j : Nat) (oi oj : Oper) (t : Tmp), l[i]? = some oi → l[j]? = some oj → oi.dst = some t → oj.dst = some t → i = j := by
  induction l with
  | nil => intro _ i j oi oj t h; simp at h
  | cons o l ih =>
    intro hnd i j oi oj t hi hj h1 h2
    cases ho : o.dst with
    | none =>
      rw [List.filterMap_cons_none ho] at hnd
      cases i with
      | zero => simp at hi; subst hi; rw [ho] at h1; cases h1
      | succ i =>
        cases j with
        | zero => simp at hj; subst hj; rw [ho] at h2; cases h2
        | succ j => rw [ih hnd i j oi oj t (by simpa using hi) (by simpa using hj) h1 h2]
    | some u =>
      rw [List.filterMap_cons_some ho, List.nodup_cons] at hnd
      have hm : ∀ (k : Nat) (ok : Oper), l[k]? = some ok → ok.dst = some t → t ∈ l.filterMap (·.dst) := fun k ok hk hd => List.mem_filterMap.2 ⟨ok, List.mem_of_getElem? hk, hd⟩
      cases i with
      | zero =>
        simp at hi; subst hi
        rw [ho] at h1; cases h1
        cases j with
        | zero => rfl
        | succ j => exact absurd (hm j oj (by simpa using hj) h2) hnd.1
      | succ i =>
        cases j with
        | zero =>
          simp at hj; subst hj
          rw [ho] at h2; cases h2
          exact absurd (hm i oi (by simpa using hi) h1) hnd.1
        | succ j => rw [ih hnd.2 i j oi oj t (by simpa using hi) (by simpa using hj) h1 h2]

theorem wpQuiet_twin {P : Program} {ops ops' : Array Oper} {C : World → Prop} {K : Act → Prop} (hy : ∀ tmps, yielded ops tmps = yielded ops' tmps) (l : List Oper) : ∀ a, wpQuiet P ops C K l a → wpQuiet P ops' C K l a := by
  induction l with
  | nil => intro a h; exact h
  | cons o l ih =>
    intro a h
    unfold wpQuiet at h ⊢
    rw [← hy]
    split
    · rename_i hw
      simp only [hw, if_true] at h
      obtain ⟨v, h1, h2⟩ := h
      exact ⟨v, h1, ih _ h2⟩
    · rename_i hw
      simp only [hw] at h
      exact ih _ h

theorem texts_of {l : List Oper} {n N : Nat} {dd : Tmp} {oc oa os : Oper} (hB : allocB l n N dd = true) (hl : l.drop n = [oc, oa, os]) : Texts l.toArray (twinOf n l).toArray n N dd oc oa os ∧ Region.lexTailB .any (twinOf n l).toArray n = true := by
  simp only [allocB, Bool.and_eq_true, beq_iff_eq, decide_eq_true_eq] at hB
  obtain ⟨⟨⟨⟨⟨⟨⟨⟨h1, h2⟩, h3⟩, h4⟩, h5⟩, h6⟩, h7⟩, h8⟩, h9⟩ := hB
  have gc : l[n]? = some oc := by have := congrArg (·[0]?) hl; simpa using this
  have ga : l[n + 1]? = some oa := by have := congrArg (·[1]?) hl; simpa using this
  have gs : l[n + 2]? = some os := by have := congrArg (·[2]?) hl; simpa using this
  rw [ga] at h4
  rw [gs] at h6
  simp only [Option.any_some, Bool.and_eq_true, beq_iff_eq] at h4 h6
  obtain ⟨⟨h4a, h4b⟩, h4c⟩ := h4
  have hsame : ∀ i, i ≠ n + 1 → (twinOf n l)[i]? = l[i]? := fun i hi => by unfold twinOf; rw [List.getElem?_modify]; simp [Ne.symm hi]
  have htw : (twinOf n l)[n + 1]? = some { oa with after := #[⟨n, .data⟩] } := by unfold twinOf; rw [List.getElem?_modify, ga]; simp
  have htake : ∀ (i : Nat) (o : Oper), i < n → (twinOf n l)[i]? = some o → (l.take n)[i]? = some o := fun i o hi ho => by rw [hsame i (by omega)] at ho; rw [List.getElem?_take, if_pos hi]; exact ho
  refine ⟨⟨⟨by simpa using h1, by unfold twinOf; simpa using h1, fun i hi => by simp [hsame i hi], by simp [ga, htw], fun o ho => ?_, fun i o e hi ho he => ?_, ?_⟩, ⟨fun i j oi oj t hi hj hoi hoj => nodup_at h7 i j oi oj t (htake i oi hi (by simpa using hoi)) (htake j oj hj (by simpa using hoj)), fun i o t hi ho hd => ?_⟩, by simpa using gc, by simpa using ga, by simpa using gs, h4b, by simpa using h4c, fun j o hj ho => ?_, fun j o ho cs b => Region.noSelect_spec h3 j o cs b ho⟩, h2⟩
  · have : oa = o := by rw [List.getElem?_toArray, ga] at ho; exact Option.some.inj ho
    subst this; simpa using h4a
  · have ho' : (l.take (n + 1))[i]? = some o := by
      rw [List.getElem?_toArray, hsame i (by omega)] at ho
      rw [List.getElem?_take, if_pos (by omega)]; exact ho
    have := List.all_eq_true.1 h5 o (List.mem_of_getElem? ho')
    have := Array.all_eq_true_iff_forall_mem.1 this e he
    simpa using this
  · obtain ⟨i, hi, hb⟩ := Array.any_eq_true.1 h6
    simp only [Bool.and_eq_true, beq_iff_eq] at hb
    have he := Array.getElem_mem hi
    exact ⟨os, _, by rw [List.getElem?_toArray, hsame _ (by omega)]; exact gs, he, hb.1, hb.2⟩
  · have := List.all_eq_true.1 h8 t (List.mem_filterMap.2 ⟨o, List.mem_of_getElem? (htake i o hi (by simpa using ho)), hd⟩)
    simpa using this
  · have ho' : (l.take n)[j]? = some o := by rw [List.getElem?_take, if_pos hj]; simpa using ho
    have := List.all_eq_true.1 h9 o (List.mem_of_getElem? ho')
    simpa using this

/-- 'x := m.Load(..)', x a struct: the head once, for any world behind (H: its end aS); then the call, the block and the store (B); and the call and the store when the block has been made before (A). -/
theorem region_alloc {P : Program} {id : Nat} {Q : Exit → Act → World → Prop} {a : Act} {w : World} {l : List Oper} (n : Nat) (aS : Act) {oc oa os : Oper} (dd : Tmp) (z : Obj) (hm : P.follows .mixedOrders = true) (hB : allocB l n a.tmps.size dd = true) (hl : l.drop n = [oc, oa, os])
    (hal : ∀ (a : Act) (w : World), (execOp a.eval oa).run P w = .ok (.value (.pointer (some ⟨w.heap.size, 0, none⟩))) (w.alloc z))
    (H : ∀ W, Below w.heap.size w W → wpQuiet P l.toArray (fun w' => ∃ x : Ext, w' = over W x) (fun a' => a' = aS) (l.take n) a)
    (Bh : ∀ w', Below w.heap.size w w' → wpList P l.toArray Q [oc, oa, os] aS w')
    (Ah : ∀ w0 w', Below w.heap.size w w0 → Below (w0.heap.size + 1) (w0.alloc z) w' → wpList P l.toArray Q [oc, os] (aS.put (some dd) (.pointer (some ⟨w0.heap.size, 0, none⟩))) w') : (Code.region id l.toArray true).wp P Q a w := by
  obtain ⟨T, hlex⟩ := texts_of hB hl
  have hlen : l.length = n + 3 := by have := T.tw.size; simpa using this
  have hlen' : (twinOf n l).length = n + 3 := by have := T.tw.size'; simpa using this
  simp only [Region.lexTailB, Bool.and_eq_true, decide_eq_true_eq] at hlex
  obtain ⟨⟨⟨⟨hsel, hn⟩, hs⟩, hc⟩, hlex⟩ := hlex
  have hsz : (twinOf n l).toArray.size - n = 3 := by simp [hlen']
  rw [hsz] at hlex
  have htk : (l.take n).length = n := by simp [hlen]
  have inv0 : HeadInv .any (twinOf n l).toArray n (Array.replicate (twinOf n l).toArray.size false) :=
    ⟨by simp, fun j oj _ hl => (by rw [getD_replicate_false] at hl; cases hl), fun t _ ht => getD_in (by simpa using ht) (getD_replicate_false _ _)⟩
  have HH : HA P (twinOf n l).toArray n aS w n (Array.replicate (twinOf n l).toArray.size false) a := by
    intro W hW
    have h1 := wpQuiet_twin (fun t => T.tw.yield t) _ _ (H W hW.below)
    have := headQ_lex (P := P) (C := fun w' => ∃ x : Ext, w' = over W x) (md := .any) (g := 3) hsel hs hc hn (l.take n) 0 _ a (fun j hj => by
      have hj' : j < n := by rw [htk] at hj; exact hj
      have := T.tw.same j (by omega)
      simp only [List.getElem?_toArray] at this
      rw [List.getElem?_take, if_pos hj', this]; simp) (by rw [htk]; omega) inv0 (by rw [htk]; exact hlex) h1
    rwa [htk] at this
  refine wp_region_any hm ?_
  have key := before_alloc (Q := Q) T hal (fun w' hw' => Bh w' hw'.below) (fun w0 w' h0 h1 => Ah w0 w' h0.below (by have := h1.below; rwa [World.size_alloc] at this)) n _ a _ HH inv0 rfl ⟨_, drew_over w⟩
  rw [show l.toArray.size = n + 3 by simp [hlen]]
  rw [show (twinOf n l).toArray.size = n + 3 by simp [hlen']] at key
  exact key
end Go.Proofs.Ytfgjanponijkhaa

namespace Go.Proofs.Ytfgjanponijkhaa
open Go.RowKit

section
variable {P : Program} {n N g : Nat} {ops ops' : Array Oper} {Q : Exit → Act → World → Prop} {w : World} {z : Obj} {aS : Act} {dd : Tmp} {oa : Oper}

def LLg (ops' : Array Oper) (n g : Nat) (aS : Act) : Array Bool → Act → Prop := fun listed' a' => Region.seqB .any ops' g n listed' = true ∧ a' = aS
def HAg (P : Program) (ops' : Array Oper) (n g : Nat) (aS : Act) (w : World) (f : Nat) (listed : Array Bool) (a : Act) : Prop :=
  ∀ W, Pure w W → headQ P .any ops' (fun w' => ∃ x : Ext, w' = over W x) n (LLg ops' n g aS) f listed a

theorem headQ_keepg {C : World → Prop} {t : Tmp} : ∀ (f : Nat) (listed : Array Bool) (a : Act), headQ P .any ops' C n (LLg ops' n g aS) f listed a →
    (∀ j o, j < n → ops'[j]? = some o → listed.getD j true = false → o.dst ≠ some t) → aS.tmps.getD t undef = a.tmps.getD t undef := by
  intro f
  induction f with
  | zero => intro listed a h _; rw [h.2]
  | succ f ih =>
    intro listed a h hd
    obtain ⟨i, hi⟩ := List.exists_mem_of_ne_nil _ h.1
    obtain ⟨hin, hq⟩ := h.2 i hi
    obtain ⟨hun, o, ho, _⟩ := mem_ready.1 hi
    have hne := hd i o hin ho hun
    have hd' : ∀ j o, j < n → ops'[j]? = some o → (listed.setIfInBounds i true).getD j true = false → o.dst ≠ some t := by
      intro j oj hj hoj hl
      by_cases hij : i = j
      · subst hij; rw [ho] at hoj; cases hoj; exact hne
      · rw [getD_set_ne true hij] at hl; exact hd j oj hj hoj hl
    unfold qOp at hq
    simp only [ho] at hq
    split at hq
    · obtain ⟨v, _, h2⟩ := hq
      rw [ih _ _ h2 hd', put_getD_ne _ _ _ _ hne]
    · rw [ih _ _ hq hd', put_getD_ne _ _ _ _ hne]

theorem HAg.step (hD : Dsts ops' n N) {f : Nat} {listed : Array Bool} {a : Act} (ha : a.tmps.size = N) (H : HAg P ops' n g aS w (f + 1) listed a) :
    Region.ready .any ops' listed ≠ [] ∧ ∀ i, i ∈ Region.ready .any ops' listed → i < n ∧ ∀ W, Pure w W → qOp P ops' (fun w' => ∃ x : Ext, w' = over W x) i (fun a' => HAg P ops' n g aS w f (listed.setIfInBounds i true) a' ∧ a'.tmps.size = N) a := by
  refine ⟨(H w (Pure.refl w)).1, fun i hi => ⟨((H w (Pure.refl w)).2 i hi).1, fun W hW => ?_⟩⟩
  have hq := ((H W hW).2 i hi).2
  have hin := ((H w (Pure.refl w)).2 i hi).1
  obtain ⟨hun, o, ho, _⟩ := mem_ready.1 hi
  unfold qOp at hq ⊢
  simp only [ho] at hq ⊢
  split
  · rename_i hw
    simp only [hw, if_true] at hq
    obtain ⟨v, h1, h2⟩ := hq
    refine ⟨v, h1, fun W2 hW2 => ?_, by rw [put_size]; exact ha⟩
    have hq2 := ((H W2 hW2).2 i hi).2
    unfold qOp at hq2
    simp only [ho, hw, if_true] at hq2
    obtain ⟨v2, _, h4⟩ := hq2
    have e : a.put o.dst v = a.put o.dst v2 := by
      cases hd : o.dst with
      | none => rfl
      | some t =>
        have hkeep : ∀ j oj, j < n → ops'[j]? = some oj → (listed.setIfInBounds i true).getD j true = false → oj.dst ≠ some t := by
          intro j oj hj hoj hl e
          have hij := hD.one i j o oj t hin hj ho hoj hd e
          subst hij
          rcases Nat.lt_or_ge i listed.size with hlt | hge
          · simp [hlt] at hl
          · simp [Array.getElem?_eq_none hge] at hun
        have k1 := headQ_keepg _ _ _ h2 hkeep
        have k2 := headQ_keepg _ _ _ h4 hkeep
        have hlt : t < a.tmps.size := by rw [ha]; exact hD.lt i o t hin ho hd
        rw [hd, put_getD_eq _ _ _ hlt] at k1 k2
        rw [← k1, ← k2]
    rw [e]; exact h4
  · rename_i hw
    simp only [hw] at hq
    refine ⟨fun W2 hW2 => ?_, by rw [put_size]; exact ha⟩
    have hq2 := ((H W2 hW2).2 i hi).2
    unfold qOp at hq2
    simp only [ho, hw] at hq2
    exact hq2

/-- All that the two texts have to do with each other: operation n makes the block; in the second text it waits for the whole head. -/
structure Texts2 (ops ops' : Array Oper) (n N : Nat) (dd : Tmp) (oa : Oper) : Prop where
  size : ops'.size = ops.size
  lt : n + 1 < ops.size
  same : ∀ i, i ≠ n → ops[i]? = ops'[i]?
  ds : Dsts ops' n N
  a : ops[n]? = some oa
  dstEq : (ops[n]?).bind (·.dst) = (ops'[n]?).bind (·.dst)
  dst : oa.dst = some dd
  bare : oa.guard = none
  low : ∀ j o e, j < n → ops[j]? = some o → e ∈ o.after → e.on ≠ n
  sub : ∀ o' e, ops'[n]? = some o' → e ∈ oa.after → e ∈ o'.after
  looks : ∀ j o t, j < n → ops[j]? = some o → o.dst = some t → t ∈ oa.looksAt ops → ∃ e, e ∈ oa.after ∧ Region.binds .any e = true ∧ e.on = j
  beside : ∀ j o, j < n → ops[j]? = some o → dd ∉ o.looksAt ops ∧ o.dst ≠ some dd
  sel : ∀ (j : Nat) (o : Oper), ops[j]? = some o → ∀ cs b, o.op ≠ .select cs b
  sink : ∀ i, 1 ≤ i → i < n → ∃ j, i < j ∧ j ≤ n + 1 ∧ Region.waitsFor .any ops j i = true
  chain : ∀ t, n < t → t < ops.size → t ≠ n + 1 → Region.waitsFor .any ops t (t - 1) = true

theorem Texts2.yield (T : Texts2 ops ops' n N dd oa) (tmps : Array Value) : yielded ops tmps = yielded ops' tmps := by
  funext k
  unfold yielded
  by_cases hk : k = n
  · subst hk; rw [T.dstEq]
  · rw [T.same k hk]
theorem Texts2.qOp_iff (T : Texts2 ops ops' n N dd oa) {C : World → Prop} {i : Nat} (hi : i ≠ n) (K : Act → Prop) (a : Act) : qOp P ops' C i K a = qOp P ops C i K a := by
  unfold qOp
  rw [T.same i hi, T.yield]
theorem Texts2.ready (T : Texts2 ops ops' n N dd oa) {Z : Array Bool} {j : Nat} (hj : j ≠ n) : j ∈ Region.ready .any ops Z ↔ j ∈ Region.ready .any ops' Z := by
  rw [mem_ready, mem_ready, T.same j hj]
theorem Texts2.ready_low (T : Texts2 ops ops' n N dd oa) {Z : Array Bool} {j : Nat} (hj : j < n) : j ∈ Region.ready .any ops (Z.setIfInBounds n true) ↔ j ∈ Region.ready .any ops Z := by
  rw [mem_ready, mem_ready, getD_set_ne true (by omega)]
  constructor
  · rintro ⟨h0, o, ho, hall⟩
    exact ⟨h0, o, ho, fun e he hb => by have := hall e he hb; rwa [getD_set_ne false (Ne.symm (T.low j o e hj ho he))] at this⟩
  · rintro ⟨h0, o, ho, hall⟩
    exact ⟨h0, o, ho, fun e he hb => by rw [getD_set_ne false (Ne.symm (T.low j o e hj ho he))]; exact hall e he hb⟩

/-- Behind the block the two texts read alike. -/
theorem Texts2.tail (T : Texts2 ops ops' n N dd oa) : ∀ (f : Nat) (Z : Array Bool) (a : Act) (w' : World), Z.getD n true = true → wpAny P .any ops' Q f Z a w' → wpAny P .any ops Q f Z a w' := by
  have hr : ∀ (Z : Array Bool), Z.getD n true = true → Region.ready .any ops Z = Region.ready .any ops' Z := by
    intro Z hZ
    unfold Region.ready
    rw [T.size]
    refine List.filter_congr (fun j _ => ?_)
    by_cases hj : j = n
    · subst hj; simp only [hZ]; rfl
    · rw [T.same j hj]
  intro f
  induction f with
  | zero => intro Z a w' hZ h; exact ⟨by rw [hr Z hZ]; exact h.1, h.2⟩
  | succ f ih =>
    intro Z a w' hZ h
    refine ⟨fun h0 => h.1 (by rw [← hr Z hZ]; exact h0), fun i hi => ?_⟩
    rw [hr Z hZ] at hi
    have h1 := h.2 i hi
    have hin : i ≠ n := by
      intro e; subst e
      have := (mem_ready.1 hi).1
      rw [hZ] at this; cases this
    have h2 : wpOp P ops Q i (wpAny P .any ops' Q f (Z.setIfInBounds i true)) a w' := by
      unfold wpOp at h1 ⊢
      rw [T.same i hin, T.yield]; exact h1
    exact wpOp_mono (fun a2 w2 h3 => ih _ _ _ (by rw [getD_set_ne true hin]; exact hZ) h3) h2

theorem wpList_yield (hy : ∀ tmps, yielded ops tmps = yielded ops' tmps) (l : List Oper) : ∀ (a : Act) (w : World), wpList P ops Q l a w → wpList P ops' Q l a w := by
  induction l with
  | nil => intro a w h; exact h
  | cons o l ih =>
    intro a w h
    unfold wpList at h ⊢
    rw [← hy]
    split
    · rename_i hw
      simp only [hw, if_true] at h
      rcases h with h | h
      · exact .inl (Oper.wp_mono (fun a w h => ih a w h) h)
      · exact .inr h
    · rename_i hw
      simp only [hw] at h
      exact ih _ _ h

theorem tail_waits2 (T : Texts2 ops ops' n N dd oa) {listed : Array Bool} (inv : HeadInv .any ops' n listed) (hz : listed.getD 0 true = true) (hcl : ∀ e, e ∈ oa.after → Region.binds .any e = true → listed.getD e.on false = true) :
    ∀ (d i : Nat), n - i = d → 1 ≤ i → i < n → listed.getD i true = false → ∀ t, n < t → t ∉ Region.ready .any ops (listed.setIfInBounds n true) := by
  intro d
  induction d using Nat.strongRecOn with
  | _ d ih =>
    intro i hd hi0 hin hun t ht hr
    obtain ⟨j, hij, hjn, hw⟩ := T.sink i hi0 hin
    obtain ⟨oj, hoj, e, he, hb, hon⟩ := Region.waitsFor_spec hw
    obtain ⟨_, ot, hot, hall⟩ := mem_ready.1 hr
    have htlt := ready_lt hr
    by_cases hjlt : j < n
    · cases hl : listed.getD j false with
      | true =>
        have h2 := inv.closed j oj (by rw [← T.same j (by omega)]; exact hoj) hl e he hb
        rw [hon, getD_both hun] at h2
        cases h2
      | false =>
        have hjs : j < listed.size := by rw [inv.size, T.size]; have := T.lt; omega
        exact ih (n - j) (by omega) j rfl (by omega) hjlt (getD_in hjs hl) t ht hr
    · by_cases hjn2 : j = n
      · subst hjn2
        have : oj = oa := Option.some.inj (hoj.symm.trans T.a)
        subst this
        have h2 := hcl e he hb
        rw [hon, getD_both hun] at h2
        cases h2
      · have hj1 : j = n + 1 := by omega
        subst hj1
        by_cases ht1 : t = n + 1
        · subst ht1
          have : oj = ot := Option.some.inj (hoj.symm.trans hot)
          subst this
          have h2 := hall e he hb
          rw [hon, getD_set_ne false (by omega), getD_both hun] at h2
          cases h2
        · obtain ⟨ot', hot', e', he', hb', hon'⟩ := Region.waitsFor_spec (T.chain t ht htlt ht1)
          have : ot' = ot := Option.some.inj (hot'.symm.trans hot)
          subst this
          have h2 := hall e' he' hb'
          rw [hon', getD_set_ne false (by omega), getD_both (inv.tail (t - 1) (by omega) (by rw [T.size]; omega))] at h2
          cases h2

theorem after_block (T : Texts2 ops ops' n N dd oa) {m : Nat} {tl : List Oper} (htl : tl.length = m) (hat : ∀ j, tl[j]? = ops[n + 1 + j]?) {w0 : World} (hw0 : Pure w w0) {v : Value}
    (Ah : ∀ w', Pure (w0.alloc z) w' → wpList P ops Q tl (aS.put (some dd) v) w') : ∀ (f : Nat) (listed : Array Bool) (a : Act) (w' : World), HAg P ops' n (m + 1) aS w f listed a → HeadInv .any ops' n listed → listed.getD 0 true = true →
    (∀ e, e ∈ oa.after → Region.binds .any e = true → listed.getD e.on false = true) → a.tmps.size = N → Pure (w0.alloc z) w' →
    wpAny P .any ops Q (f + m) (listed.setIfInBounds n true) (a.put (some dd) v) w' := by
  intro f
  induction f with
  | zero =>
    intro listed a w' H inv hz hcl ha hw'
    obtain ⟨hseq, rfl⟩ := H w (Pure.refl w)
    simp only [Region.seqB, Bool.and_eq_true, decide_eq_true_eq] at hseq
    rw [Nat.zero_add]
    have hns : n < listed.size := by rw [inv.size, T.size]; have := T.lt; omega
    refine T.tail _ _ _ _ (by simp [hns]) ?_
    have := wpAny_of_seq (P := P) (md := .any) (ops := ops') (Q' := Q) tl (n + 1) (listed.setIfInBounds n true) (a.put (some dd) v) w' (fun j => by rw [hat j, T.same _ (by omega)]) (by rw [htl]; exact hseq.2) (wpList_yield (fun t => T.yield t) _ _ _ (Ah w' hw'))
    rwa [htl] at this
  | succ f ih =>
    intro listed a w' H inv hz hcl ha hw'
    obtain ⟨hne, hst⟩ := H.step T.ds ha
    obtain ⟨i0, hi0⟩ := List.exists_mem_of_ne_nil _ hne
    have hin0 := (hst i0 hi0).1
    have hun0 := (mem_ready.1 hi0).1
    have hpos : 1 ≤ i0 := by
      rcases Nat.eq_zero_or_pos i0 with h | h
      · subst h; rw [hz] at hun0; cases hun0
      · exact h
    have key : ∀ j, j ∈ Region.ready .any ops (listed.setIfInBounds n true) → j ∈ Region.ready .any ops' listed := by
      intro j h
      by_cases hj : j = n
      · subst hj; exact absurd h not_ready_set
      · by_cases hle : j < n
        · exact (T.ready hj).1 ((T.ready_low hle).1 h)
        · exact absurd h (tail_waits2 T inv hz hcl _ i0 rfl hpos hin0 hun0 j (by omega))
    rw [show f + 1 + m = (f + m) + 1 by omega]
    refine ⟨fun h0 => ?_, fun i hi => ?_⟩
    · have : i0 ∈ Region.ready .any ops (listed.setIfInBounds n true) := (T.ready_low hin0).2 ((T.ready (by omega)).2 hi0)
      rw [h0] at this; cases this
    · have hi' := key i hi
      obtain ⟨hin, hq⟩ := hst i hi'
      have h1 := hq w' ((hw0.alloc z).trans hw')
      rw [T.qOp_iff (by omega)] at h1
      obtain ⟨_, oi, hoi, _⟩ := mem_ready.1 hi
      have h2 := qOp_beside (d := dd) (v := v) hoi (T.beside i oi hin hoi).1 (T.beside i oi hin hoi).2 (T.sel i oi hoi) h1
      refine wpOp_of_qOp (C := fun w2 => ∃ x : Ext, w2 = over w' x) (over_self w') (fun a2 w2 hw2 hK => ?_) h2
      obtain ⟨a0, rfl, hH, hs0⟩ := hK
      rw [show (listed.setIfInBounds n true).setIfInBounds i true = (listed.setIfInBounds i true).setIfInBounds n true from Array.setIfInBounds_comm _ _ (by omega)]
      exact ih _ _ _ hH (inv.set hi' hin) (zero_kept hz) (fun e he hb => getD_set_true (hcl e he hb)) hs0 (hw'.trans hw2)

theorem before_block (T : Texts2 ops ops' n N dd oa) {m : Nat} {tl : List Oper} (htl : tl.length = m) (hat : ∀ j, tl[j]? = ops[n + 1 + j]?) {vf : World → Value}
    (hal : ∀ w' : World, (execOp aS.eval oa).run P w' = .ok (.value (vf w')) (w'.alloc z))
    (Ah : ∀ w0 w', Pure w w0 → Pure (w0.alloc z) w' → wpList P ops Q tl (aS.put (some dd) (vf w0)) w') :
    ∀ (f : Nat) (listed : Array Bool) (a : Act) (w' : World), HAg P ops' n (m + 1) aS w f listed a → HeadInv .any ops' n listed → listed.getD 0 true = true → a.tmps.size = N → Pure w w' → wpAny P .any ops Q (f + (m + 1)) listed a w' := by
  have hblock : ∀ (f : Nat) (listed : Array Bool) (a : Act) (w' : World), HAg P ops' n (m + 1) aS w f listed a → HeadInv .any ops' n listed → listed.getD 0 true = true → a.tmps.size = N → Pure w w' → n ∈ Region.ready .any ops listed → wpOp P ops Q n (wpAny P .any ops Q (f + m) (listed.setIfInBounds n true)) a w' := by
    intro f listed a w' H inv hz ha hw' hr
    obtain ⟨_, oa', hoa', hall⟩ := mem_ready.1 hr
    have : oa' = oa := Option.some.inj (hoa'.symm.trans T.a)
    subst this
    have hwant : Region.wanted oa' (yielded ops a.tmps) = true := by simp [Region.wanted, T.bare]
    have heq : execOp a.eval oa' = execOp aS.eval oa' := by
      refine execOp_congr oa' (T.sel n oa' T.a) (fun x hx => ?_)
      cases x with
      | tmp t =>
        have hk := headQ_keepg (t := t) _ _ _ (H w (Pure.refl w)) (fun j o hj ho hl hd => by
          obtain ⟨e, he, hb, hon⟩ := T.looks j o t hj (by rw [T.same j (by omega)]; exact ho) hd (List.mem_append_left _ (List.mem_filterMap.2 ⟨.tmp t, by simpa using hx, rfl⟩))
          have h2 := hall e he hb
          rw [hon, getD_both hl] at h2
          cases h2)
        exact hk.symm
      | _ => rfl
    unfold wpOp
    simp only [T.a, hwant, if_true]
    refine .inl ?_
    unfold Oper.wp
    rw [heq, hal w']
    unfold Oper.upon
    rw [T.dst]
    exact after_block T htl hat hw' (fun w2 hw2 => Ah w' w2 hw' hw2) f listed a _ H inv hz hall ha (Pure.refl _)
  intro f
  induction f with
  | zero =>
    intro listed a w' H inv hz ha hw'
    have H0 := H
    obtain ⟨hseq, rfl⟩ := H w (Pure.refl w)
    simp only [Region.seqB, Bool.and_eq_true, decide_eq_true_eq] at hseq
    have hnr : n ∈ Region.ready .any ops listed := by
      have h1 : n ∈ Region.ready .any ops' listed := by rw [hseq.1]; simp
      obtain ⟨h0, o', ho', hall⟩ := mem_ready.1 h1
      exact mem_ready.2 ⟨h0, oa, T.a, fun e he hb => hall e (T.sub o' e ho' he) hb⟩
    rw [Nat.zero_add]
    refine ⟨fun h0 => (by rw [h0] at hnr; cases hnr), fun i hi => ?_⟩
    by_cases hin : i = n
    · subst hin
      have := hblock 0 listed a w' H0 inv hz ha hw' hnr
      rwa [Nat.zero_add] at this
    · have := (T.ready hin).1 hi
      rw [hseq.1] at this
      exact absurd (by simpa using this) hin
  | succ f ih =>
    intro listed a w' H inv hz ha hw'
    obtain ⟨hne, hst⟩ := H.step T.ds ha
    rw [show f + 1 + (m + 1) = (f + (m + 1)) + 1 by omega]
    refine ⟨fun h0 => ?_, fun i hi => ?_⟩
    · obtain ⟨i0, hi0⟩ := List.exists_mem_of_ne_nil _ hne
      have := (T.ready (by have := (hst i0 hi0).1; omega)).2 hi0
      rw [h0] at this; cases this
    · by_cases hin : i = n
      · subst hin
        have := hblock (f + 1) listed a w' H inv hz ha hw' hi
        rwa [show f + 1 + m = f + (m + 1) by omega] at this
      · have hi' := (T.ready hin).1 hi
        obtain ⟨hlt, hq⟩ := hst i hi'
        have h1 := hq w' hw'
        rw [T.qOp_iff hin] at h1
        exact wpOp_of_qOp (C := fun w2 => ∃ x : Ext, w2 = over w' x) (over_self w') (fun a2 w2 hw2 hK => ih _ _ _ hK.1 (inv.set hi' hlt) (zero_kept hz) hK.2 (hw'.trans hw2)) h1
end

def twin2 (n : Nat) (l : List Oper) : List Oper := l.modify n fun o => { o with after := o.after ++ ((List.range n).map fun j => (⟨j, .data⟩ : Edge)).toArray }

/-- The condition, for the kernel. -/
def blockB (l : List Oper) (n N : Nat) (dd : Tmp) (oa : Oper) : Bool :=
  decide (n + 1 < l.length) && decide (1 ≤ n) && Region.noSelect l.toArray && Region.noSelect (twin2 n l).toArray
  && (oa.dst == some dd) && oa.guard.isNone
  && (l.take n).all (fun o => o.after.all fun e => e.on != n)
  && (List.range n).all (fun j => (l[j]?).all fun o => o.dst.all fun t => !(oa.looksAt l.toArray).contains t || oa.after.any fun e => Region.binds .any e && e.on == j)
  && decide ((l.take n).filterMap (·.dst)).Nodup && ((l.take n).filterMap (·.dst)).all (fun t => decide (t < N))
  && (l.take n).all (fun o => !(o.looksAt l.toArray).contains dd && o.dst != some dd)
  && (List.range n).all (fun i => i == 0 || (List.range (n + 2)).any fun j => decide (i < j) && Region.waitsFor .any l.toArray j i)
  && (List.range l.length).all (fun t => decide (t ≤ n + 1) || Region.waitsFor .any l.toArray t (t - 1))
  && (List.range n).all (fun i => i == 0 || (List.range (n + 1)).any fun j => decide (i < j) && Region.waitsFor .any (twin2 n l).toArray j i)
  && Region.chainB .any (twin2 n l).toArray n
  && Region.lexHead .any (twin2 n l).toArray (l.length - n) (n - 1) 1 ((Array.replicate (twin2 n l).toArray.size false).setIfInBounds 0 true)
  && (Region.ready .any (twin2 n l).toArray (Array.replicate (twin2 n l).toArray.size false)).contains 0
  && (Region.ready .any l.toArray (Array.replicate l.toArray.size false)).contains 0
  && Region.free .any l.toArray (Array.replicate l.toArray.size false) 0

theorem texts2_of {l : List Oper} {n N : Nat} {dd : Tmp} {oa : Oper} (hB : blockB l n N dd oa = true) (hl : l[n]? = some oa) : Texts2 l.toArray (twin2 n l).toArray n N dd oa ∧ 1 ≤ n ∧ Region.noSelect l.toArray = true ∧ Region.noSelect (twin2 n l).toArray = true ∧
    Sink0 .any (twin2 n l).toArray n ∧ Region.chainB .any (twin2 n l).toArray n = true ∧ Region.lexHead .any (twin2 n l).toArray (l.length - n) (n - 1) 1 ((Array.replicate (twin2 n l).toArray.size false).setIfInBounds 0 true) = true ∧
    0 ∈ Region.ready .any (twin2 n l).toArray (Array.replicate (twin2 n l).toArray.size false) ∧ (Region.ready .any l.toArray (Array.replicate l.toArray.size false)).contains 0 = true ∧ Region.free .any l.toArray (Array.replicate l.toArray.size false) 0 = true := by
  simp only [blockB, Bool.and_eq_true, beq_iff_eq, decide_eq_true_eq] at hB
  obtain ⟨⟨⟨⟨⟨⟨⟨⟨⟨⟨⟨⟨⟨⟨⟨⟨⟨⟨h1, h2⟩, h3⟩, h4⟩, h5⟩, h6⟩, h7⟩, h8⟩, h9⟩, h10⟩, h11⟩, h12⟩, h13⟩, h14⟩, h15⟩, h16⟩, h17⟩, h18⟩, h19⟩ := hB
  have hsame : ∀ i, i ≠ n → (twin2 n l)[i]? = l[i]? := fun i hi => by unfold twin2; rw [List.getElem?_modify]; simp [Ne.symm hi]
  have htw : (twin2 n l)[n]? = some { oa with after := oa.after ++ ((List.range n).map fun j => (⟨j, .data⟩ : Edge)).toArray } := by unfold twin2; rw [List.getElem?_modify, hl]; simp
  have htake : ∀ (i : Nat) (o : Oper), i < n → (twin2 n l)[i]? = some o → (l.take n)[i]? = some o := fun i o hi ho => by rw [hsame i (by omega)] at ho; rw [List.getElem?_take, if_pos hi]; exact ho
  have htake2 : ∀ (i : Nat) (o : Oper), i < n → l[i]? = some o → o ∈ l.take n := fun i o hi ho => List.mem_of_getElem? (by rw [List.getElem?_take, if_pos hi]; exact ho : (l.take n)[i]? = some o)
  refine ⟨⟨by unfold twin2; simp, by simpa using h1, fun i hi => by simp [hsame i hi], ⟨fun i j oi oj t hi hj hoi hoj => nodup_at h9 i j oi oj t (htake i oi hi (by simpa using hoi)) (htake j oj hj (by simpa using hoj)), fun i o t hi ho hd => ?_⟩,
    by simpa using hl, by simp [hl, htw], h5, by simpa using h6, fun j o e hj ho he => ?_, fun o' e ho' he => ?_, fun j o t hj ho hd ht => ?_, fun j o hj ho => ?_, fun j o ho cs b => Region.noSelect_spec h3 j o cs b ho, fun i h0 hi => ?_, fun t h0 ht hne => ?_⟩, h2, h3, h4, fun i h0 hi => ?_, h15, h16, by simpa using h17, h18, h19⟩
  · have := List.all_eq_true.1 h10 t (List.mem_filterMap.2 ⟨o, List.mem_of_getElem? (htake i o hi (by simpa using ho)), hd⟩)
    simpa using this
  · have := List.all_eq_true.1 h7 o (htake2 j o hj (by simpa using ho))
    have := Array.all_eq_true_iff_forall_mem.1 this e he
    simpa using this
  · rw [List.getElem?_toArray, htw] at ho'
    cases ho'
    exact Array.mem_append.2 (.inl he)
  · have h := List.all_eq_true.1 h8 j (List.mem_range.2 hj)
    have ho2 : l[j]? = some o := by simpa using ho
    rw [ho2] at h
    simp only [Option.all_some, hd, Bool.or_eq_true, Bool.not_eq_true'] at h
    rcases h with h | h
    · rw [List.contains_iff_mem.2 ht] at h; cases h
    · obtain ⟨i, hi, hb⟩ := Array.any_eq_true.1 h
      simp only [Bool.and_eq_true, beq_iff_eq] at hb
      exact ⟨_, Array.getElem_mem hi, hb.1, hb.2⟩
  · have := List.all_eq_true.1 h11 o (htake2 j o hj (by simpa using ho))
    simpa using this
  · have h := List.all_eq_true.1 h12 i (List.mem_range.2 hi)
    simp only [Bool.or_eq_true, beq_iff_eq] at h
    rcases h with h | h
    · omega
    · obtain ⟨j, hj, hb⟩ := List.any_eq_true.1 h
      simp only [Bool.and_eq_true, decide_eq_true_eq] at hb
      have := List.mem_range.1 hj
      exact ⟨j, hb.1, by omega, hb.2⟩
  · have h := List.all_eq_true.1 h13 t (List.mem_range.2 (by simpa using ht))
    simp only [Bool.or_eq_true, decide_eq_true_eq] at h
    rcases h with h | h
    · omega
    · exact h
  · have h := List.all_eq_true.1 h14 i (List.mem_range.2 hi)
    simp only [Bool.or_eq_true, beq_iff_eq] at h
    rcases h with h | h
    · omega
    · obtain ⟨j, hj, hb⟩ := List.any_eq_true.1 h
      simp only [Bool.and_eq_true, decide_eq_true_eq] at hb
      have := List.mem_range.1 hj
      exact ⟨j, hb.1, by omega, hb.2⟩

/-- 'x.f = append(x.f, a literal)': the lone move first, the head once for any world behind (H: its end aS), then what follows the literal's block (A). -/
theorem region_block_move {P : Program} {id : Nat} {Q : Exit → Act → World → Prop} {a : Act} {w : World} {o0 : Oper} {l : List Oper} (x : Operand) (k : Nat) (aS : Act) {oa : Oper} (dd : Tmp) (z : Obj) (vf : World → Value) (hop : o0.op = .move x) (hg : o0.guard = none) (hm : P.follows .mixedOrders = true)
    (hB : blockB (o0 :: l) (k + 1) a.tmps.size dd oa = true) (hl : l[k]? = some oa) (hQ' : ∀ c (v : Value) a w, Q (.panic c) (a.put o0.dst v) w → Q (.panic c) a w)
    (H : ∀ W, Below w.heap.size w W → wpQuiet P (o0 :: l).toArray (fun w' => ∃ x : Ext, w' = over W x) (fun a' => a' = aS) (l.take k) (a.put o0.dst (a.eval x)))
    (hal : ∀ w' : World, (execOp aS.eval oa).run P w' = .ok (.value (vf w')) (w'.alloc z))
    (Ah : ∀ w0 w', Below w.heap.size w w0 → Below (w0.heap.size + 1) (w0.alloc z) w' → wpList P (o0 :: l).toArray Q (l.drop (k + 1)) (aS.put (some dd) (vf w0)) w') : (Code.region id (o0 :: l).toArray true).wp P Q a w := by
  obtain ⟨T, _, hsel0, hsel, hs, hc, hlex, hr0, hr, hf⟩ := texts2_of hB (by simpa using hl)
  have hlt := T.lt
  have hsz0 : (o0 :: l).toArray.size = l.length + 1 := by simp
  rw [hsz0] at hlt
  have hsz' : (twin2 (k + 1) (o0 :: l)).toArray.size = l.length + 1 := by rw [T.size, hsz0]
  have inv1 : HeadInv .any (twin2 (k + 1) (o0 :: l)).toArray (k + 1) ((Array.replicate (twin2 (k + 1) (o0 :: l)).toArray.size false).setIfInBounds 0 true) := by
    have inv0 : HeadInv .any (twin2 (k + 1) (o0 :: l)).toArray (k + 1) (Array.replicate (twin2 (k + 1) (o0 :: l)).toArray.size false) :=
      ⟨by simp, fun j oj _ hl => (by rw [getD_replicate_false] at hl; cases hl), fun t _ ht => getD_in (by simpa using ht) (getD_replicate_false _ _)⟩
    exact inv0.set hr0 (by omega)
  have hz1 : ((Array.replicate (twin2 (k + 1) (o0 :: l)).toArray.size false).setIfInBounds 0 true).getD 0 true = true := by
    rw [hsz']; simp
  have htk : (l.take k).length = k := by simp; omega
  have ho0 : (o0 :: l).toArray[0]? = some o0 := by simp
  have hll : (o0 :: l).length - (k + 1) = (l.length - (k + 1)) + 1 := by simp; omega
  rw [hll] at hlex
  have HH : HAg P (twin2 (k + 1) (o0 :: l)).toArray (k + 1) ((l.length - (k + 1)) + 1) aS w k ((Array.replicate (twin2 (k + 1) (o0 :: l)).toArray.size false).setIfInBounds 0 true) (a.put o0.dst (a.eval x)) := by
    intro W hW
    have h1 := wpQuiet_twin (fun t => T.yield t) _ _ (H W hW.below)
    have := headQ_lex0 (P := P) (C := fun w' => ∃ x : Ext, w' = over W x) (md := .any) (g := (l.length - (k + 1)) + 1) hsel hs hc (by rw [hsz']; omega) (l.take k) 1 _ (a.put o0.dst (a.eval x)) (fun j hj => by
      have hj' : j < k := by rw [htk] at hj; exact hj
      have := T.same (1 + j) (by omega)
      rw [← this]
      rw [List.getElem?_take, if_pos hj']
      simp [Nat.add_comm 1 j]) (by rw [htk]; omega) inv1 hz1 (by rw [htk]; exact hlex) h1
    rwa [htk] at this
  refine wp_region_any hm ?_
  have key := before_block (Q := Q) (m := l.length - (k + 1)) (tl := l.drop (k + 1)) T (by simp) (fun j => by
      rw [List.getElem?_drop, List.getElem?_toArray, show k + 1 + 1 + j = (k + 1 + j) + 1 by omega]; simp) hal (fun w0 w' h0 h1 => Ah w0 w' h0.below (by have := h1.below; rwa [World.size_alloc] at this)) k _ _ _ HH inv1 hz1 (by rw [put_size]) ⟨_, drew_over w⟩
  rw [hsz'] at key
  rw [show k + (l.length - (k + 1) + 1) = l.length by omega] at key
  rw [hsz0]
  refine wpAny_take (v := a.eval x) ho0 hsel0 (by rw [hsz0] at hf; exact hf) (by rw [hsz0] at hr; exact hr) (fun c a' w' => hQ' c _ a' w') (Or.inl ⟨?_, fun w' => BigFrame.run_move x hop w'⟩) key
  simp [Region.wanted, hg]
end Go.Proofs.Ytfgjanponijkhaa
