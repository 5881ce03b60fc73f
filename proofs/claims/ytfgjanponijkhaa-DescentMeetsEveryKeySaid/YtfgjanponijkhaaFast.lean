/- The conditions on a region's edges, by bit masks: cheap for the kernel at long regions. -/
import Derived.Test.YtfgjanponijkhaaTail
namespace Go.Proofs.Ytfgjanponijkhaa
open Go.RowKit

def maskOf : List Nat → Nat
  | [] => 0
  | t :: ts => 2 ^ t ||| maskOf ts

theorem mask_bit (t : Nat) (ts : List Nat) : (maskOf ts).testBit t = true ↔ t ∈ ts := by
  induction ts with
  | nil => simp [maskOf]
  | cons a l ih =>
    simp only [maskOf, Nat.testBit_or, Nat.testBit_two_pow, Bool.or_eq_true, decide_eq_true_eq, ih, List.mem_cons]
    constructor
    · rintro (h | h)
      · exact .inl h.symm
      · exact .inr h
    · rintro (h | h)
      · exact .inl h.symm
      · exact .inr h

/-- What an operation writes, what it looks at, what it waits for. -/
structure Sm where
  wr : Nat
  rd : Nat
  af : Nat

def summ (ops : Array Oper) (o : Oper) : Sm :=
  ⟨maskOf o.dst.toList, maskOf (o.looksAt ops), maskOf ((o.after.toList.filter (fun e => Region.binds .any e)).map (·.on))⟩

theorem af_bit {ops : Array Oper} {o : Oper} {k : Nat} : (summ ops o).af.testBit k = true ↔ ∃ e, e ∈ o.after ∧ Region.binds .any e = true ∧ e.on = k := by
  simp only [summ, mask_bit, List.mem_map, List.mem_filter, Array.mem_toList_iff]
  constructor
  · rintro ⟨e, ⟨h1, h2⟩, h3⟩; exact ⟨e, h1, h2, h3⟩
  · rintro ⟨e, h1, h2, h3⟩; exact ⟨e, ⟨h1, h2⟩, h3⟩

def pairOk (k : Nat) (x y : Sm) : Bool := y.af.testBit k || ((x.wr &&& (y.rd ||| y.wr)) == 0 && (y.wr &&& x.rd) == 0)

theorem land_zero {a b : Nat} (h : (a &&& b) = 0) (d : Nat) (ha : a.testBit d = true) : b.testBit d = false := by
  have := congrArg (·.testBit d) h
  simp only [Nat.testBit_and, ha, Bool.true_and, Nat.zero_testBit] at this
  exact this

theorem apart_of_pair {ops : Array Oper} {x y : Oper} {k : Nat} (h : pairOk k (summ ops x) (summ ops y) = true) : (∃ e, e ∈ y.after ∧ Region.binds .any e = true ∧ e.on = k) ∨ x.apart ops y = true := by
  simp only [pairOk, Bool.or_eq_true, Bool.and_eq_true, beq_iff_eq] at h
  rcases h with h | ⟨h1, h2⟩
  · exact .inl (af_bit.1 h)
  · right
    unfold Oper.apart
    have w1 : ∀ d, x.dst = some d → d ∉ y.looksAt ops ∧ y.dst ≠ some d := by
      intro d hd
      have := land_zero h1 d (by simp [summ, hd, mask_bit])
      simp only [Nat.testBit_or, Bool.or_eq_false_iff] at this
      refine ⟨fun hm => ?_, fun hm => ?_⟩
      · have := this.1; rw [show (summ ops y).rd = maskOf (y.looksAt ops) from rfl, (mask_bit _ _).2 hm] at this; cases this
      · have := this.2; rw [show (summ ops y).wr = maskOf y.dst.toList from rfl, (mask_bit _ _).2 (by simp [hm])] at this; cases this
    have w2 : ∀ d, y.dst = some d → d ∉ x.looksAt ops := by
      intro d hd hm
      have := land_zero h2 d (by simp [summ, hd, mask_bit])
      rw [show (summ ops x).rd = maskOf (x.looksAt ops) from rfl, (mask_bit _ _).2 hm] at this; cases this
    cases hx : x.dst with
    | none =>
      cases hy : y.dst with
      | none => rfl
      | some d => have := w2 d hy; simp [this]
    | some d =>
      obtain ⟨a1, a2⟩ := w1 d hx
      cases hy : y.dst with
      | none => simp [a1]
      | some d' =>
        have := w2 d' hy
        rw [hy] at a2
        have a3 : d' ≠ d := fun he => a2 (by rw [he])
        simp [a1, this, a3]

/-- The head's operations (those below n): each waits only for earlier ones and is apart from all later ones that do not wait for it; the tail's: each waits for the one before. -/
def lexS (n : Nat) : List Sm → Nat → Bool
  | [], _ => true
  | x :: rest, k => (x.af >>> k) == 0 && (if k < n then rest.all (pairOk k x) else k == n || x.af.testBit (k - 1)) && lexS n rest (k + 1)

/-- The first k have come up, and no other. -/
def Upto (m k : Nat) (listed : Array Bool) : Prop := listed.size = m ∧ ∀ j, j < m → listed[j]? = some (decide (j < k))

theorem Upto.getD {m k j : Nat} {listed : Array Bool} (h : Upto m k listed) (hj : j < m) (b : Bool) : listed.getD j b = decide (j < k) := by
  have := h.2 j hj
  simp [Array.getD_eq_getD_getElem?, this]
theorem Upto.out {m k j : Nat} {listed : Array Bool} (h : Upto m k listed) (hj : m ≤ j) (b : Bool) : listed.getD j b = b := by
  have : listed[j]? = none := Array.getElem?_eq_none (by rw [h.1]; exact hj)
  simp [Array.getD_eq_getD_getElem?, this]
theorem Upto.next {m k : Nat} {listed : Array Bool} (h : Upto m k listed) (_hk : k < m) : Upto m (k + 1) (listed.setIfInBounds k true) := by
  refine ⟨by simp [h.1], fun j hj => ?_⟩
  rw [Array.getElem?_setIfInBounds]
  by_cases hjk : k = j
  · subst hjk; rw [if_pos rfl, if_pos (by rw [h.1]; exact hj)]; simp
  · rw [if_neg hjk, h.2 j hj]
    congr 1
    by_cases h1 : j < k
    · simp [h1]; omega
    · simp [h1]; omega
theorem Upto.zero (m : Nat) : Upto m 0 (Array.replicate m false) := ⟨by simp, fun j hj => by simp [hj]⟩

theorem shift_zero {a k : Nat} (h : a >>> k = 0) (j : Nat) (hj : a.testBit j = true) : j < k := by
  rcases Nat.lt_or_ge j k with h' | h'
  · exact h'
  · have := congrArg (·.testBit (j - k)) h
    simp only [Nat.testBit_shiftRight, Nat.zero_testBit] at this
    rw [show k + (j - k) = j by omega, hj] at this
    cases this

section
variable {l0 : List Oper}

theorem ready_of {k : Nat} {o : Oper} {listed : Array Bool} (hl : Upto l0.toArray.size k listed) (ho : l0.toArray[k]? = some o) (h1 : ((summ l0.toArray o).af >>> k) = 0) : k ∈ Region.ready .any l0.toArray listed := by
  have hk : k < l0.toArray.size := (Array.getElem?_eq_some_iff.1 ho).1
  refine mem_ready.2 ⟨by rw [hl.getD hk]; simp, o, ho, fun e he hb => ?_⟩
  have := shift_zero h1 e.on (af_bit.2 ⟨e, he, hb, rfl⟩)
  rw [hl.getD (by omega)]
  simpa using this

theorem free_of {k : Nat} {o : Oper} {l : List Oper} {listed : Array Bool} (hl : Upto l0.toArray.size k listed) (ho : l0.toArray[k]? = some o) (hr : ∀ j, l[j]? = l0.toArray[k + 1 + j]?) (h : (l.map (summ l0.toArray)).all (pairOk k (summ l0.toArray o)) = true) :
    Region.free .any l0.toArray listed k = true := by
  unfold Region.free
  rw [ho]
  simp only [List.all_eq_true, List.mem_range]
  intro j hj
  by_cases h1 : j = k
  · simp [h1]
  by_cases h2 : j < k
  · rw [hl.getD hj]; simp [h2]
  · have h3 := hr (j - (k + 1))
    rw [show k + 1 + (j - (k + 1)) = j by omega] at h3
    rw [List.all_eq_true] at h
    have h4 := h (summ l0.toArray l0.toArray[j]) (List.mem_map.2 ⟨l0.toArray[j], List.mem_of_getElem? (by rw [h3]; exact Array.getElem?_eq_getElem hj), rfl⟩)
    rw [Array.getElem?_eq_getElem hj]
    rcases apart_of_pair h4 with ⟨e, he, hb, hk⟩ | h5
    · have : (l0.toArray[j].after.any fun e => Region.binds .any e && e.on == k) = true := Array.any_eq_true'.2 ⟨e, he, by simp [hb, hk]⟩
      simp only [this, Bool.true_or, Bool.or_true]
    · simp only [h5, Bool.or_true]

theorem lexB_from (l : List Oper) : ∀ (k : Nat) (listed : Array Bool), Upto l0.toArray.size k listed → (∀ j, l[j]? = l0.toArray[k + j]?) → k + l.length = l0.toArray.size →
    lexS l0.toArray.size (l.map (summ l0.toArray)) k = true → Region.lexFrom .any l0.toArray l.length k listed = true := by
  induction l with
  | nil =>
    intro k listed hl _ hk _
    simp only [List.length_nil, Region.lexFrom, List.isEmpty_iff]
    refine List.eq_nil_iff_forall_not_mem.2 fun j hj => ?_
    have h1 := (mem_ready.1 hj).1
    rcases Nat.lt_or_ge j l0.toArray.size with h | h
    · rw [hl.getD h] at h1; simp at h1 hk; simp at h; omega
    · rw [hl.out h] at h1; cases h1
  | cons o l ih =>
    intro k listed hl hr hk h
    have ho : l0.toArray[k]? = some o := by simpa using (hr 0).symm
    have hkn : k < l0.toArray.size := (Array.getElem?_eq_some_iff.1 ho).1
    have hr' : ∀ j, l[j]? = l0.toArray[k + 1 + j]? := fun j => by have := hr (j + 1); simpa [Nat.add_assoc, Nat.add_comm 1 j] using this
    simp only [List.map_cons, lexS, Bool.and_eq_true, beq_iff_eq, if_pos hkn] at h
    simp only [List.length_cons, Region.lexFrom, Bool.and_eq_true]
    refine ⟨⟨by simpa using ready_of hl ho h.1.1, free_of hl ho hr' h.1.2⟩, ih (k + 1) _ (hl.next hkn) hr' (by simp only [List.length_cons] at hk; omega) h.2⟩
end

/-- 'Region.lexB', by masks. -/
def fastB (l : List Oper) : Bool := Region.noSelect l.toArray && lexS l.toArray.size (l.map (summ l.toArray)) 0
theorem lexB_of_fast {l : List Oper} (h : fastB l = true) : Region.lexB .any l.toArray = true := by
  simp only [fastB, Bool.and_eq_true] at h
  simp only [Region.lexB, Bool.and_eq_true]
  exact ⟨h.1, lexB_from l 0 _ (Upto.zero _) (by simp) (by simp) h.2⟩

section
variable {l0 : List Oper}
theorem seq_from (l : List Oper) : ∀ (n k : Nat) (listed : Array Bool), n ≤ k → Upto l0.toArray.size k listed → (∀ j, l[j]? = l0.toArray[k + j]?) → k + l.length = l0.toArray.size →
    lexS n (l.map (summ l0.toArray)) k = true → Region.seqB .any l0.toArray l.length k listed = true := by
  induction l with
  | nil =>
    intro n k listed _ hl _ hk _
    simp only [List.length_nil, Region.seqB, List.isEmpty_iff]
    refine List.eq_nil_iff_forall_not_mem.2 fun j hj => ?_
    have h1 := (mem_ready.1 hj).1
    rcases Nat.lt_or_ge j l0.toArray.size with h | h
    · rw [hl.getD h] at h1; simp at h1 hk; simp at h; omega
    · rw [hl.out h] at h1; cases h1
  | cons o l ih =>
    intro n k listed hnk hl hr hk h
    have ho : l0.toArray[k]? = some o := by simpa using (hr 0).symm
    have hkn : k < l0.toArray.size := (Array.getElem?_eq_some_iff.1 ho).1
    have hr' : ∀ j, l[j]? = l0.toArray[k + 1 + j]? := fun j => by have := hr (j + 1); simpa [Nat.add_assoc, Nat.add_comm 1 j] using this
    simp only [List.map_cons, lexS, Bool.and_eq_true, beq_iff_eq] at h
    simp only [List.length_cons, Region.seqB, Bool.and_eq_true, decide_eq_true_eq]
    refine ⟨?_, ih n (k + 1) _ (by omega) (hl.next hkn) hr' (by simp only [List.length_cons] at hk; omega) h.2⟩
    have hmem := ready_of hl ho h.1.1
    have honly : ∀ j, j ∈ Region.ready .any l0.toArray listed → j = k := by
      intro j hj
      obtain ⟨h1, oj, hoj, hall⟩ := mem_ready.1 hj
      have hjm : j < l0.toArray.size := (Array.getElem?_eq_some_iff.1 hoj).1
      rw [hl.getD hjm] at h1
      by_cases hjk : j = k
      · exact hjk
      · exfalso
        have hjk' : k < j := by simp at h1; omega
        have hrest : ∀ (ll : List Oper) (q : Nat), n < q → lexS n (ll.map (summ l0.toArray)) q = true → ∀ i (o' : Oper), ll[i]? = some o' → (summ l0.toArray o').af.testBit (q + i - 1) = true := by
          intro ll
          induction ll with
          | nil => intro q _ _ i o' hi; simp at hi
          | cons o'' ll ihl =>
            intro q hq hB i o' hi
            simp only [List.map_cons, lexS, Bool.and_eq_true] at hB
            cases i with
            | zero =>
              simp at hi
              subst hi
              have h2 := hB.1.2
              rw [if_neg (by omega)] at h2
              simp only [Bool.or_eq_true, beq_iff_eq] at h2
              rcases h2 with h2 | h2
              · omega
              · simpa using h2
            | succ i =>
              have := ihl (q + 1) (by omega) hB.2 i o' (by simpa using hi)
              rwa [show q + 1 + i - 1 = q + (i + 1) - 1 by omega] at this
        have h3 := hr' (j - (k + 1))
        rw [show k + 1 + (j - (k + 1)) = j by omega, hoj] at h3
        have h4 := hrest l (k + 1) (by omega) h.2 _ oj h3
        rw [show k + 1 + (j - (k + 1)) - 1 = j - 1 by omega] at h4
        obtain ⟨e, he, hb, hon⟩ := af_bit.1 h4
        have h5 := hall e he hb
        rw [hon, hl.getD (by omega)] at h5
        simp at h5
        omega
    have hnd : (Region.ready .any l0.toArray listed).Nodup := by unfold Region.ready; exact (List.nodup_range).filter _
    generalize Region.ready .any l0.toArray listed = R at *
    match R, hmem, honly, hnd with
    | [a], _, ho1, _ => rw [ho1 a (by simp)]
    | a :: b :: t, _, ho1, hn1 =>
      have e1 := ho1 a (by simp)
      have e2 := ho1 b (by simp)
      subst e1
      subst e2
      simp at hn1

theorem head_from (l : List Oper) : ∀ (n k g f : Nat) (listed : Array Bool), Upto l0.toArray.size k listed → (∀ j, l[j]? = l0.toArray[k + j]?) → k + l.length = l0.toArray.size → k + f = n → n + g = l0.toArray.size →
    lexS n (l.map (summ l0.toArray)) k = true → Region.lexHead .any l0.toArray g f k listed = true := by
  induction l with
  | nil =>
    intro n k g f listed hl hr hk hf hg h
    have hf0 : f = 0 := by simp only [List.length_nil] at hk; omega
    have hg0 : g = 0 := by simp only [List.length_nil] at hk; omega
    subst hf0 hg0
    exact seq_from [] n k listed (by omega) hl hr hk h
  | cons o l ih =>
    intro n k g f listed hl hr hk hf hg h
    cases f with
    | zero =>
      have hgl : g = (o :: l).length := by omega
      subst hgl
      exact seq_from (o :: l) n k listed (by omega) hl hr hk h
    | succ f =>
      have ho : l0.toArray[k]? = some o := by simpa using (hr 0).symm
      have hkn : k < l0.toArray.size := (Array.getElem?_eq_some_iff.1 ho).1
      have hr' : ∀ j, l[j]? = l0.toArray[k + 1 + j]? := fun j => by have := hr (j + 1); simpa [Nat.add_assoc, Nat.add_comm 1 j] using this
      simp only [List.map_cons, lexS, Bool.and_eq_true, beq_iff_eq, if_pos (show k < n by omega)] at h
      simp only [Region.lexHead, Bool.and_eq_true]
      refine ⟨⟨by simpa using ready_of hl ho h.1.1, free_of hl ho hr' h.1.2⟩, ih n (k + 1) g f _ (hl.next hkn) hr' (by simp only [List.length_cons] at hk; omega) (by omega) hg h.2⟩
end

/-- The head's operations are waited for, the last but one at the latest by number n. -/
def sinkS (n : Nat) : List Sm → Nat → Bool
  | [], _ => true
  | _ :: rest, k => (if k < n then (rest.take (n - k)).any (fun y => y.af.testBit k) else true) && sinkS n rest (k + 1)
def chainS (n : Nat) : List Sm → Nat → Bool
  | [], _ => true
  | x :: rest, k => (decide (k ≤ n) || x.af.testBit (k - 1)) && chainS n rest (k + 1)

section
variable {l0 : List Oper}
theorem waits_of {j i : Nat} {o : Oper} (ho : l0.toArray[j]? = some o) (h : (summ l0.toArray o).af.testBit i = true) : Region.waitsFor .any l0.toArray j i = true := by
  obtain ⟨e, he, hb, hon⟩ := af_bit.1 h
  unfold Region.waitsFor
  rw [ho]
  exact Array.any_eq_true'.2 ⟨e, he, by simp [hb, hon]⟩

theorem chain_from (n : Nat) (l : List Oper) : ∀ (k : Nat), (∀ j, l[j]? = l0.toArray[k + j]?) → chainS n (l.map (summ l0.toArray)) k = true → ∀ t, k ≤ t → t < k + l.length → decide (t ≤ n) = true ∨ Region.waitsFor .any l0.toArray t (t - 1) = true := by
  induction l with
  | nil => intro k _ _ t h1 h2; simp at h2; omega
  | cons o l ih =>
    intro k hr h t h1 h2
    have ho : l0.toArray[k]? = some o := by simpa using (hr 0).symm
    have hr' : ∀ j, l[j]? = l0.toArray[k + 1 + j]? := fun j => by have := hr (j + 1); simpa [Nat.add_assoc, Nat.add_comm 1 j] using this
    simp only [List.map_cons, chainS, Bool.and_eq_true, Bool.or_eq_true] at h
    by_cases htk : t = k
    · subst htk
      exact h.1.imp id (waits_of ho)
    · exact ih (k + 1) hr' h.2 t (by omega) (by simp only [List.length_cons] at h2; omega)

theorem sink_from (n : Nat) (l : List Oper) : ∀ (k : Nat), (∀ j, l[j]? = l0.toArray[k + j]?) → sinkS n (l.map (summ l0.toArray)) k = true → ∀ i, k ≤ i → i < n → i < k + l.length → ∃ j, i < j ∧ j ≤ n ∧ Region.waitsFor .any l0.toArray j i = true := by
  induction l with
  | nil => intro k _ _ i h1 _ h2; simp at h2; omega
  | cons o l ih =>
    intro k hr h i h1 hn h2
    have hr' : ∀ j, l[j]? = l0.toArray[k + 1 + j]? := fun j => by have := hr (j + 1); simpa [Nat.add_assoc, Nat.add_comm 1 j] using this
    simp only [List.map_cons, sinkS, Bool.and_eq_true] at h
    by_cases htk : i = k
    · subst htk
      have h3 := h.1
      rw [if_pos hn, ← List.map_take, List.any_map, List.any_eq_true] at h3
      obtain ⟨y, hy, hb⟩ := h3
      obtain ⟨q, hq⟩ := List.mem_iff_getElem?.1 hy
      rw [List.getElem?_take] at hq
      split at hq
      · rename_i hqlt
        have h4 := hr' q
        rw [hq] at h4
        exact ⟨i + 1 + q, by omega, by omega, waits_of h4.symm hb⟩
      · cases hq
    · exact ih (k + 1) hr' h.2 i (by omega) hn (by simp only [List.length_cons] at h2; omega)
end

/-- 'Region.lexTailB', by masks. -/
def fastTail (l : List Oper) (n : Nat) : Bool :=
  Region.noSelect l.toArray && decide (n < l.toArray.size) && lexS n (l.map (summ l.toArray)) 0 && sinkS n (l.map (summ l.toArray)) 0 && chainS n (l.map (summ l.toArray)) 0
theorem lexTailB_of_fast {l : List Oper} {n : Nat} (h : fastTail l n = true) : Region.lexTailB .any l.toArray n = true := by
  simp only [fastTail, Bool.and_eq_true, decide_eq_true_eq] at h
  obtain ⟨⟨⟨⟨h1, h2⟩, h3⟩, h4⟩, h5⟩ := h
  simp only [Region.lexTailB, Bool.and_eq_true, decide_eq_true_eq]
  refine ⟨⟨⟨⟨h1, h2⟩, ?_⟩, ?_⟩, head_from l n 0 _ n _ (Upto.zero _) (by simp) (by simp) (by omega) (by omega) h3⟩
  · unfold Region.sinkB
    rw [List.all_eq_true]
    intro i hi
    have hi' := List.mem_range.1 hi
    obtain ⟨j, a1, a2, a3⟩ := sink_from n l 0 (by simp) h4 i (by omega) hi' (by simp at h2; omega)
    exact List.any_eq_true.2 ⟨j, List.mem_range.2 (by omega), by simp [a1, a3]⟩
  · unfold Region.chainB
    rw [List.all_eq_true]
    intro t ht
    have ht' := List.mem_range.1 ht
    rw [Bool.or_eq_true]
    exact chain_from n l 0 (by simp) h5 t (by omega) (by simp at ht'; omega)

theorem region_pure {P : Program} {id : Nat} {Q : Exit → Act → World → Prop} {a : Act} {w : World} {l : List Oper} (hm : P.follows .mixedOrders = true) (hB : fastB l = true)
    (h : wpQuiet P l.toArray (fun w' => ∃ x : Ext, w' = over w x) (fun a' => ∀ w', Below w.heap.size w w' → Q .normal a' w') l a) : (Code.region id l.toArray true).wp P Q a w :=
  wp_region_pure hm (lexB_of_fast hB) h
theorem region_tail {P : Program} {id : Nat} {Q : Exit → Act → World → Prop} {a : Act} {w : World} {l : List Oper} (n : Nat) (hm : P.follows .mixedOrders = true) (hB : fastTail l n = true)
    (h : wpQuiet P l.toArray (fun w' => ∃ x : Ext, w' = over w x) (fun a' => ∀ w', Below w.heap.size w w' → wpList P l.toArray Q (l.drop n) a' w') (l.take n) a) : (Code.region id l.toArray true).wp P Q a w :=
  wp_region_tail n hm (lexTailB_of_fast hB) h
end Go.Proofs.Ytfgjanponijkhaa
