/- A region whose first operation is a move that nothing of the head waits for: it is taken first; then as ever. -/
import Derived.Test.YtfgjanponijkhaaFast
namespace Go.Proofs.Ytfgjanponijkhaa
open Go.RowKit

section
variable {P : Program} {ops : Array Oper} {md : Region.Mode} {C : World → Prop}

def Sink0 (md : Region.Mode) (ops : Array Oper) (n : Nat) : Prop := ∀ i, 1 ≤ i → i < n → ∃ j, i < j ∧ j ≤ n ∧ Region.waitsFor md ops j i = true

theorem zero_kept {listed : Array Bool} {j : Nat} (h : listed.getD 0 true = true) : (listed.setIfInBounds j true).getD 0 true = true := by
  rw [Array.getD_eq_getD_getElem?, Array.getElem?_setIfInBounds]
  rw [Array.getD_eq_getD_getElem?] at h
  split
  · split <;> rfl
  · exact h

/-- While an operation of the head, the first apart, has not come up, none of the tail may. -/
theorem tail_waits0 {n : Nat} {listed : Array Bool} (hs : Sink0 md ops n) (hc : Region.chainB md ops n = true) (hn : n < ops.size) (inv : HeadInv md ops n listed) (hz : listed.getD 0 true = true) :
    ∀ (d i : Nat), n - i = d → i < n → listed.getD i true = false → ∀ t, n ≤ t → t ∉ Region.ready md ops listed := by
  intro d
  induction d using Nat.strongRecOn with
  | _ d ih =>
    intro i hd hi hun t ht hr
    have hi0 : 1 ≤ i := by
      rcases Nat.eq_zero_or_pos i with h | h
      · subst h; rw [hz] at hun; cases hun
      · exact h
    obtain ⟨_, ot, hot, hall⟩ := mem_ready.1 hr
    have htlt : t < ops.size := (Array.getElem?_eq_some_iff.1 hot).1
    by_cases htn : t = n
    · subst htn
      obtain ⟨j, hij, hjn, hw⟩ := hs i hi0 hi
      obtain ⟨oj, hoj, e, he, hb, hon⟩ := Region.waitsFor_spec hw
      by_cases hjt : j = t
      · subst hjt
        have hsame : oj = ot := Option.some.inj (hoj.symm.trans hot)
        subst hsame
        have h2 := hall e he hb
        rw [hon, getD_both hun] at h2
        cases h2
      · cases hl : listed.getD j false with
        | true =>
          have h2 := inv.closed j oj hoj hl e he hb
          rw [hon, getD_both hun] at h2
          cases h2
        | false =>
          have hjs : j < listed.size := by rw [inv.size]; omega
          exact ih (t - j) (by omega) j rfl (by omega) (getD_in hjs hl) t (Nat.le_refl _) hr
    · have h1 := List.all_eq_true.1 hc t (List.mem_range.2 htlt)
      simp only [Bool.or_eq_true, decide_eq_true_eq] at h1
      rcases h1 with h1 | h1
      · omega
      · obtain ⟨o', ho', e, he, hb, hon⟩ := Region.waitsFor_spec h1
        have hsame : o' = ot := Option.some.inj (ho'.symm.trans hot)
        subst hsame
        have h2 := hall e he hb
        rw [hon, getD_both (inv.tail (t - 1) (by omega) (by omega))] at h2
        cases h2

/-- While an operation of the head has not come up, none of the tail may. -/
theorem head_only0 {n : Nat} {listed : Array Bool} (hs : Sink0 md ops n) (hc : Region.chainB md ops n = true) (hn : n < ops.size) (inv : HeadInv md ops n listed) (hz : listed.getD 0 true = true) {i : Nat} (hin : i < n)
    (hi : i ∈ Region.ready md ops listed) {j : Nat} (hj : j ∈ Region.ready md ops listed) : j < n := by
  rcases Nat.lt_or_ge j n with h | h
  · exact h
  · exact absurd hj (tail_waits0 hs hc hn inv hz _ i rfl hin (mem_ready.1 hi).1 j h)

theorem headQ_first0 {n i : Nat} {oi : Oper} {v : Value} {L : Array Bool → Act → Prop} (hoi : ops[i]? = some oi) (hsel : ∀ (j : Nat) (o : Oper) cs b, ops[j]? = some o → o.op ≠ .select cs b)
    (hs : Sink0 md ops n) (hc : Region.chainB md ops n = true) (hn : n < ops.size) (hin : i < n)
    (hdone : ∀ listed a, L listed a → ∀ j, j ∈ Region.ready md ops listed → n ≤ j) (f : Nat) :
    ∀ (listed : Array Bool) (a : Act), HeadInv md ops n listed → listed.getD 0 true = true →
      (∀ j oj, ops[j]? = some oj → j ≠ i → listed.getD j true = false → (∀ e, e ∈ oj.after → Region.binds md e = true → e.on ≠ i) → oi.apart ops oj = true) →
      i ∈ Region.ready md ops listed → YieldsIn P ops C oi v a →
      headQ P md ops C n L f (listed.setIfInBounds i true) (a.put oi.dst v) → headQ P md ops C n L (f + 1) listed a := by
  induction f with
  | zero =>
    intro listed a inv hz _ hr hy H
    refine ⟨fun h0 => (by rw [h0] at hr; cases hr), fun j hj => ⟨head_only0 hs hc hn inv hz hin hr hj, ?_⟩⟩
    by_cases hji : j = i
    · subst hji; exact hy.qOp hoi H
    · have h1 := hdone _ _ H j (ready_mono hj hji)
      have h2 := head_only0 hs hc hn inv hz hin hr hj
      omega
  | succ f ih =>
    intro listed a inv hz hfree hr hy H
    refine ⟨fun h0 => (by rw [h0] at hr; cases hr), fun j hj => ⟨head_only0 hs hc hn inv hz hin hr hj, ?_⟩⟩
    by_cases hji : j = i
    · subst hji; exact hy.qOp hoi H
    · have hjn := head_only0 hs hc hn inv hz hin hr hj
      have h1 := (H.2 j (ready_mono hj hji)).2
      obtain ⟨hjun, oj, hoj, hall⟩ := mem_ready.1 hj
      have hun := (mem_ready.1 hr).1
      have hnot : ∀ e, e ∈ oj.after → Region.binds md e = true → e.on ≠ i := by
        intro e he hb heq
        have h3 := hall e he hb
        rw [heq, getD_both hun] at h3
        cases h3
      have h2 := qOp_put hoj (hfree j oj hoj hji hjun hnot) (fun cs b => hsel i oi cs b hoi) (fun cs b => hsel j oj cs b hoj) hy h1
      refine qOp_mono (fun a' h3 => ih (listed.setIfInBounds j true) a' (inv.set hj hjn) (zero_kept hz) ?_ (ready_mono hr (Ne.symm hji)) h3.1 ?_) h2
      · intro k ok hk hki hunk hno
        refine hfree k ok hk hki ?_ hno
        by_cases hjk : j = k
        · subst hjk; exact hjun
        · rw [getD_set_ne true hjk] at hunk; exact hunk
      · rw [Array.setIfInBounds_comm _ _ hji]
        exact h3.2

theorem headQ_lex0 {n g : Nat} {Lq : Act → Prop} (hsel : Region.noSelect ops = true) (hs : Sink0 md ops n) (hc : Region.chainB md ops n = true) (hn : n < ops.size) (l : List Oper) :
    ∀ (k : Nat) (listed : Array Bool) (a : Act), (∀ j, j < l.length → l[j]? = ops[k + j]?) → k + l.length = n → HeadInv md ops n listed → listed.getD 0 true = true →
    Region.lexHead md ops g l.length k listed = true → wpQuiet P ops C Lq l a →
    headQ P md ops C n (fun listed' a' => Region.seqB md ops g n listed' = true ∧ Lq a') l.length listed a := by
  induction l with
  | nil =>
    intro k listed a _ hk _ _ hB h
    have : k = n := by simpa using hk
    subst this
    exact ⟨by simpa [Region.lexHead] using hB, h⟩
  | cons o l ih =>
    intro k listed a hl hk inv hz hB h
    have h0 : ops[k]? = some o := by simpa using (hl 0 (by simp)).symm
    simp only [List.length_cons, Region.lexHead, Bool.and_eq_true] at hB
    obtain ⟨⟨hr, hf⟩, hB'⟩ := hB
    have hkn : k < n := by simp only [List.length_cons] at hk; omega
    have hr' : k ∈ Region.ready md ops listed := by simpa using hr
    have hst : qOp P ops C k (wpQuiet P ops C Lq l) a := by unfold qOp; simp only [h0]; exact h
    obtain ⟨v, hy, hK⟩ := yieldsIn_of_qOp h0 hst
    refine headQ_first0 h0 (Region.noSelect_spec hsel) hs hc hn hkn (fun listed' a' hL => seqB_ready hL.1) l.length listed a inv hz (Region.free_spec h0 hf) hr' hy ?_
    refine ih (k + 1) _ _ (fun j hj => ?_) (by simp only [List.length_cons] at hk; omega) (inv.set hr' hkn) (zero_kept hz) hB' hK
    have := hl (j + 1) (by simp; omega)
    simpa [Nat.add_assoc, Nat.add_comm 1 j] using this
end

def fastTail0 (l : List Oper) (n : Nat) : Bool :=
  Region.noSelect l.toArray && decide (n < l.toArray.size) && lexS n (l.map (summ l.toArray)) 0 && sinkS n ((l.map (summ l.toArray)).drop 1) 1 && chainS n (l.map (summ l.toArray)) 0

theorem region_tail_move {P : Program} {id : Nat} {Q : Exit → Act → World → Prop} {a : Act} {w : World} {o0 : Oper} {l : List Oper} (x : Operand) (n : Nat) (hop : o0.op = .move x) (hg : o0.guard = none) (hm : P.follows .mixedOrders = true) (hB : fastTail0 (o0 :: l) (n + 1) = true)
    (hQ' : ∀ c (v : Value) a w, Q (.panic c) (a.put o0.dst v) w → Q (.panic c) a w)
    (h : wpQuiet P (o0 :: l).toArray (fun w' => ∃ x : Ext, w' = over w x) (fun a' => ∀ w', Below w.heap.size w w' → wpList P (o0 :: l).toArray Q (l.drop n) a' w') (l.take n) (a.put o0.dst (a.eval x))) : (Code.region id (o0 :: l).toArray true).wp P Q a w := by
  simp only [fastTail0, Bool.and_eq_true, decide_eq_true_eq] at hB
  obtain ⟨⟨⟨⟨hsel, hn⟩, hlexS⟩, hsinkS⟩, hchainS⟩ := hB
  have hsz : (o0 :: l).toArray.size = l.length + 1 := by simp
  have hn' : n < l.length := by omega
  have U0 : Upto (o0 :: l).toArray.size 0 (Array.replicate (o0 :: l).toArray.size false) := Upto.zero _
  have U1 := U0.next (by omega)
  have hl1 : ∀ j, l[j]? = (o0 :: l).toArray[1 + j]? := fun j => by simp [Nat.add_comm 1 j]
  have ho0 : (o0 :: l).toArray[0]? = some o0 := by simp
  simp only [List.map_cons, lexS, Bool.and_eq_true, beq_iff_eq, if_pos (Nat.succ_pos n)] at hlexS
  obtain ⟨⟨z1, z2⟩, z3⟩ := hlexS
  have hready := ready_of U0 ho0 z1
  have hfree := free_of (l := l) U0 ho0 (fun j => by simpa using hl1 j) z2
  have hlex := head_from l (n + 1) 1 ((o0 :: l).toArray.size - (n + 1)) n _ U1 hl1 (by omega) (by omega) (by omega) z3
  have hsink : Sink0 .any (o0 :: l).toArray (n + 1) := fun i h1 h2 => sink_from (n + 1) l 1 hl1 (by simpa using hsinkS) i h1 h2 (by omega)
  have hchain : Region.chainB .any (o0 :: l).toArray (n + 1) = true := by
    unfold Region.chainB
    rw [List.all_eq_true]
    intro t ht
    have ht' := List.mem_range.1 ht
    rw [Bool.or_eq_true]
    exact chain_from (n + 1) (o0 :: l) 0 (by simp) hchainS t (by omega) (by rw [hsz] at ht'; simp; omega)
  have inv1 : HeadInv .any (o0 :: l).toArray (n + 1) ((Array.replicate (o0 :: l).toArray.size false).setIfInBounds 0 true) := by
    have inv0 : HeadInv .any (o0 :: l).toArray (n + 1) (Array.replicate (o0 :: l).toArray.size false) :=
      ⟨by simp, fun j oj _ hl => (by rw [getD_replicate_false] at hl; cases hl), fun t _ ht => getD_in (by simpa using ht) (getD_replicate_false _ _)⟩
    exact inv0.set hready (by omega)
  have hz1 : ((Array.replicate (o0 :: l).toArray.size false).setIfInBounds 0 true).getD 0 true = true := by
    rw [U1.getD (by omega)]; simp
  have htl : (l.take n).length = n := by simp; omega
  have H := headQ_lex0 (C := fun w' => ∃ x : Ext, w' = over w x) (md := .any) (g := (o0 :: l).toArray.size - (n + 1)) hsel hsink hchain hn (l.take n) 1 _ (a.put o0.dst (a.eval x)) (fun j hj => by
    have hj' : j < n := by rw [htl] at hj; exact hj
    rw [← hl1 j]; simp [hj']) (by omega) inv1 hz1 (by rw [htl]; exact hlex) h
  refine wp_region_any hm ?_
  have hdl : (l.drop n).length = (o0 :: l).toArray.size - (n + 1) := by simp
  have H2 := any_of_headQ (Q' := Q) (g := (o0 :: l).toArray.size - (n + 1)) (fun listed a' w' hw' hL => by
    have := wpAny_of_seq (md := .any) (Q' := Q) (l.drop n) (n + 1) listed a' w' (fun j => by rw [show n + 1 + j = 1 + (n + j) by omega, ← hl1]; simp [List.getElem?_drop]) (by rw [hdl]; exact hL.1) (hL.2 w' (Pure.below hw'))
    rwa [hdl] at this) _ _ _ _ ⟨_, drew_over w⟩ H
  rw [htl, show n + ((o0 :: l).toArray.size - (n + 1)) = l.length by omega] at H2
  rw [show (o0 :: l).toArray.size = l.length + 1 from hsz] at H2 ⊢
  refine wpAny_take (v := a.eval x) ho0 hsel (by rw [hsz] at hfree; exact hfree) (by rw [hsz] at hready; simpa using hready) (fun c a' w' => hQ' c _ a' w') (Or.inl ⟨?_, fun w' => BigFrame.run_move x hop w'⟩) H2
  simp [Region.wanted, hg]
end Go.Proofs.Ytfgjanponijkhaa
