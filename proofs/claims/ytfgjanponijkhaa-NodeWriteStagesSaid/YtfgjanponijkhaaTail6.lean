/- A region that draws its order, in which ONE operation is a call with an effect, whose value is known; all others read, or call what makes blocks at most. One walk. -/
import Derived.Test.YtfgjanponijkhaaTail5
namespace Go.Proofs.Ytfgjanponijkhaa
open Go.RowKit

def withV : Nat → Value → List Oper → List Oper
  | _, _, [] => []
  | 0, v, o :: l => { o with op := .move (.const v) } :: l
  | n + 1, v, o :: l => o :: withV n v l

theorem withV_length (v : Value) : ∀ (n : Nat) (l : List Oper), (withV n v l).length = l.length
  | n, [] => by cases n <;> rfl
  | 0, o :: l => rfl
  | n + 1, o :: l => by simp [withV, withV_length v n l]
theorem withV_same (v : Value) : ∀ (n : Nat) (l : List Oper) (i : Nat), i ≠ n → (withV n v l)[i]? = l[i]?
  | n, [], i, _ => by cases n <;> rfl
  | 0, o :: l, i, h => by
    cases i with
    | zero => exact absurd rfl h
    | succ i => rfl
  | n + 1, o :: l, i, h => by
    cases i with
    | zero => rfl
    | succ i => simpa [withV] using withV_same v n l i (by omega)
theorem withV_at (v : Value) : ∀ (n : Nat) (l : List Oper) (oc : Oper), l[n]? = some oc → (withV n v l)[n]? = some { oc with op := .move (.const v) }
  | _, [], oc, h => by simp at h
  | 0, o :: l, oc, h => by
    simp at h
    subst h; rfl
  | n + 1, o :: l, oc, h => by simpa [withV] using withV_at v n l oc (by simpa using h)

section
variable {P : Program} {n N : Nat} {ops ops' : Array Oper} {Q : Exit → Act → World → Prop} {w : World} {aS : Act} {oc : Oper} {v : Value} {E Fam : World → Prop}

def HQ (P : Program) (ops' : Array Oper) (aS : Act) (Fam : World → Prop) (f : Nat) (listed : Array Bool) (a : Act) : Prop :=
  ∀ W, Fam W → wpAnyQ P .any ops' (fun w' => ∃ x : Ext, w' = over W x) (fun a' => a' = aS) f listed a

theorem anyQ_keep {C : World → Prop} {t : Tmp} : ∀ (f : Nat) (listed : Array Bool) (a : Act), wpAnyQ P .any ops' C (fun a' => a' = aS) f listed a →
    (∀ j o, ops'[j]? = some o → listed.getD j true = false → o.dst ≠ some t) → aS.tmps.getD t undef = a.tmps.getD t undef := by
  intro f
  induction f with
  | zero =>
    intro listed a h _
    have e : a = aS := h.2
    rw [e]
  | succ f ih =>
    intro listed a h hd
    by_cases h0 : Region.ready .any ops' listed = []
    · have e : a = aS := h.1 h0
      rw [e]
    · obtain ⟨i, hi⟩ := List.exists_mem_of_ne_nil _ h0
      have hq := h.2 i hi
      obtain ⟨hun, o, ho, _⟩ := mem_ready.1 hi
      have hne := hd i o ho hun
      have hd' : ∀ j o, ops'[j]? = some o → (listed.setIfInBounds i true).getD j true = false → o.dst ≠ some t := by
        intro j oj hoj hl
        by_cases hij : i = j
        · subst hij; rw [ho] at hoj; cases hoj; exact hne
        · rw [getD_set_ne true hij] at hl; exact hd j oj hoj hl
      unfold qOp at hq
      simp only [ho] at hq
      split at hq
      · obtain ⟨v, _, h2⟩ := hq
        rw [ih _ _ h2 hd', put_getD_ne _ _ _ _ hne]
      · rw [ih _ _ hq hd', put_getD_ne _ _ _ _ hne]

theorem HQ.step (hD : Dsts ops' ops'.size N) {f : Nat} {listed : Array Bool} {a : Act} (ha : a.tmps.size = N) (H : HQ P ops' aS Fam (f + 1) listed a) {i : Nat} (hi : i ∈ Region.ready .any ops' listed) :
    ∀ W, Fam W → qOp P ops' (fun w' => ∃ x : Ext, w' = over W x) i (fun a' => HQ P ops' aS Fam f (listed.setIfInBounds i true) a' ∧ a'.tmps.size = N) a := by
  intro W hW
  have hq := (H W hW).2 i hi
  obtain ⟨hun, o, ho, _⟩ := mem_ready.1 hi
  have hin := ready_lt hi
  unfold qOp at hq ⊢
  simp only [ho] at hq ⊢
  split
  · rename_i hw
    simp only [hw, if_true] at hq
    obtain ⟨v, h1, h2⟩ := hq
    refine ⟨v, h1, fun W2 hW2 => ?_, by rw [put_size]; exact ha⟩
    have hq2 := (H W2 hW2).2 i hi
    unfold qOp at hq2
    simp only [ho, hw, if_true] at hq2
    obtain ⟨v2, _, h4⟩ := hq2
    have e : a.put o.dst v = a.put o.dst v2 := by
      cases hd : o.dst with
      | none => rfl
      | some t =>
        have hkeep : ∀ j oj, ops'[j]? = some oj → (listed.setIfInBounds i true).getD j true = false → oj.dst ≠ some t := by
          intro j oj hoj hl e
          have hj : j < ops'.size := (Array.getElem?_eq_some_iff.1 hoj).1
          have hij := hD.one i j o oj t hin hj ho hoj hd e
          subst hij
          rcases Nat.lt_or_ge i listed.size with hlt | hge
          · simp [hlt] at hl
          · simp [Array.getElem?_eq_none hge] at hun
        have k1 := anyQ_keep _ _ _ h2 hkeep
        have k2 := anyQ_keep _ _ _ h4 hkeep
        have hlt : t < a.tmps.size := by rw [ha]; exact hD.lt i o t hin ho hd
        rw [hd, put_getD_eq _ _ _ hlt] at k1 k2
        rw [← k1, ← k2]
    rw [e]; exact h4
  · rename_i hw
    simp only [hw] at hq
    refine ⟨fun W2 hW2 => ?_, by rw [put_size]; exact ha⟩
    have hq2 := (H W2 hW2).2 i hi
    unfold qOp at hq2
    simp only [ho, hw] at hq2
    exact hq2

/-- All that the two texts have to do with each other. -/
structure OneEff (ops ops' : Array Oper) (n N : Nat) (oc : Oper) (v : Value) : Prop where
  size : ops'.size = ops.size
  same : ∀ i, i ≠ n → ops[i]? = ops'[i]?
  c' : ops'[n]? = some { oc with op := .move (.const v) }
  c : ops[n]? = some oc
  bare : oc.guard = none
  ds : Dsts ops' ops'.size N
  looks : ∀ (j : Nat) (o : Oper) (t : Tmp), ops'[j]? = some o → o.dst = some t → t ∈ oc.looksAt ops → ∃ e, e ∈ oc.after ∧ Region.binds .any e = true ∧ e.on = j
  sel : ∀ cs b, oc.op ≠ .select cs b
  low : ∀ (j : Nat) (o : Oper) (e : Edge), ops'[j]? = some o → e ∈ o.after → e.on < j

theorem OneEff.yield (T : OneEff ops ops' n N oc v) (tmps : Array Value) : yielded ops tmps = yielded ops' tmps := by
  funext k
  unfold yielded
  by_cases hk : k = n
  · subst hk; rw [T.c, T.c']; rfl
  · rw [T.same k hk]
theorem OneEff.qOp_iff (T : OneEff ops ops' n N oc v) {C : World → Prop} {i : Nat} (hi : i ≠ n) (K : Act → Prop) (a : Act) : qOp P ops' C i K a = qOp P ops C i K a := by
  unfold qOp
  rw [T.same i hi, T.yield]
theorem OneEff.ready (T : OneEff ops ops' n N oc v) (Z : Array Bool) : Region.ready .any ops Z = Region.ready .any ops' Z := by
  unfold Region.ready
  rw [T.size]
  refine List.filter_congr (fun j _ => ?_)
  by_cases hj : j = n
  · subst hj; rw [T.c, T.c']; rfl
  · rw [T.same j hj]

theorem OneEff.done (T : OneEff ops ops' n N oc v) {listed : Array Bool} (hs : listed.size = ops'.size) (h0 : Region.ready .any ops' listed = []) : ∀ j, j < ops'.size → listed.getD j true = true := by
  intro j
  induction j using Nat.strongRecOn with
  | _ j ih =>
    intro hj
    cases hl : listed.getD j true with
    | true => rfl
    | false =>
      have : j ∈ Region.ready .any ops' listed := by
        refine mem_ready.2 ⟨hl, ops'[j], Array.getElem?_eq_getElem hj, fun e he hb => ?_⟩
        have hlow := T.low j _ e (Array.getElem?_eq_getElem hj) he
        cases hx : listed.getD e.on false with
        | true => rfl
        | false =>
          have h1 := ih e.on hlow (by omega)
          have h2 := getD_in (by omega : e.on < listed.size) hx
          rw [h1] at h2; cases h2
      rw [h0] at this; cases this

/-- Behind the effect. -/
theorem after_eff (T : OneEff ops ops' n N oc v) (hE : ∀ W W', E W → Below W.heap.size W W' → E W') (hF : ∀ W, E W → Fam W) (hQ : ∀ W, E W → Q .normal aS W) :
    ∀ (f : Nat) (listed : Array Bool) (a : Act) (w' : World), HQ P ops' aS Fam f listed a → listed.getD n true = true → a.tmps.size = N → E w' → wpAny P .any ops Q f listed a w' := by
  intro f
  induction f with
  | zero =>
    intro listed a w' H hl ha hw'
    have h := H w' (hF w' hw')
    have e : a = aS := h.2
    refine ⟨by rw [T.ready]; exact h.1, ?_⟩
    rw [e]; exact hQ _ hw'
  | succ f ih =>
    intro listed a w' H hl ha hw'
    have h := H w' (hF w' hw')
    refine ⟨fun h0 => ?_, fun i hi => ?_⟩
    · rw [T.ready] at h0
      have e : a = aS := h.1 h0
      rw [e]; exact hQ _ hw'
    · rw [T.ready] at hi
      have hin : i ≠ n := by
        intro e; subst e
        have := (mem_ready.1 hi).1
        rw [hl] at this; cases this
      have h1 := HQ.step T.ds ha H hi w' (hF _ hw')
      rw [T.qOp_iff hin] at h1
      exact wpOp_of_qOp (C := fun w2 => ∃ x : Ext, w2 = over w' x) (over_self w') (fun a2 w2 hw2 hK => ih _ _ _ hK.1 (by rw [getD_set_ne true hin]; exact hl) hK.2 (hE _ _ hw' (Pure.below hw2))) h1

/-- Ahead of the effect. -/
theorem before_eff (T : OneEff ops ops' n N oc v) (hE : ∀ W W', E W → Below W.heap.size W W' → E W') (hF : ∀ W, E W → Fam W) (hP : ∀ W, Pure w W → Fam W) (hQ : ∀ W, E W → Q .normal aS W)
    (hcall : ∀ W, Pure w W → ∃ f args, (execOp aS.eval oc).run P W = .ok (.enter f args) W ∧ Calls P f args W fun e w2 => e = .returned v ∧ E w2) :
    ∀ (f : Nat) (listed : Array Bool) (a : Act) (w' : World), HQ P ops' aS Fam f listed a → listed.size = ops'.size → listed.getD n true = false → a.tmps.size = N → Pure w w' → wpAny P .any ops Q f listed a w' := by
  have hnlt : n < ops'.size := (Array.getElem?_eq_some_iff.1 T.c').1
  intro f
  induction f with
  | zero =>
    intro listed a w' H hs hl ha hw'
    have h := T.done hs (H w' (hP w' hw')).1 n hnlt
    rw [hl] at h; cases h
  | succ f ih =>
    intro listed a w' H hs hl ha hw'
    refine ⟨fun h0 => ?_, fun i hi => ?_⟩
    · rw [T.ready] at h0
      have h := T.done hs h0 n hnlt
      rw [hl] at h; cases h
    · rw [T.ready] at hi
      have h1 := HQ.step T.ds ha H hi w' (hP _ hw')
      by_cases hin : i = n
      · subst hin
        obtain ⟨_, oc', hoc', hall⟩ := mem_ready.1 hi
        rw [T.c'] at hoc'
        have hae : oc'.after = oc.after := by rw [← Option.some.inj hoc']
        have heq : execOp a.eval oc = execOp aS.eval oc := by
          refine execOp_congr oc T.sel (fun x hx => ?_)
          cases x with
          | tmp t =>
            have hk := anyQ_keep (t := t) _ _ _ (H w' (hP _ hw')) (fun j o ho hl hd => by
              obtain ⟨e, he, hb, hon⟩ := T.looks j o t ho hd (List.mem_append_left _ (List.mem_filterMap.2 ⟨.tmp t, by simpa using hx, rfl⟩))
              have h2 := hall e (by rw [hae]; exact he) hb
              rw [hon, getD_both hl] at h2
              cases h2)
            exact hk.symm
          | _ => rfl
        have hwant : Region.wanted oc (yielded ops a.tmps) = true := by simp [Region.wanted, T.bare]
        have hwant' : Region.wanted { oc with op := .move (.const v) } (yielded ops' a.tmps) = true := by simp [Region.wanted, T.bare]
        unfold qOp at h1
        simp only [T.c', hwant', if_true] at h1
        obtain ⟨v', hv', h4⟩ := h1
        have hv := hv' w' (over_self w')
        unfold Oper.quietAt at hv
        rw [BigFrame.run_move (.const v) rfl] at hv
        have hvv : v = v' := hv.2
        subst hvv
        obtain ⟨fn, args, hr, hc⟩ := hcall w' hw'
        unfold wpOp
        simp only [T.c, hwant, if_true]
        refine .inl ?_
        unfold Oper.wp
        rw [heq, hr]
        simp only [Oper.upon]
        refine hc.mono fun e w'' ⟨he, hw''⟩ => ?_
        subst he
        exact after_eff T hE hF hQ f _ _ _ h4.1 (by
          rcases Nat.lt_or_ge i listed.size with hlt | hge
          · simp [hlt]
          · simp [Array.getElem?_eq_none hge]) h4.2 hw''
      · rw [T.qOp_iff hin] at h1
        exact wpOp_of_qOp (C := fun w2 => ∃ x : Ext, w2 = over w' x) (over_self w') (fun a2 w2 hw2 hK => ih _ _ _ hK.1 (by simpa using hs) (by rw [getD_set_ne true hin]; exact hl) hK.2 (hw'.trans hw2)) h1
end

/-- The condition, for the kernel. -/
def effB (l : List Oper) (n N : Nat) (v : Value) (oc : Oper) : Bool :=
  Region.lexB .any (withV n v l).toArray && Region.noSelect l.toArray && oc.guard.isNone
  && decide ((withV n v l).filterMap (·.dst)).Nodup && ((withV n v l).filterMap (·.dst)).all (fun t => decide (t < N))
  && (List.range l.length).all (fun j => ((withV n v l)[j]?).all fun o => o.dst.all fun t => !(oc.looksAt l.toArray).contains t || oc.after.any fun e => Region.binds .any e && e.on == j)
  && (List.range l.length).all (fun j => ((withV n v l)[j]?).all fun o => o.after.all fun e => decide (e.on < j))

theorem oneEff_of {l : List Oper} {n N : Nat} {v : Value} {oc : Oper} (hB : effB l n N v oc = true) (hl : l[n]? = some oc) : OneEff l.toArray (withV n v l).toArray n N oc v ∧ Region.lexB .any (withV n v l).toArray = true := by
  simp only [effB, Bool.and_eq_true, decide_eq_true_eq] at hB
  obtain ⟨⟨⟨⟨⟨⟨h1, h2⟩, h3⟩, h4⟩, h5⟩, h6⟩, h7⟩ := hB
  refine ⟨⟨by simp [withV_length], fun i hi => by simp [withV_same v n l i hi], by simpa using withV_at v n l oc hl, by simpa using hl, by simpa using h3,
    ⟨fun i j oi oj t _ _ hoi hoj => nodup_at h4 i j oi oj t (by simpa using hoi) (by simpa using hoj), fun i o t hi ho hd => ?_⟩, fun j o t ho hd ht => ?_, fun cs b => Region.noSelect_spec h2 n oc cs b (by simpa using hl), fun j o e ho he => ?_⟩, h1⟩
  · have ho' : (withV n v l)[i]? = some o := by simpa using ho
    have := List.all_eq_true.1 h5 t (List.mem_filterMap.2 ⟨o, List.mem_of_getElem? ho', hd⟩)
    simpa using this
  · have ho' : (withV n v l)[j]? = some o := by simpa using ho
    have hj : j < l.length := by
      have := (List.getElem?_eq_some_iff.1 ho').1
      rwa [withV_length] at this
    have h := List.all_eq_true.1 h6 j (List.mem_range.2 hj)
    rw [ho'] at h
    simp only [Option.all_some, hd, Bool.or_eq_true, Bool.not_eq_true'] at h
    rcases h with h | h
    · rw [List.contains_iff_mem.2 ht] at h; cases h
    · obtain ⟨i, hi, hb⟩ := Array.any_eq_true.1 h
      simp only [Bool.and_eq_true, beq_iff_eq] at hb
      exact ⟨_, Array.getElem_mem hi, hb.1, hb.2⟩
  · have ho' : (withV n v l)[j]? = some o := by simpa using ho
    have hj : j < l.length := by
      have := (List.getElem?_eq_some_iff.1 ho').1
      rwa [withV_length] at this
    have h := List.all_eq_true.1 h7 j (List.mem_range.2 hj)
    rw [ho'] at h
    simp only [Option.all_some] at h
    have := Array.all_eq_true_iff_forall_mem.1 h e he
    simpa using this

/-- One call with an effect (number n, value v, a world of E behind it), all else quiet: one walk of the list with v in its place (H: its end aS), for any world ahead of the call or behind it. -/
theorem region_effect {P : Program} {id : Nat} {Q : Exit → Act → World → Prop} {a : Act} {w : World} {l : List Oper} (n : Nat) (v : Value) (E : World → Prop) (aS : Act) {oc : Oper} (hm : P.follows .mixedOrders = true) (hl : l[n]? = some oc) (hB : effB l n a.tmps.size v oc = true)
    (H : ∀ W, (Below w.heap.size w W ∨ E W) → wpQuiet P (withV n v l).toArray (fun w' => ∃ x : Ext, w' = over W x) (fun a' => a' = aS) (withV n v l) a)
    (hE : ∀ W W', E W → Below W.heap.size W W' → E W')
    (hcall : ∀ W, Below w.heap.size w W → ∃ f args, (execOp aS.eval oc).run P W = .ok (.enter f args) W ∧ Calls P f args W fun e w2 => e = .returned v ∧ E w2)
    (hQ : ∀ W, E W → Q .normal aS W) : (Code.region id l.toArray true).wp P Q a w := by
  obtain ⟨T, hlex⟩ := oneEff_of hB hl
  have hnlt : n < l.length := (List.getElem?_eq_some_iff.1 hl).1
  simp only [Region.lexB, Bool.and_eq_true] at hlex
  have HH : HQ P (withV n v l).toArray aS (fun W => Below w.heap.size w W ∨ E W) (withV n v l).length (Array.replicate (withV n v l).toArray.size false) a := by
    intro W hW
    exact wpAnyQ_lex (C := fun w' => ∃ x : Ext, w' = over W x) (md := .any) hlex.1 (withV n v l) 0 _ a (by simp) (by simpa using hlex.2) (H W hW)
  refine wp_region_any hm ?_
  have key := before_eff (Q := Q) (w := w) T hE (fun W h => .inr h) (fun W h => .inl (Pure.below h)) hQ (fun W h => hcall W (Pure.below h)) _ _ _ { w with drawn := w.drawn + 1 } HH (by simp) (by simp [withV_length, hnlt]) rfl ⟨_, drew_over w⟩
  rw [withV_length, T.size] at key
  simpa using key
end Go.Proofs.Ytfgjanponijkhaa
