/- A region that draws its order, in which ONE operation is a call with an effect, whose value is known; all others read, or call what makes blocks at most. One walk. A region that draws its order, in which several operations have effects (calls, new blocks, appends, stores) whose values may hang on the world; all others read. One walk of the quiet ones, and one step for each effect, whatever has been done beside it. As Tail7, more general: operations may have guards, and the value of an effect may be known ahead (a comparison that answers true). -/
import Derived.Test.YtfgjanponijkhaaTailA
namespace Go.Proofs.Ytfgjanponijkhaa
open Go.RowKit

def withV : Nat → Value → List Oper → List Oper
  | _, _, [] => []
  | 0, v, o :: l => { o with op := .move (.const v) } :: l
  | n + 1, v, o :: l => o :: withV n v l

theorem withV_length (v : Value) : ∀ (n : Nat) (l : List Oper), (withV n v l).length = l.length
  | n, [] => by cases n <;> rfl
  | 0, o :: l => rfl
  | n + 1, o :: l => by simp [withV, withV_length v n l]
theorem withV_same (v : Value) : ∀ (n : Nat) (l : List Oper) (i : Nat), i ≠ n → (withV n v l)[i]? = l[i]?
  | n, [], i, _ => by cases n <;> rfl
  | 0, o :: l, i, h => by
    cases i with
    | zero => exact absurd rfl h
    | succ i => rfl
  | n + 1, o :: l, i, h => by
    cases i with
    | zero => rfl
    | succ i => simpa [withV] using withV_same v n l i (by omega)
theorem withV_at (v : Value) : ∀ (n : Nat) (l : List Oper) (oc : Oper), l[n]? = some oc → (withV n v l)[n]? = some { oc with op := .move (.const v) }
  | _, [], oc, h => by simp at h
  | 0, o :: l, oc, h => by
    simp at h
    subst h; rfl
  | n + 1, o :: l, oc, h => by simpa [withV] using withV_at v n l oc (by simpa using h)

section
variable {P : Program} {n N : Nat} {ops ops' : Array Oper} {Q : Exit → Act → World → Prop} {w : World} {aS : Act} {oc : Oper} {v : Value} {E Fam : World → Prop}

def HQ (P : Program) (ops' : Array Oper) (aS : Act) (Fam : World → Prop) (f : Nat) (listed : Array Bool) (a : Act) : Prop :=
  ∀ W, Fam W → wpAnyQ P .any ops' (fun w' => ∃ x : Ext, w' = over W x) (fun a' => a' = aS) f listed a

theorem anyQ_keep {C : World → Prop} {t : Tmp} : ∀ (f : Nat) (listed : Array Bool) (a : Act), wpAnyQ P .any ops' C (fun a' => a' = aS) f listed a →
    (∀ j o, ops'[j]? = some o → listed.getD j true = false → o.dst ≠ some t) → aS.tmps.getD t undef = a.tmps.getD t undef := by
  intro f
  induction f with
  | zero =>
    intro listed a h _
    have e : a = aS := h.2
    rw [e]
  | succ f ih =>
    intro listed a h hd
    by_cases h0 : Region.ready .any ops' listed = []
    · have e : a = aS := h.1 h0
      rw [e]
    · obtain ⟨i, hi⟩ := List.exists_mem_of_ne_nil _ h0
      have hq := h.2 i hi
      obtain ⟨hun, o, ho, _⟩ := mem_ready.1 hi
      have hne := hd i o ho hun
      have hd' : ∀ j o, ops'[j]? = some o → (listed.setIfInBounds i true).getD j true = false → o.dst ≠ some t := by
        intro j oj hoj hl
        by_cases hij : i = j
        · subst hij; rw [ho] at hoj; cases hoj; exact hne
        · rw [getD_set_ne true hij] at hl; exact hd j oj hoj hl
      unfold qOp at hq
      simp only [ho] at hq
      split at hq
      · obtain ⟨v, _, h2⟩ := hq
        rw [ih _ _ h2 hd', put_getD_ne _ _ _ _ hne]
      · rw [ih _ _ hq hd', put_getD_ne _ _ _ _ hne]

theorem HQ.step (hD : Dsts ops' ops'.size N) {f : Nat} {listed : Array Bool} {a : Act} (ha : a.tmps.size = N) (H : HQ P ops' aS Fam (f + 1) listed a) {i : Nat} (hi : i ∈ Region.ready .any ops' listed) :
    ∀ W, Fam W → qOp P ops' (fun w' => ∃ x : Ext, w' = over W x) i (fun a' => HQ P ops' aS Fam f (listed.setIfInBounds i true) a' ∧ a'.tmps.size = N) a := by
  intro W hW
  have hq := (H W hW).2 i hi
  obtain ⟨hun, o, ho, _⟩ := mem_ready.1 hi
  have hin := ready_lt hi
  unfold qOp at hq ⊢
  simp only [ho] at hq ⊢
  split
  · rename_i hw
    simp only [hw, if_true] at hq
    obtain ⟨v, h1, h2⟩ := hq
    refine ⟨v, h1, fun W2 hW2 => ?_, by rw [put_size]; exact ha⟩
    have hq2 := (H W2 hW2).2 i hi
    unfold qOp at hq2
    simp only [ho, hw, if_true] at hq2
    obtain ⟨v2, _, h4⟩ := hq2
    have e : a.put o.dst v = a.put o.dst v2 := by
      cases hd : o.dst with
      | none => rfl
      | some t =>
        have hkeep : ∀ j oj, ops'[j]? = some oj → (listed.setIfInBounds i true).getD j true = false → oj.dst ≠ some t := by
          intro j oj hoj hl e
          have hj : j < ops'.size := (Array.getElem?_eq_some_iff.1 hoj).1
          have hij := hD.one i j o oj t hin hj ho hoj hd e
          subst hij
          rcases Nat.lt_or_ge i listed.size with hlt | hge
          · simp [hlt] at hl
          · simp [Array.getElem?_eq_none hge] at hun
        have k1 := anyQ_keep _ _ _ h2 hkeep
        have k2 := anyQ_keep _ _ _ h4 hkeep
        have hlt : t < a.tmps.size := by rw [ha]; exact hD.lt i o t hin ho hd
        rw [hd, put_getD_eq _ _ _ hlt] at k1 k2
        rw [← k1, ← k2]
    rw [e]; exact h4
  · rename_i hw
    simp only [hw] at hq
    refine ⟨fun W2 hW2 => ?_, by rw [put_size]; exact ha⟩
    have hq2 := (H W2 hW2).2 i hi
    unfold qOp at hq2
    simp only [ho, hw] at hq2
    exact hq2

/-- All that the two texts have to do with each other. -/
structure OneEff (ops ops' : Array Oper) (n N : Nat) (oc : Oper) (v : Value) : Prop where
  size : ops'.size = ops.size
  same : ∀ i, i ≠ n → ops[i]? = ops'[i]?
  c' : ops'[n]? = some { oc with op := .move (.const v) }
  c : ops[n]? = some oc
  bare : oc.guard = none
  ds : Dsts ops' ops'.size N
  looks : ∀ (j : Nat) (o : Oper) (t : Tmp), ops'[j]? = some o → o.dst = some t → t ∈ oc.looksAt ops → ∃ e, e ∈ oc.after ∧ Region.binds .any e = true ∧ e.on = j
  sel : ∀ cs b, oc.op ≠ .select cs b
  low : ∀ (j : Nat) (o : Oper) (e : Edge), ops'[j]? = some o → e ∈ o.after → e.on < j

theorem OneEff.yield (T : OneEff ops ops' n N oc v) (tmps : Array Value) : yielded ops tmps = yielded ops' tmps := by
  funext k
  unfold yielded
  by_cases hk : k = n
  · subst hk; rw [T.c, T.c']; rfl
  · rw [T.same k hk]
theorem OneEff.qOp_iff (T : OneEff ops ops' n N oc v) {C : World → Prop} {i : Nat} (hi : i ≠ n) (K : Act → Prop) (a : Act) : qOp P ops' C i K a = qOp P ops C i K a := by
  unfold qOp
  rw [T.same i hi, T.yield]
theorem OneEff.ready (T : OneEff ops ops' n N oc v) (Z : Array Bool) : Region.ready .any ops Z = Region.ready .any ops' Z := by
  unfold Region.ready
  rw [T.size]
  refine List.filter_congr (fun j _ => ?_)
  by_cases hj : j = n
  · subst hj; rw [T.c, T.c']; rfl
  · rw [T.same j hj]

theorem OneEff.done (T : OneEff ops ops' n N oc v) {listed : Array Bool} (hs : listed.size = ops'.size) (h0 : Region.ready .any ops' listed = []) : ∀ j, j < ops'.size → listed.getD j true = true := by
  intro j
  induction j using Nat.strongRecOn with
  | _ j ih =>
    intro hj
    cases hl : listed.getD j true with
    | true => rfl
    | false =>
      have : j ∈ Region.ready .any ops' listed := by
        refine mem_ready.2 ⟨hl, ops'[j], Array.getElem?_eq_getElem hj, fun e he hb => ?_⟩
        have hlow := T.low j _ e (Array.getElem?_eq_getElem hj) he
        cases hx : listed.getD e.on false with
        | true => rfl
        | false =>
          have h1 := ih e.on hlow (by omega)
          have h2 := getD_in (by omega : e.on < listed.size) hx
          rw [h1] at h2; cases h2
      rw [h0] at this; cases this

/-- Behind the effect. -/
theorem after_eff (T : OneEff ops ops' n N oc v) (hE : ∀ W W', E W → Below W.heap.size W W' → E W') (hF : ∀ W, E W → Fam W) (hQ : ∀ W, E W → Q .normal aS W) :
    ∀ (f : Nat) (listed : Array Bool) (a : Act) (w' : World), HQ P ops' aS Fam f listed a → listed.getD n true = true → a.tmps.size = N → E w' → wpAny P .any ops Q f listed a w' := by
  intro f
  induction f with
  | zero =>
    intro listed a w' H hl ha hw'
    have h := H w' (hF w' hw')
    have e : a = aS := h.2
    refine ⟨by rw [T.ready]; exact h.1, ?_⟩
    rw [e]; exact hQ _ hw'
  | succ f ih =>
    intro listed a w' H hl ha hw'
    have h := H w' (hF w' hw')
    refine ⟨fun h0 => ?_, fun i hi => ?_⟩
    · rw [T.ready] at h0
      have e : a = aS := h.1 h0
      rw [e]; exact hQ _ hw'
    · rw [T.ready] at hi
      have hin : i ≠ n := by
        intro e; subst e
        have := (mem_ready.1 hi).1
        rw [hl] at this; cases this
      have h1 := HQ.step T.ds ha H hi w' (hF _ hw')
      rw [T.qOp_iff hin] at h1
      exact wpOp_of_qOp (C := fun w2 => ∃ x : Ext, w2 = over w' x) (over_self w') (fun a2 w2 hw2 hK => ih _ _ _ hK.1 (by rw [getD_set_ne true hin]; exact hl) hK.2 (hE _ _ hw' (Pure.below hw2))) h1

/-- Ahead of the effect. -/
theorem before_eff (T : OneEff ops ops' n N oc v) (hE : ∀ W W', E W → Below W.heap.size W W' → E W') (hF : ∀ W, E W → Fam W) (hP : ∀ W, Pure w W → Fam W) (hQ : ∀ W, E W → Q .normal aS W)
    (hcall : ∀ W, Pure w W → ∃ f args, (execOp aS.eval oc).run P W = .ok (.enter f args) W ∧ Calls P f args W fun e w2 => e = .returned v ∧ E w2) :
    ∀ (f : Nat) (listed : Array Bool) (a : Act) (w' : World), HQ P ops' aS Fam f listed a → listed.size = ops'.size → listed.getD n true = false → a.tmps.size = N → Pure w w' → wpAny P .any ops Q f listed a w' := by
  have hnlt : n < ops'.size := (Array.getElem?_eq_some_iff.1 T.c').1
  intro f
  induction f with
  | zero =>
    intro listed a w' H hs hl ha hw'
    have h := T.done hs (H w' (hP w' hw')).1 n hnlt
    rw [hl] at h; cases h
  | succ f ih =>
    intro listed a w' H hs hl ha hw'
    refine ⟨fun h0 => ?_, fun i hi => ?_⟩
    · rw [T.ready] at h0
      have h := T.done hs h0 n hnlt
      rw [hl] at h; cases h
    · rw [T.ready] at hi
      have h1 := HQ.step T.ds ha H hi w' (hP _ hw')
      by_cases hin : i = n
      · subst hin
        obtain ⟨_, oc', hoc', hall⟩ := mem_ready.1 hi
        rw [T.c'] at hoc'
        have hae : oc'.after = oc.after := by rw [← Option.some.inj hoc']
        have heq : execOp a.eval oc = execOp aS.eval oc := by
          refine execOp_congr oc T.sel (fun x hx => ?_)
          cases x with
          | tmp t =>
            have hk := anyQ_keep (t := t) _ _ _ (H w' (hP _ hw')) (fun j o ho hl hd => by
              obtain ⟨e, he, hb, hon⟩ := T.looks j o t ho hd (List.mem_append_left _ (List.mem_filterMap.2 ⟨.tmp t, by simpa using hx, rfl⟩))
              have h2 := hall e (by rw [hae]; exact he) hb
              rw [hon, getD_both hl] at h2
              cases h2)
            exact hk.symm
          | _ => rfl
        have hwant : Region.wanted oc (yielded ops a.tmps) = true := by simp [Region.wanted, T.bare]
        have hwant' : Region.wanted { oc with op := .move (.const v) } (yielded ops' a.tmps) = true := by simp [Region.wanted, T.bare]
        unfold qOp at h1
        simp only [T.c', hwant', if_true] at h1
        obtain ⟨v', hv', h4⟩ := h1
        have hv := hv' w' (over_self w')
        unfold Oper.quietAt at hv
        rw [BigFrame.run_move (.const v) rfl] at hv
        have hvv : v = v' := hv.2
        subst hvv
        obtain ⟨fn, args, hr, hc⟩ := hcall w' hw'
        unfold wpOp
        simp only [T.c, hwant, if_true]
        refine .inl ?_
        unfold Oper.wp
        rw [heq, hr]
        simp only [Oper.upon]
        refine hc.mono fun e w'' ⟨he, hw''⟩ => ?_
        subst he
        exact after_eff T hE hF hQ f _ _ _ h4.1 (by
          rcases Nat.lt_or_ge i listed.size with hlt | hge
          · simp [hlt]
          · simp [Array.getElem?_eq_none hge]) h4.2 hw''
      · rw [T.qOp_iff hin] at h1
        exact wpOp_of_qOp (C := fun w2 => ∃ x : Ext, w2 = over w' x) (over_self w') (fun a2 w2 hw2 hK => ih _ _ _ hK.1 (by simpa using hs) (by rw [getD_set_ne true hin]; exact hl) hK.2 (hw'.trans hw2)) h1
end

/-- The condition, for the kernel. -/
def effB (l : List Oper) (n N : Nat) (v : Value) (oc : Oper) : Bool :=
  Region.lexB .any (withV n v l).toArray && Region.noSelect l.toArray && oc.guard.isNone
  && decide ((withV n v l).filterMap (·.dst)).Nodup && ((withV n v l).filterMap (·.dst)).all (fun t => decide (t < N))
  && (List.range l.length).all (fun j => ((withV n v l)[j]?).all fun o => o.dst.all fun t => !(oc.looksAt l.toArray).contains t || oc.after.any fun e => Region.binds .any e && e.on == j)
  && (List.range l.length).all (fun j => ((withV n v l)[j]?).all fun o => o.after.all fun e => decide (e.on < j))

theorem oneEff_of {l : List Oper} {n N : Nat} {v : Value} {oc : Oper} (hB : effB l n N v oc = true) (hl : l[n]? = some oc) : OneEff l.toArray (withV n v l).toArray n N oc v ∧ Region.lexB .any (withV n v l).toArray = true := by
  simp only [effB, Bool.and_eq_true, decide_eq_true_eq] at hB
  obtain ⟨⟨⟨⟨⟨⟨h1, h2⟩, h3⟩, h4⟩, h5⟩, h6⟩, h7⟩ := hB
  refine ⟨⟨by simp [withV_length], fun i hi => by simp [withV_same v n l i hi], by simpa using withV_at v n l oc hl, by simpa using hl, by simpa using h3,
    ⟨fun i j oi oj t _ _ hoi hoj => nodup_at h4 i j oi oj t (by simpa using hoi) (by simpa using hoj), fun i o t hi ho hd => ?_⟩, fun j o t ho hd ht => ?_, fun cs b => Region.noSelect_spec h2 n oc cs b (by simpa using hl), fun j o e ho he => ?_⟩, h1⟩
  · have ho' : (withV n v l)[i]? = some o := by simpa using ho
    have := List.all_eq_true.1 h5 t (List.mem_filterMap.2 ⟨o, List.mem_of_getElem? ho', hd⟩)
    simpa using this
  · have ho' : (withV n v l)[j]? = some o := by simpa using ho
    have hj : j < l.length := by
      have := (List.getElem?_eq_some_iff.1 ho').1
      rwa [withV_length] at this
    have h := List.all_eq_true.1 h6 j (List.mem_range.2 hj)
    rw [ho'] at h
    simp only [Option.all_some, hd, Bool.or_eq_true, Bool.not_eq_true'] at h
    rcases h with h | h
    · rw [List.contains_iff_mem.2 ht] at h; cases h
    · obtain ⟨i, hi, hb⟩ := Array.any_eq_true.1 h
      simp only [Bool.and_eq_true, beq_iff_eq] at hb
      exact ⟨_, Array.getElem_mem hi, hb.1, hb.2⟩
  · have ho' : (withV n v l)[j]? = some o := by simpa using ho
    have hj : j < l.length := by
      have := (List.getElem?_eq_some_iff.1 ho').1
      rwa [withV_length] at this
    have h := List.all_eq_true.1 h7 j (List.mem_range.2 hj)
    rw [ho'] at h
    simp only [Option.all_some] at h
    have := Array.all_eq_true_iff_forall_mem.1 h e he
    simpa using this

/-- One call with an effect (number n, value v, a world of E behind it), all else quiet: one walk of the list with v in its place (H: its end aS), for any world ahead of the call or behind it. -/
theorem region_effect {P : Program} {id : Nat} {Q : Exit → Act → World → Prop} {a : Act} {w : World} {l : List Oper} (n : Nat) (v : Value) (E : World → Prop) (aS : Act) {oc : Oper} (hm : P.follows .mixedOrders = true) (hl : l[n]? = some oc) (hB : effB l n a.tmps.size v oc = true)
    (H : ∀ W, (Below w.heap.size w W ∨ E W) → wpQuiet P (withV n v l).toArray (fun w' => ∃ x : Ext, w' = over W x) (fun a' => a' = aS) (withV n v l) a)
    (hE : ∀ W W', E W → Below W.heap.size W W' → E W')
    (hcall : ∀ W, Below w.heap.size w W → ∃ f args, (execOp aS.eval oc).run P W = .ok (.enter f args) W ∧ Calls P f args W fun e w2 => e = .returned v ∧ E w2)
    (hQ : ∀ W, E W → Q .normal aS W) : (Code.region id l.toArray true).wp P Q a w := by
  obtain ⟨T, hlex⟩ := oneEff_of hB hl
  have hnlt : n < l.length := (List.getElem?_eq_some_iff.1 hl).1
  simp only [Region.lexB, Bool.and_eq_true] at hlex
  have HH : HQ P (withV n v l).toArray aS (fun W => Below w.heap.size w W ∨ E W) (withV n v l).length (Array.replicate (withV n v l).toArray.size false) a := by
    intro W hW
    exact wpAnyQ_lex (C := fun w' => ∃ x : Ext, w' = over W x) (md := .any) hlex.1 (withV n v l) 0 _ a (by simp) (by simpa using hlex.2) (H W hW)
  refine wp_region_any hm ?_
  have key := before_eff (Q := Q) (w := w) T hE (fun W h => .inr h) (fun W h => .inl (Pure.below h)) hQ (fun W h => hcall W (Pure.below h)) _ _ _ { w with drawn := w.drawn + 1 } HH (by simp) (by simp [withV_length, hnlt]) rfl ⟨_, drew_over w⟩
  rw [withV_length, T.size] at key
  simpa using key
end Go.Proofs.Ytfgjanponijkhaa

namespace Go.Proofs.Ytfgjanponijkhaa
open Go.RowKit

/-- The effects struck. -/
def withM : List Bool → List Oper → List Oper
  | true :: m, o :: l => { o with op := .move (.const undef) } :: withM m l
  | false :: m, o :: l => o :: withM m l
  | [], l => l
  | _ :: _, [] => []
theorem withM_length : ∀ (m : List Bool) (l : List Oper), (withM m l).length = l.length
  | true :: m, o :: l => by simp [withM, withM_length m l]
  | false :: m, o :: l => by simp [withM, withM_length m l]
  | [], l => by simp [withM]
  | b :: m, [] => by cases b <;> simp [withM]
theorem withM_quiet : ∀ (m : List Bool) (l : List Oper) (i : Nat), m.getD i false = false → (withM m l)[i]? = l[i]?
  | true :: m, o :: l, 0, h => by simp at h
  | true :: m, o :: l, i + 1, h => by simpa [withM] using withM_quiet m l i (by simpa using h)
  | false :: m, o :: l, 0, h => by simp [withM]
  | false :: m, o :: l, i + 1, h => by simpa [withM] using withM_quiet m l i (by simpa using h)
  | [], l, i, h => by simp [withM]
  | b :: m, [], i, h => by cases b <;> simp [withM]
theorem withM_eff : ∀ (m : List Bool) (l : List Oper) (i : Nat) (o : Oper), m.getD i false = true → l[i]? = some o → (withM m l)[i]? = some { o with op := .move (.const undef) }
  | true :: m, o :: l, 0, o', h, h2 => by
    simp at h2
    subst h2; simp [withM]
  | true :: m, o :: l, i + 1, o', h, h2 => by simpa [withM] using withM_eff m l i o' (by simpa using h) (by simpa using h2)
  | false :: m, o :: l, 0, o', h, h2 => by simp at h
  | false :: m, o :: l, i + 1, o', h, h2 => by simpa [withM] using withM_eff m l i o' (by simpa using h) (by simpa using h2)
  | [], l, i, o', h, h2 => by simp at h
  | b :: m, [], i, o', h, h2 => by simp at h2

def dstAt (l : List Oper) (e : Nat) : Option Tmp := (l[e]?).bind (·.dst)
/-- The frame with the values of some effects. -/
def fillD (l : List Oper) (ρ : Nat → Option Value) : List Nat → Act → Act
  | [], a => a
  | d :: ds, a => fillD l ρ ds (a.put (dstAt l d) ((ρ d).getD undef))
def upd (ρ : Nat → Option Value) (e : Nat) (v : Value) : Nat → Option Value := fun k => if k = e then some v else ρ k
/-- What an effect leaves. -/
def EffQ (ρ : Nat → Option Value) (af : Act) (R : (Nat → Option Value) → World → Prop) (e : Nat) (o : Oper) : Exit → Act → World → Prop :=
  fun x a' w' => x = .normal ∧ ∃ v, a' = af.put o.dst v ∧ R (upd ρ e v) w'
/-- What has been done leans on what has been done. -/
def Closed (all : List Nat) (deps : Nat → List Nat) (ρ : Nat → Option Value) : Prop := ∀ j, j ∈ all → (ρ j).isSome = true → ∀ d, d ∈ deps j → (ρ d).isSome = true
/-- All effects. -/
def EffAll (P : Program) (l : List Oper) (all : List Nat) (deps : Nat → List Nat) (aS : Act) (R : (Nat → Option Value) → World → Prop) : List Nat → Prop
  | [] => True
  | e :: es => (∀ o, l[e]? = some o → ∀ ρ w, R ρ w → Closed all deps ρ → ρ e = none → (∀ d, d ∈ deps e → (ρ d).isSome = true) → ∀ af, af = fillD l ρ (deps e) aS → wpList P l.toArray (EffQ ρ af R e o) [o] af w) ∧ EffAll P l all deps aS R es
theorem EffAll.at {P : Program} {l : List Oper} {all : List Nat} {deps : Nat → List Nat} {aS : Act} {R : (Nat → Option Value) → World → Prop} : ∀ {es : List Nat}, EffAll P l all deps aS R es → ∀ e, e ∈ es →
    ∀ o, l[e]? = some o → ∀ ρ w, R ρ w → Closed all deps ρ → ρ e = none → (∀ d, d ∈ deps e → (ρ d).isSome = true) → ∀ af, af = fillD l ρ (deps e) aS → wpList P l.toArray (EffQ ρ af R e o) [o] af w
  | [], _, e, h => by simp at h
  | e0 :: es, H, e, h => by
    rcases List.mem_cons.1 h with h1 | h1
    · subst h1; exact H.1
    · exact EffAll.at H.2 e h1

theorem put_defers (a : Act) (d : Option Tmp) (v : Value) : (a.put d v).defers = a.defers := by cases d <;> rfl

section
variable {l : List Oper} {ρ : Nat → Option Value}
theorem fillD_size : ∀ (ds : List Nat) (a : Act), (fillD l ρ ds a).tmps.size = a.tmps.size
  | [], a => rfl
  | d :: ds, a => by show (fillD l ρ ds _).tmps.size = _; rw [fillD_size ds, put_size]
theorem fillD_defers : ∀ (ds : List Nat) (a : Act), (fillD l ρ ds a).defers = a.defers
  | [], a => rfl
  | d :: ds, a => by show (fillD l ρ ds _).defers = _; rw [fillD_defers ds, put_defers]
theorem fillD_other {t : Tmp} : ∀ (ds : List Nat) (a : Act), (∀ d, d ∈ ds → dstAt l d ≠ some t) → (fillD l ρ ds a).tmps.getD t undef = a.tmps.getD t undef
  | [], a, _ => rfl
  | d :: ds, a, h => by
    show (fillD l ρ ds _).tmps.getD t undef = _
    rw [fillD_other ds _ (fun d' hd => h d' (by simp [hd])), put_getD_ne _ _ _ _ (h d (by simp))]
theorem fillD_at {t : Tmp} {d : Nat} : ∀ (ds : List Nat) (a : Act), d ∈ ds → dstAt l d = some t → t < a.tmps.size → (∀ d', dstAt l d' = some t → d' = d) → (fillD l ρ ds a).tmps.getD t undef = (ρ d).getD undef
  | [], a, h, _, _, _ => by simp at h
  | d0 :: ds, a, h, ht, hlt, hu => by
    show (fillD l ρ ds _).tmps.getD t undef = _
    by_cases hd : d ∈ ds
    · exact fillD_at ds _ hd ht (by rw [put_size]; exact hlt) hu
    · have h0 : d = d0 := by
        rcases List.mem_cons.1 h with h1 | h1
        · exact h1
        · exact absurd h1 hd
      subst h0
      rw [fillD_other ds _ (fun d' hd' e => hd (by rw [← hu d' e]; exact hd')), ht, put_getD_eq _ _ _ hlt]
end

/-- What the text has to keep. -/
structure Effs (l : List Oper) (m : List Bool) (es : List Nat) (deps : Nat → List Nat) (N : Nat) : Prop where
  es : ∀ e, e ∈ es ↔ (m.getD e false = true ∧ e < l.length)
  bare : ∀ (i : Nat) (o : Oper), l[i]? = some o → o.guard = none
  one : ∀ (i j : Nat) (oi oj : Oper) (t : Tmp), l[i]? = some oi → l[j]? = some oj → oi.dst = some t → oj.dst = some t → i = j
  lt : ∀ (i : Nat) (o : Oper) (t : Tmp), l[i]? = some o → o.dst = some t → t < N
  sel : ∀ (i : Nat) (o : Oper), l[i]? = some o → ∀ cs b, o.op ≠ .select cs b
  low : ∀ (i : Nat) (o : Oper) (e : Edge), l[i]? = some o → e ∈ o.after → Region.binds .any e = true → e.on < i
  quiet : ∀ (i : Nat) (oi : Oper) (j : Nat) (oj : Oper) (t : Tmp), m.getD i false = false → l[i]? = some oi → m.getD j false = true → l[j]? = some oj → oj.dst = some t → t ∈ oi.looksAt l.toArray → ∃ x, x ∈ oj.after ∧ Region.binds .any x = true ∧ x.on = i
  waits : ∀ (i : Nat) (oi : Oper) (j : Nat) (oj : Oper) (t : Tmp), m.getD i false = true → l[i]? = some oi → l[j]? = some oj → oj.dst = some t → t ∈ oi.looksAt l.toArray → (∃ e, e ∈ oi.after ∧ Region.binds .any e = true ∧ e.on = j) ∧ (m.getD j false = true → j ∈ deps i)
  deps : ∀ (i : Nat) (oi : Oper) (d : Nat), m.getD i false = true → l[i]? = some oi → d ∈ deps i → m.getD d false = true ∧ ∃ e, e ∈ oi.after ∧ Region.binds .any e = true ∧ e.on = d

section
variable {P : Program} {l : List Oper} {m : List Bool} {es : List Nat} {deps : Nat → List Nat} {N : Nat} {Q : Exit → Act → World → Prop} {aS : Act} {R : (Nat → Option Value) → World → Prop} {Inv : World → Prop}

theorem Effs.same (T : Effs l m es deps N) {i : Nat} (h : m.getD i false = false) : (withM m l).toArray[i]? = l.toArray[i]? := by simpa using withM_quiet m l i h
theorem Effs.dst (T : Effs l m es deps N) (i : Nat) : (((withM m l).toArray[i]?).bind (·.dst)) = ((l.toArray[i]?).bind (·.dst)) := by
  cases h : m.getD i false with
  | false => rw [T.same h]
  | true =>
    cases ho : l[i]? with
    | none =>
      have h1 : (withM m l)[i]? = none := by
        rw [List.getElem?_eq_none_iff] at ho ⊢
        rw [withM_length]; exact ho
      simp [ho, h1]
    | some o => simp [ho, withM_eff m l i o h ho]
theorem Effs.aft (T : Effs l m es deps N) (i : Nat) : (((withM m l).toArray[i]?).map (·.after)) = ((l.toArray[i]?).map (·.after)) := by
  cases h : m.getD i false with
  | false => rw [T.same h]
  | true =>
    cases ho : l[i]? with
    | none =>
      have h1 : (withM m l)[i]? = none := by
        rw [List.getElem?_eq_none_iff] at ho ⊢
        rw [withM_length]; exact ho
      simp [ho, h1]
    | some o => simp [ho, withM_eff m l i o h ho]
theorem Effs.size (T : Effs l m es deps N) : (withM m l).toArray.size = l.length := by simp [withM_length]
theorem Effs.ready (T : Effs l m es deps N) (Z : Array Bool) : Region.ready .any l.toArray Z = Region.ready .any (withM m l).toArray Z := by
  unfold Region.ready
  rw [T.size]
  have hs : l.toArray.size = l.length := by simp
  rw [hs]
  refine List.filter_congr (fun j _ => ?_)
  have h := T.aft j
  have e1 : ∀ (x : Option Oper), (x.map fun o => o.after.all fun e => !Region.binds .any e || Z.getD e.on false) = (x.map (·.after)).map (fun a => a.all fun e => !Region.binds .any e || Z.getD e.on false) := by intro x; cases x <;> rfl
  rw [e1, e1, h]
theorem Effs.back (T : Effs l m es deps N) {i : Nat} {o' : Oper} (h : (withM m l).toArray[i]? = some o') : ∃ o, l[i]? = some o ∧ o.dst = o'.dst ∧ o.after = o'.after := by
  have h1 := T.dst i
  have h2 := T.aft i
  rw [h] at h1 h2
  cases ho : l[i]? with
  | none => simp [ho] at h2
  | some o => exact ⟨o, rfl, by simpa [ho] using h1.symm, by simpa [ho] using h2.symm⟩
theorem Effs.dsts (T : Effs l m es deps N) : Dsts (withM m l).toArray (withM m l).toArray.size N :=
  ⟨fun i j oi oj t _ _ hi hj h1 h2 => by
    obtain ⟨pi, gi, di, _⟩ := T.back hi
    obtain ⟨pj, gj, dj, _⟩ := T.back hj
    exact T.one i j pi pj t gi gj (by rw [di]; exact h1) (by rw [dj]; exact h2),
  fun i o t _ hi h1 => by
    obtain ⟨pi, gi, di, _⟩ := T.back hi
    exact T.lt i pi t gi (by rw [di]; exact h1)⟩

theorem Effs.done (T : Effs l m es deps N) {listed : Array Bool} (hs : listed.size = l.length) (h0 : Region.ready .any l.toArray listed = []) : ∀ j, j < l.length → listed.getD j true = true := by
  intro j
  induction j using Nat.strongRecOn with
  | _ j ih =>
    intro hj
    cases hl : listed.getD j true with
    | true => rfl
    | false =>
      have : j ∈ Region.ready .any l.toArray listed := by
        refine mem_ready.2 ⟨hl, l[j], by simp [hj], fun e he hb => ?_⟩
        have hlow := T.low j _ e (List.getElem?_eq_getElem hj) he hb
        cases hx : listed.getD e.on false with
        | true => rfl
        | false =>
          have h1 := ih e.on hlow (by omega)
          have h2 := getD_in (by omega : e.on < listed.size) hx
          rw [h1] at h2; cases h2
      rw [h0] at this; cases this

/-- The twin's frame b and the frame a. -/
structure Beside (l : List Oper) (m : List Bool) (ρ : Nat → Option Value) (N : Nat) (b a : Act) : Prop where
  sb : b.tmps.size = N
  sa : a.tmps.size = N
  df : a.defers = b.defers
  q : ∀ t, (∀ (e : Nat) (oe : Oper), m.getD e false = true → l[e]? = some oe → (ρ e).isSome = true → oe.dst ≠ some t) → a.tmps.getD t undef = b.tmps.getD t undef
  e : ∀ (e : Nat) (oe : Oper) (v : Value) (t : Tmp), m.getD e false = true → l[e]? = some oe → ρ e = some v → oe.dst = some t → a.tmps.getD t undef = v

theorem Beside.quiet (T : Effs l m es deps N) {ρ : Nat → Option Value} {b a : Act} (h : Beside l m ρ N b a) {i : Nat} {oi : Oper} (hi : m.getD i false = false) (hoi : l[i]? = some oi) (v : Value) : Beside l m ρ N (b.put oi.dst v) (a.put oi.dst v) := by
  refine ⟨by rw [put_size]; exact h.sb, by rw [put_size]; exact h.sa, by rw [put_defers, put_defers]; exact h.df, fun t ht => ?_, fun e oe u t he hoe hu ht => ?_⟩
  · by_cases hd : oi.dst = some t
    · have hlt := T.lt i oi t hoi hd
      rw [hd, put_getD_eq _ _ _ (by rw [h.sa]; exact hlt), put_getD_eq _ _ _ (by rw [h.sb]; exact hlt)]
    · rw [put_getD_ne _ _ _ _ hd, put_getD_ne _ _ _ _ hd]; exact h.q t ht
  · have hd : oi.dst ≠ some t := fun hd => by
      have := T.one i e oi oe t hoi hoe hd ht
      subst this
      rw [hi] at he; cases he
    rw [put_getD_ne _ _ _ _ hd]
    exact h.e e oe u t he hoe hu ht
theorem Beside.eff (T : Effs l m es deps N) {ρ : Nat → Option Value} {b a : Act} (h : Beside l m ρ N b a) {i : Nat} {oi : Oper} (hi : m.getD i false = true) (hoi : l[i]? = some oi) (v v2 : Value) (hv : ∀ t, oi.dst = some t → v = v2) : Beside l m (upd ρ i v2) N (b.put oi.dst undef) (a.put oi.dst v) := by
  refine ⟨by rw [put_size]; exact h.sb, by rw [put_size]; exact h.sa, by rw [put_defers, put_defers]; exact h.df, fun t ht => ?_, fun e oe u t he hoe hu ht => ?_⟩
  · have hd := ht i oi hi hoi (by simp [upd])
    rw [put_getD_ne _ _ _ _ hd, put_getD_ne _ _ _ _ hd]
    refine h.q t (fun e oe he hoe hs => ht e oe he hoe ?_)
    unfold upd
    split
    · rfl
    · exact hs
  · by_cases hei : e = i
    · subst hei
      have hoo : oe = oi := Option.some.inj (hoe.symm.trans hoi)
      subst hoo
      have hlt := T.lt e oe t hoi ht
      have hu2 : v2 = u := by simpa [upd] using hu
      rw [ht, put_getD_eq _ _ _ (by rw [h.sa]; exact hlt), ← hu2]
      exact hv t ht
    · have hd : oi.dst ≠ some t := fun hd => hei (T.one e i oe oi t hoe hoi ht hd)
      rw [put_getD_ne _ _ _ _ hd]
      exact h.e e oe u t he hoe (by simpa [upd, hei] using hu) ht

theorem act_ext {a b : Act} (hs : a.tmps.size = b.tmps.size) (h : ∀ t, a.tmps.getD t undef = b.tmps.getD t undef) (hd : a.defers = b.defers) : a = b := by
  obtain ⟨at', ad⟩ := a
  obtain ⟨bt, bd⟩ := b
  simp only at hs h hd
  subst hd
  congr 1
  apply Array.ext hs
  intro i h1 h2
  have := h i
  simpa [h1, h2] using this

/-- All has been done: the frame. -/
theorem Beside.last (T : Effs l m es deps N) {ρ : Nat → Option Value} {a : Act} (h : Beside l m ρ N aS a) (hall : ∀ e, e ∈ es → (ρ e).isSome = true) : a = fillD l ρ es aS := by
  refine act_ext (by rw [fillD_size, h.sa, h.sb]) (fun t => ?_) (by rw [fillD_defers]; exact h.df)
  by_cases hx : ∃ (e : Nat) (oe : Oper), m.getD e false = true ∧ l[e]? = some oe ∧ oe.dst = some t
  · obtain ⟨e, oe, he, hoe, ht⟩ := hx
    have hlt : e < l.length := (List.getElem?_eq_some_iff.1 hoe).1
    have hes : e ∈ es := (T.es e).2 ⟨he, hlt⟩
    obtain ⟨v, hv⟩ := Option.isSome_iff_exists.1 (hall e hes)
    rw [h.e e oe v t he hoe hv ht, fillD_at (d := e) es aS hes (by simp [dstAt, hoe, ht]) (by rw [h.sb]; exact T.lt e oe t hoe ht) (fun d' hd' => by
      unfold dstAt at hd'
      cases hod : l[d']? with
      | none => simp [hod] at hd'
      | some od => exact T.one d' e od oe t hod hoe (by simpa [hod] using hd') ht), hv]
    rfl
  · have hno : ∀ (e : Nat) (oe : Oper), m.getD e false = true → l[e]? = some oe → oe.dst ≠ some t := fun e oe he hoe ht => hx ⟨e, oe, he, hoe, ht⟩
    rw [h.q t (fun e oe he hoe _ => hno e oe he hoe), fillD_other es aS (fun d hd ht => by
      have h1 := (T.es d).1 hd
      have h2 : l[d]? = some l[d] := List.getElem?_eq_getElem h1.2
      exact hno d _ h1.1 h2 (by simpa [dstAt, h2] using ht))]

/-- What an effect looks at has been done. -/
theorem Effs.operand (T : Effs l m es deps N) {ρ : Nat → Option Value} {listed : Array Bool} {b a : Act} (hB : Beside l m ρ N b a)
    (hk : ∀ t, (∀ (j : Nat) (o : Oper), (withM m l).toArray[j]? = some o → listed.getD j true = false → o.dst ≠ some t) → aS.tmps.getD t undef = b.tmps.getD t undef) (haS : aS.tmps.size = N)
    {e : Nat} {oe : Oper} (he : m.getD e false = true) (hoe : l[e]? = some oe) (hall : ∀ x, x ∈ oe.after → Region.binds .any x = true → listed.getD x.on false = true) (hρ : ∀ d, d ∈ deps e → (ρ d).isSome = true)
    {t : Tmp} (ht : t ∈ oe.looksAt l.toArray) : a.tmps.getD t undef = (fillD l ρ (deps e) aS).tmps.getD t undef := by
  have hdd : ∀ d, d ∈ deps e → dstAt l d = some t → ∃ od, l[d]? = some od ∧ od.dst = some t := by
    intro d _ h
    unfold dstAt at h
    cases hod : l[d]? with
    | none => simp [hod] at h
    | some od => exact ⟨od, rfl, by simpa [hod] using h⟩
  by_cases hx : ∃ (j : Nat) (oj : Oper), l[j]? = some oj ∧ oj.dst = some t
  · obtain ⟨j, oj, hoj, hd⟩ := hx
    obtain ⟨⟨x, hxa, hb, hon⟩, hdep⟩ := T.waits e oe j oj t he hoe hoj hd ht
    have hl : listed.getD j false = true := by rw [← hon]; exact hall x hxa hb
    cases hm : m.getD j false with
    | true =>
      have hj := hdep hm
      obtain ⟨v, hv⟩ := Option.isSome_iff_exists.1 (hρ j hj)
      rw [hB.e j oj v t hm hoj hv hd, fillD_at (d := j) (deps e) aS hj (by simp [dstAt, hoj, hd]) (by rw [haS]; exact T.lt j oj t hoj hd) (fun d' hd' => by
        unfold dstAt at hd'
        cases hod : l[d']? with
        | none => simp [hod] at hd'
        | some od => exact T.one d' j od oj t hod hoj (by simpa [hod] using hd') hd), hv]
      rfl
    | false =>
      rw [hB.q t (fun e' oe' he' hoe' _ h => by
        have := T.one e' j oe' oj t hoe' hoj h hd
        subst this
        rw [hm] at he'; cases he'), fillD_other (deps e) aS (fun d hd' h => by
        obtain ⟨od, hod, hdt⟩ := hdd d hd' h
        have := T.one d j od oj t hod hoj hdt hd
        subst this
        have := (T.deps e oe d he hoe hd').1
        rw [hm] at this; cases this)]
      exact (hk t (fun i o hi hl' hd' => by
        obtain ⟨oi, hoi, hdi, _⟩ := T.back hi
        have := T.one i j oi oj t hoi hoj (by rw [hdi]; exact hd') hd
        subst this
        rw [getD_both hl'] at hl; cases hl)).symm
  · have hno : ∀ (j : Nat) (oj : Oper), l[j]? = some oj → oj.dst ≠ some t := fun j oj hoj hd => hx ⟨j, oj, hoj, hd⟩
    rw [hB.q t (fun e' oe' _ hoe' _ => hno e' oe' hoe'), fillD_other (deps e) aS (fun d hd' h => by
      obtain ⟨od, hod, hdt⟩ := hdd d hd' h
      exact hno d od hod hdt)]
    exact (hk t (fun i o hi _ hd' => by
      obtain ⟨oi, hoi, hdi, _⟩ := T.back hi
      exact hno i oi hoi (by rw [hdi]; exact hd'))).symm

theorem getD_true {listed : Array Bool} {i : Nat} (h : listed.getD i false = true) : listed.getD i true = true := by
  cases h2 : listed.getD i true with
  | true => rfl
  | false => rw [getD_both h2] at h; cases h

theorem replicate_getD (n j : Nat) : (Array.replicate n false).getD j false = false := by
  rw [Array.getD_eq_getD_getElem?, Array.getElem?_replicate]
  split <;> rfl

theorem effs_run (T : Effs l m es deps N) (haS : aS.tmps.size = N) (hI : ∀ ρ w, R ρ w → Inv w) (hR : ∀ ρ w w', R ρ w → Below w.heap.size w w' → R ρ w') (hE : EffAll P l es deps aS R es)
    (hQ : ∀ ρ w, R ρ w → (∀ e, e ∈ es → (ρ e).isSome = true) → Q .normal (fillD l ρ es aS) w) :
    ∀ (f : Nat) (listed : Array Bool) (b a : Act) (w' : World) (ρ : Nat → Option Value), HQ P (withM m l).toArray aS Inv f listed b → listed.size = l.length → (∀ e, e ∈ es → (ρ e).isSome = listed.getD e true) →
      Beside l m ρ N b a → Closed es deps ρ → (∀ (j : Nat) (oj : Oper), l[j]? = some oj → listed.getD j false = true → ∀ x, x ∈ oj.after → Region.binds .any x = true → listed.getD x.on false = true) → R ρ w' → wpAny P .any l.toArray Q f listed a w' := by
  have fin : ∀ (listed : Array Bool) (b a : Act) (w' : World) (ρ : Nat → Option Value), listed.size = l.length → (∀ e, e ∈ es → (ρ e).isSome = listed.getD e true) → Beside l m ρ N b a → R ρ w' → Region.ready .any l.toArray listed = [] → b = aS → Q .normal a w' := by
    intro listed b a w' ρ hs hρ hB hw h0 e
    subst e
    have hdone := T.done hs h0
    have hall : ∀ e, e ∈ es → (ρ e).isSome = true := fun e he => by rw [hρ e he]; exact hdone e ((T.es e).1 he).2
    rw [hB.last T hall]
    exact hQ ρ w' hw hall
  intro f
  induction f with
  | zero =>
    intro listed b a w' ρ H hs hρ hB hcl hcw hw
    have h := H w' (hI _ _ hw)
    have h0 : Region.ready .any l.toArray listed = [] := by rw [T.ready]; exact h.1
    exact ⟨h0, fin listed b a w' ρ hs hρ hB hw h0 h.2⟩
  | succ f ih =>
    intro listed b a w' ρ H hs hρ hB hcl hcw hw
    refine ⟨fun h0 => fin listed b a w' ρ hs hρ hB hw h0 ((H w' (hI _ _ hw)).1 (by rw [← T.ready]; exact h0)), fun i hi => ?_⟩
    rw [T.ready] at hi
    have h1 := HQ.step T.dsts hB.sb H hi w' (hI _ _ hw)
    obtain ⟨hun, o', ho', hall⟩ := mem_ready.1 hi
    obtain ⟨oi, hoi, hdst, haft⟩ := T.back ho'
    have hil : i < l.length := (List.getElem?_eq_some_iff.1 hoi).1
    have hl : l.toArray[i]? = some oi := by simpa using hoi
    have hwant : ∀ y, Region.wanted oi y = true := fun y => by simp [Region.wanted, T.bare i oi hoi]
    have hcw' : ∀ (i : Nat) (oi : Oper), l[i]? = some oi → (∀ x, x ∈ oi.after → Region.binds .any x = true → listed.getD x.on false = true) → ∀ (j : Nat) (oj : Oper), l[j]? = some oj → (listed.setIfInBounds i true).getD j false = true → ∀ x, x ∈ oj.after → Region.binds .any x = true → (listed.setIfInBounds i true).getD x.on false = true := by
      intro i oi hoi hai j oj hoj hj x hx hb
      have grow : ∀ k, listed.getD k false = true → (listed.setIfInBounds i true).getD k false = true := by
        intro k hk
        by_cases hki : k = i
        · subst hki
          have : k < listed.size := by
            rcases Nat.lt_or_ge k listed.size with h | h
            · exact h
            · simp [h] at hk
          simp [this]
        · rw [getD_set_ne false (Ne.symm hki)]; exact hk
      by_cases hji : j = i
      · subst hji
        have e := Option.some.inj (hoj.symm.trans hoi)
        subst e
        exact grow _ (hai x hx hb)
      · rw [getD_set_ne false (Ne.symm hji)] at hj
        exact grow _ (hcw j oj hoj hj x hx hb)
    cases hm : m.getD i false with
    | false =>
      have ho2 : (withM m l).toArray[i]? = some oi := by rw [T.same hm]; exact hl
      unfold qOp at h1
      simp only [ho2, hwant, if_true] at h1
      obtain ⟨v, hv, hH, hsz⟩ := h1
      have heq : execOp a.eval oi = execOp b.eval oi := by
        refine execOp_congr oi (T.sel i oi hoi) (fun x hx => ?_)
        cases x with
        | tmp t => exact hB.q t (fun e oe he hoe hsome hd => by
            obtain ⟨x, hxa, hxb, hxo⟩ := T.quiet i oi e oe t hm hoi he hoe hd (List.mem_append_left _ (List.mem_filterMap.2 ⟨.tmp t, by simpa using hx, rfl⟩))
            have hle := hρ e ((T.es e).2 ⟨he, (List.getElem?_eq_some_iff.1 hoe).1⟩)
            rw [hsome] at hle
            have hle2 : listed.getD e false = true := by
              cases h2 : listed.getD e false with
              | true => rfl
              | false => rw [getD_in (by rw [hs]; exact (List.getElem?_eq_some_iff.1 hoe).1) h2] at hle; cases hle
            have hli := getD_true (hcw e oe hoe hle2 x hxa hxb)
            rw [hxo, hun] at hli; cases hli)
        | _ => rfl
      unfold wpOp
      simp only [hl, hwant, if_true]
      refine .inl (Oper.wp_of_quiet (C := fun w2 => ∃ x : Ext, w2 = over w' x) (K := fun a' => a' = a.put oi.dst v) (over_self w') (fun a2 w2 hw2 e => ?_) ⟨v, fun w2 hw2 => ?_, rfl⟩)
      · subst e
        refine ih _ _ _ _ _ hH (by simpa using hs) (fun e he => ?_) (hB.quiet T hm hoi v) hcl (hcw' i oi hoi (fun x hx hb => hall x (by rw [← haft]; exact hx) hb)) (hR _ _ _ hw (Pure.below hw2))
        have hei : i ≠ e := fun h => by
          subst h
          have := ((T.es i).1 he).1
          rw [hm] at this; cases this
        rw [getD_set_ne true hei]; exact hρ e he
      · have := hv w2 hw2
        unfold Oper.quietAt at this ⊢
        rw [heq]; exact this
    | true =>
      have he : i ∈ es := (T.es i).2 ⟨hm, hil⟩
      have hnone : ρ i = none := by
        have := hρ i he
        rw [hun] at this
        simpa using this
      have hdeps : ∀ d, d ∈ deps i → (ρ d).isSome = true := by
        intro d hd
        obtain ⟨hmd, x, hx, hb, hon⟩ := T.deps i oi d hm hoi hd
        have hlow := T.low i oi x hoi hx hb
        have hld : listed.getD d false = true := by rw [← hon]; exact hall x (by rw [← haft]; exact hx) hb
        rw [hρ d ((T.es d).2 ⟨hmd, by omega⟩)]
        exact getD_true hld
      have hob := hE.at i he oi hoi ρ w' hw hcl hnone hdeps _ rfl
      have ho2 : (withM m l).toArray[i]? = some { oi with op := .move (.const undef) } := by simpa using withM_eff m l i oi hm hoi
      have hwant2 : ∀ y, Region.wanted { oi with op := .move (.const undef) } y = true := fun y => by simp [Region.wanted, T.bare i oi hoi]
      unfold qOp at h1
      simp only [ho2, hwant2, if_true] at h1
      obtain ⟨v0, hv0, hH, hsz⟩ := h1
      have hu : undef = v0 := by
        have := hv0 w' (over_self w')
        unfold Oper.quietAt at this
        rw [BigFrame.run_move (.const undef) rfl] at this
        exact this.2
      subst hu
      have hall2 : ∀ x, x ∈ oi.after → Region.binds .any x = true → listed.getD x.on false = true := fun x hx hb => hall x (by rw [← haft]; exact hx) hb
      have heq : execOp a.eval oi = execOp (fillD l ρ (deps i) aS).eval oi := by
        refine execOp_congr oi (T.sel i oi hoi) (fun x hx => ?_)
        cases x with
        | tmp t => exact T.operand hB (fun t ht => anyQ_keep _ _ _ (H w' (hI _ _ hw)) ht) haS hm hoi hall2 hdeps (List.mem_append_left _ (List.mem_filterMap.2 ⟨.tmp t, by simpa using hx, rfl⟩))
        | _ => rfl
      unfold wpList at hob
      rw [if_pos (hwant _)] at hob
      rcases hob with hob | ⟨_, ⟨a2, w2, hx, _⟩⟩
      · have go : ∀ v w2, EffQ ρ (fillD l ρ (deps i) aS) R i oi .normal ((fillD l ρ (deps i) aS).put oi.dst v) w2 → wpAny P .any l.toArray Q f (listed.setIfInBounds i true) (a.put oi.dst v) w2 := by
          rintro v w2 ⟨_, v2, hput, hR2⟩
          have hvv : ∀ t, oi.dst = some t → v = v2 := fun t ht => by
            have hlt : t < (fillD l ρ (deps i) aS).tmps.size := by rw [fillD_size, haS]; exact T.lt i oi t hoi ht
            have h := congrArg (fun A => A.tmps.getD t undef) hput
            simp only [ht] at h
            rwa [put_getD_eq _ _ _ hlt, put_getD_eq _ _ _ hlt] at h
          have hmono : ∀ k, (ρ k).isSome = true → (upd ρ i v2 k).isSome = true := fun k hk => by
            unfold upd
            split
            · rfl
            · exact hk
          refine ih _ _ _ _ _ hH (by simpa using hs) (fun e he' => ?_) (hB.eff T hm hoi v v2 hvv) (fun j hj hjs d hd => hmono d ?_) (hcw' i oi hoi hall2) hR2
          rotate_left
          · by_cases hji : j = i
            · subst hji; exact hdeps d hd
            · exact hcl j hj (by simpa [upd, hji] using hjs) d hd
          by_cases hei : e = i
          · subst hei
            simp [upd, hs, hil]
          · rw [getD_set_ne true (Ne.symm hei)]
            simpa [upd, hei] using hρ e he'
        unfold wpOp
        simp only [hl, hwant, if_true]
        refine .inl ?_
        unfold Oper.wp at hob ⊢
        rw [heq]
        generalize (execOp (fillD l ρ (deps i) aS).eval oi).run P w' = r at hob ⊢
        cases r with
        | ok n w2 =>
          cases n with
          | value v => exact go v w2 hob
          | skip => exact go undef w2 hob
          | defer d =>
            obtain ⟨_, v2, hput, _⟩ := hob
            have := congrArg Act.defers hput
            simp [put_defers] at this
          | enter fn args =>
            simp only [Oper.upon] at hob ⊢
            refine hob.mono fun e w3 h => ?_
            cases e with
            | returned v => exact go v w3 h
            | panicked c => obtain ⟨hx, _⟩ := h; cases hx
            | outgrown => obtain ⟨a3, w4, hx, _⟩ := h; cases hx
          | row row args => exact hob.mono fun v w3 h => go v w3 h
          | _ => exact hob.elim
        | halt x w2 =>
          cases x with
          | panic v => obtain ⟨hx, _⟩ := hob; cases hx
          | _ => exact hob.elim
      · cases hx
end

/-- The condition, for the kernel. -/
def effsB (l : List Oper) (m : List Bool) (es : List Nat) (deps : Nat → List Nat) (N : Nat) : Bool :=
  (es == (List.range l.length).filter fun e => m.getD e false) && l.all (fun o => o.guard.isNone)
  && decide (l.filterMap (·.dst)).Nodup && (l.filterMap (·.dst)).all (fun t => decide (t < N)) && Region.noSelect l.toArray
  && (List.range l.length).all (fun i => (l[i]?).all fun o => o.after.all fun e => !Region.binds .any e || decide (e.on < i))
  && (List.range l.length).all (fun i => (l[i]?).all fun oi => (List.range l.length).all fun j => (l[j]?).all fun oj => oj.dst.all fun t => !(oi.looksAt l.toArray).contains t ||
      (if m.getD i false then (oi.after.any fun e => Region.binds .any e && e.on == j) && (!m.getD j false || (deps i).contains j) else !m.getD j false || oj.after.any fun e => Region.binds .any e && e.on == i))
  && (List.range l.length).all (fun i => (l[i]?).all fun oi => !m.getD i false || (deps i).all fun d => m.getD d false && oi.after.any fun e => Region.binds .any e && e.on == d)
  && Region.lexB .any (withM m l).toArray

theorem effs_of {l : List Oper} {m : List Bool} {es : List Nat} {deps : Nat → List Nat} {N : Nat} (hB : effsB l m es deps N = true) : Effs l m es deps N ∧ Region.lexB .any (withM m l).toArray = true := by
  simp only [effsB, Bool.and_eq_true, decide_eq_true_eq, beq_iff_eq] at hB
  obtain ⟨⟨⟨⟨⟨⟨⟨⟨h1, h2⟩, h3⟩, h4⟩, h5⟩, h6⟩, h7⟩, h8⟩, h9⟩ := hB
  have hlt : ∀ (i : Nat) (o : Oper), l[i]? = some o → i < l.length := fun i o h => (List.getElem?_eq_some_iff.1 h).1
  have h7' : ∀ (i : Nat) (oi : Oper) (j : Nat) (oj : Oper) (t : Tmp), l[i]? = some oi → l[j]? = some oj → oj.dst = some t → t ∈ oi.looksAt l.toArray →
      (if m.getD i false then (oi.after.any fun e => Region.binds .any e && e.on == j) && (!m.getD j false || (deps i).contains j) else !m.getD j false || oj.after.any fun e => Region.binds .any e && e.on == i) = true := by
    intro i oi j oj t hoi hoj hd ht
    have h := List.all_eq_true.1 h7 i (List.mem_range.2 (hlt i oi hoi))
    rw [hoi] at h
    simp only [Option.all_some] at h
    have h := List.all_eq_true.1 h j (List.mem_range.2 (hlt j oj hoj))
    rw [hoj] at h
    simp only [Option.all_some, hd, Bool.or_eq_true, Bool.not_eq_true'] at h
    rcases h with h | h
    · rw [List.contains_iff_mem.2 ht] at h; cases h
    · exact h
  refine ⟨⟨fun e => ?_, fun i o ho => ?_, fun i j oi oj t hoi hoj hd hd' => nodup_at h3 i j oi oj t hoi hoj hd hd', fun i o t ho hd => ?_, fun i o ho cs b => Region.noSelect_spec h5 i o cs b (by simpa using ho), fun i o e ho he hbe => ?_,
    fun i oi j oj t hm hoi hmj hoj hd ht => ?_, fun i oi j oj t hm hoi hoj hd ht => ?_, fun i oi d hm hoi hd => ?_⟩, h9⟩
  · rw [h1]; simp [List.mem_filter, and_comm]
  · have := List.all_eq_true.1 h2 o (List.mem_of_getElem? ho)
    simpa using this
  · have := List.all_eq_true.1 h4 t (List.mem_filterMap.2 ⟨o, List.mem_of_getElem? ho, hd⟩)
    simpa using this
  · have h := List.all_eq_true.1 h6 i (List.mem_range.2 (hlt i o ho))
    rw [ho] at h
    simp only [Option.all_some] at h
    have := Array.all_eq_true_iff_forall_mem.1 h e he
    rw [hbe] at this
    simpa using this
  · have h := h7' i oi j oj t hoi hoj hd ht
    rw [hm, hmj] at h
    simp only [Bool.false_eq_true, if_false, Bool.not_true, Bool.false_or] at h
    obtain ⟨k, hk, hb⟩ := Array.any_eq_true.1 h
    simp only [Bool.and_eq_true, beq_iff_eq] at hb
    exact ⟨_, Array.getElem_mem hk, hb.1, hb.2⟩
  · have h := h7' i oi j oj t hoi hoj hd ht
    rw [hm] at h
    simp only [if_true, Bool.and_eq_true, Bool.or_eq_true, Bool.not_eq_true'] at h
    refine ⟨?_, fun hj => ?_⟩
    · obtain ⟨k, hk, hb⟩ := Array.any_eq_true.1 h.1
      simp only [Bool.and_eq_true, beq_iff_eq] at hb
      exact ⟨_, Array.getElem_mem hk, hb.1, hb.2⟩
    · rcases h.2 with h2 | h2
      · rw [hj] at h2; cases h2
      · exact List.contains_iff_mem.1 h2
  · have h := List.all_eq_true.1 h8 i (List.mem_range.2 (hlt i oi hoi))
    rw [hoi] at h
    simp only [Option.all_some, hm, Bool.not_true, Bool.false_or] at h
    have h := List.all_eq_true.1 h d hd
    simp only [Bool.and_eq_true] at h
    refine ⟨h.1, ?_⟩
    obtain ⟨k, hk, hb⟩ := Array.any_eq_true.1 h.2
    simp only [Bool.and_eq_true, beq_iff_eq] at hb
    exact ⟨_, Array.getElem_mem hk, hb.1, hb.2⟩

/-- m: which operations have effects; es: their numbers; deps: the effects that each looks at; R: what is known of the world when some effects have been done (their values); Inv: what the quiet ones lean on. -/
theorem region_effects {P : Program} {id : Nat} {Q : Exit → Act → World → Prop} {a : Act} {w : World} {l : List Oper} (m : List Bool) (es : List Nat) (deps : Nat → List Nat) (R : (Nat → Option Value) → World → Prop) (Inv : World → Prop) (aS : Act)
    (hm : P.follows .mixedOrders = true) (hB : effsB l m es deps a.tmps.size = true)
    (H : ∀ W, Inv W → wpQuiet P (withM m l).toArray (fun w' => ∃ x : Ext, w' = over W x) (fun a' => a' = aS) (withM m l) a)
    (haS : aS.tmps.size = a.tmps.size) (h0 : R (fun _ => none) w) (hI : ∀ ρ w, R ρ w → Inv w) (hR : ∀ ρ w w', R ρ w → Below w.heap.size w w' → R ρ w')
    (hE : EffAll P l es deps aS R es)
    (hQ : ∀ ρ w, R ρ w → (∀ e, e ∈ es → (ρ e).isSome = true) → Q .normal (fillD l ρ es aS) w) : (Code.region id l.toArray true).wp P Q a w := by
  obtain ⟨T, hlex⟩ := effs_of hB
  simp only [Region.lexB, Bool.and_eq_true] at hlex
  have HH : HQ P (withM m l).toArray aS Inv (withM m l).length (Array.replicate (withM m l).toArray.size false) a := by
    intro W hW
    exact wpAnyQ_lex (C := fun w' => ∃ x : Ext, w' = over W x) (md := .any) hlex.1 (withM m l) 0 _ a (by simp) (by simpa using hlex.2) (H W hW)
  refine wp_region_any hm ?_
  have key := effs_run (Q := Q) T haS hI hR hE hQ _ _ _ a { w with drawn := w.drawn + 1 } (fun _ => none) HH (by simp [withM_length]) (fun e he => by
    have := ((T.es e).1 he).2
    simp [withM_length, this]) ⟨rfl, rfl, rfl, fun _ _ => rfl, fun e oe v t _ _ h _ => by cases h⟩ (fun j _ h => by cases h) (fun j oj _ h => by
      rw [replicate_getD] at h; cases h) (hR _ _ _ h0 (Pure.below ⟨_, drew_over w⟩))
  rw [withM_length, T.size] at key
  simpa using key
end Go.Proofs.Ytfgjanponijkhaa

namespace Go.Proofs.Ytfgjanponijkhaa
open Go.RowKit

def withK (kn : Nat → Option Value) : Nat → List Bool → List Oper → List Oper
  | k, true :: m, o :: l => { o with op := .move (.const ((kn k).getD undef)), guard := none } :: withK kn (k + 1) m l
  | k, false :: m, o :: l => o :: withK kn (k + 1) m l
  | _, [], l => l
  | _, _ :: _, [] => []
theorem withK_length (kn : Nat → Option Value) : ∀ (k : Nat) (m : List Bool) (l : List Oper), (withK kn k m l).length = l.length
  | k, true :: m, o :: l => by simp [withK, withK_length kn (k + 1) m l]
  | k, false :: m, o :: l => by simp [withK, withK_length kn (k + 1) m l]
  | k, [], l => by simp [withK]
  | k, b :: m, [] => by cases b <;> simp [withK]
theorem withK_quiet (kn : Nat → Option Value) : ∀ (k : Nat) (m : List Bool) (l : List Oper) (i : Nat), m.getD i false = false → (withK kn k m l)[i]? = l[i]?
  | k, true :: m, o :: l, 0, h => by simp at h
  | k, true :: m, o :: l, i + 1, h => by simpa [withK] using withK_quiet kn (k + 1) m l i (by simpa using h)
  | k, false :: m, o :: l, 0, h => by simp [withK]
  | k, false :: m, o :: l, i + 1, h => by simpa [withK] using withK_quiet kn (k + 1) m l i (by simpa using h)
  | k, [], l, i, h => by simp [withK]
  | k, b :: m, [], i, h => by cases b <;> simp [withK]
theorem withK_eff (kn : Nat → Option Value) : ∀ (k : Nat) (m : List Bool) (l : List Oper) (i : Nat) (o : Oper), m.getD i false = true → l[i]? = some o → (withK kn k m l)[i]? = some { o with op := .move (.const ((kn (k + i)).getD undef)), guard := none }
  | k, true :: m, o :: l, 0, o', h, h2 => by
    simp at h2
    subst h2; simp [withK]
  | k, true :: m, o :: l, i + 1, o', h, h2 => by
    have := withK_eff kn (k + 1) m l i o' (by simpa using h) (by simpa using h2)
    rw [show k + 1 + i = k + (i + 1) by omega] at this
    simpa [withK] using this
  | k, false :: m, o :: l, 0, o', h, h2 => by simp at h
  | k, false :: m, o :: l, i + 1, o', h, h2 => by
    have := withK_eff kn (k + 1) m l i o' (by simpa using h) (by simpa using h2)
    rw [show k + 1 + i = k + (i + 1) by omega] at this
    simpa [withK] using this
  | k, [], l, i, o', h, h2 => by simp at h
  | k, b :: m, [], i, o', h, h2 => by simp at h2

/-- What an effect leaves. -/
def EffK (ρ : Nat → Option Value) (af : Act) (R : (Nat → Option Value) → World → Prop) (kn : Nat → Option Value) (e : Nat) (o : Oper) : Exit → Act → World → Prop :=
  fun x a' w' => x = .normal ∧ ∃ v, a' = af.put o.dst v ∧ (∀ u, kn e = some u → v = u) ∧ R (upd ρ e v) w'
def EffAllK (P : Program) (l : List Oper) (all : List Nat) (deps : Nat → List Nat) (aS : Act) (R : (Nat → Option Value) → World → Prop) (kn : Nat → Option Value) : List Nat → Prop
  | [] => True
  | e :: es => (∀ o, l[e]? = some o → ∀ ρ w, R ρ w → Closed all deps ρ → ρ e = none → (∀ d, d ∈ deps e → (ρ d).isSome = true) → ∀ af, af = fillD l ρ (deps e) aS → wpList P l.toArray (EffK ρ af R kn e o) [o] af w) ∧ EffAllK P l all deps aS R kn es
theorem EffAllK.at {P : Program} {l : List Oper} {all : List Nat} {deps : Nat → List Nat} {aS : Act} {R : (Nat → Option Value) → World → Prop} {kn : Nat → Option Value} : ∀ {es : List Nat}, EffAllK P l all deps aS R kn es → ∀ e, e ∈ es →
    ∀ o, l[e]? = some o → ∀ ρ w, R ρ w → Closed all deps ρ → ρ e = none → (∀ d, d ∈ deps e → (ρ d).isSome = true) → ∀ af, af = fillD l ρ (deps e) aS → wpList P l.toArray (EffK ρ af R kn e o) [o] af w
  | [], _, e, h => by simp at h
  | e0 :: es, H, e, h => by
    rcases List.mem_cons.1 h with h1 | h1
    · subst h1; exact H.1
    · exact EffAllK.at H.2 e h1

theorem wanted_eq {ops ops' : Array Oper} {o : Oper} {a b : Act} (hd : ∀ i : Nat, (ops'[i]?).bind (fun o => o.dst) = (ops[i]?).bind (fun o => o.dst)) (hs : a.tmps.size = b.tmps.size) (h : ∀ t, t ∈ o.looksAt ops → a.tmps.getD t undef = b.tmps.getD t undef) :
    Region.wanted o (yielded ops' b.tmps) = Region.wanted o (yielded ops a.tmps) := by
  unfold Region.wanted
  cases hg : o.guard with
  | none => rfl
  | some gw =>
    obtain ⟨g, want⟩ := gw
    have hy : yielded ops' b.tmps g = yielded ops a.tmps g := by
      unfold yielded
      rw [hd g]
      cases ht : (ops[g]?).bind (·.dst) with
      | none => rfl
      | some t =>
        have h1 := h t (by simp [Oper.looksAt, hg, ht])
        have h2 : b.tmps[t]? = a.tmps[t]? := by
          rw [Array.getD_eq_getD_getElem?, Array.getD_eq_getD_getElem?] at h1
          rcases Nat.lt_or_ge t a.tmps.size with hlt | hge
          · have hlt' : t < b.tmps.size := by rw [← hs]; exact hlt
            rw [Array.getElem?_eq_getElem hlt, Array.getElem?_eq_getElem hlt'] at h1 ⊢
            exact congrArg some h1.symm
          · rw [Array.getElem?_eq_none hge, Array.getElem?_eq_none (by rw [← hs]; exact hge)]
        simp only [Option.bind_some, h2]
    simp only [hy]

/-- What the text has to keep. -/
structure EffsK (l : List Oper) (m : List Bool) (kn : Nat → Option Value) (es : List Nat) (deps : Nat → List Nat) (N : Nat) : Prop where
  es : ∀ e, e ∈ es ↔ (m.getD e false = true ∧ e < l.length)
  one : ∀ (i j : Nat) (oi oj : Oper) (t : Tmp), l[i]? = some oi → l[j]? = some oj → oi.dst = some t → oj.dst = some t → i = j
  lt : ∀ (i : Nat) (o : Oper) (t : Tmp), l[i]? = some o → o.dst = some t → t < N
  sel : ∀ (i : Nat) (o : Oper), l[i]? = some o → ∀ cs b, o.op ≠ .select cs b
  low : ∀ (i : Nat) (o : Oper) (e : Edge), l[i]? = some o → e ∈ o.after → e.on < i
  quiet : ∀ (i : Nat) (oi : Oper) (j : Nat) (oj : Oper) (t : Tmp), m.getD i false = false → l[i]? = some oi → m.getD j false = true → kn j = none → l[j]? = some oj → oj.dst = some t → t ∉ oi.looksAt l.toArray
  waits : ∀ (i : Nat) (oi : Oper) (j : Nat) (oj : Oper) (t : Tmp), m.getD i false = true → l[i]? = some oi → l[j]? = some oj → oj.dst = some t → t ∈ oi.looksAt l.toArray → (∃ e, e ∈ oi.after ∧ Region.binds .any e = true ∧ e.on = j) ∧ (m.getD j false = true → j ∈ deps i)
  deps : ∀ (i : Nat) (oi : Oper) (d : Nat), m.getD i false = true → l[i]? = some oi → d ∈ deps i → m.getD d false = true ∧ ∃ e, e ∈ oi.after ∧ Region.binds .any e = true ∧ e.on = d

section
variable {P : Program} {l : List Oper} {m : List Bool} {kn : Nat → Option Value} {es : List Nat} {deps : Nat → List Nat} {N : Nat} {Q : Exit → Act → World → Prop} {aS : Act} {R : (Nat → Option Value) → World → Prop} {Inv : World → Prop}

theorem EffsK.same (T : EffsK l m kn es deps N) {i : Nat} (h : m.getD i false = false) : (withK kn 0 m l).toArray[i]? = l.toArray[i]? := by simpa using withK_quiet kn 0 m l i h
theorem EffsK.dst (T : EffsK l m kn es deps N) (i : Nat) : (((withK kn 0 m l).toArray[i]?).bind (·.dst)) = ((l.toArray[i]?).bind (·.dst)) := by
  cases h : m.getD i false with
  | false => rw [T.same h]
  | true =>
    cases ho : l[i]? with
    | none =>
      have h1 : (withK kn 0 m l)[i]? = none := by
        rw [List.getElem?_eq_none_iff] at ho ⊢
        rw [withK_length]; exact ho
      simp [ho, h1]
    | some o => simp [ho, withK_eff kn 0 m l i o h ho]
theorem EffsK.aft (T : EffsK l m kn es deps N) (i : Nat) : (((withK kn 0 m l).toArray[i]?).map (·.after)) = ((l.toArray[i]?).map (·.after)) := by
  cases h : m.getD i false with
  | false => rw [T.same h]
  | true =>
    cases ho : l[i]? with
    | none =>
      have h1 : (withK kn 0 m l)[i]? = none := by
        rw [List.getElem?_eq_none_iff] at ho ⊢
        rw [withK_length]; exact ho
      simp [ho, h1]
    | some o => simp [ho, withK_eff kn 0 m l i o h ho]
theorem EffsK.size (T : EffsK l m kn es deps N) : (withK kn 0 m l).toArray.size = l.length := by simp [withK_length]
theorem EffsK.ready (T : EffsK l m kn es deps N) (Z : Array Bool) : Region.ready .any l.toArray Z = Region.ready .any (withK kn 0 m l).toArray Z := by
  unfold Region.ready
  rw [T.size]
  have hs : l.toArray.size = l.length := by simp
  rw [hs]
  refine List.filter_congr (fun j _ => ?_)
  have h := T.aft j
  have e1 : ∀ (x : Option Oper), (x.map fun o => o.after.all fun e => !Region.binds .any e || Z.getD e.on false) = (x.map (·.after)).map (fun a => a.all fun e => !Region.binds .any e || Z.getD e.on false) := by intro x; cases x <;> rfl
  rw [e1, e1, h]
theorem EffsK.back (T : EffsK l m kn es deps N) {i : Nat} {o' : Oper} (h : (withK kn 0 m l).toArray[i]? = some o') : ∃ o, l[i]? = some o ∧ o.dst = o'.dst ∧ o.after = o'.after := by
  have h1 := T.dst i
  have h2 := T.aft i
  rw [h] at h1 h2
  cases ho : l[i]? with
  | none => simp [ho] at h2
  | some o => exact ⟨o, rfl, by simpa [ho] using h1.symm, by simpa [ho] using h2.symm⟩
theorem EffsK.dsts (T : EffsK l m kn es deps N) : Dsts (withK kn 0 m l).toArray (withK kn 0 m l).toArray.size N :=
  ⟨fun i j oi oj t _ _ hi hj h1 h2 => by
    obtain ⟨pi, gi, di, _⟩ := T.back hi
    obtain ⟨pj, gj, dj, _⟩ := T.back hj
    exact T.one i j pi pj t gi gj (by rw [di]; exact h1) (by rw [dj]; exact h2),
  fun i o t _ hi h1 => by
    obtain ⟨pi, gi, di, _⟩ := T.back hi
    exact T.lt i pi t gi (by rw [di]; exact h1)⟩

theorem EffsK.done (T : EffsK l m kn es deps N) {listed : Array Bool} (hs : listed.size = l.length) (h0 : Region.ready .any l.toArray listed = []) : ∀ j, j < l.length → listed.getD j true = true := by
  intro j
  induction j using Nat.strongRecOn with
  | _ j ih =>
    intro hj
    cases hl : listed.getD j true with
    | true => rfl
    | false =>
      have : j ∈ Region.ready .any l.toArray listed := by
        refine mem_ready.2 ⟨hl, l[j], by simp [hj], fun e he hb => ?_⟩
        have hlow := T.low j _ e (List.getElem?_eq_getElem hj) he
        cases hx : listed.getD e.on false with
        | true => rfl
        | false =>
          have h1 := ih e.on hlow (by omega)
          have h2 := getD_in (by omega : e.on < listed.size) hx
          rw [h1] at h2; cases h2
      rw [h0] at this; cases this

/-- The twin's frame b and the frame a. -/
structure BesideK (l : List Oper) (m : List Bool) (kn : Nat → Option Value) (ρ : Nat → Option Value) (N : Nat) (b a : Act) : Prop where
  sb : b.tmps.size = N
  sa : a.tmps.size = N
  df : a.defers = b.defers
  q : ∀ t, (∀ (e : Nat) (oe : Oper), m.getD e false = true → kn e = none → l[e]? = some oe → oe.dst ≠ some t) → a.tmps.getD t undef = b.tmps.getD t undef
  e : ∀ (e : Nat) (oe : Oper) (v : Value) (t : Tmp), m.getD e false = true → l[e]? = some oe → ρ e = some v → oe.dst = some t → a.tmps.getD t undef = v

theorem BesideK.quiet (T : EffsK l m kn es deps N) {ρ : Nat → Option Value} {b a : Act} (h : BesideK l m kn ρ N b a) {i : Nat} {oi : Oper} (hi : m.getD i false = false) (hoi : l[i]? = some oi) (v : Value) : BesideK l m kn ρ N (b.put oi.dst v) (a.put oi.dst v) := by
  refine ⟨by rw [put_size]; exact h.sb, by rw [put_size]; exact h.sa, by rw [put_defers, put_defers]; exact h.df, fun t ht => ?_, fun e oe u t he hoe hu ht => ?_⟩
  · by_cases hd : oi.dst = some t
    · have hlt := T.lt i oi t hoi hd
      rw [hd, put_getD_eq _ _ _ (by rw [h.sa]; exact hlt), put_getD_eq _ _ _ (by rw [h.sb]; exact hlt)]
    · rw [put_getD_ne _ _ _ _ hd, put_getD_ne _ _ _ _ hd]; exact h.q t ht
  · have hd : oi.dst ≠ some t := fun hd => by
      have := T.one i e oi oe t hoi hoe hd ht
      subst this
      rw [hi] at he; cases he
    rw [put_getD_ne _ _ _ _ hd]
    exact h.e e oe u t he hoe hu ht
theorem BesideK.eff (T : EffsK l m kn es deps N) {ρ : Nat → Option Value} {b a : Act} (h : BesideK l m kn ρ N b a) {i : Nat} {oi : Oper} (hi : m.getD i false = true) (hoi : l[i]? = some oi) (v v2 : Value) (hv : ∀ t, oi.dst = some t → v = v2) (hk : ∀ u, kn i = some u → v2 = u) : BesideK l m kn (upd ρ i v2) N (b.put oi.dst ((kn i).getD undef)) (a.put oi.dst v) := by
  refine ⟨by rw [put_size]; exact h.sb, by rw [put_size]; exact h.sa, by rw [put_defers, put_defers]; exact h.df, fun t ht => ?_, fun e oe u t he hoe hu ht => ?_⟩
  · by_cases hd : oi.dst = some t
    · have hlt := T.lt i oi t hoi hd
      rw [hd, put_getD_eq _ _ _ (by rw [h.sa]; exact hlt), put_getD_eq _ _ _ (by rw [h.sb]; exact hlt)]
      cases hki : kn i with
      | none => exact absurd hd (ht i oi hi hki hoi)
      | some u => rw [hv t hd, hk u hki]; rfl
    · rw [put_getD_ne _ _ _ _ hd, put_getD_ne _ _ _ _ hd]; exact h.q t ht
  · by_cases hei : e = i
    · subst hei
      have hoo : oe = oi := Option.some.inj (hoe.symm.trans hoi)
      subst hoo
      have hlt := T.lt e oe t hoi ht
      have hu2 : v2 = u := by simpa [upd] using hu
      rw [ht, put_getD_eq _ _ _ (by rw [h.sa]; exact hlt), ← hu2]
      exact hv t ht
    · have hd : oi.dst ≠ some t := fun hd => hei (T.one e i oe oi t hoe hoi ht hd)
      rw [put_getD_ne _ _ _ _ hd]
      exact h.e e oe u t he hoe (by simpa [upd, hei] using hu) ht

/-- All has been done: the frame. -/
theorem BesideK.last (T : EffsK l m kn es deps N) {ρ : Nat → Option Value} {a : Act} (h : BesideK l m kn ρ N aS a) (hall : ∀ e, e ∈ es → (ρ e).isSome = true) : a = fillD l ρ es aS := by
  refine act_ext (by rw [fillD_size, h.sa, h.sb]) (fun t => ?_) (by rw [fillD_defers]; exact h.df)
  by_cases hx : ∃ (e : Nat) (oe : Oper), m.getD e false = true ∧ l[e]? = some oe ∧ oe.dst = some t
  · obtain ⟨e, oe, he, hoe, ht⟩ := hx
    have hlt : e < l.length := (List.getElem?_eq_some_iff.1 hoe).1
    have hes : e ∈ es := (T.es e).2 ⟨he, hlt⟩
    obtain ⟨v, hv⟩ := Option.isSome_iff_exists.1 (hall e hes)
    rw [h.e e oe v t he hoe hv ht, fillD_at (d := e) es aS hes (by simp [dstAt, hoe, ht]) (by rw [h.sb]; exact T.lt e oe t hoe ht) (fun d' hd' => by
      unfold dstAt at hd'
      cases hod : l[d']? with
      | none => simp [hod] at hd'
      | some od => exact T.one d' e od oe t hod hoe (by simpa [hod] using hd') ht), hv]
    rfl
  · have hno : ∀ (e : Nat) (oe : Oper), m.getD e false = true → l[e]? = some oe → oe.dst ≠ some t := fun e oe he hoe ht => hx ⟨e, oe, he, hoe, ht⟩
    rw [h.q t (fun e oe he _ hoe => hno e oe he hoe), fillD_other es aS (fun d hd ht => by
      have h1 := (T.es d).1 hd
      have h2 : l[d]? = some l[d] := List.getElem?_eq_getElem h1.2
      exact hno d _ h1.1 h2 (by simpa [dstAt, h2] using ht))]

/-- What an effect looks at has been done. -/
theorem EffsK.operand (T : EffsK l m kn es deps N) {ρ : Nat → Option Value} {listed : Array Bool} {b a : Act} (hB : BesideK l m kn ρ N b a)
    (hk : ∀ t, (∀ (j : Nat) (o : Oper), (withK kn 0 m l).toArray[j]? = some o → listed.getD j true = false → o.dst ≠ some t) → aS.tmps.getD t undef = b.tmps.getD t undef) (haS : aS.tmps.size = N)
    {e : Nat} {oe : Oper} (he : m.getD e false = true) (hoe : l[e]? = some oe) (hall : ∀ x, x ∈ oe.after → Region.binds .any x = true → listed.getD x.on false = true) (hρ : ∀ d, d ∈ deps e → (ρ d).isSome = true)
    {t : Tmp} (ht : t ∈ oe.looksAt l.toArray) : a.tmps.getD t undef = (fillD l ρ (deps e) aS).tmps.getD t undef := by
  have hdd : ∀ d, d ∈ deps e → dstAt l d = some t → ∃ od, l[d]? = some od ∧ od.dst = some t := by
    intro d _ h
    unfold dstAt at h
    cases hod : l[d]? with
    | none => simp [hod] at h
    | some od => exact ⟨od, rfl, by simpa [hod] using h⟩
  by_cases hx : ∃ (j : Nat) (oj : Oper), l[j]? = some oj ∧ oj.dst = some t
  · obtain ⟨j, oj, hoj, hd⟩ := hx
    obtain ⟨⟨x, hxa, hb, hon⟩, hdep⟩ := T.waits e oe j oj t he hoe hoj hd ht
    have hl : listed.getD j false = true := by rw [← hon]; exact hall x hxa hb
    cases hm : m.getD j false with
    | true =>
      have hj := hdep hm
      obtain ⟨v, hv⟩ := Option.isSome_iff_exists.1 (hρ j hj)
      rw [hB.e j oj v t hm hoj hv hd, fillD_at (d := j) (deps e) aS hj (by simp [dstAt, hoj, hd]) (by rw [haS]; exact T.lt j oj t hoj hd) (fun d' hd' => by
        unfold dstAt at hd'
        cases hod : l[d']? with
        | none => simp [hod] at hd'
        | some od => exact T.one d' j od oj t hod hoj (by simpa [hod] using hd') hd), hv]
      rfl
    | false =>
      rw [hB.q t (fun e' oe' he' _ hoe' h => by
        have := T.one e' j oe' oj t hoe' hoj h hd
        subst this
        rw [hm] at he'; cases he'), fillD_other (deps e) aS (fun d hd' h => by
        obtain ⟨od, hod, hdt⟩ := hdd d hd' h
        have := T.one d j od oj t hod hoj hdt hd
        subst this
        have := (T.deps e oe d he hoe hd').1
        rw [hm] at this; cases this)]
      exact (hk t (fun i o hi hl' hd' => by
        obtain ⟨oi, hoi, hdi, _⟩ := T.back hi
        have := T.one i j oi oj t hoi hoj (by rw [hdi]; exact hd') hd
        subst this
        rw [getD_both hl'] at hl; cases hl)).symm
  · have hno : ∀ (j : Nat) (oj : Oper), l[j]? = some oj → oj.dst ≠ some t := fun j oj hoj hd => hx ⟨j, oj, hoj, hd⟩
    rw [hB.q t (fun e' oe' _ _ hoe' => hno e' oe' hoe'), fillD_other (deps e) aS (fun d hd' h => by
      obtain ⟨od, hod, hdt⟩ := hdd d hd' h
      exact hno d od hod hdt)]
    exact (hk t (fun i o hi _ hd' => by
      obtain ⟨oi, hoi, hdi, _⟩ := T.back hi
      exact hno i oi hoi (by rw [hdi]; exact hd'))).symm

theorem effs_runK (T : EffsK l m kn es deps N) (haS : aS.tmps.size = N) (hI : ∀ ρ w, R ρ w → Inv w) (hR : ∀ ρ w w', R ρ w → Below w.heap.size w w' → R ρ w') (hE : EffAllK P l es deps aS R kn es)
    (hQ : ∀ ρ w, R ρ w → (∀ e, e ∈ es → (ρ e).isSome = true) → Q .normal (fillD l ρ es aS) w) :
    ∀ (f : Nat) (listed : Array Bool) (b a : Act) (w' : World) (ρ : Nat → Option Value), HQ P (withK kn 0 m l).toArray aS Inv f listed b → listed.size = l.length → (∀ e, e ∈ es → (ρ e).isSome = listed.getD e true) →
      BesideK l m kn ρ N b a → Closed es deps ρ → R ρ w' → wpAny P .any l.toArray Q f listed a w' := by
  have fin : ∀ (listed : Array Bool) (b a : Act) (w' : World) (ρ : Nat → Option Value), listed.size = l.length → (∀ e, e ∈ es → (ρ e).isSome = listed.getD e true) → BesideK l m kn ρ N b a → R ρ w' → Region.ready .any l.toArray listed = [] → b = aS → Q .normal a w' := by
    intro listed b a w' ρ hs hρ hB hw h0 e
    subst e
    have hdone := T.done hs h0
    have hall : ∀ e, e ∈ es → (ρ e).isSome = true := fun e he => by rw [hρ e he]; exact hdone e ((T.es e).1 he).2
    rw [hB.last T hall]
    exact hQ ρ w' hw hall
  intro f
  induction f with
  | zero =>
    intro listed b a w' ρ H hs hρ hB hcl hw
    have h := H w' (hI _ _ hw)
    have h0 : Region.ready .any l.toArray listed = [] := by rw [T.ready]; exact h.1
    exact ⟨h0, fin listed b a w' ρ hs hρ hB hw h0 h.2⟩
  | succ f ih =>
    intro listed b a w' ρ H hs hρ hB hcl hw
    refine ⟨fun h0 => fin listed b a w' ρ hs hρ hB hw h0 ((H w' (hI _ _ hw)).1 (by rw [← T.ready]; exact h0)), fun i hi => ?_⟩
    rw [T.ready] at hi
    have h1 := HQ.step T.dsts hB.sb H hi w' (hI _ _ hw)
    obtain ⟨hun, o', ho', hall⟩ := mem_ready.1 hi
    obtain ⟨oi, hoi, hdst, haft⟩ := T.back ho'
    have hil : i < l.length := (List.getElem?_eq_some_iff.1 hoi).1
    have hl : l.toArray[i]? = some oi := by simpa using hoi
    cases hm : m.getD i false with
    | false =>
      have ho2 : (withK kn 0 m l).toArray[i]? = some oi := by rw [T.same hm]; exact hl
      have hlook : ∀ t, t ∈ oi.looksAt l.toArray → a.tmps.getD t undef = b.tmps.getD t undef := fun t ht => hB.q t (fun e oe he hke hoe hd => T.quiet i oi e oe t hm hoi he hke hoe hd ht)
      have hwq := wanted_eq (ops := l.toArray) (ops' := (withK kn 0 m l).toArray) (o := oi) (a := a) (b := b) T.dst (by rw [hB.sa, hB.sb]) hlook
      have hes : ∀ e, e ∈ es → (ρ e).isSome = (listed.setIfInBounds i true).getD e true := fun e he => by
        have hei : i ≠ e := fun h => by
          subst h
          have := ((T.es i).1 he).1
          rw [hm] at this; cases this
        rw [getD_set_ne true hei]; exact hρ e he
      unfold qOp at h1
      simp only [ho2] at h1
      unfold wpOp
      simp only [hl]
      rw [hwq] at h1
      by_cases hw2 : Region.wanted oi (yielded l.toArray a.tmps) = true
      · rw [if_pos hw2] at h1 ⊢
        obtain ⟨v, hv, hH, hsz⟩ := h1
        have heq : execOp a.eval oi = execOp b.eval oi := by
          refine execOp_congr oi (T.sel i oi hoi) (fun x hx => ?_)
          cases x with
          | tmp t => exact hlook t (List.mem_append_left _ (List.mem_filterMap.2 ⟨.tmp t, by simpa using hx, rfl⟩))
          | _ => rfl
        refine .inl (Oper.wp_of_quiet (C := fun w2 => ∃ x : Ext, w2 = over w' x) (K := fun a' => a' = a.put oi.dst v) (over_self w') (fun a2 w2 hw2 e => ?_) ⟨v, fun w2 hw2 => ?_, rfl⟩)
        · subst e
          exact ih _ _ _ _ _ hH (by simpa using hs) hes (hB.quiet T hm hoi v) hcl (hR _ _ _ hw (Pure.below hw2))
        · have := hv w2 hw2
          unfold Oper.quietAt at this ⊢
          rw [heq]; exact this
      · rw [if_neg hw2] at h1 ⊢
        exact ih _ _ _ _ _ h1.1 (by simpa using hs) hes (hB.quiet T hm hoi undef) hcl hw
    | true =>
      have he : i ∈ es := (T.es i).2 ⟨hm, hil⟩
      have hnone : ρ i = none := by
        have := hρ i he
        rw [hun] at this
        simpa using this
      have hdeps : ∀ d, d ∈ deps i → (ρ d).isSome = true := by
        intro d hd
        obtain ⟨hmd, x, hx, hb, hon⟩ := T.deps i oi d hm hoi hd
        have hlow := T.low i oi x hoi hx
        have hld : listed.getD d false = true := by rw [← hon]; exact hall x (by rw [← haft]; exact hx) hb
        rw [hρ d ((T.es d).2 ⟨hmd, by omega⟩)]
        exact getD_true hld
      have hob := hE.at i he oi hoi ρ w' hw hcl hnone hdeps _ rfl
      have ho2 : (withK kn 0 m l).toArray[i]? = some { oi with op := .move (.const ((kn i).getD undef)), guard := none } := by simpa using withK_eff kn 0 m l i oi hm hoi
      have hwant2 : ∀ y, Region.wanted { oi with op := .move (.const ((kn i).getD undef)), guard := none } y = true := fun y => by simp [Region.wanted]
      unfold qOp at h1
      simp only [ho2, hwant2, if_true] at h1
      obtain ⟨v0, hv0, hH, hsz⟩ := h1
      have hu : (kn i).getD undef = v0 := by
        have := hv0 w' (over_self w')
        unfold Oper.quietAt at this
        rw [BigFrame.run_move (.const ((kn i).getD undef)) rfl] at this
        exact this.2
      subst hu
      have hall2 : ∀ x, x ∈ oi.after → Region.binds .any x = true → listed.getD x.on false = true := fun x hx hb => hall x (by rw [← haft]; exact hx) hb
      have hlook : ∀ t, t ∈ oi.looksAt l.toArray → a.tmps.getD t undef = (fillD l ρ (deps i) aS).tmps.getD t undef := fun t ht => T.operand hB (fun t ht => anyQ_keep _ _ _ (H w' (hI _ _ hw)) ht) haS hm hoi hall2 hdeps ht
      have heq : execOp a.eval oi = execOp (fillD l ρ (deps i) aS).eval oi := by
        refine execOp_congr oi (T.sel i oi hoi) (fun x hx => ?_)
        cases x with
        | tmp t => exact hlook t (List.mem_append_left _ (List.mem_filterMap.2 ⟨.tmp t, by simpa using hx, rfl⟩))
        | _ => rfl
      have hwq := wanted_eq (ops := l.toArray) (ops' := l.toArray) (o := oi) (a := a) (b := fillD l ρ (deps i) aS) (fun _ => rfl) (by rw [hB.sa, fillD_size, haS]) hlook
      have go : ∀ v w2, EffK ρ (fillD l ρ (deps i) aS) R kn i oi .normal ((fillD l ρ (deps i) aS).put oi.dst v) w2 → wpAny P .any l.toArray Q f (listed.setIfInBounds i true) (a.put oi.dst v) w2 := by
        rintro v w2 ⟨_, v2, hput, hkv, hR2⟩
        have hvv : ∀ t, oi.dst = some t → v = v2 := fun t ht => by
          have hlt : t < (fillD l ρ (deps i) aS).tmps.size := by rw [fillD_size, haS]; exact T.lt i oi t hoi ht
          have h := congrArg (fun A => A.tmps.getD t undef) hput
          simp only [ht] at h
          rwa [put_getD_eq _ _ _ hlt, put_getD_eq _ _ _ hlt] at h
        have hmono : ∀ k, (ρ k).isSome = true → (upd ρ i v2 k).isSome = true := fun k hk => by
          unfold upd
          split
          · rfl
          · exact hk
        refine ih _ _ _ _ _ hH (by simpa using hs) (fun e he' => ?_) (hB.eff T hm hoi v v2 hvv hkv) (fun j hj hjs d hd => hmono d ?_) hR2
        rotate_left
        · by_cases hji : j = i
          · subst hji; exact hdeps d hd
          · exact hcl j hj (by simpa [upd, hji] using hjs) d hd
        by_cases hei : e = i
        · subst hei
          simp [upd, hs, hil]
        · rw [getD_set_ne true (Ne.symm hei)]
          simpa [upd, hei] using hρ e he'
      unfold wpList at hob
      rw [hwq] at hob
      unfold wpOp
      simp only [hl]
      by_cases hw2 : Region.wanted oi (yielded l.toArray a.tmps) = true
      · rw [if_pos hw2] at hob ⊢
        rcases hob with hob | ⟨_, ⟨a2, w2, hx, _⟩⟩
        · refine .inl ?_
          unfold Oper.wp at hob ⊢
          rw [heq]
          generalize (execOp (fillD l ρ (deps i) aS).eval oi).run P w' = r at hob ⊢
          cases r with
          | ok n w2 =>
            cases n with
            | value v => exact go v w2 hob
            | skip => exact go undef w2 hob
            | defer d =>
              obtain ⟨_, v2, hput, _⟩ := hob
              have := congrArg Act.defers hput
              simp [put_defers] at this
            | enter fn args =>
              simp only [Oper.upon] at hob ⊢
              refine hob.mono fun e w3 h => ?_
              cases e with
              | returned v => exact go v w3 h
              | panicked c => obtain ⟨hx, _⟩ := h; cases hx
              | outgrown => obtain ⟨a3, w4, hx, _⟩ := h; cases hx
            | row row args => exact hob.mono fun v w3 h => go v w3 h
            | _ => exact hob.elim
          | halt x w2 =>
            cases x with
            | panic v => obtain ⟨hx, _⟩ := hob; cases hx
            | _ => exact hob.elim
        · cases hx
      · rw [if_neg hw2] at hob ⊢
        exact go undef w' hob
end

/-- The condition, for the kernel. -/
def effsBK (l : List Oper) (m : List Bool) (kn : Nat → Option Value) (es : List Nat) (deps : Nat → List Nat) (N : Nat) : Bool :=
  (es == (List.range l.length).filter fun e => m.getD e false)
  && decide (l.filterMap (·.dst)).Nodup && (l.filterMap (·.dst)).all (fun t => decide (t < N)) && Region.noSelect l.toArray
  && (List.range l.length).all (fun i => (l[i]?).all fun o => o.after.all fun e => decide (e.on < i))
  && (List.range l.length).all (fun i => (l[i]?).all fun oi => (List.range l.length).all fun j => (l[j]?).all fun oj => oj.dst.all fun t => !(oi.looksAt l.toArray).contains t ||
      (if m.getD i false then (oi.after.any fun e => Region.binds .any e && e.on == j) && (!m.getD j false || (deps i).contains j) else !m.getD j false || (kn j).isSome))
  && (List.range l.length).all (fun i => (l[i]?).all fun oi => !m.getD i false || (deps i).all fun d => m.getD d false && oi.after.any fun e => Region.binds .any e && e.on == d)
  && Region.lexB .any (withK kn 0 m l).toArray

theorem effs_ofK {l : List Oper} {m : List Bool} {kn : Nat → Option Value} {es : List Nat} {deps : Nat → List Nat} {N : Nat} (hB : effsBK l m kn es deps N = true) : EffsK l m kn es deps N ∧ Region.lexB .any (withK kn 0 m l).toArray = true := by
  simp only [effsBK, Bool.and_eq_true, decide_eq_true_eq, beq_iff_eq] at hB
  obtain ⟨⟨⟨⟨⟨⟨⟨h1, h3⟩, h4⟩, h5⟩, h6⟩, h7⟩, h8⟩, h9⟩ := hB
  have hlt : ∀ (i : Nat) (o : Oper), l[i]? = some o → i < l.length := fun i o h => (List.getElem?_eq_some_iff.1 h).1
  have h7' : ∀ (i : Nat) (oi : Oper) (j : Nat) (oj : Oper) (t : Tmp), l[i]? = some oi → l[j]? = some oj → oj.dst = some t → t ∈ oi.looksAt l.toArray →
      (if m.getD i false then (oi.after.any fun e => Region.binds .any e && e.on == j) && (!m.getD j false || (deps i).contains j) else !m.getD j false || (kn j).isSome) = true := by
    intro i oi j oj t hoi hoj hd ht
    have h := List.all_eq_true.1 h7 i (List.mem_range.2 (hlt i oi hoi))
    rw [hoi] at h
    simp only [Option.all_some] at h
    have h := List.all_eq_true.1 h j (List.mem_range.2 (hlt j oj hoj))
    rw [hoj] at h
    simp only [Option.all_some, hd, Bool.or_eq_true, Bool.not_eq_true'] at h
    rcases h with h | h
    · rw [List.contains_iff_mem.2 ht] at h; cases h
    · exact h
  refine ⟨⟨fun e => ?_, fun i j oi oj t hoi hoj hd hd' => nodup_at h3 i j oi oj t hoi hoj hd hd', fun i o t ho hd => ?_, fun i o ho cs b => Region.noSelect_spec h5 i o cs b (by simpa using ho), fun i o e ho he => ?_,
    fun i oi j oj t hm hoi hmj hkj hoj hd ht => ?_, fun i oi j oj t hm hoi hoj hd ht => ?_, fun i oi d hm hoi hd => ?_⟩, h9⟩
  · rw [h1]; simp [List.mem_filter, and_comm]
  · have := List.all_eq_true.1 h4 t (List.mem_filterMap.2 ⟨o, List.mem_of_getElem? ho, hd⟩)
    simpa using this
  · have h := List.all_eq_true.1 h6 i (List.mem_range.2 (hlt i o ho))
    rw [ho] at h
    simp only [Option.all_some] at h
    have := Array.all_eq_true_iff_forall_mem.1 h e he
    simpa using this
  · have h := h7' i oi j oj t hoi hoj hd ht
    rw [hm, hmj, hkj] at h
    simp at h
  · have h := h7' i oi j oj t hoi hoj hd ht
    rw [hm] at h
    simp only [if_true, Bool.and_eq_true, Bool.or_eq_true, Bool.not_eq_true'] at h
    refine ⟨?_, fun hj => ?_⟩
    · obtain ⟨k, hk, hb⟩ := Array.any_eq_true.1 h.1
      simp only [Bool.and_eq_true, beq_iff_eq] at hb
      exact ⟨_, Array.getElem_mem hk, hb.1, hb.2⟩
    · rcases h.2 with h2 | h2
      · rw [hj] at h2; cases h2
      · exact List.contains_iff_mem.1 h2
  · have h := List.all_eq_true.1 h8 i (List.mem_range.2 (hlt i oi hoi))
    rw [hoi] at h
    simp only [Option.all_some, hm, Bool.not_true, Bool.false_or] at h
    have h := List.all_eq_true.1 h d hd
    simp only [Bool.and_eq_true] at h
    refine ⟨h.1, ?_⟩
    obtain ⟨k, hk, hb⟩ := Array.any_eq_true.1 h.2
    simp only [Bool.and_eq_true, beq_iff_eq] at hb
    exact ⟨_, Array.getElem_mem hk, hb.1, hb.2⟩

/-- m: which operations have effects; es: their numbers; deps: the effects that each looks at; R: what is known of the world when some effects have been done (their values); Inv: what the quiet ones lean on. -/
theorem region_effectsK {P : Program} {id : Nat} {Q : Exit → Act → World → Prop} {a : Act} {w : World} {l : List Oper} (m : List Bool) (kn : Nat → Option Value) (es : List Nat) (deps : Nat → List Nat) (R : (Nat → Option Value) → World → Prop) (Inv : World → Prop) (aS : Act)
    (hm : P.follows .mixedOrders = true) (hB : effsBK l m kn es deps a.tmps.size = true)
    (H : ∀ W, Inv W → wpQuiet P (withK kn 0 m l).toArray (fun w' => ∃ x : Ext, w' = over W x) (fun a' => a' = aS) (withK kn 0 m l) a)
    (haS : aS.tmps.size = a.tmps.size) (h0 : R (fun _ => none) w) (hI : ∀ ρ w, R ρ w → Inv w) (hR : ∀ ρ w w', R ρ w → Below w.heap.size w w' → R ρ w')
    (hE : EffAllK P l es deps aS R kn es)
    (hQ : ∀ ρ w, R ρ w → (∀ e, e ∈ es → (ρ e).isSome = true) → Q .normal (fillD l ρ es aS) w) : (Code.region id l.toArray true).wp P Q a w := by
  obtain ⟨T, hlex⟩ := effs_ofK hB
  simp only [Region.lexB, Bool.and_eq_true] at hlex
  have HH : HQ P (withK kn 0 m l).toArray aS Inv (withK kn 0 m l).length (Array.replicate (withK kn 0 m l).toArray.size false) a := by
    intro W hW
    exact wpAnyQ_lex (C := fun w' => ∃ x : Ext, w' = over W x) (md := .any) hlex.1 (withK kn 0 m l) 0 _ a (by simp) (by simpa using hlex.2) (H W hW)
  refine wp_region_any hm ?_
  have key := effs_runK (Q := Q) T haS hI hR hE hQ _ _ _ a { w with drawn := w.drawn + 1 } (fun _ => none) HH (by simp [withK_length]) (fun e he => by
    have := ((T.es e).1 he).2
    simp [withK_length, this]) ⟨rfl, rfl, rfl, fun _ _ => rfl, fun e oe v t _ _ h _ => by cases h⟩ (fun j _ h => by cases h) (hR _ _ _ h0 (Pure.below ⟨_, drew_over w⟩))
  rw [withK_length, T.size] at key
  simpa using key
end Go.Proofs.Ytfgjanponijkhaa
