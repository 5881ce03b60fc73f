/- The map of a writer's stores (map[put]bool, made by the call itself), as a part of a world. -/
import Derived.Test.YtfgjanponijkhaaNodeW1
import Derived.Maps.OwnSet
import Derived.DeepKeys4
namespace Go.Proofs.Ytfgjanponijkhaa
open Go.RowKit Go.Maps
set_option maxRecDepth 100000

theorem keyed_put : Maps.Keyed Try.prog 178 := Maps.Keyed.of_law (deep_law_laid (by kernel_rfl) (m := 3) (by omega) (of_decide_eq_true (by kernel_rfl)) (by kernel_rfl) (by kernel_rfl))
/-- A store that may be a key. -/
structure PtOk (p : Pt) : Prop where
  i : (Lit.int .i64 p.i).wf = true
  n : (Lit.int .u64 p.c.n).wf = true
  k : p.c.k.size ≤ maxLen
  m : (Lit.int .u64 p.c.m).wf = true
def ptV (p : Pt) : Value := .agg #[.int .i64 p.i, .int .u64 p.c.n, .string p.c.k, .int .u64 p.c.m]
theorem ptV_inj {p q : Pt} (h : ptV p = ptV q) : p = q := by
  obtain ⟨i, n, k, m⟩ := p
  obtain ⟨i', n', k', m'⟩ := q
  simp [ptV] at h
  obtain ⟨rfl, rfl, rfl, rfl⟩ := h
  rfl
theorem put_key {p : Pt} (h : PtOk p) : ∃ kl, keyOf Try.prog 178 (ptV p) = some kl := by
  have e0 : Try.prog.keyType 178 = true := by kernel_rfl
  have e1 : (ptV p).formed Try.prog 178 = true := by
    unfold ptV Value.formed
    rw [Try.underlying178]
    simp only
    kernel_rfl
  have hsz : 178 < Try.prog.types.size := of_decide_eq_true (by kernel_rfl)
  obtain ⟨d, hd⟩ : ∃ d, Try.prog.types.size = d + 2 := ⟨Try.prog.types.size - 2, by omega⟩
  have c0 : Try.prog.cellsOf 178 = 4 := by kernel_rfl
  have c1 : Try.prog.cellsOf 3 = 1 := by kernel_rfl
  have c2 : Try.prog.cellsOf 41 = 3 := by kernel_rfl
  have c3 : Try.prog.cellsOf 23 = 1 := by kernel_rfl
  have c4 : Try.prog.cellsOf 9 = 1 := by kernel_rfl
  have h0 := h.i
  have h1 := h.n
  have h2 := h.k
  have h3 := h.m
  unfold keyOf
  rw [Try.underlying178]
  simp only [e0, e1, Bool.and_self, if_true, hd]
  simp [Program.keyLits, ptV, Value.cells, Try.underlying178, Try.underlying3, Try.underlying41, Try.underlying23, Try.underlying9, c0, c1, c2, c3, c4, h0, h1, h2, h3]
  rw [if_pos (fun i hi => by rcases (show i = 0 ∨ i = 1 ∨ i = 2 by omega) with rfl | rfl | rfl <;> simp)]
  exact ⟨_, rfl⟩

abbrev UH := Unit
/-- A map of stores that holds 'true' at the ones of S and nothing else. -/
def PtsIn (w : World) (b : Nat) (S : List Pt) : Prop :=
  ∃ (n : Nat) (D : DataW UH), n ≤ S.length ∧ w.ownsMap Try.prog 178 (plainElem Try.prog 4) b n D ∧
    ∀ p kl, PtOk p → keyOf Try.prog 178 (ptV p) = some kl → (p ∈ S → D.atKey kl (.lit (.bool false)) = .lit (.bool true)) ∧ (p ∉ S → D.atKey kl (.lit (.bool false)) = .lit (.bool false))
theorem ownsMap_heap {w w' : World} {b n : Nat} {D : DataW UH} (h : w.ownsMap Try.prog 178 (plainElem Try.prog 4) b n D) (hb : w'.heap[b]? = w.heap[b]?) : w'.ownsMap Try.prog 178 (plainElem Try.prog 4) b n D := by
  obtain ⟨es, clock, h1, F, hs, hD⟩ := h
  exact ⟨es, clock, by rw [hb]; exact h1, F, hs, hD⟩
def ptMap (b : Nat) (S : List Pt) : Comp where
  foot := [b]
  ok := fun w => PtsIn w b S
  loc := fun w w' h ⟨n, D, hn, ho, hk⟩ => ⟨n, D, hn, ownsMap_heap ho (h b (by simp)), hk⟩
  dom := fun w ⟨n, D, hn, ho, hk⟩ b' hb => by simp at hb; subst hb; exact ho.lt

section
variable {K : Know} {w : World} {F : List Comp} {b : Nat} {S : List Pt} {p : Pt}
theorem St.ptMap_made (h : St K w F) : St K (w.alloc (.map #[] 0)) (ptMap w.heap.size [] :: F) := by
  refine St.chg (ms := []) (ms' := [ptMap w.heap.size []]) (F := F) h ((Chg.refl _ _).alloc _) (fun c hc => ?_) (fun b hb => ?_) (by simp [feet, ptMap])
  · simp at hc; subst hc
    exact ⟨0, .map [], Nat.le_refl _, World.ownsMap_made w _ _ _, fun p kl _ _ => ⟨fun h => by simp at h, fun _ => rfl⟩⟩
  · simp [feet, ptMap] at hb; subst hb; exact .inr (Nat.le_refl _)

theorem bool_of_elem {v : Value} {x : Bool} {ps : List MemPlace} (h : plainElem (H := UH) Try.prog 4 v = some (.lit (.bool x), ps)) : v = .bool x := by
  cases v with
  | bool y =>
    simp [plainElem, Try.underlying4] at h
    rw [h.1]
  | _ => simp [plainElem, Try.underlying4] at h

/-- 'm[k]'. -/
theorem St.ptMap_look (h : St K w (ptMap b S :: F)) (hp : PtOk p) : ∃ x : Bool, (Instr.lookup 174 (.map (some b)) (ptV p) false).run Try.prog w = .ok (.bool x) w ∧ (x = true ↔ p ∈ S) := by
  obtain ⟨n, D, hn, ho, hk⟩ := h.head
  obtain ⟨kl, hkl⟩ := put_key hp
  obtain ⟨v, ps, hrun, hv⟩ := ho.lookup keyed_put Try.underlying174 (z := .bool false) (by simp [go_sem]) (plainElem_bool Try.underlying4 false) hkl
  obtain ⟨h1, h2⟩ := hk p kl hp hkl
  by_cases hin : p ∈ S
  · rw [h1 hin] at hv
    rw [bool_of_elem hv] at hrun
    exact ⟨true, hrun, by simp [hin]⟩
  · rw [h2 hin] at hv
    rw [bool_of_elem hv] at hrun
    exact ⟨false, hrun, by simp [hin]⟩

/-- 'm[k] = true'. -/
theorem St.ptMap_put (h : St K w (ptMap b S :: F)) (hp : PtOk p) (hS : S.length < 1000000) : ∃ w', (Instr.mapUpdate 174 (.map (some b)) (ptV p) (.bool true)).run Try.prog w = .ok () w' ∧ St K w' (ptMap b (p :: S) :: F) := by
  obtain ⟨n, D, hn, ho, hk⟩ := h.head
  obtain ⟨kl, hkl⟩ := put_key hp
  obtain ⟨w', hrun, ho', hg⟩ := ho.update keyed_put Try.underlying174 (by unfold maxLen; omega) hkl (plainElem_bool Try.underlying4 true)
  refine ⟨w', hrun, h.chg1 (c' := ptMap b (p :: S)) ⟨hg.os, hg.tape, hg.output, hg.size, fun k hk hn => hg.block k hk (fun e => hn ?_)⟩ ⟨n + 1, _, by simp; omega, ho', fun q kq hq hkq => ?_⟩ rfl⟩
  · simp [ptMap]; exact Option.some.inj e
  · by_cases hkk : kq = kl
    · subst hkk
      have e : ptV q = ptV p := keyed_put.inj hkq hkl
      have e2 := ptV_inj e
      subst e2
      refine ⟨fun _ => atKey_put_same ho.isMap (keyed_put.key hkl) _ _, fun hn => absurd (List.mem_cons_self) hn⟩
    · have hne : q ≠ p := fun e => by
        subst e
        rw [hkl] at hkq
        exact hkk (Option.some.inj hkq).symm
      rw [atKey_put_other hkk]
      obtain ⟨h1, h2⟩ := hk q kq hq hkq
      exact ⟨fun hin => h1 (by simpa [hne] using hin), fun hin => h2 (by simpa [hne] using hin)⟩

theorem wpList_ptPut {ops : Array Oper} {rest : List Oper} {o : Oper} {a : Act} {Q : Exit → Act → World → Prop} (hs : St K w (ptMap b S :: F)) (hp : PtOk p) (hS : S.length < 1000000)
    (hg : o.guard = none) (m x v : Operand) (hop : o.op = Op.mapUpdate 174 m x v) (hm : a.eval m = .map (some b)) (hx : a.eval x = ptV p) (hv : a.eval v = .bool true)
    (hK : ∀ w', St K w' (ptMap b (p :: S) :: F) → wpList Try.prog ops Q rest (a.put o.dst undef) w') : wpList Try.prog ops Q (o :: rest) a w := by
  refine wpList_plain hg fun K' hK' => ?_
  obtain ⟨w', hrun, r1⟩ := hs.ptMap_put hp hS
  unfold Oper.wp
  simp [execOp, hop, hm, hx, hv, hrun, Result.andThen]
  exact hK' _ _ (hK w' r1)
end
end Go.Proofs.Ytfgjanponijkhaa
