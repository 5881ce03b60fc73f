/- Several effects of a region, each with parts of its own (GR). -/
import Derived.Test.YtfgjanponijkhaaTailB
import Derived.Test.YtfgjanponijkhaaSt
namespace Go.Proofs.Ytfgjanponijkhaa
open Go.RowKit
set_option linter.unusedSectionVars false
theorem St.bring {K : Know} {w : World} {A B : List Comp} {c : Comp} (h : St K w (A ++ c :: B)) : St K w (c :: (A ++ B)) := h.perm List.perm_middle
theorem St.sink {K : Know} {w : World} {A B : List Comp} {c : Comp} (h : St K w (c :: (A ++ B))) : St K w (A ++ c :: B) := h.perm List.perm_middle.symm

theorem St.b7 {K : Know} {w : World} {c d e f g a b z : Comp} {cs : List Comp} (h : St K w (c :: d :: e :: f :: g :: a :: b :: z :: cs)) : St K w (z :: c :: d :: e :: f :: g :: a :: b :: cs) := St.bring (A := [c, d, e, f, g, a, b]) h
theorem St.b8 {K : Know} {w : World} {c0 c1 c2 c3 c4 c5 c6 c7 c8 : Comp} {cs : List Comp} (h : St K w (c0 :: c1 :: c2 :: c3 :: c4 :: c5 :: c6 :: c7 :: c8 :: cs)) : St K w (c8 :: c0 :: c1 :: c2 :: c3 :: c4 :: c5 :: c6 :: c7 :: cs) := St.bring (A := [c0, c1, c2, c3, c4, c5, c6, c7]) h
theorem St.b9 {K : Know} {w : World} {c0 c1 c2 c3 c4 c5 c6 c7 c8 c9 : Comp} {cs : List Comp} (h : St K w (c0 :: c1 :: c2 :: c3 :: c4 :: c5 :: c6 :: c7 :: c8 :: c9 :: cs)) : St K w (c9 :: c0 :: c1 :: c2 :: c3 :: c4 :: c5 :: c6 :: c7 :: c8 :: cs) := St.bring (A := [c0, c1, c2, c3, c4, c5, c6, c7, c8]) h
theorem St.b10 {K : Know} {w : World} {c0 c1 c2 c3 c4 c5 c6 c7 c8 c9 c10 : Comp} {cs : List Comp} (h : St K w (c0 :: c1 :: c2 :: c3 :: c4 :: c5 :: c6 :: c7 :: c8 :: c9 :: c10 :: cs)) : St K w (c10 :: c0 :: c1 :: c2 :: c3 :: c4 :: c5 :: c6 :: c7 :: c8 :: c9 :: cs) := St.bring (A := [c0, c1, c2, c3, c4, c5, c6, c7, c8, c9]) h
theorem St.b11 {K : Know} {w : World} {c0 c1 c2 c3 c4 c5 c6 c7 c8 c9 c10 c11 : Comp} {cs : List Comp} (h : St K w (c0 :: c1 :: c2 :: c3 :: c4 :: c5 :: c6 :: c7 :: c8 :: c9 :: c10 :: c11 :: cs)) : St K w (c11 :: c0 :: c1 :: c2 :: c3 :: c4 :: c5 :: c6 :: c7 :: c8 :: c9 :: c10 :: cs) := St.bring (A := [c0, c1, c2, c3, c4, c5, c6, c7, c8, c9, c10]) h
theorem St.b12 {K : Know} {w : World} {c0 c1 c2 c3 c4 c5 c6 c7 c8 c9 c10 c11 c12 : Comp} {cs : List Comp} (h : St K w (c0 :: c1 :: c2 :: c3 :: c4 :: c5 :: c6 :: c7 :: c8 :: c9 :: c10 :: c11 :: c12 :: cs)) : St K w (c12 :: c0 :: c1 :: c2 :: c3 :: c4 :: c5 :: c6 :: c7 :: c8 :: c9 :: c10 :: c11 :: cs) := St.bring (A := [c0, c1, c2, c3, c4, c5, c6, c7, c8, c9, c10, c11]) h
theorem St.u7 {K : Know} {w : World} {c0 c1 c2 c3 c4 c5 c6 c7 : Comp} {cs : List Comp} (h : St K w (c0 :: c1 :: c2 :: c3 :: c4 :: c5 :: c6 :: c7 :: cs)) : St K w (c1 :: c2 :: c3 :: c4 :: c5 :: c6 :: c7 :: c0 :: cs) := St.sink (A := [c1, c2, c3, c4, c5, c6, c7]) h
theorem St.u8 {K : Know} {w : World} {c0 c1 c2 c3 c4 c5 c6 c7 c8 : Comp} {cs : List Comp} (h : St K w (c0 :: c1 :: c2 :: c3 :: c4 :: c5 :: c6 :: c7 :: c8 :: cs)) : St K w (c1 :: c2 :: c3 :: c4 :: c5 :: c6 :: c7 :: c8 :: c0 :: cs) := St.sink (A := [c1, c2, c3, c4, c5, c6, c7, c8]) h
theorem St.u9 {K : Know} {w : World} {c0 c1 c2 c3 c4 c5 c6 c7 c8 c9 : Comp} {cs : List Comp} (h : St K w (c0 :: c1 :: c2 :: c3 :: c4 :: c5 :: c6 :: c7 :: c8 :: c9 :: cs)) : St K w (c1 :: c2 :: c3 :: c4 :: c5 :: c6 :: c7 :: c8 :: c9 :: c0 :: cs) := St.sink (A := [c1, c2, c3, c4, c5, c6, c7, c8, c9]) h
theorem St.u10 {K : Know} {w : World} {c0 c1 c2 c3 c4 c5 c6 c7 c8 c9 c10 : Comp} {cs : List Comp} (h : St K w (c0 :: c1 :: c2 :: c3 :: c4 :: c5 :: c6 :: c7 :: c8 :: c9 :: c10 :: cs)) : St K w (c1 :: c2 :: c3 :: c4 :: c5 :: c6 :: c7 :: c8 :: c9 :: c10 :: c0 :: cs) := St.sink (A := [c1, c2, c3, c4, c5, c6, c7, c8, c9, c10]) h
theorem St.u11 {K : Know} {w : World} {c0 c1 c2 c3 c4 c5 c6 c7 c8 c9 c10 c11 : Comp} {cs : List Comp} (h : St K w (c0 :: c1 :: c2 :: c3 :: c4 :: c5 :: c6 :: c7 :: c8 :: c9 :: c10 :: c11 :: cs)) : St K w (c1 :: c2 :: c3 :: c4 :: c5 :: c6 :: c7 :: c8 :: c9 :: c10 :: c11 :: c0 :: cs) := St.sink (A := [c1, c2, c3, c4, c5, c6, c7, c8, c9, c10, c11]) h
theorem St.u12 {K : Know} {w : World} {c0 c1 c2 c3 c4 c5 c6 c7 c8 c9 c10 c11 c12 : Comp} {cs : List Comp} (h : St K w (c0 :: c1 :: c2 :: c3 :: c4 :: c5 :: c6 :: c7 :: c8 :: c9 :: c10 :: c11 :: c12 :: cs)) : St K w (c1 :: c2 :: c3 :: c4 :: c5 :: c6 :: c7 :: c8 :: c9 :: c10 :: c11 :: c12 :: c0 :: cs) := St.sink (A := [c1, c2, c3, c4, c5, c6, c7, c8, c9, c10, c11, c12]) h
end Go.Proofs.Ytfgjanponijkhaa

namespace Go.Proofs.Ytfgjanponijkhaa
open Go.RowKit
set_option linter.unusedSectionVars false

theorem flatMap_perm {α β : Type} (f : α → List β) {l l' : List α} (h : l.Perm l') : (l.flatMap f).Perm (l'.flatMap f) := by
  induction h with
  | nil => exact List.Perm.refl _
  | cons x _ ih => rw [List.flatMap_cons, List.flatMap_cons]; exact ih.append_left _
  | swap x y l =>
    rw [List.flatMap_cons, List.flatMap_cons, List.flatMap_cons, List.flatMap_cons, ← List.append_assoc, ← List.append_assoc]
    exact List.perm_append_comm.append_right _
  | trans _ _ ih1 ih2 => exact ih1.trans ih2
theorem flatMap_same {α β : Type} {f g : α → List β} : ∀ {l : List α}, (∀ a, a ∈ l → f a = g a) → l.flatMap f = l.flatMap g
  | [], _ => rfl
  | a :: l, h => by rw [List.flatMap_cons, List.flatMap_cons, h a List.mem_cons_self, flatMap_same fun b hb => h b (List.mem_cons_of_mem _ hb)]
theorem take_out : ∀ (ds es : List Nat), ds.Nodup → (∀ d, d ∈ ds → d ∈ es) → ∃ r, es.Perm (ds ++ r)
  | [], es, _, _ => ⟨es, List.Perm.refl _⟩
  | d :: ds, es, hn, h => by
    rw [List.nodup_cons] at hn
    have h1 := List.perm_cons_erase (h d List.mem_cons_self)
    obtain ⟨r, hr⟩ := take_out ds (es.erase d) hn.2 (fun x hx => by
      have hne : x ≠ d := fun e => hn.1 (e ▸ hx)
      exact (List.mem_erase_of_ne hne).2 (h x (List.mem_cons_of_mem _ hx)))
    exact ⟨r, h1.trans (hr.cons d)⟩

/-- The parts of what has been done. -/
def effP (ρ : Nat → Option Value) (C : Nat → List Comp) (es : List Nat) : List Comp := es.flatMap fun e => if (ρ e).isSome then C e else []
/-- Each effect e that has been done has a value and parts as Φ says. -/
def GR (K : Know) (REST : List Comp) (es : List Nat) (Φ : Nat → (Nat → Option Value) → Value → List Comp → Prop) (ρ : Nat → Option Value) (W : World) : Prop :=
  ∃ C : Nat → List Comp, (∀ e v, e ∈ es → ρ e = some v → Φ e ρ v (C e)) ∧ St K W (effP ρ C es ++ REST)
/-- Φ looks only at what has been done. -/
def Mono (es : List Nat) (Φ : Nat → (Nat → Option Value) → Value → List Comp → Prop) : Prop :=
  ∀ e ρ v cs k u, e ∈ es → ρ k = none → Φ e ρ v cs → Φ e (upd ρ k u) v cs

section
variable {K : Know} {REST : List Comp} {es : List Nat} {Φ : Nat → (Nat → Option Value) → Value → List Comp → Prop} {ρ : Nat → Option Value} {W : World}
theorem effP_none : ∀ (es : List Nat) (C : Nat → List Comp), effP (fun _ => none) C es = []
  | [], _ => rfl
  | e :: es, C => by
    have := effP_none es C
    unfold effP at this ⊢
    rw [List.flatMap_cons, this]; rfl
theorem GR.start (hs : St K W REST) : GR K REST es Φ (fun _ => none) W :=
  ⟨fun _ => [], fun e v _ h => (by cases h), by rw [effP_none]; exact hs⟩
theorem GR.same {W' : World} (h : GR K REST es Φ ρ W) (hb : Below W.heap.size W W') : GR K REST es Φ ρ W' := by
  obtain ⟨C, h1, hs⟩ := h
  exact ⟨C, h1, hs.same hb⟩
theorem GR.rest (h : GR K REST es Φ ρ W) : St K W REST := by
  obtain ⟨C, h1, hs⟩ := h
  exact hs.right
/-- An effect e that uses the parts of the effects ds. -/
theorem GR.step (h : GR K REST es Φ ρ W) (hm : Mono es Φ) (e : Nat) (ds : List Nat) (hn : es.Nodup) (hd : (e :: ds).Nodup) (hin : ∀ d, d ∈ e :: ds → d ∈ es) (he : ρ e = none) (hds : ∀ d, d ∈ ds → (ρ d).isSome = true) :
    ∃ (C : Nat → List Comp) (R : List Comp), (∀ d v, d ∈ es → ρ d = some v → Φ d ρ v (C d)) ∧ St K W (ds.flatMap C ++ (REST ++ R)) ∧
      ∀ v cs W', Φ e (upd ρ e v) v cs → St K W' (cs ++ (ds.flatMap C ++ (REST ++ R))) → GR K REST es Φ (upd ρ e v) W' := by
  obtain ⟨C, h1, hs⟩ := h
  obtain ⟨r, hr⟩ := take_out (e :: ds) es hd hin
  have hnr : ((e :: ds) ++ r).Nodup := hr.nodup_iff.1 hn
  have hds' : ds.flatMap (fun e => if (ρ e).isSome then C e else []) = ds.flatMap C := flatMap_same fun d hd' => by rw [if_pos (hds d hd')]
  have p1 : (effP ρ C es).Perm (ds.flatMap C ++ effP ρ C r) := by
    refine (flatMap_perm _ hr).trans ?_
    rw [List.cons_append, List.flatMap_cons, List.flatMap_append, he]
    simp only [Option.isSome_none, Bool.false_eq_true, if_false, List.nil_append]
    rw [hds']
    exact List.Perm.refl _
  refine ⟨C, effP ρ C r, h1, hs.perm ?_, fun v cs W' hΦ hs' => ?_⟩
  · refine (p1.append_right REST).trans ?_
    rw [List.append_assoc]
    exact List.perm_append_comm.append_left _
  · have hne : ∀ d, d ∈ ds ++ r → d ≠ e := fun d hd' e' => by
      rw [List.cons_append, List.nodup_cons] at hnr
      exact hnr.1 (e' ▸ hd')
    refine ⟨fun k => if k = e then cs else C k, fun k u hk hu => ?_, hs'.perm ?_⟩
    · by_cases hke : k = e
      · subst hke
        have : v = u := by simpa [upd] using hu
        subst this
        show Φ k _ v (if k = k then cs else C k)
        rw [if_pos rfl]; exact hΦ
      · show Φ k _ u (if k = e then cs else C k)
        rw [if_neg hke]
        have hu' : ρ k = some u := by simpa [upd, hke] using hu
        exact hm k ρ u _ e v hk he (h1 k u hk hu')
    · have p2 : (effP (upd ρ e v) (fun k => if k = e then cs else C k) es).Perm (cs ++ (ds.flatMap C ++ effP ρ C r)) := by
        refine (flatMap_perm _ hr).trans ?_
        rw [List.cons_append, List.flatMap_cons, List.flatMap_append]
        have a1 : ds.flatMap (fun e_1 => if (upd ρ e v e_1).isSome = true then (if e_1 = e then cs else C e_1) else []) = ds.flatMap C := flatMap_same fun d hd' => by
          have := hne d (List.mem_append_left _ hd')
          have u : upd ρ e v d = ρ d := by simp [upd, this]
          rw [u, if_pos (hds d hd'), if_neg this]
        have a2 : r.flatMap (fun e_1 => if (upd ρ e v e_1).isSome = true then (if e_1 = e then cs else C e_1) else []) = effP ρ C r := flatMap_same fun d hd' => by
          have := hne d (List.mem_append_right _ hd')
          have u : upd ρ e v d = ρ d := by simp [upd, this]
          rw [u, if_neg this]
        rw [a1, a2]
        have u : (upd ρ e v e).isSome = true := by simp [upd]
        rw [if_pos u]
        show ((if e = e then cs else C e) ++ _).Perm _
        rw [if_pos rfl]
      refine List.Perm.trans ?_ (p2.append_right REST).symm
      rw [List.append_assoc, List.append_assoc]
      exact (List.Perm.append_left _ (List.Perm.append_left _ List.perm_append_comm))
/-- An effect that changes nothing. -/
theorem GR.know (h : GR K REST es Φ ρ W) (hm : Mono es Φ) (e : Nat) (hn : es.Nodup) (hin : e ∈ es) (he : ρ e = none) (v : Value) (hΦ : Φ e (upd ρ e v) v []) : GR K REST es Φ (upd ρ e v) W := by
  obtain ⟨C, R, h1, hs, hnext⟩ := h.step hm e [] hn (by simp) (by simpa using hin) he (by simp)
  exact hnext v [] W hΦ hs
/-- What has been done. -/
theorem GR.at (h : GR K REST es Φ ρ W) (d : Nat) (hd : d ∈ es) {v : Value} (hv : ρ d = some v) : ∃ cs R, Φ d ρ v cs ∧ St K W (cs ++ (REST ++ R)) := by
  obtain ⟨C, h1, hs⟩ := h
  obtain ⟨r, hr⟩ := take_out [d] es (by simp) (by simpa using hd)
  refine ⟨C d, effP ρ C r, h1 d v hd hv, hs.perm ?_⟩
  have p1 : (effP ρ C es).Perm (C d ++ effP ρ C r) := by
    refine (flatMap_perm _ hr).trans ?_
    rw [List.cons_append, List.flatMap_cons, hv]
    exact List.Perm.refl _
  refine (p1.append_right REST).trans ?_
  rw [List.append_assoc]
  exact List.perm_append_comm.append_left _
/-- All has been done. -/
theorem GR.last (h : GR K REST es Φ ρ W) (hall : ∀ e, e ∈ es → (ρ e).isSome = true) : ∃ C : Nat → List Comp, (∀ e, e ∈ es → ∃ v, ρ e = some v ∧ Φ e ρ v (C e)) ∧ St K W (es.flatMap C ++ REST) := by
  obtain ⟨C, h1, hs⟩ := h
  refine ⟨C, fun e he => ?_, ?_⟩
  · obtain ⟨v, hv⟩ := Option.isSome_iff_exists.1 (hall e he)
    exact ⟨v, hv, h1 e v he hv⟩
  · have : effP ρ C es = es.flatMap C := flatMap_same fun d hd' => by rw [if_pos (hall d hd')]
    rw [← this]; exact hs
end
end Go.Proofs.Ytfgjanponijkhaa
