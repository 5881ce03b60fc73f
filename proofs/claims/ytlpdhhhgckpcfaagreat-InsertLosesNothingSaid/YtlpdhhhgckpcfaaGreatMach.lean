
/- Machines that are made of machines: one step of 'steps.Call'. -/
import Derived.Test.YtlpdhhhgckpcfaaGreatFindA
import Derived.Test.YtlpdhhhgckpcfaaGreatCallVar
namespace Go.Proofs.YtlpdhhhgckpcfaaGreat
open Go.RowKit
set_option maxRecDepth 100000
section
variable {K : Know} {bm bc : Nat} {g : Nat} {xv : Value} {L L' : List Cel} {acc acc' : Nat} {C : List Comp} {R : Bool → List Comp → Prop}
/-- The parts A of a list of parts A ++ B, brought behind B. -/
theorem St.turn {w : World} {A B : List Comp} (h : St K w (A ++ B)) : St K w (B ++ A) := h.perm List.perm_append_comm
theorem St.front {w : World} {A B F : List Comp} (h : St K w (A ++ (B ++ F))) : St K w (B ++ (A ++ F)) := by
  rw [← List.append_assoc] at h ⊢
  exact h.perm (List.Perm.append_right F List.perm_append_comm)
end
/-- i.run = steps.Begin(..): the state (e1), the position (e2), its store (e3). -/
def BgG (K : Know) (REST : List Comp) (b : Nat) (T : TypeId) (tl : List Value) (e1 e2 e3 : Nat) (Φ : FV → List Comp → Prop) (ρ : Nat → Option Value) (W : World) : Prop :=
  ∃ (fv : FV) (C : List Comp), (∀ v, ρ e1 = some v → v = stV (some fv) ∧ Φ fv C) ∧ (∀ v, ρ e2 = some v → v = .agg #[stV (some fv), .bool true]) ∧
    St K W ((if (ρ e1).isSome then C else []) ++ (blk b (.cells ((if (ρ e3).isSome then stV (some fv) else .nilFunc) :: .bool (ρ e3).isSome :: tl).toArray T) :: REST))
section
variable {K : Know} {REST : List Comp} {b : Nat} {T : TypeId} {tl : List Value} {e1 e2 e3 : Nat} {Φ : FV → List Comp → Prop} {ρ : Nat → Option Value} {W : World} {v1 v2 : Value}
theorem BgG.start (hs : St K W (blk b (.cells (.nilFunc :: .bool false :: tl).toArray T) :: REST)) : BgG K REST b T tl e1 e2 e3 Φ (fun _ => none) W :=
  ⟨⟨0, #[], #[]⟩, [], fun v h => (by cases h), fun v h => (by cases h), hs⟩
theorem BgG.same {W' : World} (h : BgG K REST b T tl e1 e2 e3 Φ ρ W) (hb : Below W.heap.size W W') : BgG K REST b T tl e1 e2 e3 Φ ρ W' := by
  obtain ⟨fv, C, q1, q2, hs⟩ := h
  exact ⟨fv, C, q1, q2, hs.same hb⟩
theorem BgG.rest (h : BgG K REST b T tl e1 e2 e3 Φ ρ W) : St K W REST := by
  obtain ⟨fv, C, q1, q2, hs⟩ := h
  exact (hs.right).tail
theorem BgG.call (h : BgG K REST b T tl e1 e2 e3 Φ ρ W) (h13 : e1 ≠ e3) (h12 : e1 ≠ e2) (h1 : ρ e1 = none) (h2 : ρ e2 = none) (h3 : ρ e3 = none) : St K W (blk b (.cells (.nilFunc :: .bool false :: tl).toArray T) :: REST) ∧
    ∀ fv C W', Φ fv C → St K W' (C ++ (blk b (.cells (.nilFunc :: .bool false :: tl).toArray T) :: REST)) → BgG K REST b T tl e1 e2 e3 Φ (upd ρ e1 (stV (some fv))) W' := by
  obtain ⟨fv0, C0, q1, q2, hs⟩ := h
  rw [h1, h3] at hs
  refine ⟨hs, fun fv C W' hΦ hs' => ⟨fv, C, fun v hv => ?_, fun v hv => ?_, ?_⟩⟩
  · rw [upd_eq] at hv
    exact ⟨(Option.some.inj hv).symm, hΦ⟩
  · rw [upd_ne (Ne.symm h12), h2] at hv; cases hv
  · rw [upd_eq, upd_ne (Ne.symm h13), h3]; exact hs'
theorem BgG.begin (h : BgG K REST b T tl e1 e2 e3 Φ ρ W) (h12 : e1 ≠ e2) (h23 : e2 ≠ e3) (h1 : ρ e1 = some v1) : ∃ fv, v1 = stV (some fv) ∧ ∀ W', Below W.heap.size W W' → BgG K REST b T tl e1 e2 e3 Φ (upd ρ e2 (.agg #[stV (some fv), .bool true])) W' := by
  obtain ⟨fv, C, q1, q2, hs⟩ := h
  refine ⟨fv, (q1 v1 h1).1, fun W' hb => ⟨fv, C, fun v hv => q1 v (by rwa [upd_ne h12] at hv), fun v hv => by rw [upd_eq] at hv; exact (Option.some.inj hv).symm, ?_⟩⟩
  rw [upd_ne h12, upd_ne (Ne.symm h23)]; exact hs.same hb
theorem BgG.store (h : BgG K REST b T tl e1 e2 e3 Φ ρ W) (h13 : e1 ≠ e3) (h23 : e2 ≠ e3) (h2 : ρ e2 = some v2) (h3 : ρ e3 = none) : ∃ (fv : FV) (R' : List Comp), v2 = .agg #[stV (some fv), .bool true] ∧ St K W (blk b (.cells (.nilFunc :: .bool false :: tl).toArray T) :: R') ∧
    ∀ W', St K W' (blk b (.cells (stV (some fv) :: .bool true :: tl).toArray T) :: R') → BgG K REST b T tl e1 e2 e3 Φ (upd ρ e3 undef) W' := by
  obtain ⟨fv, C, q1, q2, hs⟩ := h
  rw [h3] at hs
  refine ⟨fv, (if (ρ e1).isSome then C else []) ++ REST, q2 v2 h2, hs.perm List.perm_middle, fun W' hs' => ⟨fv, C, fun v hv => q1 v (by rwa [upd_ne h13] at hv), fun v hv => q2 v (by rwa [upd_ne h23] at hv), ?_⟩⟩
  rw [upd_ne h13, upd_eq]
  exact hs'.perm (List.perm_middle.symm)
theorem BgG.last (h : BgG K REST b T tl e1 e2 e3 Φ ρ W) (hall : ∀ e, e ∈ [e1, e2, e3] → (ρ e).isSome = true) : ∃ (fv : FV) (C : List Comp), ρ e1 = some (stV (some fv)) ∧ ρ e2 = some (.agg #[stV (some fv), .bool true]) ∧ (∃ v, ρ e3 = some v) ∧ Φ fv C ∧ St K W (C ++ (blk b (.cells (stV (some fv) :: .bool true :: tl).toArray T) :: REST)) := by
  obtain ⟨v1, h1⟩ := Option.isSome_iff_exists.1 (hall e1 (by simp))
  obtain ⟨v2, h2⟩ := Option.isSome_iff_exists.1 (hall e2 (by simp))
  obtain ⟨v3, h3⟩ := Option.isSome_iff_exists.1 (hall e3 (by simp))
  obtain ⟨fv, C, q1, q2, hs⟩ := h
  rw [h1, h3] at hs
  exact ⟨fv, C, by rw [h1, (q1 v1 h1).1], by rw [h2, q2 v2 h2], ⟨v3, h3⟩, (q1 v1 h1).2, hs⟩
end
/-- Three effects, each looking at the one before it. -/
def R3 (i j k : Nat) (Pre : World → Prop) (M1 : Value → World → Prop) (M2 : Value → Value → World → Prop) (Post : Value → Value → Value → World → Prop) (ρ : Nat → Option Value) (W : World) : Prop :=
  match ρ i, ρ j, ρ k with
  | none, _, _ => ρ j = none ∧ ρ k = none ∧ Pre W
  | some v, none, _ => ρ k = none ∧ M1 v W
  | some v, some u, none => M2 v u W
  | some v, some u, some x => Post v u x W
/-- 'return steps.Call(New..(..), func ..)' in a region that draws: the machine (e1), the interface (e2), the state (e3), the result (e4). -/
def RcΦ (T2 : TypeId) (thn : Value) (Φ1 : Value → List Comp → Prop) (e1 e2 e3 e4 : Nat) (e : Nat) (ρ : Nat → Option Value) (v : Value) (cs : List Comp) : Prop :=
  if e = e1 then Φ1 v cs
  else if e = e2 then (∃ u, ρ e1 = some u ∧ v = .iface T2 u) ∧ cs = []
  else if e = e3 then ∃ u b2 b3 b5, ρ e1 = some u ∧ v = stV (some (callFV b2 b3 b5)) ∧ cs = [callC b2 b3 b5 (.iface T2 u) thn]
  else if e = e4 then (∃ b2 b3 b5, v = stV (some (callFV b2 b3 b5)) ∧ ρ e3 = some v) ∧ cs = []
  else False
section
variable {T2 : TypeId} {thn : Value} {Φ1 : Value → List Comp → Prop} {e1 e2 e3 e4 : Nat}
theorem upd_keep {ρ : Nat → Option Value} {k j : Nat} {u v : Value} (hk : ρ k = none) (hj : ρ j = some v) : upd ρ k u j = some v := by
  unfold upd
  rw [if_neg (fun e => by rw [e, hk] at hj; cases hj)]
  exact hj
theorem RcΦ.mono {es : List Nat} : Mono es (RcΦ T2 thn Φ1 e1 e2 e3 e4) := by
  intro e ρ v cs k u he hk h
  unfold RcΦ at h ⊢
  by_cases c1 : e = e1
  · rw [if_pos c1] at h ⊢; exact h
  rw [if_neg c1] at h ⊢
  by_cases c2 : e = e2
  · rw [if_pos c2] at h ⊢
    obtain ⟨⟨u1, h1, h2⟩, h3⟩ := h
    exact ⟨⟨u1, upd_keep hk h1, h2⟩, h3⟩
  rw [if_neg c2] at h ⊢
  by_cases c3 : e = e3
  · rw [if_pos c3] at h ⊢
    obtain ⟨u1, b2, b3, b5, h1, h2⟩ := h
    exact ⟨u1, b2, b3, b5, upd_keep hk h1, h2⟩
  rw [if_neg c3] at h ⊢
  by_cases c4 : e = e4
  · rw [if_pos c4] at h ⊢
    obtain ⟨⟨b2, b3, b5, h1, h2⟩, h3⟩ := h
    exact ⟨⟨b2, b3, b5, h1, upd_keep hk h2⟩, h3⟩
  rw [if_neg c4] at h ⊢
  exact h
theorem RcΦ.last {K : Know} {REST : List Comp} {ρ : Nat → Option Value} {W : World} (hne : [e1, e2, e3, e4].Nodup) (h : GR K REST [e1, e2, e3, e4] (RcΦ T2 thn Φ1 e1 e2 e3 e4) ρ W) (hall : ∀ e, e ∈ [e1, e2, e3, e4] → (ρ e).isSome = true) :
    ∃ u b2 b3 b5 C, Φ1 u C ∧ ρ e1 = some u ∧ ρ e2 = some (.iface T2 u) ∧ ρ e3 = some (stV (some (callFV b2 b3 b5))) ∧ ρ e4 = some (stV (some (callFV b2 b3 b5))) ∧ St K W (callC b2 b3 b5 (.iface T2 u) thn :: (C ++ REST)) := by
  obtain ⟨C, hC, hs⟩ := h.last hall
  simp only [List.nodup_cons, List.mem_cons, List.not_mem_nil, or_false, not_or, List.nodup_nil, and_true] at hne
  obtain ⟨⟨n12, n13, n14⟩, ⟨n23, n24⟩, n34, _⟩ := hne
  obtain ⟨v1, h1, p1⟩ := hC e1 (by simp)
  obtain ⟨v2, h2, p2⟩ := hC e2 (by simp)
  obtain ⟨v3, h3, p3⟩ := hC e3 (by simp)
  obtain ⟨v4, h4, p4⟩ := hC e4 (by simp)
  unfold RcΦ at p1 p2 p3 p4
  rw [if_pos rfl] at p1
  rw [if_neg (Ne.symm n12), if_pos rfl] at p2
  rw [if_neg (Ne.symm n13), if_neg (Ne.symm n23), if_pos rfl] at p3
  rw [if_neg (Ne.symm n14), if_neg (Ne.symm n24), if_neg (Ne.symm n34), if_pos rfl] at p4
  obtain ⟨⟨u2, q2, rfl⟩, c2⟩ := p2
  obtain ⟨u3, b2, b3, b5, q3, rfl, c3⟩ := p3
  obtain ⟨⟨x2, x3, x5, rfl, q4⟩, c4⟩ := p4
  rw [h1] at q2 q3
  obtain rfl := Option.some.inj q2
  obtain rfl := Option.some.inj q3
  rw [h3] at q4
  have q5 := Option.some.inj q4
  refine ⟨_, b2, b3, b5, C e1, p1, h1, h2, h3, by rw [h4, q5], ?_⟩
  simp only [List.flatMap_cons, List.flatMap_nil, List.append_nil, c2, c3, c4, List.nil_append] at hs
  have hs2 : St K W (C e1 ++ ([callC b2 b3 b5 (.iface T2 v1) thn] ++ REST)) := by simpa using hs
  simpa using hs2.front
end
end Go.Proofs.YtlpdhhhgckpcfaaGreat
