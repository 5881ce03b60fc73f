
/- Machines that are made of machines: one step of 'steps.Call'. -/
import Derived.Test.YtlpdhhhgckpcfaaGreatFindA
import Derived.Test.YtlpdhhhgckpcfaaGreatCallVar
namespace Go.Proofs.YtlpdhhhgckpcfaaGreat
open Go.RowKit
set_option maxRecDepth 100000
/-- One step of a machine that lies in the parts C: the answer and the parts behind it (R), the memory behind it. -/
def StepsTo (K : Know) (bm bc : Nat) (g : Nat) (xv : Value) (L : List Cel) (acc : Nat) (C : List Comp) (L' : List Cel) (acc' : Nat) (R : Bool → List Comp → Prop) : Prop :=
  ∀ (w : World) (F : List Comp), St K w (C ++ memC bm bc L acc :: F) → Calls Tryz.prog g #[xv, (.pointer (some ⟨bm, 0, none⟩))] w fun e w' => ∃ fin C', e = .returned (.bool fin) ∧ R fin C' ∧ St K w' (C' ++ memC bm bc L' acc' :: F)
section
variable {K : Know} {bm bc : Nat} {g : Nat} {xv : Value} {L L' : List Cel} {acc acc' : Nat} {C : List Comp} {R : Bool → List Comp → Prop}
theorem St.swap1 {w : World} {a : Comp} {A B : List Comp} (h : St K w (a :: (A ++ B))) : St K w (A ++ a :: B) := h.sink
/-- The parts A of a list of parts A ++ B, brought behind B. -/
theorem St.turn {w : World} {A B : List Comp} (h : St K w (A ++ B)) : St K w (B ++ A) := h.perm List.perm_append_comm
theorem St.front {w : World} {A B F : List Comp} (h : St K w (A ++ (B ++ F))) : St K w (B ++ (A ++ F)) := by
  rw [← List.append_assoc] at h ⊢
  exact h.perm (List.Perm.append_right F List.perm_append_comm)
theorem St.dropl {w : World} : ∀ {A B : List Comp}, St K w (A ++ B) → St K w B
  | [], _, h => h
  | _ :: _, _, h => St.dropl h.tail
theorem StepsTo.run_call {b b2 b3 b5 : Nat} {T T2 : TypeId} {f : Nat} {tx ty : Array Value} {tl : List Value} {V : List Comp} {R2 : Option FV → List Value → List Comp → Prop}
    (hin : StepsTo K bm bc g xv L acc C L' acc' R)
    (hm : ∀ (n : Nat) (w : World), (method (n + 1) T2 xv "Step").run Tryz.prog w = .ok (g, xv) w) (hg : Enters g) (hf : Enters f)
    (hnext : ∀ (C' : List Comp) (w : World) (F : List Comp), R true C' → St K w (blk b (.cells (stV (some (callFV b2 b3 b5)) :: tl).toArray T) :: (V ++ (C' ++ memC bm bc L' acc' :: F))) →
      Calls Tryz.prog f (tx ++ ty) w fun e w2 => ∃ o tl' C2, e = .returned (stV o) ∧ R2 o tl' C2 ∧ St K w2 (blk b (.cells (stV (some (callFV b2 b3 b5)) :: tl').toArray T) :: (C2 ++ memC bm bc L' acc' :: F)))
    (w : World) (F : List Comp)
    (hs : St K w (blk b (.cells (stV (some (callFV b2 b3 b5)) :: tl).toArray T) :: callC b2 b3 b5 (.iface T2 xv) (.func (.func f) tx ty) :: (V ++ (C ++ memC bm bc L acc :: F)))) :
    Calls Tryz.prog 77 #[(.pointer (some ⟨b, 0, none⟩)), (.pointer (some ⟨bm, 0, none⟩))] w fun e w' => ∃ o tl' C2, e = .returned (.bool o.isNone) ∧ St K w' (blk b (.cells (stV o :: tl').toArray T) :: (C2 ++ memC bm bc L' acc' :: F)) ∧
      ((o = some (callFV b2 b3 b5) ∧ tl' = tl ∧ ∃ C', R false C' ∧ C2 = callC b2 b3 b5 (.iface T2 xv) (.func (.func f) tx ty) :: (V ++ C')) ∨ R2 o tl' C2) := by
  have hc := hs.k0 0
  refine (runStep_of (K := K) (α := { x : Option FV × List Value × List Comp // (x.1 = some (callFV b2 b3 b5) ∧ x.2.1 = tl ∧ ∃ C', R false C' ∧ x.2.2 = callC b2 b3 b5 (.iface T2 xv) (.func (.func f) tx ty) :: (V ++ C')) ∨ R2 x.1 x.2.1 x.2.2 })
    (f := callFV b2 b3 b5) (o := fun x => x.1.1) (nx := stV (some (callFV b2 b3 b5))) (tl := fun x => x.1.2.1) (F' := fun x => x.1.2.2 ++ memC bm bc L' acc' :: F) (T := T) callEnters hc ?_).mono
    (fun e w' ⟨⟨⟨o, tl', C2⟩, h⟩, he, hs⟩ => ⟨o, tl', C2, he, hs, h⟩)
  show Calls Tryz.prog 115 #[(.pointer (some ⟨bm, 0, none⟩)), (.pointer (some ⟨b2, 0, none⟩)), (.pointer (some ⟨b3, 0, none⟩)), (.pointer (some ⟨b5, 0, none⟩))] w _
  have hb : St K w (C ++ memC bm bc L acc :: ((blk b (.cells (stV (some (callFV b2 b3 b5)) :: tl).toArray T) :: callC b2 b3 b5 (.iface T2 xv) (.func (.func f) tx ty) :: V) ++ F)) := by
    have h1 : St K w ((blk b (.cells (stV (some (callFV b2 b3 b5)) :: tl).toArray T) :: callC b2 b3 b5 (.iface T2 xv) (.func (.func f) tx ty) :: V) ++ ((C ++ [memC bm bc L acc]) ++ F)) := by simpa using hs
    have h2 := h1.front
    simpa using h2
  have hrs := hin w _ hb
  refine (callStep_st (P0 := fun w' => ∃ C', R false C' ∧ St K w' (blk b (.cells (stV (some (callFV b2 b3 b5)) :: tl).toArray T) :: ((callC b2 b3 b5 (.iface T2 xv) (.func (.func f) tx ty) :: (V ++ C')) ++ memC bm bc L' acc' :: F)))
    (P1 := fun o w' => ∃ tl' C2, R2 o tl' C2 ∧ St K w' (blk b (.cells (stV (some (callFV b2 b3 b5)) :: tl').toArray T) :: (C2 ++ memC bm bc L' acc' :: F)))
    (F := blk b (.cells (stV (some (callFV b2 b3 b5)) :: tl).toArray T) :: (V ++ (C ++ memC bm bc L acc :: F))) (K := K) hs.b1 hm hg hf (hrs.mono ?_)).mono ?_
  · rintro e w1 ⟨fin, C', rfl, hR, h⟩
    have h2 : St K w1 ((blk b (.cells (stV (some (callFV b2 b3 b5)) :: tl).toArray T) :: callC b2 b3 b5 (.iface T2 xv) (.func (.func f) tx ty) :: V) ++ ((C' ++ [memC bm bc L' acc']) ++ F)) := by
      have h1 : St K w1 ((C' ++ [memC bm bc L' acc']) ++ ((blk b (.cells (stV (some (callFV b2 b3 b5)) :: tl).toArray T) :: callC b2 b3 b5 (.iface T2 xv) (.func (.func f) tx ty) :: V) ++ F)) := by simpa using h
      exact h1.front
    have h3 : St K w1 (blk b (.cells (stV (some (callFV b2 b3 b5)) :: tl).toArray T) :: callC b2 b3 b5 (.iface T2 xv) (.func (.func f) tx ty) :: (V ++ (C' ++ memC bm bc L' acc' :: F))) := by simpa using h2
    refine ⟨⟨K, _, h3.b1⟩, ?_⟩
    cases fin with
    | false => exact .inl ⟨rfl, C', hR, by simpa using h3⟩
    | true =>
      refine .inr ⟨rfl, ?_⟩
      refine (hnext C' w1 F hR h3.b1.tail).mono ?_
      rintro e w2 ⟨o, tl', C2, rfl, hR2, hs2⟩
      exact ⟨o, rfl, tl', C2, hR2, hs2⟩
  · rintro e w1 ⟨o, rfl, ⟨rfl, C', hR, h⟩ | ⟨tl', C2, hR2, h⟩⟩
    · exact ⟨⟨(_, tl, _), .inl ⟨rfl, rfl, C', hR, rfl⟩⟩, rfl, h⟩
    · exact ⟨⟨(o, tl', C2), .inr hR2⟩, rfl, h⟩
end
/-- i.run = steps.Begin(..): the state (e1), the position (e2), its store (e3). -/
def BgG (K : Know) (REST : List Comp) (b : Nat) (T : TypeId) (tl : List Value) (e1 e2 e3 : Nat) (Φ : FV → List Comp → Prop) (ρ : Nat → Option Value) (W : World) : Prop :=
  ∃ (fv : FV) (C : List Comp), (∀ v, ρ e1 = some v → v = stV (some fv) ∧ Φ fv C) ∧ (∀ v, ρ e2 = some v → v = .agg #[stV (some fv), .bool true]) ∧
    St K W ((if (ρ e1).isSome then C else []) ++ (blk b (.cells ((if (ρ e3).isSome then stV (some fv) else .nilFunc) :: .bool (ρ e3).isSome :: tl).toArray T) :: REST))
section
variable {K : Know} {REST : List Comp} {b : Nat} {T : TypeId} {tl : List Value} {e1 e2 e3 : Nat} {Φ : FV → List Comp → Prop} {ρ : Nat → Option Value} {W : World} {v1 v2 : Value}
theorem BgG.start (hs : St K W (blk b (.cells (.nilFunc :: .bool false :: tl).toArray T) :: REST)) : BgG K REST b T tl e1 e2 e3 Φ (fun _ => none) W :=
  ⟨⟨0, #[], #[]⟩, [], fun v h => (by cases h), fun v h => (by cases h), hs⟩
theorem BgG.same {W' : World} (h : BgG K REST b T tl e1 e2 e3 Φ ρ W) (hb : Below W.heap.size W W') : BgG K REST b T tl e1 e2 e3 Φ ρ W' := by
  obtain ⟨fv, C, q1, q2, hs⟩ := h
  exact ⟨fv, C, q1, q2, hs.same hb⟩
theorem BgG.rest (h : BgG K REST b T tl e1 e2 e3 Φ ρ W) : St K W REST := by
  obtain ⟨fv, C, q1, q2, hs⟩ := h
  exact (hs.right).tail
theorem BgG.call (h : BgG K REST b T tl e1 e2 e3 Φ ρ W) (h13 : e1 ≠ e3) (h12 : e1 ≠ e2) (h1 : ρ e1 = none) (h2 : ρ e2 = none) (h3 : ρ e3 = none) : St K W (blk b (.cells (.nilFunc :: .bool false :: tl).toArray T) :: REST) ∧
    ∀ fv C W', Φ fv C → St K W' (C ++ (blk b (.cells (.nilFunc :: .bool false :: tl).toArray T) :: REST)) → BgG K REST b T tl e1 e2 e3 Φ (upd ρ e1 (stV (some fv))) W' := by
  obtain ⟨fv0, C0, q1, q2, hs⟩ := h
  rw [h1, h3] at hs
  refine ⟨hs, fun fv C W' hΦ hs' => ⟨fv, C, fun v hv => ?_, fun v hv => ?_, ?_⟩⟩
  · rw [upd_eq] at hv
    exact ⟨(Option.some.inj hv).symm, hΦ⟩
  · rw [upd_ne (Ne.symm h12), h2] at hv; cases hv
  · rw [upd_eq, upd_ne (Ne.symm h13), h3]; exact hs'
theorem BgG.begin (h : BgG K REST b T tl e1 e2 e3 Φ ρ W) (h12 : e1 ≠ e2) (h23 : e2 ≠ e3) (h1 : ρ e1 = some v1) : ∃ fv, v1 = stV (some fv) ∧ ∀ W', Below W.heap.size W W' → BgG K REST b T tl e1 e2 e3 Φ (upd ρ e2 (.agg #[stV (some fv), .bool true])) W' := by
  obtain ⟨fv, C, q1, q2, hs⟩ := h
  refine ⟨fv, (q1 v1 h1).1, fun W' hb => ⟨fv, C, fun v hv => q1 v (by rwa [upd_ne h12] at hv), fun v hv => by rw [upd_eq] at hv; exact (Option.some.inj hv).symm, ?_⟩⟩
  rw [upd_ne h12, upd_ne (Ne.symm h23)]; exact hs.same hb
theorem BgG.store (h : BgG K REST b T tl e1 e2 e3 Φ ρ W) (h13 : e1 ≠ e3) (h23 : e2 ≠ e3) (h2 : ρ e2 = some v2) (h3 : ρ e3 = none) : ∃ (fv : FV) (R' : List Comp), v2 = .agg #[stV (some fv), .bool true] ∧ St K W (blk b (.cells (.nilFunc :: .bool false :: tl).toArray T) :: R') ∧
    ∀ W', St K W' (blk b (.cells (stV (some fv) :: .bool true :: tl).toArray T) :: R') → BgG K REST b T tl e1 e2 e3 Φ (upd ρ e3 undef) W' := by
  obtain ⟨fv, C, q1, q2, hs⟩ := h
  rw [h3] at hs
  refine ⟨fv, (if (ρ e1).isSome then C else []) ++ REST, q2 v2 h2, hs.perm List.perm_middle, fun W' hs' => ⟨fv, C, fun v hv => q1 v (by rwa [upd_ne h13] at hv), fun v hv => q2 v (by rwa [upd_ne h23] at hv), ?_⟩⟩
  rw [upd_ne h13, upd_eq]
  exact hs'.perm (List.perm_middle.symm)
theorem BgG.last (h : BgG K REST b T tl e1 e2 e3 Φ ρ W) (hall : ∀ e, e ∈ [e1, e2, e3] → (ρ e).isSome = true) : ∃ (fv : FV) (C : List Comp), ρ e1 = some (stV (some fv)) ∧ ρ e2 = some (.agg #[stV (some fv), .bool true]) ∧ (∃ v, ρ e3 = some v) ∧ Φ fv C ∧ St K W (C ++ (blk b (.cells (stV (some fv) :: .bool true :: tl).toArray T) :: REST)) := by
  obtain ⟨v1, h1⟩ := Option.isSome_iff_exists.1 (hall e1 (by simp))
  obtain ⟨v2, h2⟩ := Option.isSome_iff_exists.1 (hall e2 (by simp))
  obtain ⟨v3, h3⟩ := Option.isSome_iff_exists.1 (hall e3 (by simp))
  obtain ⟨fv, C, q1, q2, hs⟩ := h
  rw [h1, h3] at hs
  exact ⟨fv, C, by rw [h1, (q1 v1 h1).1], by rw [h2, q2 v2 h2], ⟨v3, h3⟩, (q1 v1 h1).2, hs⟩
end
/-- The state 'steps.Call(x, then)' and its parts. -/
def CbΦ (T2 : TypeId) (xv t : Value) (fv : FV) (C : List Comp) : Prop := ∃ b2 b3 b5, fv = callFV b2 b3 b5 ∧ C = [callC b2 b3 b5 (.iface T2 xv) t]
/-- Three effects, each looking at the one before it. -/
def R3 (i j k : Nat) (Pre : World → Prop) (M1 : Value → World → Prop) (M2 : Value → Value → World → Prop) (Post : Value → Value → Value → World → Prop) (ρ : Nat → Option Value) (W : World) : Prop :=
  match ρ i, ρ j, ρ k with
  | none, _, _ => ρ j = none ∧ ρ k = none ∧ Pre W
  | some v, none, _ => ρ k = none ∧ M1 v W
  | some v, some u, none => M2 v u W
  | some v, some u, some x => Post v u x W
theorem region_three {P : Program} {id : Nat} {Q : Exit → Act → World → Prop} {a : Act} {w : World} {l : List Oper} (m : List Bool) (i j k : Nat) (Pre : World → Prop) (M1 : Value → World → Prop) (M2 : Value → Value → World → Prop) (Post : Value → Value → Value → World → Prop) (Inv : World → Prop) (aS : Act)
    (hne : i ≠ j ∧ i ≠ k ∧ j ≠ k) (hm : P.follows .mixedOrders = true) (hB : effsB l m [i, j, k] (fun e => if e = j then [i] else if e = k then [j] else []) a.tmps.size = true)
    (H : ∀ W, Inv W → wpQuiet P (withM m l).toArray (fun w' => ∃ x : Ext, w' = over W x) (fun a' => a' = aS) (withM m l) a)
    (haS : aS.tmps.size = a.tmps.size) (h0 : Pre w)
    (hI : (∀ W, Pre W → Inv W) ∧ (∀ v W, M1 v W → Inv W) ∧ (∀ v u W, M2 v u W → Inv W) ∧ (∀ v u x W, Post v u x W → Inv W))
    (hR : (∀ W W', Pre W → Below W.heap.size W W' → Pre W') ∧ (∀ v W W', M1 v W → Below W.heap.size W W' → M1 v W') ∧ (∀ v u W W', M2 v u W → Below W.heap.size W W' → M2 v u W') ∧ (∀ v u x W W', Post v u x W → Below W.heap.size W W' → Post v u x W'))
    (hE1 : ∀ (R : (Nat → Option Value) → World → Prop) o, l[i]? = some o → ∀ ρ W, Pre W → (∀ v W', M1 v W' → R (upd ρ i v) W') → ∀ af, af = aS → wpList P l.toArray (EffQ ρ af R i o) [o] af W)
    (hE2 : ∀ (R : (Nat → Option Value) → World → Prop) o, l[j]? = some o → ∀ ρ v W, M1 v W → (∀ u W', M2 v u W' → R (upd ρ j u) W') → ∀ af, af = aS.put (dstAt l i) v → wpList P l.toArray (EffQ ρ af R j o) [o] af W)
    (hE3 : ∀ (R : (Nat → Option Value) → World → Prop) o, l[k]? = some o → ∀ ρ v u W, M2 v u W → (∀ x W', Post v u x W' → R (upd ρ k x) W') → ∀ af, af = aS.put (dstAt l j) u → wpList P l.toArray (EffQ ρ af R k o) [o] af W)
    (hQ : ∀ v u x W, Post v u x W → Q .normal (((aS.put (dstAt l i) v).put (dstAt l j) u).put (dstAt l k) x) W) : (Code.region id l.toArray true).wp P Q a w := by
  obtain ⟨hij, hik, hjk⟩ := hne
  refine region_effects m [i, j, k] (fun e => if e = j then [i] else if e = k then [j] else []) (R3 i j k Pre M1 M2 Post) Inv aS hm hB H haS ⟨rfl, rfl, h0⟩ ?_ ?_ ⟨?_, ?_, ?_, trivial⟩ ?_
  · intro ρ W h
    unfold R3 at h
    cases hi : ρ i with
    | none => rw [hi] at h; exact hI.1 W h.2.2
    | some v =>
      cases hj : ρ j with
      | none => rw [hi, hj] at h; exact hI.2.1 v W h.2
      | some u =>
        cases hk : ρ k with
        | none => rw [hi, hj, hk] at h; exact hI.2.2.1 v u W h
        | some x => rw [hi, hj, hk] at h; exact hI.2.2.2 v u x W h
  · intro ρ W W' h hb
    unfold R3 at h ⊢
    cases hi : ρ i with
    | none => rw [hi] at h; exact ⟨h.1, h.2.1, hR.1 W W' h.2.2 hb⟩
    | some v =>
      cases hj : ρ j with
      | none => rw [hi, hj] at h; exact ⟨h.1, hR.2.1 v W W' h.2 hb⟩
      | some u =>
        cases hk : ρ k with
        | none => rw [hi, hj, hk] at h; exact hR.2.2.1 v u W W' h hb
        | some x => rw [hi, hj, hk] at h; exact hR.2.2.2 v u x W W' h hb
  · intro o ho ρ W h hcl hi hd af haf
    have haf : af = fillD l ρ (if i = j then [i] else if i = k then [j] else []) aS := haf
    rw [if_neg hij, if_neg hik] at haf
    obtain rfl : af = aS := haf
    unfold R3 at h
    rw [hi] at h
    refine hE1 _ o ho ρ W h.2.2 (fun v W' hM => ?_) _ rfl
    unfold R3
    have e1 : upd ρ i v i = some v := by simp [upd]
    have e2 : upd ρ i v j = none := by simp [upd, Ne.symm hij, h.1]
    have e3 : upd ρ i v k = none := by simp [upd, Ne.symm hik, h.2.1]
    rw [e1, e2, e3]
    exact ⟨rfl, hM⟩
  · intro o ho ρ W h hcl hj hd af haf
    have haf : af = fillD l ρ (if j = j then [i] else if j = k then [j] else []) aS := haf
    rw [if_pos rfl] at haf
    obtain ⟨v, hi⟩ := Option.isSome_iff_exists.1 (hd i (by show i ∈ (if j = j then [i] else if j = k then [j] else []); simp))
    have haf : af = aS.put (dstAt l i) v := by rw [haf]; simp [fillD, hi]
    unfold R3 at h
    rw [hi, hj] at h
    refine hE2 _ o ho ρ v W h.2 (fun u W' hM => ?_) _ haf
    unfold R3
    have e1 : upd ρ j u i = some v := by simp [upd, hij, hi]
    have e2 : upd ρ j u j = some u := by simp [upd]
    have e3 : upd ρ j u k = none := by simp [upd, Ne.symm hjk, h.1]
    rw [e1, e2, e3]
    exact hM
  · intro o ho ρ W h hcl hk hd af haf
    have haf : af = fillD l ρ (if k = j then [i] else if k = k then [j] else []) aS := haf
    rw [if_neg (Ne.symm hjk), if_pos rfl] at haf
    obtain ⟨u, hj⟩ := Option.isSome_iff_exists.1 (hd j (by show j ∈ (if k = j then [i] else if k = k then [j] else []); simp [Ne.symm hjk]))
    have haf : af = aS.put (dstAt l j) u := by rw [haf]; simp [fillD, hj]
    have hi' : (ρ i).isSome = true := hcl j (by simp) (by rw [hj]; rfl) i (by show i ∈ (if j = j then [i] else if j = k then [j] else []); simp)
    obtain ⟨v, hi⟩ := Option.isSome_iff_exists.1 hi'
    unfold R3 at h
    rw [hi, hj, hk] at h
    refine hE3 _ o ho ρ v u W h (fun x W' hM => ?_) _ haf
    unfold R3
    have e1 : upd ρ k x i = some v := by simp [upd, hik, hi]
    have e2 : upd ρ k x j = some u := by simp [upd, hjk, hj]
    have e3 : upd ρ k x k = some x := by simp [upd]
    rw [e1, e2, e3]
    exact hM
  · intro ρ W h hall
    obtain ⟨v, hi⟩ := Option.isSome_iff_exists.1 (hall i (by simp))
    obtain ⟨u, hj⟩ := Option.isSome_iff_exists.1 (hall j (by simp))
    obtain ⟨x, hk⟩ := Option.isSome_iff_exists.1 (hall k (by simp))
    unfold R3 at h
    rw [hi, hj, hk] at h
    have := hQ v u x W h
    simpa [fillD, hi, hj, hk] using this
/-- 'return steps.Call(New..(..), func ..)' in a region that draws: the machine (e1), the interface (e2), the state (e3), the result (e4). -/
def RcΦ (T2 : TypeId) (thn : Value) (Φ1 : Value → List Comp → Prop) (e1 e2 e3 e4 : Nat) (e : Nat) (ρ : Nat → Option Value) (v : Value) (cs : List Comp) : Prop :=
  if e = e1 then Φ1 v cs
  else if e = e2 then (∃ u, ρ e1 = some u ∧ v = .iface T2 u) ∧ cs = []
  else if e = e3 then ∃ u b2 b3 b5, ρ e1 = some u ∧ v = stV (some (callFV b2 b3 b5)) ∧ cs = [callC b2 b3 b5 (.iface T2 u) thn]
  else if e = e4 then (∃ b2 b3 b5, v = stV (some (callFV b2 b3 b5)) ∧ ρ e3 = some v) ∧ cs = []
  else False
section
variable {T2 : TypeId} {thn : Value} {Φ1 : Value → List Comp → Prop} {e1 e2 e3 e4 : Nat}
theorem upd_keep {ρ : Nat → Option Value} {k j : Nat} {u v : Value} (hk : ρ k = none) (hj : ρ j = some v) : upd ρ k u j = some v := by
  unfold upd
  rw [if_neg (fun e => by rw [e, hk] at hj; cases hj)]
  exact hj
theorem RcΦ.mono {es : List Nat} : Mono es (RcΦ T2 thn Φ1 e1 e2 e3 e4) := by
  intro e ρ v cs k u he hk h
  unfold RcΦ at h ⊢
  by_cases c1 : e = e1
  · rw [if_pos c1] at h ⊢; exact h
  rw [if_neg c1] at h ⊢
  by_cases c2 : e = e2
  · rw [if_pos c2] at h ⊢
    obtain ⟨⟨u1, h1, h2⟩, h3⟩ := h
    exact ⟨⟨u1, upd_keep hk h1, h2⟩, h3⟩
  rw [if_neg c2] at h ⊢
  by_cases c3 : e = e3
  · rw [if_pos c3] at h ⊢
    obtain ⟨u1, b2, b3, b5, h1, h2⟩ := h
    exact ⟨u1, b2, b3, b5, upd_keep hk h1, h2⟩
  rw [if_neg c3] at h ⊢
  by_cases c4 : e = e4
  · rw [if_pos c4] at h ⊢
    obtain ⟨⟨b2, b3, b5, h1, h2⟩, h3⟩ := h
    exact ⟨⟨b2, b3, b5, h1, upd_keep hk h2⟩, h3⟩
  rw [if_neg c4] at h ⊢
  exact h
theorem RcΦ.last {K : Know} {REST : List Comp} {ρ : Nat → Option Value} {W : World} (hne : [e1, e2, e3, e4].Nodup) (h : GR K REST [e1, e2, e3, e4] (RcΦ T2 thn Φ1 e1 e2 e3 e4) ρ W) (hall : ∀ e, e ∈ [e1, e2, e3, e4] → (ρ e).isSome = true) :
    ∃ u b2 b3 b5 C, Φ1 u C ∧ ρ e1 = some u ∧ ρ e2 = some (.iface T2 u) ∧ ρ e3 = some (stV (some (callFV b2 b3 b5))) ∧ ρ e4 = some (stV (some (callFV b2 b3 b5))) ∧ St K W (callC b2 b3 b5 (.iface T2 u) thn :: (C ++ REST)) := by
  obtain ⟨C, hC, hs⟩ := h.last hall
  simp only [List.nodup_cons, List.mem_cons, List.not_mem_nil, or_false, not_or, List.nodup_nil, and_true] at hne
  obtain ⟨⟨n12, n13, n14⟩, ⟨n23, n24⟩, n34, _⟩ := hne
  obtain ⟨v1, h1, p1⟩ := hC e1 (by simp)
  obtain ⟨v2, h2, p2⟩ := hC e2 (by simp)
  obtain ⟨v3, h3, p3⟩ := hC e3 (by simp)
  obtain ⟨v4, h4, p4⟩ := hC e4 (by simp)
  unfold RcΦ at p1 p2 p3 p4
  rw [if_pos rfl] at p1
  rw [if_neg (Ne.symm n12), if_pos rfl] at p2
  rw [if_neg (Ne.symm n13), if_neg (Ne.symm n23), if_pos rfl] at p3
  rw [if_neg (Ne.symm n14), if_neg (Ne.symm n24), if_neg (Ne.symm n34), if_pos rfl] at p4
  obtain ⟨⟨u2, q2, rfl⟩, c2⟩ := p2
  obtain ⟨u3, b2, b3, b5, q3, rfl, c3⟩ := p3
  obtain ⟨⟨x2, x3, x5, rfl, q4⟩, c4⟩ := p4
  rw [h1] at q2 q3
  obtain rfl := Option.some.inj q2
  obtain rfl := Option.some.inj q3
  rw [h3] at q4
  have q5 := Option.some.inj q4
  refine ⟨_, b2, b3, b5, C e1, p1, h1, h2, h3, by rw [h4, q5], ?_⟩
  simp only [List.flatMap_cons, List.flatMap_nil, List.append_nil, c2, c3, c4, List.nil_append] at hs
  have hs2 : St K W (C e1 ++ ([callC b2 b3 b5 (.iface T2 v1) thn] ++ REST)) := by simpa using hs
  simpa using hs2.front
end
end Go.Proofs.YtlpdhhhgckpcfaaGreat
