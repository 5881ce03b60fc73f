/- steps.Call: a machine that runs another one to its end. A region that draws its order, with a call and one operation that looks at what it returns (a store, an assignment). -/
import Derived.Test.YtfgjanponijkhaaRun
import Derived.Test.YtfgjanponijkhaaTailB
namespace Go.Proofs.Ytfgjanponijkhaa
open Go.RowKit
set_option maxRecDepth 100000

theorem range_get {α : Type} (l : List α) : ∀ (n : Nat), l.length ≤ n → (List.range n).filterMap (fun i => l[i]?) = l := by
  induction l with
  | nil => intro n _; simp
  | cons a l ih =>
    intro n h
    cases n with
    | zero => simp at h
    | succ n =>
      rw [List.range_succ_eq_map, List.filterMap_cons, List.filterMap_map]
      simp only [List.getElem?_cons_zero]
      congr 1
      exact ih n (by simpa using h)
/-- The parts in another order: p has the old places. -/
theorem St.re {K : Know} {w : World} {cs cs' : List Comp} (hs : St K w cs) (p : List Nat) (e : p.filterMap ((cs.take p.length)[·]?) ++ cs.drop p.length = cs') (hp : p.Perm (List.range p.length) := by decide) : St K w cs' := by
  subst e
  refine hs.perm ?_
  have h := range_get (cs.take p.length) p.length (by simp; omega)
  have h2 := (hp.filterMap ((cs.take p.length)[·]?))
  rw [h] at h2
  have h3 := (h2.append_right (cs.drop p.length)).symm
  rwa [List.take_append_drop] at h3

/-- The state that Call returns: its number, the blocks of the machine, of what follows, of itself. -/
def callFV (b2 b3 b5 : Nat) : FV := ⟨175, #[], #[.pointer (some ⟨b2, 0, none⟩), .pointer (some ⟨b3, 0, none⟩), .pointer (some ⟨b5, 0, none⟩)]⟩
theorem callEnters : Enters 175 := fun _ _ => by kernel_rfl
/-- .. and these blocks. -/
def callC (b2 b3 b5 : Nat) (x t : Value) : Comp := group [blk b2 (.cells #[x] 242), blk b3 (.cells #[t] 186), blk b5 (.cells #[stV (some (callFV b2 b3 b5))] 155)]
section
variable {K : Know} {w : World} {F : List Comp} {b2 b3 b5 : Nat} {x t : Value}
theorem St.callParts (h : St K w (callC b2 b3 b5 x t :: F)) : St K w (blk b2 (.cells #[x] 242) :: blk b3 (.cells #[t] 186) :: blk b5 (.cells #[stV (some (callFV b2 b3 b5))] 155) :: F) := St.group_iff.1 h
theorem St.callMake (h : St K w (blk b2 (.cells #[x] 242) :: blk b3 (.cells #[t] 186) :: blk b5 (.cells #[stV (some (callFV b2 b3 b5))] 155) :: F)) : St K w (callC b2 b3 b5 x t :: F) := (St.group_iff (l := [_, _, _])).2 h

theorem call_st {T2 : TypeId} {xv : Value} {f : Nat} {tx ty : Array Value} (hs : St K w F) :
    Calls Try.prog 140 #[.iface T2 xv, .func (.func f) tx ty] w fun e w' => ∃ b2 b3 b5, e = .returned (stV (some (callFV b2 b3 b5))) ∧ St K w' (callC b2 b3 b5 (.iface T2 xv) (.func (.func f) tx ty) :: F) := by
  have hs := hs.made (.cells #[.iface T2 xv] 242)
  have hs := hs.made (.cells #[.func (.func f) tx ty] 186)
  have hs := hs.made (.cells #[stV (some (callFV w.heap.size (w.heap.size + 1) (w.heap.size + 2)))] 155)
  simp only [World.size_alloc] at hs
  have Hs := Lib.hid hs
  clear hs
  go_enter Try.func140, Try.ntmps140
  go_wp2
  go_ret
  exact ⟨w.heap.size, w.heap.size + 1, w.heap.size + 2, rfl, St.callMake Hs.out.u2.b1⟩

/-- A step of it: the machine steps; behind its last step what follows is called. -/
theorem callStep_st {T2 : TypeId} {xv : Value} {f g : Nat} {tx ty : Array Value} {m : Nat} {P0 : World → Prop} {P1 : Option FV → World → Prop} (hs : St K w (callC b2 b3 b5 (.iface T2 xv) (.func (.func f) tx ty) :: F))
    (hm : ∀ (n : Nat) (w : World), (method (n + 1) T2 xv "Step").run Try.prog w = .ok (g, xv) w) (hg : Enters g) (hf : Enters f)
    (hcall : Calls Try.prog g #[xv, .pointer (some ⟨m, 0, none⟩)] w fun e w1 => (∃ K' F', St K' w1 (callC b2 b3 b5 (.iface T2 xv) (.func (.func f) tx ty) :: F')) ∧ ((e = .returned (.bool false) ∧ P0 w1) ∨ (e = .returned (.bool true) ∧ Calls Try.prog f (tx ++ ty) w1 fun e w2 => ∃ o, e = .returned (stV o) ∧ P1 o w2))) :
    Calls Try.prog 175 #[.pointer (some ⟨m, 0, none⟩), .pointer (some ⟨b2, 0, none⟩), .pointer (some ⟨b3, 0, none⟩), .pointer (some ⟨b5, 0, none⟩)] w fun e w' => ∃ o, e = .returned (stV o) ∧ ((o = some (callFV b2 b3 b5) ∧ P0 w') ∨ P1 o w') := by
  have hf' : ∀ (args : Array Value) (w : World), (callFunc f args).run Try.prog w = .ok (.enter f args) w := hf
  have hg' : ∀ (args : Array Value) (w : World), (callFunc g args).run Try.prog w = .ok (.enter g args) w := hg
  have k2 := hs.callParts.k0
  have HC := Lib.hid hcall
  clear hcall hs
  go_enter Try.func175, Try.ntmps175
  go_wp2_with fail
  refine (HC.out).mono ?_
  clear HC k2
  rintro e w1 ⟨⟨K', F', hs⟩, h⟩
  have k3 := hs.callParts.k1
  have k5 := hs.callParts.k2
  clear hs
  rcases h with ⟨rfl, h⟩ | ⟨rfl, h⟩
  · go_wp2
    go_ret
    exact ⟨some (callFV b2 b3 b5), rfl, .inl ⟨rfl, h⟩⟩
  · have HC := Lib.hid h
    clear h
    go_wp2_with fail
    refine (HC.out).mono ?_
    clear HC k3 k5
    rintro e w2 ⟨o, rfl, h⟩
    cases o with
    | none =>
      simp only [stV]
      go_wp2
      go_ret
      exact ⟨none, rfl, .inr h⟩
    | some s =>
      simp only [stV]
      go_wp2
      go_ret
      exact ⟨some s, rfl, .inr h⟩
theorem method_read (n : Nat) (a : Addr) (w : World) : (method (n + 1) 42 (.pointer (some a)) "Step").run Try.prog w = .ok (26, .pointer (some a)) w := by kernel_rfl
theorem method_find (n : Nat) (a : Addr) (w : World) : (method (n + 1) 113 (.pointer (some a)) "Step").run Try.prog w = .ok (75, .pointer (some a)) w := by kernel_rfl
end
end Go.Proofs.Ytfgjanponijkhaa

namespace Go.Proofs.Ytfgjanponijkhaa
open Go.RowKit

/-- What is known: before the call, between, behind. -/
def R2 (i j : Nat) (Pre : World → Prop) (Mid : Value → World → Prop) (Post : Value → Value → World → Prop) (ρ : Nat → Option Value) (W : World) : Prop :=
  match ρ i, ρ j with
  | none, _ => ρ j = none ∧ Pre W
  | some v, none => Mid v W
  | some v, some u => Post v u W

theorem region_two {P : Program} {id : Nat} {Q : Exit → Act → World → Prop} {a : Act} {w : World} {l : List Oper} (m : List Bool) (i j : Nat) (Pre : World → Prop) (Mid : Value → World → Prop) (Post : Value → Value → World → Prop) (Inv : World → Prop) (aS : Act)
    (hij : i ≠ j) (hm : P.follows .mixedOrders = true) (hB : effsB l m [i, j] (fun e => if e = j then [i] else []) a.tmps.size = true)
    (H : ∀ W, Inv W → wpQuiet P (withM m l).toArray (fun w' => ∃ x : Ext, w' = over W x) (fun a' => a' = aS) (withM m l) a)
    (haS : aS.tmps.size = a.tmps.size) (h0 : Pre w)
    (hI : (∀ W, Pre W → Inv W) ∧ (∀ v W, Mid v W → Inv W) ∧ (∀ v u W, Post v u W → Inv W))
    (hR : (∀ W W', Pre W → Below W.heap.size W W' → Pre W') ∧ (∀ v W W', Mid v W → Below W.heap.size W W' → Mid v W') ∧ (∀ v u W W', Post v u W → Below W.heap.size W W' → Post v u W'))
    (hE1 : ∀ (R : (Nat → Option Value) → World → Prop) o, l[i]? = some o → ∀ ρ W, Pre W → (∀ v W', Mid v W' → R (upd ρ i v) W') → ∀ af, af = aS → wpList P l.toArray (EffQ ρ af R i o) [o] af W)
    (hE2 : ∀ (R : (Nat → Option Value) → World → Prop) o, l[j]? = some o → ∀ ρ v W, Mid v W → (∀ u W', Post v u W' → R (upd ρ j u) W') → ∀ af, af = aS.put (dstAt l i) v → wpList P l.toArray (EffQ ρ af R j o) [o] af W)
    (hQ : ∀ v u W, Post v u W → Q .normal ((aS.put (dstAt l i) v).put (dstAt l j) u) W) : (Code.region id l.toArray true).wp P Q a w := by
  have hji : j ≠ i := hij.symm
  refine region_effects m [i, j] (fun e => if e = j then [i] else []) (R2 i j Pre Mid Post) Inv aS hm hB H haS ⟨rfl, h0⟩ ?_ ?_ ⟨?_, ?_, trivial⟩ ?_
  · intro ρ W h
    unfold R2 at h
    cases hi : ρ i with
    | none => rw [hi] at h; exact hI.1 W h.2
    | some v =>
      cases hj : ρ j with
      | none => rw [hi, hj] at h; exact hI.2.1 v W h
      | some u => rw [hi, hj] at h; exact hI.2.2 v u W h
  · intro ρ W W' h hb
    unfold R2 at h ⊢
    cases hi : ρ i with
    | none => rw [hi] at h; exact ⟨h.1, hR.1 W W' h.2 hb⟩
    | some v =>
      cases hj : ρ j with
      | none => rw [hi, hj] at h; exact hR.2.1 v W W' h hb
      | some u => rw [hi, hj] at h; exact hR.2.2 v u W W' h hb
  · intro o ho ρ W h hcl hi hd af haf
    have haf : af = fillD l ρ (if i = j then [i] else []) aS := haf
    rw [if_neg hij] at haf
    obtain rfl : af = aS := haf
    unfold R2 at h
    rw [hi] at h
    refine hE1 _ o ho ρ W h.2 (fun v W' hM => ?_) _ rfl
    unfold R2
    have e1 : upd ρ i v i = some v := by simp [upd]
    have e2 : upd ρ i v j = none := by simp [upd, hji, h.1]
    rw [e1, e2]
    exact hM
  · intro o ho ρ W h hcl hj hd af haf
    have haf : af = fillD l ρ (if j = j then [i] else []) aS := haf
    rw [if_pos rfl] at haf
    obtain ⟨v, hi⟩ := Option.isSome_iff_exists.1 (hd i (by show i ∈ (if j = j then [i] else []); simp))
    have haf : af = aS.put (dstAt l i) v := by rw [haf]; simp [fillD, hi]
    unfold R2 at h
    rw [hi, hj] at h
    refine hE2 _ o ho ρ v W h (fun u W' hM => ?_) _ haf
    unfold R2
    have e1 : upd ρ j u i = some v := by simp [upd, hij, hi]
    have e2 : upd ρ j u j = some u := by simp [upd]
    rw [e1, e2]
    exact hM
  · intro ρ W h hall
    obtain ⟨v, hi⟩ := Option.isSome_iff_exists.1 (hall i (by simp))
    obtain ⟨u, hj⟩ := Option.isSome_iff_exists.1 (hall j (by simp))
    unfold R2 at h
    rw [hi, hj] at h
    have := hQ v u W h
    simpa [fillD, hi, hj] using this
end Go.Proofs.Ytfgjanponijkhaa
