/- What is known of a world, as separate parts: each part has blocks of its own, and reads nothing else; beside them stands what is known for good. -/
import Derived.Test.YtfgjanponijkhaaMem
namespace Go.Proofs.Ytfgjanponijkhaa
open Go.RowKit

/-- A part of the heap: its blocks, and what holds of them. -/
structure Comp where
  foot : List Nat
  ok : World → Prop
  loc : ∀ w w' : World, (∀ b, b ∈ foot → w'.heap[b]? = w.heap[b]?) → ok w → ok w'
  dom : ∀ w : World, ok w → ∀ b, b ∈ foot → b < w.heap.size

/-- One block, known whole. -/
def blk (b : Nat) (o : Obj) : Comp where
  foot := [b]
  ok := fun w => w.heap[b]? = some o
  loc := fun w w' h k => by rw [h b (by simp)]; exact k
  dom := fun w k b' hb => by simp at hb; subst hb; exact blk_lt k

def feet (cs : List Comp) : List Nat := cs.flatMap Comp.foot

theorem feet_cons (c : Comp) (cs : List Comp) : feet (c :: cs) = c.foot ++ feet cs := rfl
theorem feet_nil : feet [] = [] := rfl
theorem feet_append (a b : List Comp) : feet (a ++ b) = feet a ++ feet b := by simp [feet]
theorem mem_feet {b : Nat} {cs : List Comp} : b ∈ feet cs ↔ ∃ c, c ∈ cs ∧ b ∈ c.foot := by simp [feet]
theorem feet_sub {a b : List Comp} (h : a.Sublist b) : (feet a).Sublist (feet b) := by
  induction h with
  | slnil => exact List.Sublist.refl _
  | cons c _ ih => rw [feet_cons]; exact ih.trans (List.sublist_append_right _ _)
  | cons_cons c _ ih => rw [feet_cons, feet_cons]; exact List.Sublist.append (List.Sublist.refl _) ih
theorem feet_perm {a b : List Comp} (h : a.Perm b) : (feet a).Perm (feet b) := h.flatMap_right _

/-- Several parts as one. -/
def group (l : List Comp) : Comp where
  foot := feet l
  ok := fun w => ∀ c, c ∈ l → c.ok w
  loc := fun w w' h k c hc => c.loc w w' (fun b hb => h b (mem_feet.2 ⟨c, hc, hb⟩)) (k c hc)
  dom := fun w k b hb => by obtain ⟨c, hc, hb'⟩ := mem_feet.1 hb; exact c.dom w (k c hc) b hb'

/-- What is known for good: the streams, and blocks that nobody writes. -/
structure Know where
  base : World
  map : Nat → Option Obj

def Know.of (w : World) : Know := ⟨w, fun k => w.heap[k]?⟩
def Know.add (K : Know) (b : Nat) (o : Obj) : Know := ⟨K.base, fun k => if k = b then some o else K.map k⟩

structure Know.Le (K K' : Know) : Prop where
  base : K'.base = K.base
  map : ∀ k o, K.map k = some o → K'.map k = some o
theorem Know.Le.refl (K : Know) : K.Le K := ⟨rfl, fun _ _ h => h⟩
theorem Know.Le.trans {K K' K'' : Know} (h : K.Le K') (k : K'.Le K'') : K.Le K'' := ⟨k.base.trans h.base, fun b o e => k.map b o (h.map b o e)⟩

structure St (K : Know) (w : World) (cs : List Comp) : Prop where
  os : w.os = K.base.os
  tape : w.tape = K.base.tape
  output : w.output = K.base.output
  know : ∀ k o, K.map k = some o → w.heap[k]? = some o
  ok : ∀ c, c ∈ cs → c.ok w
  nodup : (feet cs).Nodup
  apart : ∀ b, b ∈ feet cs → K.map b = none

section
variable {K : Know} {w w' : World} {c c' d e f g : Comp} {cs cs' F : List Comp}

theorem St.start (w : World) : St (Know.of w) w [] := ⟨rfl, rfl, rfl, fun _ _ h => h, fun _ h => by simp at h, by simp [feet], fun _ h => by simp [feet] at h⟩

theorem St.lt (h : St K w cs) {b : Nat} (hb : b ∈ feet cs) : b < w.heap.size := by
  obtain ⟨c, hc, hb'⟩ := mem_feet.1 hb
  exact c.dom w (h.ok c hc) b hb'
theorem St.klt (h : St K w cs) {b : Nat} {o : Obj} (hb : K.map b = some o) : b < w.heap.size := blk_lt (h.know b o hb)
theorem St.knew (h : St K w cs) {b : Nat} (hb : w.heap.size ≤ b) : K.map b = none := by
  cases e : K.map b with
  | none => rfl
  | some o => have := h.klt e; omega

/-- The end: what was there at the start is as it was. -/
theorem St.below {W : World} (h : St K w cs) (hk : (Know.of W).Le K) : Below W.heap.size W w := by
  refine ⟨by rw [h.os, hk.base]; rfl, by rw [h.tape, hk.base]; rfl, by rw [h.output, hk.base]; rfl, ?_, fun k hk' => ?_⟩
  · rcases Nat.eq_zero_or_pos W.heap.size with h0 | h0
    · omega
    · have hl : W.heap.size - 1 < W.heap.size := by omega
      have : (Know.of W).map (W.heap.size - 1) = some (W.heap[W.heap.size - 1]) := by show W.heap[_]? = _; exact Array.getElem?_eq_getElem hl
      have := h.klt (hk.map _ _ this)
      omega
  · have : (Know.of W).map k = some (W.heap[k]) := by show W.heap[_]? = _; exact Array.getElem?_eq_getElem hk'
    rw [h.know _ _ (hk.map _ _ this)]
    exact this.symm

theorem St.perm (h : St K w cs) (hp : cs.Perm cs') : St K w cs' :=
  ⟨h.os, h.tape, h.output, h.know, fun c hc => h.ok c (hp.mem_iff.2 hc), (feet_perm hp).nodup_iff.1 h.nodup, fun b hb => h.apart b ((feet_perm hp).mem_iff.2 hb)⟩
theorem St.sub (h : St K w cs) (hp : cs'.Sublist cs) : St K w cs' :=
  ⟨h.os, h.tape, h.output, h.know, fun c hc => h.ok c (hp.subset hc), h.nodup.sublist (feet_sub hp), fun b hb => h.apart b ((feet_sub hp).subset hb)⟩
theorem St.tail (h : St K w (c :: cs)) : St K w cs := h.sub (List.sublist_cons_self c cs)
theorem St.drop1 (h : St K w (c :: d :: cs)) : St K w (c :: cs) := h.sub ((List.sublist_cons_self d cs).cons_cons c)
theorem St.left (h : St K w (cs ++ F)) : St K w cs := h.sub (List.sublist_append_left cs F)
theorem St.right (h : St K w (cs ++ F)) : St K w F := h.sub (List.sublist_append_right cs F)
theorem St.head (h : St K w (c :: cs)) : c.ok w := h.ok c (by simp)

theorem St.b1 (h : St K w (c :: d :: cs)) : St K w (d :: c :: cs) := h.perm (.swap d c cs)
theorem St.b2 (h : St K w (c :: d :: e :: cs)) : St K w (e :: c :: d :: cs) := (h.perm ((List.Perm.swap e d cs).cons c)).b1
theorem St.b3 (h : St K w (c :: d :: e :: f :: cs)) : St K w (f :: c :: d :: e :: cs) := (h.perm (((List.Perm.swap f e cs).cons d).cons c)).b2
theorem St.b4 (h : St K w (c :: d :: e :: f :: g :: cs)) : St K w (g :: c :: d :: e :: f :: cs) := (h.perm ((((List.Perm.swap g f cs).cons e).cons d).cons c)).b3
theorem St.b5 {a : Comp} (h : St K w (c :: d :: e :: f :: g :: a :: cs)) : St K w (a :: c :: d :: e :: f :: g :: cs) := (h.perm (((((List.Perm.swap a g cs).cons f).cons e).cons d).cons c)).b4
theorem St.b6 {a b : Comp} (h : St K w (c :: d :: e :: f :: g :: a :: b :: cs)) : St K w (b :: c :: d :: e :: f :: g :: a :: cs) := (h.perm ((((((List.Perm.swap b a cs).cons g).cons f).cons e).cons d).cons c)).b5
/-- The first part goes back behind others. -/
theorem St.u1 (h : St K w (c :: d :: cs)) : St K w (d :: c :: cs) := h.b1
theorem St.u2 (h : St K w (c :: d :: e :: cs)) : St K w (d :: e :: c :: cs) := h.b1.perm ((List.Perm.swap e c cs).cons d)
theorem St.u3 (h : St K w (c :: d :: e :: f :: cs)) : St K w (d :: e :: f :: c :: cs) := h.u2.perm (((List.Perm.swap f c cs).cons e).cons d)
theorem St.u4 (h : St K w (c :: d :: e :: f :: g :: cs)) : St K w (d :: e :: f :: g :: c :: cs) := h.u3.perm ((((List.Perm.swap g c cs).cons f).cons e).cons d)
theorem St.u5 {a : Comp} (h : St K w (c :: d :: e :: f :: g :: a :: cs)) : St K w (d :: e :: f :: g :: a :: c :: cs) := h.u4.perm (((((List.Perm.swap a c cs).cons g).cons f).cons e).cons d)
theorem St.u6 {a b : Comp} (h : St K w (c :: d :: e :: f :: g :: a :: b :: cs)) : St K w (d :: e :: f :: g :: a :: b :: c :: cs) := h.u5.perm ((((((List.Perm.swap b c cs).cons a).cons g).cons f).cons e).cons d)

theorem St.group_iff {l : List Comp} : St K w (group l :: F) ↔ St K w (l ++ F) := by
  have e : feet (group l :: F) = feet (l ++ F) := by rw [feet_cons, feet_append]; rfl
  constructor
  · intro h
    refine ⟨h.os, h.tape, h.output, h.know, fun c hc => ?_, by rw [← e]; exact h.nodup, fun b hb => h.apart b (by rw [e]; exact hb)⟩
    rcases List.mem_append.1 hc with hc | hc
    · exact h.head c hc
    · exact h.ok c (by simp [hc])
  · intro h
    refine ⟨h.os, h.tape, h.output, h.know, fun c hc => ?_, by rw [e]; exact h.nodup, fun b hb => h.apart b (by rw [← e]; exact hb)⟩
    rcases List.mem_cons.1 hc with rfl | hc
    · exact fun c hc => h.ok c (by simp [hc])
    · exact h.ok c (by simp [hc])

theorem perm_erase {l : List Comp} : ∀ {i : Nat} {c : Comp}, l[i]? = some c → l.Perm (c :: l.eraseIdx i) := by
  induction l with
  | nil => intro i c h; simp at h
  | cons a l ih =>
    intro i c h
    cases i with
    | zero => simp at h; subst h; simp
    | succ i => exact ((ih (by simpa using h)).cons a).trans (.swap _ _ _)
theorem perm_set {l : List Comp} {c' : Comp} : ∀ {i : Nat}, i < l.length → (l.set i c').Perm (c' :: l.eraseIdx i) := by
  induction l with
  | nil => intro i h; simp at h
  | cons a l ih =>
    intro i h
    cases i with
    | zero => simp
    | succ i => exact ((ih (by simpa using h)).cons a).trans (.swap _ _ _)

/-- One part of a group, taken out. -/
theorem St.out {l : List Comp} (h : St K w (group l :: F)) {i : Nat} (hi : l[i]? = some c) : St K w (c :: group (l.eraseIdx i) :: F) := by
  have h1 := St.group_iff.1 h
  have h2 : St K w (group (l.eraseIdx i) :: (c :: F)) := by
    refine St.group_iff.2 (h1.perm ?_)
    exact ((perm_erase hi).append_right F).trans (List.perm_middle.symm)
  exact h2.b1
/-- .. and another put in its place. -/
theorem St.into {l : List Comp} {i : Nat} (h : St K w (c' :: group (l.eraseIdx i) :: F)) (hi : i < l.length) : St K w (group (l.set i c') :: F) := by
  have h1 := St.group_iff.1 h.b1
  refine St.group_iff.2 (h1.perm ?_)
  exact List.perm_middle.trans ((perm_set hi).symm.append_right F)
/-- A further part for a group. -/
theorem St.push {l : List Comp} (h : St K w (c :: group l :: F)) : St K w (group (l ++ [c]) :: F) := by
  have h1 := St.group_iff.1 h.b1
  refine St.group_iff.2 (h1.perm ?_)
  rw [List.append_assoc]
  exact List.Perm.refl _
theorem St.group_nil : St K w (group [] :: F) ↔ St K w F := by rw [St.group_iff]; rfl

/-- The world changes: the parts ms become the parts ms', the rest stays. -/
theorem St.chg {ms ms' : List Comp} (h : St K w (ms ++ F)) (hg : Chg (feet ms) w w') (hok : ∀ c, c ∈ ms' → c.ok w') (hf : ∀ b, b ∈ feet ms' → b ∈ feet ms ∨ w.heap.size ≤ b) (hn : (feet ms').Nodup) : St K w' (ms' ++ F) := by
  have hsz := hg.size
  have hnd := h.nodup
  rw [feet_append, List.nodup_append] at hnd
  have hkeep : ∀ b, b < w.heap.size → b ∉ feet ms → w'.heap[b]? = w.heap[b]? := fun b hb hb' => hg.block b hb hb'
  have hF : ∀ b, b ∈ feet F → b < w.heap.size ∧ b ∉ feet ms := fun b hb => ⟨h.lt (by rw [feet_append]; exact List.mem_append_right _ hb), fun hb' => hnd.2.2 b hb' b hb rfl⟩
  refine ⟨hg.os.trans h.os, hg.tape.trans h.tape, hg.output.trans h.output, fun k o hk => ?_, fun c hc => ?_, ?_, fun b hb => ?_⟩
  · rw [hkeep k (h.klt hk) (fun hb => ?_)]
    · exact h.know k o hk
    · have := h.apart k (by rw [feet_append]; exact List.mem_append_left _ hb)
      rw [hk] at this; cases this
  · rcases List.mem_append.1 hc with hc | hc
    · exact hok c hc
    · exact c.loc w w' (fun b hb => by have := hF b (mem_feet.2 ⟨c, hc, hb⟩); exact hkeep b this.1 this.2) (h.ok c (by simp [hc]))
  · rw [feet_append, List.nodup_append]
    refine ⟨hn, hnd.2.1, fun a ha b hb e => ?_⟩
    subst e
    have := hF a hb
    rcases hf a ha with h1 | h1
    · exact this.2 h1
    · omega
  · rw [feet_append] at hb
    rcases List.mem_append.1 hb with hb | hb
    · rcases hf b hb with h1 | h1
      · exact h.apart b (by rw [feet_append]; exact List.mem_append_left _ h1)
      · exact h.knew h1
    · exact h.apart b (by rw [feet_append]; exact List.mem_append_right _ hb)

/-- New blocks at most. -/
theorem St.same (h : St K w cs) (hb : Below w.heap.size w w') : St K w' cs := by
  have := St.chg (ms := []) (ms' := []) (F := cs) h (Chg.of_below hb) (fun _ h => by simp at h) (fun _ h => by simp [feet] at h) (by simp [feet])
  exact this

/-- A new block, kept. -/
theorem St.made (h : St K w cs) (o : Obj) : St K (w.alloc o) (blk w.heap.size o :: cs) := by
  refine St.chg (ms := []) (ms' := [blk w.heap.size o]) (F := cs) h ((Chg.refl _ _).alloc _) (fun c hc => ?_) (fun b hb => ?_) (by simp [feet, blk])
  · simp at hc; subst hc; exact blk_alloc w o
  · simp [feet, blk] at hb; subst hb; exact .inr (Nat.le_refl _)
/-- A new block, passed over. -/
theorem St.pass (h : St K w cs) (o : Obj) : St K (w.alloc o) cs := (h.made o).tail
theorem St.drew (h : St K w cs) : St K w.drew cs := ⟨h.os, h.tape, h.output, h.know, fun c hc => c.loc w _ (fun _ _ => rfl) (h.ok c hc), h.nodup, h.apart⟩

/-- A store. -/
theorem St.set {b : Nat} {a : Array Value} {T : TypeId} {fz : Nat × Nat} (h : St K w (blk b (.cells a T fz) :: cs)) (k : Nat) (v : Value) : St K (w.setCell ⟨b, k, none⟩ v) (blk b (.cells (a.setIfInBounds k v) T fz) :: cs) := by
  refine St.chg (ms := [blk b (.cells a T fz)]) (ms' := [blk b (.cells (a.setIfInBounds k v) T fz)]) (F := cs) h ((Chg.refl _ _).setCell (.inl (by simp [feet, blk])) _) (fun c hc => ?_) (fun b hb => .inl hb) (by simp [feet, blk])
  simp at hc; subst hc; exact blk_set h.head k v
/-- .. at a known block of a list. -/
theorem St.setL {b : Nat} {a : List Value} {T : TypeId} {fz : Nat × Nat} (h : St K w (blk b (.cells a.toArray T fz) :: cs)) (k : Nat) (v : Value) : St K (w.setCell ⟨b, k, none⟩ v) (blk b (.cells (a.set k v).toArray T fz) :: cs) := by
  have := h.set k v
  rwa [List.setIfInBounds_toArray] at this
/-- One part, another in its place. -/
theorem St.chg1 (h : St K w (c :: F)) (hg : Chg c.foot w w') (hok : c'.ok w') (hf : c'.foot = c.foot) : St K w' (c' :: F) := by
  refine St.chg (ms := [c]) (ms' := [c']) h (by simpa [feet] using hg) (fun x hx => by simp at hx; subst hx; exact hok) (fun b hb => .inl (by simpa [feet, hf] using hb)) ?_
  have := h.nodup
  rw [feet_cons, List.nodup_append] at this
  simpa [feet, hf] using this.1
/-- Two parts, others in their places. -/
theorem St.chg2 {d d' : Comp} (h : St K w (c :: d :: F)) (hg : Chg (c.foot ++ d.foot) w w') (hok : c'.ok w') (hok' : d'.ok w') (hf : c'.foot = c.foot) (hf' : d'.foot = d.foot) : St K w' (c' :: d' :: F) := by
  refine St.chg (ms := [c, d]) (ms' := [c', d']) h (by simpa [feet] using hg) (fun x hx => by simp at hx; rcases hx with rfl | rfl <;> assumption) (fun b hb => .inl (by simpa [feet, hf, hf'] using hb)) ?_
  have := h.nodup
  rw [feet_cons, feet_cons, ← List.append_assoc, List.nodup_append] at this
  simpa [feet, hf, hf'] using this.1

/-- A block that nobody will write. -/
theorem St.freeze {b : Nat} {o : Obj} (h : St K w (blk b o :: cs)) : K.Le (K.add b o) ∧ (K.add b o).map b = some o ∧ St (K.add b o) w cs := by
  have hb : K.map b = none := h.apart b (by simp [feet, blk])
  have hn := h.nodup
  rw [feet_cons, List.nodup_append] at hn
  refine ⟨⟨rfl, fun k o' hk => ?_⟩, by simp [Know.add], ⟨h.os, h.tape, h.output, fun k o' hk => ?_, h.tail.ok, hn.2.1, fun k hk => ?_⟩⟩
  · show (if k = b then some o else K.map k) = _
    by_cases e : k = b
    · subst e; rw [hb] at hk; cases hk
    · rw [if_neg e]; exact hk
  · have hk' : (if k = b then some o else K.map k) = some o' := hk
    by_cases e : k = b
    · subst e; rw [if_pos rfl] at hk'; cases hk'; exact h.head
    · rw [if_neg e] at hk'; exact h.know k o' hk'
  · show (if k = b then some o else K.map k) = none
    rw [if_neg (fun e => hn.2.2 b (by simp [blk]) k hk e.symm)]
    exact h.tail.apart k hk

theorem St.blk_eq {b : Nat} {o o' : Obj} (h : St K w (blk b o :: cs)) (e : o = o') : St K w (blk b o' :: cs) := by subst e; exact h
/-- The cells of the first block. -/
theorem St.k0 {b : Nat} {a : Array Value} {T : TypeId} {fz : Nat × Nat} (h : St K w (blk b (.cells a T fz) :: cs)) : ∀ k, w.cell? ⟨b, k, none⟩ = a[k]? := blk_cell h.head
theorem St.k1 {b : Nat} {a : Array Value} {T : TypeId} {fz : Nat × Nat} (h : St K w (c :: blk b (.cells a T fz) :: cs)) : ∀ k, w.cell? ⟨b, k, none⟩ = a[k]? := h.tail.k0
theorem St.k2 {b : Nat} {a : Array Value} {T : TypeId} {fz : Nat × Nat} (h : St K w (c :: d :: blk b (.cells a T fz) :: cs)) : ∀ k, w.cell? ⟨b, k, none⟩ = a[k]? := h.tail.k1
theorem St.f0 {b : Nat} {a : Array Value} {T : TypeId} (h : St K w (blk b (.cells a T) :: cs)) : ∀ k, w.frozen? ⟨b, k, none⟩ = false := blk_frozen h.head
theorem St.f1 {b : Nat} {a : Array Value} {T : TypeId} (h : St K w (c :: blk b (.cells a T) :: cs)) : ∀ k, w.frozen? ⟨b, k, none⟩ = false := h.tail.f0
theorem St.f2 {b : Nat} {a : Array Value} {T : TypeId} (h : St K w (c :: d :: blk b (.cells a T) :: cs)) : ∀ k, w.frozen? ⟨b, k, none⟩ = false := h.tail.f1
theorem St.n0 {b : Nat} {o : Obj} (h : St K w (blk b o :: cs)) : b < w.heap.size := h.lt (by simp [feet, blk])
theorem St.n1 {b : Nat} {o : Obj} (h : St K w (c :: blk b o :: cs)) : b < w.heap.size := h.tail.n0
theorem St.n2 {b : Nat} {o : Obj} (h : St K w (c :: d :: blk b o :: cs)) : b < w.heap.size := h.tail.n1
end

/-- The world of a goal, given a name of its own. -/
theorem wp_ck {P : Program} {c : Code} {Q : Exit → Act → World → Prop} {a : Act} {K : Know} {w : World} {cs : List Comp} (h : St K w cs) (k : ∀ W, St K W cs → c.wp P Q a W) : c.wp P Q a w := k w h
theorem calls_ck {P : Program} {f : FuncId} {args : Array Value} {R : Ending → World → Prop} {K : Know} {w : World} {cs : List Comp} (h : St K w cs) (k : ∀ W, St K W cs → Calls P f args W R) : Calls P f args w R := k w h
/-- A contract that makes new blocks at most, for parts. -/
theorem calls_same {P : Program} {f : FuncId} {args : Array Value} {v : Value} {K : Know} {w : World} {cs : List Comp} (hs : St K w cs) (h : Calls P f args w fun e w' => e = .returned v ∧ Below w.heap.size w w') : Calls P f args w fun e w' => e = .returned v ∧ St K w' cs :=
  h.mono fun _ _ ⟨he, hb⟩ => ⟨he, hs.same hb⟩
theorem calls_id {P : Program} {f : FuncId} {args : Array Value} {v : Value} {K : Know} {w : World} {cs : List Comp} (hs : St K w cs) (h : Calls P f args w fun e w' => e = .returned v ∧ w = w') : Calls P f args w fun e w' => e = .returned v ∧ St K w' cs :=
  h.mono fun _ _ ⟨he, hb⟩ => ⟨he, by rw [← hb]; exact hs⟩
end Go.Proofs.Ytfgjanponijkhaa
