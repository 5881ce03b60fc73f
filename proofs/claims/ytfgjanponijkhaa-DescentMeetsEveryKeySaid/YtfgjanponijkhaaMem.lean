/- The shared cells as a list, and the contracts of the memory's functions (layer 2). The contracts of the memory's functions (layer 2), second part: Swap, Store, New. -/
import Derived.Test.YtfgjanponijkhaaFast
import Derived.Deep.Cut
import Derived.Laws.MakeOwn
namespace Go.Proofs.Ytfgjanponijkhaa
open Go.RowKit

/-! ### Plain lists of cells -/
structure Cel where
  n : Int
  k : ByteArray
  m : Int

def Cel.zero : Cel := ⟨0, ⟨#[]⟩, 0⟩
def celV (c : Cel) : List Value := [.int .u64 c.n, .string c.k, .int .u64 c.m]
def flat (L : List Cel) : List Value := L.flatMap celV

theorem flat_length (L : List Cel) : (flat L).length = L.length * 3 := by
  induction L with
  | nil => rfl
  | cons c L ih => simp only [flat, List.flatMap_cons, List.length_append, List.length_cons] at *; rw [ih]; simp [celV]; omega

theorem flat_at (L : List Cel) : ∀ (i : Nat) (c : Cel), L[i]? = some c → (flat L)[i * 3]? = some (.int .u64 c.n) ∧ (flat L)[i * 3 + 1]? = some (.string c.k) ∧ (flat L)[i * 3 + 2]? = some (.int .u64 c.m) := by
  induction L with
  | nil => intro i c h; simp at h
  | cons d L ih =>
    intro i c h
    cases i with
    | zero =>
      simp at h
      subst h
      simp [flat, celV]
    | succ i =>
      have h' := ih i c (by simpa using h)
      have e : ∀ j, (flat (d :: L))[(i + 1) * 3 + j]? = (flat L)[i * 3 + j]? := by
        intro j
        show (celV d ++ flat L)[(i + 1) * 3 + j]? = _
        rw [List.getElem?_append_right (by simp [celV]; omega)]
        congr 1
        simp [celV]; omega
      refine ⟨?_, ?_, ?_⟩
      · have := e 0; simp only [Nat.add_zero] at this; rw [this]; exact h'.1
      · rw [e 1]; exact h'.2.1
      · rw [e 2]; exact h'.2.2

theorem flat_set (L : List Cel) : ∀ (i : Nat) (c : Cel), (((flat L).set (i * 3) (.int .u64 c.n)).set (i * 3 + 1) (.string c.k)).set (i * 3 + 2) (.int .u64 c.m) = flat (L.set i c) := by
  induction L with
  | nil => intro i c; simp [flat]
  | cons d L ih =>
    intro i c
    cases i with
    | zero => simp [flat, celV]
    | succ i =>
      have e : ∀ (l : List Value) (j : Nat) (v : Value), (celV d ++ l).set ((i + 1) * 3 + j) v = celV d ++ l.set (i * 3 + j) v := by
        intro l j v
        rw [List.set_append_right _ _ (by simp [celV]; omega)]
        congr 1
        congr 1
        simp [celV]; omega
      have e0 : ∀ (l : List Value) (v : Value), (celV d ++ l).set ((i + 1) * 3) v = celV d ++ l.set (i * 3) v := fun l v => by simpa using e l 0 v
      show (((celV d ++ flat L).set ((i + 1) * 3) _).set ((i + 1) * 3 + 1) _).set ((i + 1) * 3 + 2) _ = celV d ++ flat (L.set i c)
      rw [e0, e, e, ih]

def getC (L : List Cel) (i : Int) : Cel := if 0 ≤ i then (L[i.toNat]?).getD Cel.zero else Cel.zero
def putC (L : List Cel) (i : Int) (c : Cel) : List Cel := if 0 ≤ i then L.set i.toNat c else L
theorem putC_length (L : List Cel) (i : Int) (c : Cel) : (putC L i c).length = L.length := by unfold putC; split <;> simp

/-! ### Worlds in which some blocks may have changed -/
structure Chg (S : List Nat) (w w' : World) : Prop where
  os : w'.os = w.os
  tape : w'.tape = w.tape
  output : w'.output = w.output
  size : w.heap.size ≤ w'.heap.size
  block : ∀ k, k < w.heap.size → k ∉ S → w'.heap[k]? = w.heap[k]?

theorem Chg.refl (S : List Nat) (w : World) : Chg S w w := ⟨rfl, rfl, rfl, Nat.le_refl _, fun _ _ _ => rfl⟩
theorem Chg.trans {S : List Nat} {a b c : World} (h : Chg S a b) (k : Chg S b c) : Chg S a c :=
  ⟨k.os.trans h.os, k.tape.trans h.tape, k.output.trans h.output, Nat.le_trans h.size k.size, fun i hi hs => (k.block i (Nat.lt_of_lt_of_le hi h.size) hs).trans (h.block i hi hs)⟩
theorem Chg.mono {S S' : List Nat} {a b : World} (h : Chg S a b) (hs : ∀ x, x ∈ S → x ∈ S') : Chg S' a b :=
  ⟨h.os, h.tape, h.output, h.size, fun k hk hn => h.block k hk (fun hx => hn (hs k hx))⟩
theorem Chg.of_below {S : List Nat} {a b : World} (h : Below a.heap.size a b) : Chg S a b :=
  ⟨h.os, h.tape, h.output, h.size, fun k hk _ => h.block k hk⟩
theorem Chg.setCell {S : List Nat} {a w : World} (h : Chg S a w) {p : Addr} (hp : p.block ∈ S ∨ a.heap.size ≤ p.block) (u : Value) : Chg S a (w.setCell p u) :=
  ⟨h.os, h.tape, h.output, by rw [World.size_setCell]; exact h.size, fun k hk hn => by
    rw [Below.heap_setCell _ _ _ _ (fun he => by subst he; exact hp.elim hn (fun h' => by omega))]; exact h.block k hk hn⟩
theorem Chg.alloc {S : List Nat} {a w : World} (h : Chg S a w) (o : Obj) : Chg S a (w.alloc o) :=
  ⟨h.os, h.tape, h.output, by rw [World.size_alloc]; have := h.size; omega, fun k hk hn => by
    rw [Below.heap_alloc _ _ _ (by have := h.size; omega)]; exact h.block k hk hn⟩
theorem Chg.drew {S : List Nat} {a w : World} (h : Chg S a w) : Chg S a w.drew := ⟨h.os, h.tape, h.output, h.size, h.block⟩
theorem Chg.blk {S : List Nat} {w w' : World} {k : Nat} {o : Obj} (h : Chg S w w') (hk : w.heap[k]? = some o) (hn : k ∉ S) : w'.heap[k]? = some o := by
  rw [h.block k (blk_lt hk) hn]; exact hk
/-- Blocks that are all new since the start: below the start nothing has turned. -/
theorem Chg.below {S : List Nat} {B : Nat} {a b : World} (h : Chg S a b) (hB : B ≤ a.heap.size) (hs : ∀ x, x ∈ S → B ≤ x) : Below B a b :=
  ⟨h.os, h.tape, h.output, h.size, fun k hk => h.block k (by omega) (fun hx => by have := hs k hx; omega)⟩

/-! ### The memory in a world -/
structure MemAt (w : World) (bm bc : Nat) (L : List Cel) (acc : Int) : Prop where
  hm : w.heap[bm]? = some (.cells #[.slice (some ⟨bc, 0, none⟩) L.length L.length, .int .u64 acc] 153)
  hc : w.heap[bc]? = some (.cells (flat L).toArray 41)
  ne : bm ≠ bc
  len : L.length ≤ 1048576

theorem MemAt.keep {S : List Nat} {w w' : World} {bm bc : Nat} {L : List Cel} {acc : Int} (h : MemAt w bm bc L acc) (hg : Chg S w w') (h1 : bm ∉ S) (h2 : bc ∉ S) : MemAt w' bm bc L acc :=
  ⟨hg.blk h.hm h1, hg.blk h.hc h2, h.ne, h.len⟩
theorem MemAt.same {w w' : World} {bm bc : Nat} {L : List Cel} {acc : Int} (h : MemAt w bm bc L acc) (hg : Below w.heap.size w w') : MemAt w' bm bc L acc :=
  ⟨blk_same hg h.hm, blk_same hg h.hc, h.ne, h.len⟩
theorem MemAt.alloc {w : World} {bm bc : Nat} {L : List Cel} {acc : Int} (h : MemAt w bm bc L acc) (o : Obj) : MemAt (w.alloc o) bm bc L acc :=
  ⟨blk_old h.hm o, blk_old h.hc o, h.ne, h.len⟩
/-- The count of accesses is written. -/
theorem MemAt.count {w : World} {bm bc : Nat} {L : List Cel} {acc : Int} (h : MemAt w bm bc L acc) (a : Int) : MemAt (w.setCell ⟨bm, 1, none⟩ (.int .u64 a)) bm bc L a := by
  refine ⟨?_, blk_set_other h.hc (Ne.symm h.ne) _ _, h.ne, h.len⟩
  have := blk_set h.hm 1 (.int .u64 a)
  simpa using this
theorem MemAt.cell {w : World} {bm bc : Nat} {L : List Cel} {acc : Int} (h : MemAt w bm bc L acc) {i : Nat} {c : Cel} (hi : L[i]? = some c) :
    w.cell? ⟨bc, i * 3, none⟩ = some (.int .u64 c.n) ∧ w.cell? ⟨bc, i * 3 + 1, none⟩ = some (.string c.k) ∧ w.cell? ⟨bc, i * 3 + 2, none⟩ = some (.int .u64 c.m) := by
  have := flat_at L i c hi
  simpa [blk_cell h.hc] using this
theorem MemAt.store {w : World} {bm bc : Nat} {L : List Cel} {acc : Int} (h : MemAt w bm bc L acc) (i : Nat) (c : Cel) :
    MemAt (((w.setCell ⟨bc, i * 3, none⟩ (.int .u64 c.n)).setCell ⟨bc, i * 3 + 1, none⟩ (.string c.k)).setCell ⟨bc, i * 3 + 2, none⟩ (.int .u64 c.m)) bm bc (L.set i c) acc := by
  refine ⟨?_, ?_, h.ne, by simpa using h.len⟩
  · rw [List.length_set]
    exact blk_set_other (blk_set_other (blk_set_other h.hm h.ne _ _) h.ne _ _) h.ne _ _
  · have := blk_set (blk_set (blk_set h.hc (i * 3) (.int .u64 c.n)) (i * 3 + 1) (.string c.k)) (i * 3 + 2) (.int .u64 c.m)
    simpa [flat_set] using this

/-! ### The walks -/
theorem has_yes (w : World) (bm bc : Nat) (L : List Cel) (acc i : Int) (h : MemAt w bm bc L acc) (h1 : 0 ≤ i) (h2 : i < L.length) :
    Calls Try.prog 100 #[.pointer (some ⟨bm, 0, none⟩), .int .i64 i] w fun e w' => e = .returned (.bool true) ∧ w = w' := by
  have km := blk_cell h.hm
  have hl := h.len
  go_enter Try.func100, Try.ntmps100
  go_wp2
  go_ret
  exact ⟨rfl, rfl⟩
theorem has_no (w : World) (bm bc : Nat) (L : List Cel) (acc i : Int) (h : MemAt w bm bc L acc) (h1 : i < 0 ∨ L.length ≤ i) :
    Calls Try.prog 100 #[.pointer (some ⟨bm, 0, none⟩), .int .i64 i] w fun e w' => e = .returned (.bool false) ∧ w = w' := by
  have km := blk_cell h.hm
  have hl := h.len
  by_cases h2 : i < 0
  · clear h1
    go_enter Try.func100, Try.ntmps100
    go_wp2
    go_ret
    exact ⟨rfl, rfl⟩
  · have h3 : (L.length : Int) ≤ i := by omega
    have h4 : 0 ≤ i := by omega
    have h5 : decide (i < (L.length : Int)) = false := decide_eq_false (by omega)
    clear h1 h2
    go_enter Try.func100, Try.ntmps100
    go_wp2
    go_ret
    exact ⟨rfl, rfl⟩
theorem memCells_any (w : World) (bm bc : Nat) (L : List Cel) (acc : Int) (h : MemAt w bm bc L acc) :
    Calls Try.prog 97 #[.pointer (some ⟨bm, 0, none⟩)] w fun e w' => e = .returned (.int .i64 L.length) ∧ w = w' := by
  have km := blk_cell h.hm
  have hl := h.len
  go_enter Try.func97, Try.ntmps97
  go_wp2
  go_ret
  exact ⟨rfl, rfl⟩
theorem accesses_any (w : World) (bm bc : Nat) (L : List Cel) (acc : Int) (h : MemAt w bm bc L acc) :
    Calls Try.prog 28 #[.pointer (some ⟨bm, 0, none⟩)] w fun e w' => e = .returned (.int .u64 acc) ∧ w = w' := by
  have km := blk_cell h.hm
  go_enter Try.func28, Try.ntmps28
  go_wp2
  go_ret
  exact ⟨rfl, rfl⟩


theorem MemAt.lt {w : World} {bm bc : Nat} {L : List Cel} {acc : Int} (h : MemAt w bm bc L acc) : bm < w.heap.size ∧ bc < w.heap.size := ⟨blk_lt h.hm, blk_lt h.hc⟩
theorem MemAt.free {w : World} {bm bc : Nat} {L : List Cel} {acc : Int} (h : MemAt w bm bc L acc) : (∀ k, w.frozen? ⟨bm, k, none⟩ = false) ∧ ∀ k, w.frozen? ⟨bc, k, none⟩ = false := ⟨blk_frozen h.hm, blk_frozen h.hc⟩

theorem peek_yes (w : World) (bm bc : Nat) (L : List Cel) (acc : Int) (i : Nat) (c : Cel) (h : MemAt w bm bc L acc) (hi : L[i]? = some c) :
    Calls Try.prog 50 #[.pointer (some ⟨bm, 0, none⟩), .int .i64 i] w fun e w' => e = .returned (.agg #[.int .u64 c.n, .string c.k, .int .u64 c.m]) ∧ Below w.heap.size w w' := by
  have hl := h.len
  have hlt : i < L.length := (List.getElem?_eq_some_iff.1 hi).1
  obtain ⟨hb1, hb2⟩ := h.lt
  go_enter Try.func50, Try.ntmps50
  go_wp2_with fail
  refine (has_yes _ bm bc L acc i (h.alloc _) (by omega) (by omega)).mono ?_
  rintro e w1 ⟨rfl, rfl⟩
  have km := blk_cell h.hm
  obtain ⟨c0, c1, c2⟩ := h.cell hi
  have b1 : bm ≠ w.heap.size := by omega
  have b2 : bc ≠ w.heap.size := by omega
  clear hi
  go_wp2
  refine bodyPost_ret (v := .agg #[.int .u64 c.n, .string c.k, .int .u64 c.m]) (by simp [results, Try.results50, go_sem]) rfl ⟨rfl, ?_⟩
  exact (Below.refl _ _).alloc (Nat.le_refl _) _
theorem peek_no (w : World) (bm bc : Nat) (L : List Cel) (acc i : Int) (h : MemAt w bm bc L acc) (h1 : i < 0 ∨ L.length ≤ i) :
    Calls Try.prog 50 #[.pointer (some ⟨bm, 0, none⟩), .int .i64 i] w fun e w' => e = .returned (.agg #[.int .u64 0, .string ⟨#[]⟩, .int .u64 0]) ∧ Below w.heap.size w w' := by
  go_enter Try.func50, Try.ntmps50
  go_wp2_with fail
  refine (has_no _ bm bc L acc i (h.alloc _) h1).mono ?_
  rintro e w1 ⟨rfl, rfl⟩
  go_wp2
  refine bodyPost_ret (v := .agg #[.int .u64 0, .string ⟨#[]⟩, .int .u64 0]) (by simp [results, Try.results50, go_sem]) rfl ⟨rfl, ?_⟩
  exact (Below.refl _ _).alloc (Nat.le_refl _) _
theorem peek_any (w : World) (bm bc : Nat) (L : List Cel) (acc i : Int) (h : MemAt w bm bc L acc) :
    Calls Try.prog 50 #[.pointer (some ⟨bm, 0, none⟩), .int .i64 i] w fun e w' => e = .returned (.agg #[.int .u64 (getC L i).n, .string (getC L i).k, .int .u64 (getC L i).m]) ∧ Below w.heap.size w w' := by
  by_cases h1 : 0 ≤ i ∧ i < L.length
  · obtain ⟨n, rfl⟩ := Int.eq_ofNat_of_zero_le h1.1
    have hn : n < L.length := by omega
    have e : L[n]? = some (getC L n) := by
      unfold getC
      rw [if_pos (by omega)]
      simp [hn]
    exact peek_yes w bm bc L acc n _ h e
  · have e : getC L i = Cel.zero := by
      unfold getC
      by_cases h2 : 0 ≤ i
      · rw [if_pos h2, List.getElem?_eq_none (by omega)]; rfl
      · rw [if_neg h2]
    rw [e]
    exact peek_no w bm bc L acc i h (by omega)

theorem load_res (tmps : Array Value) (w : World) (b : Nat) (v0 v1 v2 : Value) (hp : tmps[4]? = some (.pointer (some ⟨b, 0, none⟩))) (hk : ∀ k, w.cell? ⟨b, k, none⟩ = (#[v0, v1, v2] : Array Value)[k]?) :
    (results Try.f151 tmps).run Try.prog w = .ok (.agg #[v0, v1, v2]) w := by
  simp [results, Try.results151, go_sem, hp, hk]
theorem load_any (w : World) (bm bc : Nat) (L : List Cel) (acc i : Int) (h : MemAt w bm bc L acc) (ha0 : 0 ≤ acc) (ha : acc ≤ 1000000000000) :
    Calls Try.prog 151 #[.pointer (some ⟨bm, 0, none⟩), .int .i64 i] w fun e w' => e = .returned (.agg #[.int .u64 (getC L i).n, .string (getC L i).k, .int .u64 (getC L i).m]) ∧ MemAt w' bm bc (L) (acc + 1) ∧ Chg [bm] w w' := by
  obtain ⟨hb1, hb2⟩ := h.lt
  have km := blk_cell h.hm
  have kf := h.free.1
  have b1 : bm ≠ w.heap.size := by omega
  have h1 := (h.count (acc + 1)).alloc (.cells #[.int .u64 0, .string ⟨#[]⟩, .int .u64 0] 41)
  have B0 := blk_alloc (w.setCell ⟨bm, 1, none⟩ (.int .u64 (acc + 1))) (.cells #[.int .u64 0, .string ⟨#[]⟩, .int .u64 0] 41)
  rw [World.size_setCell] at B0
  go_enter Try.func151, Try.ntmps151
  go_wp2_with fail
  refine (peek_any _ bm bc L (acc + 1) i h1).mono ?_
  rintro e w1 ⟨rfl, hb⟩
  have B1 := blk_same hb B0
  have h2 := h1.same hb
  have hsz := hb.size
  simp only [World.size_alloc, World.size_setCell] at hsz
  clear h1 B0 kf km
  have k1 := blk_cell B1
  have f1 := blk_frozen B1
  go_wp2
  have B2 := blk_set (blk_set (blk_set B1 0 (.int .u64 (getC L i).n)) 1 (.string (getC L i).k)) 2 (.int .u64 (getC L i).m)
  simp only [List.setIfInBounds_toArray, List.set_cons_zero, List.set_cons_succ] at B2
  refine bodyPost_ret (load_res _ _ w.heap.size _ _ _ rfl (blk_cell B2)) rfl ⟨rfl, ?_, ?_⟩
  · exact ⟨blk_set_other (blk_set_other (blk_set_other h2.hm b1 _ _) b1 _ _) b1 _ _, blk_set_other (blk_set_other (blk_set_other h2.hc (by omega) _ _) (by omega) _ _) (by omega) _ _, h2.ne, h2.len⟩
  · refine Chg.setCell (Chg.setCell (Chg.setCell ((((Chg.refl _ _).setCell (.inl (by simp)) _).alloc _).trans (Chg.of_below hb)) (.inr ?_) _) (.inr ?_) _) (.inr ?_) _ <;> exact Nat.le_refl _

theorem poke_yes (w : World) (bm bc : Nat) (L : List Cel) (acc : Int) (i : Nat) (c : Cel) (h : MemAt w bm bc L acc) (hi : i < L.length) :
    Calls Try.prog 23 #[.pointer (some ⟨bm, 0, none⟩), .int .i64 i, .agg #[.int .u64 c.n, .string c.k, .int .u64 c.m]] w fun e w' => e = .returned (.tuple #[]) ∧ MemAt w' bm bc (L.set i c) (acc) ∧ Chg [bc] w w' := by
  obtain ⟨hb1, hb2⟩ := h.lt
  have hl := h.len
  have b1 : bm ≠ w.heap.size := by omega
  have b2 : bc ≠ w.heap.size := by omega
  have h1 := h.alloc (.cells #[.int .u64 c.n, .string c.k, .int .u64 c.m] 41)
  have B0 := blk_alloc w (.cells #[.int .u64 c.n, .string c.k, .int .u64 c.m] 41)
  go_enter Try.func23, Try.ntmps23
  go_wp2_with fail
  refine (has_yes _ bm bc L acc i h1 (by omega) (by omega)).mono ?_
  rintro e w1 ⟨rfl, rfl⟩
  obtain ⟨W, hW⟩ : ∃ W, W = w.alloc (.cells #[.int .u64 c.n, .string c.k, .int .u64 c.m] 41) := ⟨_, rfl⟩
  go_upto_region 2 with (fail)
  have hg : Chg [bc] w W := by rw [hW]; exact (Chg.refl _ _).alloc _
  rw [← hW] at h1 B0 ⊢
  clear hW h b1 b2
  have km := blk_cell h1.hm
  have k0 := blk_cell B0
  refine region_tail 7 (by kernel_rfl) (by as_aux_lemma => kernel_rfl) ?_
  simp only [List.take_succ_cons, List.take_zero, List.drop_succ_cons, List.drop_zero]
  repeat (go_big_quiet_step (fail))
  refine wpQuiet_nil ?_
  intro w2 hb
  have h2 := h1.same hb
  have hg2 := hg.trans (Chg.of_below hb)
  clear km k0 B0 h1 hg hb
  obtain ⟨c0, c1, c2⟩ := h2.cell (List.getElem?_eq_getElem hi)
  have kf := h2.free.2
  go_wp2
  go_end0
  exact ⟨rfl, h2.store i c, ((hg2.setCell (.inl (by simp)) _).setCell (.inl (by simp)) _).setCell (.inl (by simp)) _⟩
theorem poke_no (w : World) (bm bc : Nat) (L : List Cel) (acc i : Int) (c : Cel) (h : MemAt w bm bc L acc) (hi : i < 0 ∨ L.length ≤ i) :
    Calls Try.prog 23 #[.pointer (some ⟨bm, 0, none⟩), .int .i64 i, .agg #[.int .u64 c.n, .string c.k, .int .u64 c.m]] w fun e w' => e = .returned (.tuple #[]) ∧ MemAt w' bm bc (L) (acc) ∧ Chg [bc] w w' := by
  have h1 := h.alloc (.cells #[.int .u64 c.n, .string c.k, .int .u64 c.m] 41)
  go_enter Try.func23, Try.ntmps23
  go_wp2_with fail
  refine (has_no _ bm bc L acc i h1 hi).mono ?_
  rintro e w1 ⟨rfl, rfl⟩
  go_wp2
  go_end0
  exact ⟨rfl, h1, (Chg.refl _ _).alloc _⟩
end Go.Proofs.Ytfgjanponijkhaa

namespace Go.Proofs.Ytfgjanponijkhaa
open Go.RowKit

/-- What Swap finds. -/
def swapOk (L : List Cel) (i old : Int) : Bool := decide (0 ≤ i) && decide (i < L.length) && decide ((getC L i).n = old)

theorem swap_out (w : World) (bm bc : Nat) (L : List Cel) (acc i old : Int) (c : Cel) (h : MemAt w bm bc L acc) (ha0 : 0 ≤ acc) (ha : acc ≤ 1000000000000) (hi : i < 0 ∨ L.length ≤ i) :
    Calls Try.prog 202 #[.pointer (some ⟨bm, 0, none⟩), .int .i64 i, .int .u64 old, .agg #[.int .u64 c.n, .string c.k, .int .u64 c.m]] w fun e w' => e = .returned (.bool false) ∧ MemAt w' bm bc (L) (acc + 1) ∧ Chg [bm, bc] w w' := by
  obtain ⟨hb1, hb2⟩ := h.lt
  have km := blk_cell h.hm
  have kf := h.free.1
  have b1 : bm ≠ w.heap.size := by omega
  have h1 := (h.count (acc + 1)).alloc (.cells #[.int .u64 c.n, .string c.k, .int .u64 c.m] 41)
  go_enter Try.func202, Try.ntmps202
  go_wp2_with fail
  refine (has_no _ bm bc L (acc + 1) i h1 hi).mono ?_
  rintro e w1 ⟨rfl, rfl⟩
  clear km kf
  go_wp2
  go_ret
  exact ⟨rfl, h1, ((Chg.refl _ _).setCell (.inl (by simp)) _).alloc _⟩

theorem swap_no (w : World) (bm bc : Nat) (L : List Cel) (acc : Int) (i : Nat) (old : Int) (c d : Cel) (h : MemAt w bm bc L acc) (ha0 : 0 ≤ acc) (ha : acc ≤ 1000000000000) (hi : L[i]? = some d) (hd : (d.n != old) = true) :
    Calls Try.prog 202 #[.pointer (some ⟨bm, 0, none⟩), .int .i64 i, .int .u64 old, .agg #[.int .u64 c.n, .string c.k, .int .u64 c.m]] w fun e w' => e = .returned (.bool false) ∧ MemAt w' bm bc (L) (acc + 1) ∧ Chg [bm, bc] w w' := by
  obtain ⟨hb1, hb2⟩ := h.lt
  have hl := h.len
  have hlt : i < L.length := (List.getElem?_eq_some_iff.1 hi).1
  have km := blk_cell h.hm
  have kf := h.free.1
  have b1 : bm ≠ w.heap.size := by omega
  have h1 := (h.count (acc + 1)).alloc (.cells #[.int .u64 c.n, .string c.k, .int .u64 c.m] 41)
  have Hi := Lib.hid hi
  clear hi
  go_enter Try.func202, Try.ntmps202
  go_wp2_with fail
  refine (has_yes _ bm bc L (acc + 1) i h1 (by omega) (by omega)).mono ?_
  rintro e w1 ⟨rfl, rfl⟩
  obtain ⟨c0, c1, c2⟩ := h1.cell Hi.out
  have km' := blk_cell h1.hm
  clear km kf c1 c2
  go_wp2
  go_ret
  exact ⟨rfl, h1, ((Chg.refl _ _).setCell (.inl (by simp)) _).alloc _⟩

theorem swap_yes (w : World) (bm bc : Nat) (L : List Cel) (acc : Int) (i : Nat) (old : Int) (c d : Cel) (h : MemAt w bm bc L acc) (ha0 : 0 ≤ acc) (ha : acc ≤ 1000000000000) (hi : L[i]? = some d) (hd : (d.n != old) = false) :
    Calls Try.prog 202 #[.pointer (some ⟨bm, 0, none⟩), .int .i64 i, .int .u64 old, .agg #[.int .u64 c.n, .string c.k, .int .u64 c.m]] w fun e w' => e = .returned (.bool true) ∧ MemAt w' bm bc (L.set i c) (acc + 1) ∧ Chg [bm, bc] w w' := by
  obtain ⟨hb1, hb2⟩ := h.lt
  have hl := h.len
  have hlt : i < L.length := (List.getElem?_eq_some_iff.1 hi).1
  have km := blk_cell h.hm
  have kf := h.free.1
  have b1 : bm ≠ w.heap.size := by omega
  have h1 := (h.count (acc + 1)).alloc (.cells #[.int .u64 c.n, .string c.k, .int .u64 c.m] 41)
  have B0 := blk_alloc (w.setCell ⟨bm, 1, none⟩ (.int .u64 (acc + 1))) (.cells #[.int .u64 c.n, .string c.k, .int .u64 c.m] 41)
  rw [World.size_setCell] at B0
  have Hi := Lib.hid hi
  clear hi
  go_enter Try.func202, Try.ntmps202
  go_wp2_with fail
  refine (has_yes _ bm bc L (acc + 1) i h1 (by omega) (by omega)).mono ?_
  rintro e w1 ⟨rfl, rfl⟩
  obtain ⟨c0, c1, c2⟩ := h1.cell Hi.out
  have km' := blk_cell h1.hm
  clear km kf c1 c2
  go_upto_region 4 with (fail)
  clear c0 km'
  obtain ⟨W, hW⟩ : ∃ W, W = (w.setCell ⟨bm, 1, none⟩ (.int .u64 (acc + 1))).alloc (.cells #[.int .u64 c.n, .string c.k, .int .u64 c.m] 41) := ⟨_, rfl⟩
  have hg : Chg [bm, bc] w W := by rw [hW]; exact ((Chg.refl _ _).setCell (.inl (by simp)) _).alloc _
  rw [← hW] at h1 B0 ⊢
  clear hW h b1
  have km := blk_cell h1.hm
  have k0 := blk_cell B0
  refine region_tail 7 (by kernel_rfl) (by as_aux_lemma => kernel_rfl) ?_
  simp only [List.take_succ_cons, List.take_zero, List.drop_succ_cons, List.drop_zero]
  repeat (go_big_quiet_step (fail))
  refine wpQuiet_nil ?_
  intro w2 hb
  have h2 := h1.same hb
  have hg2 := hg.trans (Chg.of_below hb)
  clear km k0 B0 h1 hg hb
  obtain ⟨c0, c1, c2⟩ := h2.cell Hi.out
  have kf := h2.free.2
  go_wp2
  go_ret
  exact ⟨rfl, h2.store i c, ((hg2.setCell (.inl (by simp)) _).setCell (.inl (by simp)) _).setCell (.inl (by simp)) _⟩

theorem getC_at {L : List Cel} {n : Nat} (hn : n < L.length) : L[n]? = some (getC L n) := by
  unfold getC
  rw [if_pos (by omega)]
  simp [hn]

theorem swap_any (w : World) (bm bc : Nat) (L : List Cel) (acc i old : Int) (c : Cel) (h : MemAt w bm bc L acc) (ha0 : 0 ≤ acc) (ha : acc ≤ 1000000000000) :
    Calls Try.prog 202 #[.pointer (some ⟨bm, 0, none⟩), .int .i64 i, .int .u64 old, .agg #[.int .u64 c.n, .string c.k, .int .u64 c.m]] w fun e w' => e = .returned (.bool (swapOk L i old)) ∧ MemAt w' bm bc (if swapOk L i old then putC L i c else L) (acc + 1) ∧ Chg [bm, bc] w w' := by
  by_cases h1 : 0 ≤ i ∧ i < L.length
  · obtain ⟨n, rfl⟩ := Int.eq_ofNat_of_zero_le h1.1
    have hn : n < L.length := by omega
    by_cases hd : (getC L n).n = old
    · have e : swapOk L n old = true := by simp [swapOk, hd]; omega
      rw [e, if_pos rfl]
      exact swap_yes w bm bc L acc n old c _ h ha0 ha (getC_at hn) (by simp [hd])
    · have e : swapOk L n old = false := by simp [swapOk, hd]
      rw [e]
      exact swap_no w bm bc L acc n old c _ h ha0 ha (getC_at hn) (by simp [hd])
  · have e : swapOk L i old = false := by
      simp only [swapOk, Bool.and_eq_false_iff, decide_eq_false_iff_not]
      left
      omega
    rw [e]
    exact swap_out w bm bc L acc i old c h ha0 ha (by omega)

theorem poke_any (w : World) (bm bc : Nat) (L : List Cel) (acc i : Int) (c : Cel) (h : MemAt w bm bc L acc) :
    Calls Try.prog 23 #[.pointer (some ⟨bm, 0, none⟩), .int .i64 i, .agg #[.int .u64 c.n, .string c.k, .int .u64 c.m]] w fun e w' => e = .returned (.tuple #[]) ∧ MemAt w' bm bc (putC L i c) (acc) ∧ Chg [bc] w w' := by
  by_cases h1 : 0 ≤ i ∧ i < L.length
  · obtain ⟨n, rfl⟩ := Int.eq_ofNat_of_zero_le h1.1
    exact poke_yes w bm bc L acc n c h (by omega)
  · have e : putC L i c = L := by
      unfold putC
      by_cases h2 : 0 ≤ i
      · rw [if_pos h2, List.set_eq_of_length_le (by omega)]
      · rw [if_neg h2]
    rw [e]
    exact poke_no w bm bc L acc i c h (by omega)

theorem store_any (w : World) (bm bc : Nat) (L : List Cel) (acc i : Int) (c : Cel) (h : MemAt w bm bc L acc) (ha0 : 0 ≤ acc) (ha : acc ≤ 1000000000000) :
    Calls Try.prog 154 #[.pointer (some ⟨bm, 0, none⟩), .int .i64 i, .agg #[.int .u64 c.n, .string c.k, .int .u64 c.m]] w fun e w' => e = .returned (.tuple #[]) ∧ MemAt w' bm bc (putC L i c) (acc + 1) ∧ Chg [bm, bc] w w' := by
  obtain ⟨hb1, hb2⟩ := h.lt
  have km := blk_cell h.hm
  have kf := h.free.1
  have b1 : bm ≠ w.heap.size := by omega
  have h1 := (h.count (acc + 1)).alloc (.cells #[.int .u64 c.n, .string c.k, .int .u64 c.m] 41)
  go_enter Try.func154, Try.ntmps154
  go_wp2_with fail
  refine (poke_any _ bm bc L (acc + 1) i c h1).mono ?_
  rintro e w1 ⟨rfl, h2, hg⟩
  clear km kf
  go_wp2
  go_end0
  exact ⟨rfl, h2, (((Chg.refl _ _).setCell (.inl (by simp)) _).alloc _).trans (hg.mono (by simp))⟩

theorem flat_zero (n : Nat) : madeCells #[.int .u64 0, .string ⟨#[]⟩, .int .u64 0] (n * 3) = (flat (List.replicate n Cel.zero)).toArray := by
  apply Array.ext_getElem?
  intro k
  by_cases hk : k < n * 3
  · have h1 := flat_at (List.replicate n Cel.zero) (k / 3) Cel.zero (by rw [List.getElem?_replicate, if_pos (by omega)])
    have hm : k % 3 = 0 ∨ k % 3 = 1 ∨ k % 3 = 2 := by omega
    have e : (madeCells #[.int .u64 0, .string ⟨#[]⟩, .int .u64 0] (n * 3))[k]? = some (#[.int .u64 0, .string ⟨#[]⟩, .int .u64 0][k % 3]!) := by
      simp [madeCells, hk]
    rw [e]
    simp only [List.getElem?_toArray]
    rcases hm with h | h | h
    · rw [show k = k / 3 * 3 by omega, h1.1]; simp [Cel.zero]
    · rw [show k = k / 3 * 3 + 1 by omega, h1.2.1]; simp [Cel.zero]
    · rw [show k = k / 3 * 3 + 2 by omega, h1.2.2]; simp [Cel.zero]
  · rw [Array.getElem?_eq_none (by simp [madeCells]; omega), Array.getElem?_eq_none (by simp [flat_length]; omega)]

theorem infoCell : (Try.prog.info? 41).map (fun i => (i.zero, i.size, i.bytes)) = some (some (.agg #[.int .u64 0, .string ⟨#[]⟩, .int .u64 0]), 3, 32) := by kernel_rfl

theorem memNew_any (w : World) (n : Nat) (h1 : 1 ≤ n) (h2 : n ≤ 1048576) :
    Calls Try.prog 147 #[.int .i64 n] w fun e w' => e = .returned (.tuple #[.pointer (some ⟨(w.heap.size + 1), 0, none⟩), .int .i64 0]) ∧ MemAt w' (w.heap.size + 1) w.heap.size (List.replicate n Cel.zero) 0 ∧ Below w.heap.size w w' ∧ w'.heap.size = w.heap.size + 2 := by
  have hmk : ∀ w, (Instr.makeSlice 103 (.int .i64 n) (.int .i64 n)).run Try.prog w = .ok (.slice (some ⟨w.heap.size, 0, none⟩) n n) (w.alloc (.cells (flat (List.replicate n Cel.zero)).toArray 41)) := by
    intro w
    obtain ⟨i, hi, hz, h3, hby⟩ := info_parts infoCell
    have := run_make w 103 41 i _ Try.underlying103 hi hz .i64 .i64 (n : Int) n (by omega) (by omega) (by rw [hby]; omega) (by omega)
    rw [this, h3, Int.toNat_natCast, show (Value.agg #[.int .u64 0, .string ⟨#[]⟩, .int .u64 0]).cells = #[.int .u64 0, .string ⟨#[]⟩, .int .u64 0] from rfl, flat_zero]
  go_enter Try.func147, Try.ntmps147
  go_wp2
  go_ret2
  refine ⟨rfl, ⟨?_, ?_, by omega, by simpa using h2⟩, ((Below.refl _ _).alloc (Nat.le_refl _) _).alloc (by simp) _, by simp⟩
  · have := blk_alloc (w.alloc (.cells (flat (List.replicate n Cel.zero)).toArray 41)) (.cells #[.slice (some ⟨w.heap.size, 0, none⟩) n n, .int .u64 0] 153)
    simpa using this
  · exact blk_old (blk_alloc _ _) _
end Go.Proofs.Ytfgjanponijkhaa
