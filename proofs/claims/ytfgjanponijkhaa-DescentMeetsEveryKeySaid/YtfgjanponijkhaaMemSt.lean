/- The memory, rows that grow, and what callees make, as parts of a world (for every seat). -/
import Derived.Test.YtfgjanponijkhaaSt
import Derived.Test.YtfgjanponijkhaaBase
import Derived.Maps.AppendAt
namespace Go.Proofs.Ytfgjanponijkhaa
open Go.RowKit
set_option maxRecDepth 100000

section
variable {K : Know} {w w' : World} {c c' d e : Comp} {cs F : List Comp}

/-- The memory. -/
def memC (bm bc : Nat) (L : List Cel) (acc : Nat) : Comp where
  foot := [bm, bc]
  ok := fun w => MemAt w bm bc L acc
  loc := fun w w' h k => ⟨by rw [h bm (by simp)]; exact k.hm, by rw [h bc (by simp)]; exact k.hc, k.ne, k.len⟩
  dom := fun w k b hb => by
    simp at hb
    rcases hb with rfl | rfl
    · exact blk_lt k.hm
    · exact blk_lt k.hc

theorem St.mem {bm bc : Nat} {L : List Cel} {acc : Nat} (h : St K w (memC bm bc L acc :: F)) : MemAt w bm bc L acc := h.head
theorem St.mem1 {bm bc : Nat} {L : List Cel} {acc : Nat} (h : St K w (c :: memC bm bc L acc :: F)) : MemAt w bm bc L acc := h.tail.head
theorem St.mem2 {bm bc : Nat} {L : List Cel} {acc : Nat} (h : St K w (c :: d :: memC bm bc L acc :: F)) : MemAt w bm bc L acc := h.tail.tail.head
theorem St.mem3 {bm bc : Nat} {L : List Cel} {acc : Nat} (h : St K w (c :: d :: e :: memC bm bc L acc :: F)) : MemAt w bm bc L acc := h.tail.tail.tail.head
theorem St.memChg {bm bc : Nat} {L L' : List Cel} {acc acc' : Nat} {S : List Nat} (h : St K w (memC bm bc L acc :: F)) (hg : Chg S w w') (hS : ∀ b, b ∈ S → b ∈ [bm, bc]) (M : MemAt w' bm bc L' acc') : St K w' (memC bm bc L' acc' :: F) :=
  h.chg1 (c' := memC bm bc L' acc') (hg.mono hS) M rfl

theorem load_st {bm bc : Nat} {L : List Cel} {acc : Nat} {i : Int} (hs : St K w (memC bm bc L acc :: F)) (ha : acc ≤ 1000000000000) :
    Calls Try.prog 151 #[.pointer (some ⟨bm, 0, none⟩), .int .i64 i] w fun e w' => e = .returned (.agg #[.int .u64 (getC L i).n, .string (getC L i).k, .int .u64 (getC L i).m]) ∧ St K w' (memC bm bc L (acc + 1) :: F) :=
  (load_any w bm bc L acc i hs.mem (by omega) (by omega)).mono fun _ _ ⟨he, hM, hg⟩ => ⟨he, hs.memChg hg (by simp) (by exact_mod_cast hM)⟩
theorem store_st {bm bc : Nat} {L : List Cel} {acc : Nat} {i : Int} {c : Cel} (hs : St K w (memC bm bc L acc :: F)) (ha : acc ≤ 1000000000000) :
    Calls Try.prog 154 #[.pointer (some ⟨bm, 0, none⟩), .int .i64 i, .agg #[.int .u64 c.n, .string c.k, .int .u64 c.m]] w fun e w' => e = .returned (.tuple #[]) ∧ St K w' (memC bm bc (putC L i c) (acc + 1) :: F) :=
  (store_any w bm bc L acc i c hs.mem (by omega) (by omega)).mono fun _ _ ⟨he, hM, hg⟩ => ⟨he, hs.memChg hg (by simp) (by exact_mod_cast hM)⟩
theorem swap_st {bm bc : Nat} {L : List Cel} {acc : Nat} {i old : Int} {c : Cel} (hs : St K w (memC bm bc L acc :: F)) (ha : acc ≤ 1000000000000) :
    Calls Try.prog 202 #[.pointer (some ⟨bm, 0, none⟩), .int .i64 i, .int .u64 old, .agg #[.int .u64 c.n, .string c.k, .int .u64 c.m]] w fun e w' => e = .returned (.bool (swapOk L i old)) ∧ St K w' (memC bm bc (if swapOk L i old then putC L i c else L) (acc + 1) :: F) :=
  (swap_any w bm bc L acc i old c hs.mem (by omega) (by omega)).mono fun _ _ ⟨he, hM, hg⟩ => ⟨he, hs.memChg hg (by simp) (by exact_mod_cast hM)⟩
theorem poke_st {bm bc : Nat} {L : List Cel} {acc : Nat} {i : Int} {c : Cel} (hs : St K w (memC bm bc L acc :: F)) :
    Calls Try.prog 23 #[.pointer (some ⟨bm, 0, none⟩), .int .i64 i, .agg #[.int .u64 c.n, .string c.k, .int .u64 c.m]] w fun e w' => e = .returned (.tuple #[]) ∧ St K w' (memC bm bc (putC L i c) acc :: F) :=
  (poke_any w bm bc L acc i c hs.mem).mono fun _ _ ⟨he, hM, hg⟩ => ⟨he, hs.memChg hg (by simp) hM⟩
theorem peek_st {bm bc : Nat} {L : List Cel} {acc : Nat} {i : Int} (hs : St K w cs) (hM : MemAt w bm bc L acc) :
    Calls Try.prog 50 #[.pointer (some ⟨bm, 0, none⟩), .int .i64 i] w fun e w' => e = .returned (.agg #[.int .u64 (getC L i).n, .string (getC L i).k, .int .u64 (getC L i).m]) ∧ St K w' cs :=
  calls_same hs (peek_any w bm bc L acc i hM)
theorem accesses_st {bm bc : Nat} {L : List Cel} {acc : Nat} (hM : MemAt w bm bc L acc) :
    Calls Try.prog 28 #[.pointer (some ⟨bm, 0, none⟩)] w fun e w' => e = .returned (.int .u64 acc) ∧ w = w' := accesses_any w bm bc L acc hM
theorem memNew_st {n : Nat} (hs : St K w cs) (h1 : 1 ≤ n) (h2 : n ≤ 1048576) :
    Calls Try.prog 147 #[.int .i64 n] w fun e w' => ∃ bm bc, e = .returned (.tuple #[.pointer (some ⟨bm, 0, none⟩), .int .i64 0]) ∧ St K w' (memC bm bc (List.replicate n Cel.zero) 0 :: cs) := by
  refine (memNew_any w n h1 h2).mono fun e w' ⟨he, hM, hb, hz⟩ => ⟨w.heap.size + 1, w.heap.size, he, ?_⟩
  refine St.chg (ms := []) (ms' := [memC (w.heap.size + 1) w.heap.size (List.replicate n Cel.zero) 0]) (F := cs) hs (Chg.of_below hb) (fun x hx => by simp at hx; subst hx; exact hM) (fun b hb => ?_) (by simp [feet, memC])
  simp [feet, memC] at hb; omega

/-! ### Rows that the code makes and appends to -/
def rowC (v : Value) (T : TypeId) (size n : Nat) (xs : List Value) : Comp where
  foot := v.ownBlock.toList
  ok := fun w => w.ownsRow 0 T size v n xs
  loc := fun w w' h k => by
    refine ⟨k.1, ?_⟩
    rcases k.2 with k | ⟨g, cap, cur, hv, hB, hc, r⟩
    · exact .inl k
    · exact .inr ⟨g, cap, cur, hv, hB, by rw [h g (by rw [hv]; simp [Value.ownBlock])]; exact hc, r⟩
  dom := fun w k b hb => by
    rcases k.2 with ⟨k, _⟩ | ⟨g, cap, cur, hv, hB, hc, r⟩
    · rw [k] at hb; simp [Value.ownBlock] at hb
    · rw [hv] at hb; simp [Value.ownBlock] at hb; subst hb; exact blk_lt hc

theorem St.row_nil {T : TypeId} {size : Nat} (h : St K w cs) : St K w (rowC (.slice none 0 0) T size 0 [] :: cs) := by
  refine St.chg (ms := []) (ms' := [rowC (.slice none 0 0) T size 0 []]) (F := cs) h (Chg.refl _ _) (fun c hc => ?_) (fun b hb => ?_) ?_
  · simp at hc; subst hc; exact World.ownsRow_nil w 0 T size
  · simp [feet, rowC, Value.ownBlock] at hb
  · simp [feet, rowC, Value.ownBlock]

/-- A row that is not empty is one block. -/
theorem St.row_open {v : Value} {T : TypeId} {size n : Nat} {xs : List Value} (h : St K w (rowC v T size n xs :: F)) (hn : 0 < n) :
    ∃ (g cap : Nat) (cur : Array Value), v = .slice (some ⟨g, 0, none⟩) n cap ∧ n ≤ cap ∧ cap ≤ maxLen ∧ cur.size = cap * size ∧ xs.length = n * size ∧ (∀ (j : Nat) (x : Value), xs[j]? = some x → cur[j]? = some x) ∧ St K w (blk g (.cells cur T) :: F) := by
  obtain ⟨hl, k⟩ := h.head
  rcases k with ⟨_, h0⟩ | ⟨g, cap, cur, hv, hB, hc, h1, h2, h3, h4⟩
  · omega
  · refine ⟨g, cap, cur, hv, h1, h2, h3, hl, fun j x hx => ?_, ?_⟩
    · rw [← h4, List.getElem?_take] at hx
      split at hx
      · simpa using hx
      · cases hx
    · exact h.chg1 (c' := blk g (.cells cur T)) (Chg.refl _ _) hc (by simp [rowC, blk, hv, Value.ownBlock])
/-- A row that is only read from here on: a slice of so many elements, and its cells. -/
theorem St.row_read {v : Value} {T : TypeId} {size n : Nat} {xs : List Value} (h : St K w (rowC v T size n xs :: F)) :
    ∃ (a : Option Addr) (cap : Nat), v = .slice a n cap ∧ n ≤ cap ∧ (0 < n → ∃ g cur, a = some ⟨g, 0, none⟩ ∧ w.heap[g]? = some (.cells cur T) ∧ ∀ (j : Nat) (x : Value), xs[j]? = some x → cur[j]? = some x) := by
  obtain ⟨hl, k⟩ := h.head
  rcases k with ⟨hv, h0⟩ | ⟨g, cap, cur, hv, hB, hc, h1, h2, h3, h4⟩
  · exact ⟨none, 0, by rw [hv, h0], by omega, fun h => by omega⟩
  · refine ⟨_, cap, hv, h1, fun _ => ⟨g, cur, rfl, hc, fun j x hx => ?_⟩⟩
    rw [← h4, List.getElem?_take] at hx
    split at hx
    · simpa using hx
    · cases hx

theorem cell_new (w : World) (l : List Value) (T : TypeId) : ∀ j u, l[j]? = some u → (w.alloc (.cells l.toArray T)).cell? ((⟨w.heap.size, 0, none⟩ : Addr).add j) = some u := by
  intro j u hu
  have : (⟨w.heap.size, 0, none⟩ : Addr).add j = ⟨w.heap.size, j, none⟩ := by
    unfold Addr.add
    split
    · rename_i h; rw [h]
    · simp
  rw [this, blk_cell (blk_alloc w _)]
  simpa using hu

/-- append(s, x) of one element that has just been laid into a block. -/
theorem append_st {ops : Array Oper} {rest : List Oper} {o : Oper} {a : Act} {Q : Exit → Act → World → Prop} (s x : Operand) (t e : TypeId) (v : Value) (n size bytes : Nat) (xs news : List Value) (z : Value) (i : TypeInfo)
    (hs : St K w (rowC v e size n xs :: F))
    (hgd : o.guard = none) (ho : o.op = .call { callee := .builtin .append, args := #[s, x], argTypes := #[t, t] })
    (ht : Try.prog.underlying t = some (.slice e)) (hi : Try.prog.info? e = some i) (hz : i.zero = some z) (hsize : i.size = size) (hby : i.bytes = bytes) (hzs : z.cells.size = size) (hsz : 0 < size)
    (hes : a.eval s = v) (hx : a.eval x = .slice (some ⟨w.heap.size, 0, none⟩) 1 1) (hl : news.length = size) (h1 : ∀ u, u ∈ news → u.oneCell' = true)
    (h63 : n + 1 ≤ 1099511627776) (hb64 : bytes ≤ 64)
    (h : ∀ v' w', St K w' (rowC v' e size (n + 1) (xs ++ news) :: F) → wpList Try.prog ops Q rest (a.put o.dst v') w') : wpList Try.prog ops Q (o :: rest) a (w.alloc (.cells news.toArray e)) := by
  have hs2 := hs.pass (.cells news.toArray e)
  refine wpList_append_own_at (w.alloc (.cells news.toArray e)) hgd s x t ho 0 e i z size bytes ht hi hz hsize hby hzs hsz v n xs hes hs2.head ⟨w.heap.size, 0, none⟩ 1 1 news hx (by omega) (cell_new w news e) h1 (by unfold maxLen; omega) ?_ (by omega) ?_
  · calc (n + 1) * bytes ≤ 1099511627776 * 64 := Nat.mul_le_mul h63 hb64
      _ ≤ 140737488355328 := by decide
  · intro v' w' h2 hg h4 h5
    refine h v' w' ?_
    refine St.chg (ms := [rowC v e size n xs]) (ms' := [rowC v' e size (n + 1) (xs ++ news)]) (F := F) hs2 ⟨hg.os, hg.tape, hg.output, hg.size, fun k hk hn => hg.block k hk (fun e => hn ?_)⟩ (fun c hc => ?_) (fun b hb => ?_) ?_
    · simp [feet, rowC, ← e]
    · simp at hc; subst hc; exact h2
    · have hb' : b ∈ v'.ownBlock.toList := by simpa [feet, rowC] using hb
      rcases h5 with h5 | h5
      · left; rw [h5] at hb'; simpa [feet, rowC] using hb'
      · rw [h5] at hb'; simp at hb'; subst hb'; exact .inr (by simp)
    · show (feet [rowC v' e size (n + 1) (xs ++ news)]).Nodup
      simp only [feet, List.flatMap_cons, List.flatMap_nil, List.append_nil, rowC]
      cases v'.ownBlock <;> simp

theorem madeCells_one (z : Value) (n : Nat) : madeCells #[z] n = Array.replicate n z := by
  apply Array.toList_inj.1
  rw [toList_madeCells_one]; simp
/-- make([]T, n) of one-cell elements. -/
theorem makeRow (t e : TypeId) (i : TypeInfo) (z : Value) (bytes : Nat) (ht : Try.prog.underlying t = some (.slice e)) (hi : Try.prog.info? e = some i) (hz : i.zero = some z) (hsize : i.size = 1) (hby : i.bytes = bytes) (hzs : z.cells = #[z]) (hb : bytes ≤ 64) (n : Nat) (hn : n ≤ 1099511627776) (x : Int) (hx : x = n) (w : World) :
    (Instr.makeSlice t (.int .i64 x) (.int .i64 x)).run Try.prog w = .ok (.slice (some ⟨w.heap.size, 0, none⟩) n n) (w.alloc (.cells (Array.replicate n z) e)) := by
  subst hx
  have := run_make w t e i _ ht hi hz .i64 .i64 (n : Int) n (by omega) (by omega) (by
    rw [hby]
    have h1 : bytes * n ≤ 64 * 1099511627776 := Nat.mul_le_mul hb hn
    have h2 : ((bytes * n : Nat) : Int) ≤ ((64 * 1099511627776 : Nat) : Int) := by exact_mod_cast h1
    rw [Int.natCast_mul] at h2
    omega) (by omega)
  rw [this, hsize, Int.toNat_natCast, Nat.mul_one, hzs, madeCells_one]

/-- Parts that a callee has made. -/
theorem St.new {ms : List Comp} (hs : St K w cs) (hb : Below w.heap.size w w') (hok : ∀ c, c ∈ ms → c.ok w') (hf : ∀ b, b ∈ feet ms → w.heap.size ≤ b) (hn : (feet ms).Nodup) : St K w' (ms ++ cs) :=
  St.chg (ms := []) (ms' := ms) (F := cs) hs (Chg.of_below hb) hok (fun b h => .inr (hf b h)) hn

theorem memC_foot (bm bc : Nat) (L : List Cel) (acc : Nat) : (memC bm bc L acc).foot = [bm, bc] := rfl

theorem kitMemory_st {d : Cfg} (hd : d.Ok) (hs : St K w cs) : Calls Try.prog 18 #[.agg #[.int .i64 d.th, .int .i64 d.sn, .int .i64 d.no, .int .i64 d.ch, .int .i64 d.re, .int .i64 d.fa, .int .u64 d.cl]] w fun e w' => ∃ bm bc, e = .returned (.tuple #[.agg #[.int .i64 d.th, .int .i64 d.sn, .int .i64 d.no, .int .i64 d.ch, .int .i64 d.re, .int .i64 d.fa, .int .u64 d.cl], .pointer (some ⟨bm, 0, none⟩)]) ∧ St K w' (memC bm bc (startL d) 0 :: cs) := by
  refine (kitMemory_any d hd w).mono fun e w' ⟨bm, bc, he, hM, hb, h1, h2⟩ => ⟨bm, bc, he, ?_⟩
  refine hs.new (ms := [memC bm bc (startL d) 0]) hb (fun c hc => by simp at hc; subst hc; exact hM) (fun b hb => ?_) ?_
  · simp [feet, memC] at hb; omega
  · simp [feet, memC]; exact hM.ne

theorem St.row_at {a : Option Addr} {cap : Nat} {T : TypeId} {size n : Nat} {xs : List Value} (h : St K w (rowC (.slice a n cap) T size n xs :: F)) {j : Nat} {x : Value} (hx : xs[j]? = some x) : ∃ g, a = some ⟨g, 0, none⟩ ∧ w.cell? ⟨g, j, none⟩ = some x := by
  obtain ⟨a', cap', e, _, k⟩ := h.row_read
  have hn : 0 < n := by
    rcases Nat.eq_zero_or_pos n with h0 | h0
    · have := h.head.1
      rw [h0, Nat.zero_mul, List.length_eq_zero_iff] at this
      rw [this] at hx; simp at hx
    · exact h0
  obtain ⟨g, cur, rfl, hc, hk⟩ := k hn
  simp only [Value.slice.injEq] at e
  exact ⟨g, e.1, by rw [blk_cell hc]; exact hk j x hx⟩
theorem St.ne_mem {b bm bc : Nat} {o : Obj} {L : List Cel} {acc : Nat} (h : St K w (blk b o :: memC bm bc L acc :: F)) : b ≠ bm ∧ b ≠ bc := by
  have := h.nodup
  simp only [feet, List.flatMap_cons, blk, memC, List.cons_append, List.nil_append, List.nodup_cons, List.mem_cons, not_or] at this
  exact ⟨this.1.1, this.1.2.1⟩
theorem St.drewMade (h : St K w cs) (o : Obj) : St K (w.drew.alloc o) (blk w.heap.size o :: cs) := h.drew.made o
end

theorem zipWith_set {α β γ : Type} (f : α → β → γ) (l : List α) (m : List β) (i : Nat) (a : α) (b : β) (h : l[i]? = some a) : (List.zipWith f l m).set i (f a b) = List.zipWith f l (m.set i b) := by
  induction l generalizing m i with
  | nil => simp at h
  | cons x l ih =>
    cases m with
    | nil => simp
    | cons y m =>
      cases i with
      | zero => simp at h; subst h; simp
      | succ i => simp only [List.zipWith_cons_cons, List.set_cons_succ]; rw [ih m i (by simpa using h)]

/-- No part at all. -/
def emptyC : Comp := ⟨[], fun _ => True, fun _ _ _ _ => trivial, fun _ _ _ h => by simp at h⟩
theorem St.empty {K : Know} {w : World} {F : List Comp} (h : St K w F) : St K w (emptyC :: F) :=
  h.chg (ms := []) (ms' := [emptyC]) (Chg.refl _ _) (fun c hc => by simp at hc; subst hc; trivial) (fun b hb => by simp [feet, emptyC] at hb) (by simp [feet, emptyC])

theorem St.empties {K : Know} {w : World} {F : List Comp} (h : St K w F) (n : Nat) : St K w (group (List.replicate n emptyC) :: F) := by
  have e : feet (List.replicate n emptyC) = [] := by
    induction n with
    | zero => rfl
    | succ n ih => rw [List.replicate_succ, feet_cons, ih]; rfl
  refine h.chg (ms := []) (ms' := [group (List.replicate n emptyC)]) (Chg.refl _ _) (fun c hc => ?_) (fun b hb => ?_) ?_
  · simp at hc; subst hc; intro c hc; rw [List.eq_of_mem_replicate hc]; trivial
  · rw [feet_cons] at hb; simp only [group, e] at hb; simp [feet] at hb
  · rw [feet_cons]; simp only [group, e]; simp [feet]

theorem St.row_cell {K : Know} {w : World} {F : List Comp} {g cap : Nat} {T : TypeId} {size n : Nat} {xs : List Value} (h : St K w (rowC (.slice (some ⟨g, 0, none⟩) n cap) T size n xs :: F)) {j : Nat} {x : Value} (hx : xs[j]? = some x) : w.cell? ⟨g, j, none⟩ = some x := by
  obtain ⟨g', e, k⟩ := h.row_at hx
  simp only [Option.some.injEq, Addr.mk.injEq, and_true] at e
  rw [e]; exact k

theorem set_self {α : Type} {S : List α} {j : Nat} {s : α} (h : S[j]? = some s) : S.set j s = S := by
  apply List.ext_getElem?
  intro k
  rw [List.getElem?_set]
  by_cases hk : j = k
  · subst hk; rw [if_pos rfl, if_pos (List.getElem?_eq_some_iff.1 h).1, h]
  · rw [if_neg hk]

theorem getset {α : Type} {X : List α} {i j : Nat} {x' y : α} (h : (X.set i x')[j]? = some y) : (i = j ∧ y = x') ∨ (i ≠ j ∧ X[j]? = some y) := by
  rw [List.getElem?_set] at h
  by_cases hij : i = j
  · rw [if_pos hij] at h
    split at h
    · exact .inl ⟨hij, by simpa using h.symm⟩
    · cases h
  · rw [if_neg hij] at h; exact .inr ⟨hij, h⟩
end Go.Proofs.Ytfgjanponijkhaa
