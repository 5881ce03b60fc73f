/- The memory, rows that grow, and the machines of layer 5, as parts of a world. -/
import Derived.Test.YtfoojallpmibfaaSt
import Derived.Test.YtfoojallpmibfaaTake
import Derived.Test.YtfoojallpmibfaaRaise
import Derived.Maps.AppendAt
namespace Go.Proofs.Ytfoojallpmibfaa
open Go.RowKit
set_option maxRecDepth 100000

section
variable {K : Know} {w w' : World} {c c' d e : Comp} {cs F : List Comp}

/-- The memory. -/
def memC (bm bc : Nat) (L : List Cel) (acc : Nat) : Comp where
  foot := [bm, bc]
  ok := fun w => MemAt w bm bc L acc
  loc := fun w w' h k => ⟨by rw [h bm (by simp)]; exact k.hm, by rw [h bc (by simp)]; exact k.hc, k.ne, k.len⟩
  dom := fun w k b hb => by
    simp at hb
    rcases hb with rfl | rfl
    · exact blk_lt k.hm
    · exact blk_lt k.hc

theorem St.mem {bm bc : Nat} {L : List Cel} {acc : Nat} (h : St K w (memC bm bc L acc :: F)) : MemAt w bm bc L acc := h.head
theorem St.mem1 {bm bc : Nat} {L : List Cel} {acc : Nat} (h : St K w (c :: memC bm bc L acc :: F)) : MemAt w bm bc L acc := h.tail.head
theorem St.mem2 {bm bc : Nat} {L : List Cel} {acc : Nat} (h : St K w (c :: d :: memC bm bc L acc :: F)) : MemAt w bm bc L acc := h.tail.tail.head
theorem St.mem3 {bm bc : Nat} {L : List Cel} {acc : Nat} (h : St K w (c :: d :: e :: memC bm bc L acc :: F)) : MemAt w bm bc L acc := h.tail.tail.tail.head
theorem St.memChg {bm bc : Nat} {L L' : List Cel} {acc acc' : Nat} {S : List Nat} (h : St K w (memC bm bc L acc :: F)) (hg : Chg S w w') (hS : ∀ b, b ∈ S → b ∈ [bm, bc]) (M : MemAt w' bm bc L' acc') : St K w' (memC bm bc L' acc' :: F) :=
  h.chg1 (c' := memC bm bc L' acc') (hg.mono hS) M rfl

theorem load_st {bm bc : Nat} {L : List Cel} {acc : Nat} {i : Int} (hs : St K w (memC bm bc L acc :: F)) (ha : acc ≤ 1000000000000) :
    Calls Try.prog 86 #[.pointer (some ⟨bm, 0, none⟩), .int .i64 i] w fun e w' => e = .returned (.agg #[.int .u64 (getC L i).n, .string (getC L i).k, .int .u64 (getC L i).m]) ∧ St K w' (memC bm bc L (acc + 1) :: F) :=
  (load_any w bm bc L acc i hs.mem (by omega) (by omega)).mono fun _ _ ⟨he, hM, hg⟩ => ⟨he, hs.memChg hg (by simp) (by exact_mod_cast hM)⟩
theorem store_st {bm bc : Nat} {L : List Cel} {acc : Nat} {i : Int} {c : Cel} (hs : St K w (memC bm bc L acc :: F)) (ha : acc ≤ 1000000000000) :
    Calls Try.prog 92 #[.pointer (some ⟨bm, 0, none⟩), .int .i64 i, .agg #[.int .u64 c.n, .string c.k, .int .u64 c.m]] w fun e w' => e = .returned (.tuple #[]) ∧ St K w' (memC bm bc (putC L i c) (acc + 1) :: F) :=
  (store_any w bm bc L acc i c hs.mem (by omega) (by omega)).mono fun _ _ ⟨he, hM, hg⟩ => ⟨he, hs.memChg hg (by simp) (by exact_mod_cast hM)⟩
theorem swap_st {bm bc : Nat} {L : List Cel} {acc : Nat} {i old : Int} {c : Cel} (hs : St K w (memC bm bc L acc :: F)) (ha : acc ≤ 1000000000000) :
    Calls Try.prog 91 #[.pointer (some ⟨bm, 0, none⟩), .int .i64 i, .int .u64 old, .agg #[.int .u64 c.n, .string c.k, .int .u64 c.m]] w fun e w' => e = .returned (.bool (swapOk L i old)) ∧ St K w' (memC bm bc (if swapOk L i old then putC L i c else L) (acc + 1) :: F) :=
  (swap_any w bm bc L acc i old c hs.mem (by omega) (by omega)).mono fun _ _ ⟨he, hM, hg⟩ => ⟨he, hs.memChg hg (by simp) (by exact_mod_cast hM)⟩
theorem poke_st {bm bc : Nat} {L : List Cel} {acc : Nat} {i : Int} {c : Cel} (hs : St K w (memC bm bc L acc :: F)) :
    Calls Try.prog 44 #[.pointer (some ⟨bm, 0, none⟩), .int .i64 i, .agg #[.int .u64 c.n, .string c.k, .int .u64 c.m]] w fun e w' => e = .returned (.tuple #[]) ∧ St K w' (memC bm bc (putC L i c) acc :: F) :=
  (poke_any w bm bc L acc i c hs.mem).mono fun _ _ ⟨he, hM, hg⟩ => ⟨he, hs.memChg hg (by simp) hM⟩
theorem peek_st {bm bc : Nat} {L : List Cel} {acc : Nat} {i : Int} (hs : St K w cs) (hM : MemAt w bm bc L acc) :
    Calls Try.prog 47 #[.pointer (some ⟨bm, 0, none⟩), .int .i64 i] w fun e w' => e = .returned (.agg #[.int .u64 (getC L i).n, .string (getC L i).k, .int .u64 (getC L i).m]) ∧ St K w' cs :=
  calls_same hs (peek_any w bm bc L acc i hM)
theorem accesses_st {bm bc : Nat} {L : List Cel} {acc : Nat} (hM : MemAt w bm bc L acc) :
    Calls Try.prog 46 #[.pointer (some ⟨bm, 0, none⟩)] w fun e w' => e = .returned (.int .u64 acc) ∧ w = w' := accesses_any w bm bc L acc hM
theorem memNew_st {n : Nat} (hs : St K w cs) (h1 : 1 ≤ n) (h2 : n ≤ 1048576) :
    Calls Try.prog 42 #[.int .i64 n] w fun e w' => ∃ bm bc, e = .returned (.tuple #[.pointer (some ⟨bm, 0, none⟩), .int .i64 0]) ∧ St K w' (memC bm bc (List.replicate n Cel.zero) 0 :: cs) := by
  refine (memNew_any w n h1 h2).mono fun e w' ⟨he, hM, hb, hz⟩ => ⟨w.heap.size + 1, w.heap.size, he, ?_⟩
  refine St.chg (ms := []) (ms' := [memC (w.heap.size + 1) w.heap.size (List.replicate n Cel.zero) 0]) (F := cs) hs (Chg.of_below hb) (fun x hx => by simp at hx; subst hx; exact hM) (fun b hb => ?_) (by simp [feet, memC])
  simp [feet, memC] at hb; omega

/-! ### Rows that the code makes and appends to -/
def rowC (v : Value) (T : TypeId) (size n : Nat) (xs : List Value) : Comp where
  foot := v.ownBlock.toList
  ok := fun w => w.ownsRow 0 T size v n xs
  loc := fun w w' h k => by
    refine ⟨k.1, ?_⟩
    rcases k.2 with k | ⟨g, cap, cur, hv, hB, hc, r⟩
    · exact .inl k
    · exact .inr ⟨g, cap, cur, hv, hB, by rw [h g (by rw [hv]; simp [Value.ownBlock])]; exact hc, r⟩
  dom := fun w k b hb => by
    rcases k.2 with ⟨k, _⟩ | ⟨g, cap, cur, hv, hB, hc, r⟩
    · rw [k] at hb; simp [Value.ownBlock] at hb
    · rw [hv] at hb; simp [Value.ownBlock] at hb; subst hb; exact blk_lt hc

theorem St.row_nil {T : TypeId} {size : Nat} (h : St K w cs) : St K w (rowC (.slice none 0 0) T size 0 [] :: cs) := by
  refine St.chg (ms := []) (ms' := [rowC (.slice none 0 0) T size 0 []]) (F := cs) h (Chg.refl _ _) (fun c hc => ?_) (fun b hb => ?_) ?_
  · simp at hc; subst hc; exact World.ownsRow_nil w 0 T size
  · simp [feet, rowC, Value.ownBlock] at hb
  · simp [feet, rowC, Value.ownBlock]

/-- A row that is not empty is one block. -/
theorem St.row_open {v : Value} {T : TypeId} {size n : Nat} {xs : List Value} (h : St K w (rowC v T size n xs :: F)) (hn : 0 < n) :
    ∃ (g cap : Nat) (cur : Array Value), v = .slice (some ⟨g, 0, none⟩) n cap ∧ n ≤ cap ∧ cap ≤ maxLen ∧ cur.size = cap * size ∧ xs.length = n * size ∧ (∀ (j : Nat) (x : Value), xs[j]? = some x → cur[j]? = some x) ∧ St K w (blk g (.cells cur T) :: F) := by
  obtain ⟨hl, k⟩ := h.head
  rcases k with ⟨_, h0⟩ | ⟨g, cap, cur, hv, hB, hc, h1, h2, h3, h4⟩
  · omega
  · refine ⟨g, cap, cur, hv, h1, h2, h3, hl, fun j x hx => ?_, ?_⟩
    · rw [← h4, List.getElem?_take] at hx
      split at hx
      · simpa using hx
      · cases hx
    · exact h.chg1 (c' := blk g (.cells cur T)) (Chg.refl _ _) hc (by simp [rowC, blk, hv, Value.ownBlock])
/-- A row that is only read from here on: a slice of so many elements, and its cells. -/
theorem St.row_read {v : Value} {T : TypeId} {size n : Nat} {xs : List Value} (h : St K w (rowC v T size n xs :: F)) :
    ∃ (a : Option Addr) (cap : Nat), v = .slice a n cap ∧ n ≤ cap ∧ (0 < n → ∃ g cur, a = some ⟨g, 0, none⟩ ∧ w.heap[g]? = some (.cells cur T) ∧ ∀ (j : Nat) (x : Value), xs[j]? = some x → cur[j]? = some x) := by
  obtain ⟨hl, k⟩ := h.head
  rcases k with ⟨hv, h0⟩ | ⟨g, cap, cur, hv, hB, hc, h1, h2, h3, h4⟩
  · exact ⟨none, 0, by rw [hv, h0], by omega, fun h => by omega⟩
  · refine ⟨_, cap, hv, h1, fun _ => ⟨g, cur, rfl, hc, fun j x hx => ?_⟩⟩
    rw [← h4, List.getElem?_take] at hx
    split at hx
    · simpa using hx
    · cases hx

theorem cell_new (w : World) (l : List Value) (T : TypeId) : ∀ j u, l[j]? = some u → (w.alloc (.cells l.toArray T)).cell? ((⟨w.heap.size, 0, none⟩ : Addr).add j) = some u := by
  intro j u hu
  have : (⟨w.heap.size, 0, none⟩ : Addr).add j = ⟨w.heap.size, j, none⟩ := by
    unfold Addr.add
    split
    · rename_i h; rw [h]
    · simp
  rw [this, blk_cell (blk_alloc w _)]
  simpa using hu

/-- append(s, x) of one element that has just been laid into a block. -/
theorem append_st {ops : Array Oper} {rest : List Oper} {o : Oper} {a : Act} {Q : Exit → Act → World → Prop} (s x : Operand) (t e : TypeId) (v : Value) (n size bytes : Nat) (xs news : List Value) (z : Value) (i : TypeInfo)
    (hs : St K w (rowC v e size n xs :: F))
    (hgd : o.guard = none) (ho : o.op = .call { callee := .builtin .append, args := #[s, x], argTypes := #[t, t] })
    (ht : Try.prog.underlying t = some (.slice e)) (hi : Try.prog.info? e = some i) (hz : i.zero = some z) (hsize : i.size = size) (hby : i.bytes = bytes) (hzs : z.cells.size = size) (hsz : 0 < size)
    (hes : a.eval s = v) (hx : a.eval x = .slice (some ⟨w.heap.size, 0, none⟩) 1 1) (hl : news.length = size) (h1 : ∀ u, u ∈ news → u.oneCell' = true)
    (h63 : n + 1 ≤ 1099511627776) (hb64 : bytes ≤ 64)
    (h : ∀ v' w', St K w' (rowC v' e size (n + 1) (xs ++ news) :: F) → wpList Try.prog ops Q rest (a.put o.dst v') w') : wpList Try.prog ops Q (o :: rest) a (w.alloc (.cells news.toArray e)) := by
  have hs2 := hs.pass (.cells news.toArray e)
  refine wpList_append_own_at (w.alloc (.cells news.toArray e)) hgd s x t ho 0 e i z size bytes ht hi hz hsize hby hzs hsz v n xs hes hs2.head ⟨w.heap.size, 0, none⟩ 1 1 news hx (by omega) (cell_new w news e) h1 (by unfold maxLen; omega) ?_ (by omega) ?_
  · calc (n + 1) * bytes ≤ 1099511627776 * 64 := Nat.mul_le_mul h63 hb64
      _ ≤ 140737488355328 := by decide
  · intro v' w' h2 hg h4 h5
    refine h v' w' ?_
    refine St.chg (ms := [rowC v e size n xs]) (ms' := [rowC v' e size (n + 1) (xs ++ news)]) (F := F) hs2 ⟨hg.os, hg.tape, hg.output, hg.size, fun k hk hn => hg.block k hk (fun e => hn ?_)⟩ (fun c hc => ?_) (fun b hb => ?_) ?_
    · simp [feet, rowC, ← e]
    · simp at hc; subst hc; exact h2
    · have hb' : b ∈ v'.ownBlock.toList := by simpa [feet, rowC] using hb
      rcases h5 with h5 | h5
      · left; rw [h5] at hb'; simpa [feet, rowC] using hb'
      · rw [h5] at hb'; simp at hb'; subst hb'; exact .inr (by simp)
    · show (feet [rowC v' e size (n + 1) (xs ++ news)]).Nodup
      simp only [feet, List.flatMap_cons, List.flatMap_nil, List.append_nil, rowC]
      cases v'.ownBlock <;> simp

theorem madeCells_one (z : Value) (n : Nat) : madeCells #[z] n = Array.replicate n z := by
  apply Array.toList_inj.1
  rw [toList_madeCells_one]; simp
/-- make([]T, n) of one-cell elements. -/
theorem makeRow (t e : TypeId) (i : TypeInfo) (z : Value) (bytes : Nat) (ht : Try.prog.underlying t = some (.slice e)) (hi : Try.prog.info? e = some i) (hz : i.zero = some z) (hsize : i.size = 1) (hby : i.bytes = bytes) (hzs : z.cells = #[z]) (hb : bytes ≤ 64) (n : Nat) (hn : n ≤ 1099511627776) (x : Int) (hx : x = n) (w : World) :
    (Instr.makeSlice t (.int .i64 x) (.int .i64 x)).run Try.prog w = .ok (.slice (some ⟨w.heap.size, 0, none⟩) n n) (w.alloc (.cells (Array.replicate n z) e)) := by
  subst hx
  have := run_make w t e i _ ht hi hz .i64 .i64 (n : Int) n (by omega) (by omega) (by
    rw [hby]
    have h1 : bytes * n ≤ 64 * 1099511627776 := Nat.mul_le_mul hb hn
    have h2 : ((bytes * n : Nat) : Int) ≤ ((64 * 1099511627776 : Nat) : Int) := by exact_mod_cast h1
    rw [Int.natCast_mul] at h2
    omega) (by omega)
  rw [this, hsize, Int.toNat_natCast, Nat.mul_one, hzs, madeCells_one]

/-! ### The machines of layer 5 -/
def takeC (b : Nat) (i lim : Int) (s : TakeS) : Comp := blk b (.cells #[takePc b s.pc, .bool true, .int .i64 i, .int .u64 lim, .int .u64 s.seen, .bool s.ok] 96)
theorem newTake_st {i lim : Int} (hs : St K w cs) : Calls Try.prog 45 #[.int .i64 i, .int .u64 lim] w fun e w' => ∃ b, e = .returned (.pointer (some ⟨b, 0, none⟩)) ∧ St K w' (takeC b i lim ⟨0, 0, false⟩ :: cs) := by
  refine (newTake_any w i lim).mono fun e w' ⟨he, hT, hb, hz⟩ => ⟨_, he, ?_⟩
  exact St.chg (ms := []) (ms' := [takeC w.heap.size i lim ⟨0, 0, false⟩]) (F := cs) hs (Chg.of_below hb) (fun x hx => by simp at hx; subst hx; exact hT) (fun b hb => by simp [feet, takeC, blk] at hb; omega) (by simp [feet, takeC, blk])
theorem St.ne_mem {b bm bc : Nat} {o : Obj} {L : List Cel} {acc : Nat} (h : St K w (blk b o :: memC bm bc L acc :: F)) : b ≠ bm ∧ b ≠ bc := by
  have := h.nodup
  simp only [feet, List.flatMap_cons, blk, memC, List.cons_append, List.nil_append, List.nodup_cons, List.mem_cons, not_or] at this
  exact ⟨this.1.1, this.1.2.1⟩
theorem takeStep_st {b bm bc : Nat} {i lim : Int} {L : List Cel} {acc : Nat} {s : TakeS} (hs : St K w (takeC b i lim s :: memC bm bc L acc :: F)) (ha : acc ≤ 1000000000000) (h1 : s.pc = 1 → 0 ≤ s.seen ∧ s.seen < 18446744073709551615) :
    Calls Try.prog 48 #[.pointer (some ⟨b, 0, none⟩), .pointer (some ⟨bm, 0, none⟩)] w fun e w' => e = .returned (.bool (decide (2 ≤ (takeStep i lim L s).1.pc))) ∧ St K w' (takeC b i lim (takeStep i lim L s).1 :: memC bm bc (takeStep i lim L s).2 (if 2 ≤ s.pc then acc else acc + 1) :: F) := by
  have hne := St.ne_mem (F := F) hs
  refine (take_step w b bm bc i lim acc s L hs.head hs.mem1 hne.1 hne.2 (by omega) (by omega) h1).mono fun e w' ⟨he, hT, hM, hg⟩ => ⟨he, ?_⟩
  refine hs.chg2 (by simpa [takeC, blk, memC] using hg) hT ?_ rfl rfl
  show MemAt _ _ _ _ _
  by_cases h2 : 2 ≤ s.pc
  · rw [if_pos h2] at hM ⊢; exact hM
  · rw [if_neg h2] at hM ⊢; exact_mod_cast hM
theorem takeNumber_st {b : Nat} {i lim : Int} {s : TakeS} (h : TakeAt w b i lim s) (hb : s.ok = true → 0 ≤ s.seen ∧ s.seen < 18446744073709551615) :
    Calls Try.prog 49 #[.pointer (some ⟨b, 0, none⟩)] w fun e w' => e = .returned (.tuple #[.int .u64 (if s.ok then s.seen + 1 else 0), .bool s.ok]) ∧ w = w' := takeNumber_any w b i lim s h hb
def raiseC (b : Nat) (i lim : Int) (s : RaiseS) : Comp := blk b (.cells #[raisePc b s.pc, .bool true, .int .i64 i, .int .u64 lim, .int .u64 s.seen, .bool s.ok] 99)
theorem newRaise_st {i lim : Int} (hs : St K w cs) : Calls Try.prog 55 #[.int .i64 i, .int .u64 lim] w fun e w' => ∃ b, e = .returned (.pointer (some ⟨b, 0, none⟩)) ∧ St K w' (raiseC b i lim ⟨0, 0, false⟩ :: cs) := by
  refine (newRaise_any w i lim).mono fun e w' ⟨he, hT, hb, hz⟩ => ⟨_, he, ?_⟩
  exact St.chg (ms := []) (ms' := [raiseC w.heap.size i lim ⟨0, 0, false⟩]) (F := cs) hs (Chg.of_below hb) (fun x hx => by simp at hx; subst hx; exact hT) (fun b hb => by simp [feet, raiseC, blk] at hb; omega) (by simp [feet, raiseC, blk])
theorem raiseStep_st {b bm bc : Nat} {i lim : Int} {L : List Cel} {acc : Nat} {s : RaiseS} (hs : St K w (raiseC b i lim s :: memC bm bc L acc :: F)) (ha : acc ≤ 1000000000000) :
    Calls Try.prog 56 #[.pointer (some ⟨b, 0, none⟩), .pointer (some ⟨bm, 0, none⟩)] w fun e w' => e = .returned (.bool (decide (2 ≤ (raiseStep i lim L s).1.pc))) ∧ St K w' (raiseC b i lim (raiseStep i lim L s).1 :: memC bm bc (raiseStep i lim L s).2 (if 2 ≤ s.pc then acc else acc + 1) :: F) := by
  have hne := St.ne_mem (F := F) hs
  refine (raise_step w b bm bc i lim acc s L hs.head hs.mem1 hne.1 hne.2 (by omega) (by omega)).mono fun e w' ⟨he, hT, hM, hg⟩ => ⟨he, ?_⟩
  refine hs.chg2 (by simpa [raiseC, blk, memC] using hg) hT ?_ rfl rfl
  show MemAt _ _ _ _ _
  by_cases h2 : 2 ≤ s.pc
  · rw [if_pos h2] at hM ⊢; exact hM
  · rw [if_neg h2] at hM ⊢; exact_mod_cast hM
end
end Go.Proofs.Ytfoojallpmibfaa
