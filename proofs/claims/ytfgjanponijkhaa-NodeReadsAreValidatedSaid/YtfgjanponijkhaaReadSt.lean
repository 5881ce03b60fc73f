/- The state of NodeReadsAreValidated: one writer, one reader, the pages so far. -/
import Derived.Test.YtfgjanponijkhaaReadLaw
import Derived.Test.YtfgjanponijkhaaSame2
import Derived.Test.YtfgjanponijkhaaPagesIn
import Derived.Test.YtfgjanponijkhaaAw8
import Derived.Test.YtfgjanponijkhaaNodeHeld
import Derived.Test.YtfgjanponijkhaaNodeW3
import Derived.Test.YtfgjanponijkhaaContent
namespace Go.Proofs.Ytfgjanponijkhaa
open Go.RowKit
set_option maxRecDepth 100000
set_option linter.unusedSectionVars false

abbrev HP := Pg × Option Addr × Nat
def pgCells (p : HP) : List Value := [.int .i64 (p.1).lev, (.slice p.2.1 p.1.sl.length p.2.2), .string (p.1).hi, .bool (p.1).la, .int .u64 (p.1).ri]
def pgRow (l : List HP) : List Value := l.flatMap pgCells
def slP (p : HP) : Comp := rowC (.slice p.2.1 (p.1).sl.length p.2.2) 132 2 (p.1).sl.length (slRow (p.1).sl)
theorem pgRow_length (l : List HP) : (pgRow l).length = l.length * 5 := by
  induction l with
  | nil => rfl
  | cons p l ih => show (pgCells p ++ pgRow l).length = _; rw [List.length_append, ih]; simp [pgCells]; omega
theorem pgRow_at : ∀ (l : List HP) (i : Nat) (p : HP), l[i]? = some p → ∀ j, j < 5 → (pgRow l)[i * 5 + j]? = (pgCells p)[j]?
  | [], i, p, h => by simp at h
  | q :: l, 0, p, h => fun j hj => by
    have : q = p := by simpa using h
    subst this
    show (pgCells q ++ pgRow l)[0 * 5 + j]? = _
    rw [List.getElem?_append_left (by simp [pgCells]; omega)]
    simp
  | q :: l, i + 1, p, h => fun j hj => by
    show (pgCells q ++ pgRow l)[(i + 1) * 5 + j]? = _
    rw [List.getElem?_append_right (by simp [pgCells]; omega)]
    have := pgRow_at l i p (by simpa using h) j hj
    rw [← this]
    congr 1
    simp [pgCells]; omega

/-- The pages so far: those of the law, in order. -/
def HistOk (xs : Nat → Pg) (n : Nat) (l : List HP) : Prop := l.length = n ∧ ∀ i p, l[i]? = some p → p.1 = xs i
theorem HistOk.push {xs : Nat → Pg} {n : Nat} {l : List HP} (h : HistOk xs n l) (a : Option Addr) (c : Nat) : HistOk xs (n + 1) (l ++ [(xs n, a, c)]) := by
  refine ⟨by simp [h.1], fun i p hp => ?_⟩
  rcases Nat.lt_or_ge i l.length with hi | hi
  · rw [List.getElem?_append_left hi] at hp
    exact h.2 i p hp
  · rw [List.getElem?_append_right hi] at hp
    have h0 : i - l.length = 0 := by
      rcases Nat.eq_zero_or_pos (i - l.length) with h | h
      · exact h
      · rw [List.getElem?_eq_none (by simp; omega)] at hp; cases hp
    rw [h0] at hp
    have : (xs n, a, c) = p := by simpa using hp
    subst this
    have : i = n := by have := h.1; omega
    rw [this]

/-- What the node's cells hold between two pages. -/
structure NodeOk (d : Cfg) (L : List Cel) (x : Pg) (word : Int) : Prop where
  ok : CelsOk L
  len : (L.length : Int) = d.cells
  holds : Holds L (pgPts d 1 x)
  word : (getC L (d.node 1 0)).n = word

section
variable {K : Know} {w : World} {F : List Comp} {d : Cfg} {xs : Nat → Pg} {L : List Cel} {n c : Nat} {now : Int} {rem : Nat} {v12 : Value} {ws : List Comp}

/-- The writer: none, or one that writes the page c + 1 over the page c. -/
def WrI (d : Cfg) (xs : Nat → Pg) (L : List Cel) (n c : Nat) (now : Int) (rem : Nat) (v12 : Value) (ws : List Comp) : Prop :=
  (v12 = .pointer none ∧ c = n ∧ now = wd n ∧ rem = 0 ∧ ws = [] ∧ NodeOk d L (xs n) (wd n)) ∨
  (∃ (bw b g cap k : Nat) (va : Value) (L0 : List Cel) (mid ps : List Pt), v12 = .pointer (some ⟨bw, 0, none⟩) ∧ n = c + 1 ∧ 0 < rem ∧ k + rem = ps.length ∧ now = (if k = 0 then wd c else ltBegin (wd c)) ∧ NodeOk d L0 (xs c) (wd c) ∧
    Newer (pgPts d 1 (xs c)) (pgPts d 1 (xs (c + 1))) mid ∧ ps = ⟨d.node 1 0, ⟨ltBegin (wd c), ⟨#[]⟩, 0⟩⟩ :: mid ++ [⟨d.node 1 0, ⟨wd (c + 1), ⟨#[]⟩, 0⟩⟩] ∧ L = putAll L0 (ps.take k) ∧
    ws = [wrC b 1 (wd (c + 1)) (xs (c + 1)) va g cap ps k, rowC (.slice (some ⟨g, 0, none⟩) ps.length cap) 178 4 ps.length (ptRow ps), blk bw (.cells #[.pointer (some ⟨b, 0, none⟩)] 182), slC va (xs (c + 1))])

/-- The law's pages are good. -/
structure XsOk (d : Cfg) (xs : Nat → Pg) : Prop where
  pg : ∀ i, PgOk d (xs i)
  lev : ∀ i, 0 ≤ (xs i).lev ∧ (xs i).lev < 1000000

theorem NodeOk.page (hd : d.Ok) (hno : 1 ≤ d.no) (hx : XsOk d xs) {i : Nat} {word : Int} (h : NodeOk d L (xs i) word) : PageAt d 1 L (xs i) :=
  h.holds.page hd (by omega) hno (hx.pg i).le (hx.lev i) (hx.pg i).la

theorem ps_ok (hd : d.Ok) (hno : 1 ≤ d.no) (hx : XsOk d xs) (hc : c + 1 < 9) {mid ps : List Pt} (hnew : Newer (pgPts d 1 (xs c)) (pgPts d 1 (xs (c + 1))) mid)
    (hps : ps = ⟨d.node 1 0, ⟨ltBegin (wd c), ⟨#[]⟩, 0⟩⟩ :: mid ++ [⟨d.node 1 0, ⟨wd (c + 1), ⟨#[]⟩, 0⟩⟩]) : ∀ p, p ∈ ps → CelOk p.c := fun p hp => by
  rw [hps] at hp
  rcases List.mem_append.1 hp with hp | hp
  · rcases List.mem_cons.1 hp with rfl | hp
    · exact ltBegin_bd (wd_facts c (by omega)).1.1 (wd_facts c (by omega)).1.2
    · exact wf_u64 (pgPts_ok hd (by omega) hno (hx.pg _) (hx.lev _) p (hnew.1.subset hp)).n
  · simp only [List.mem_singleton] at hp
    subst hp
    exact (wd_facts (c + 1) hc).1

/-- What a reader can meet. -/
theorem WrI.mem (hd : d.Ok) (hno : 1 ≤ d.no) (hx : XsOk d xs) (hn : n < 9) (h : WrI d xs L n c now rem v12 ws) :
    CelsOk L ∧ c < 9 ∧ ((PageAt d 1 L (xs c) ∧ (getC L (d.node 1 0)).n = wd c ∧ now = wd c) ∨ ((getC L (d.node 1 0)).n = ltBegin (wd c) ∧ now = ltBegin (wd c))) := by
  rcases h with ⟨_, rfl, h1, _, _, h2⟩ | ⟨bw, b, g, cap, k, va, L0, mid, ps, _, rfl, h0, hk, hnow, hL0, hnew, hps, rfl, _⟩
  · exact ⟨h2.ok, hn, .inl ⟨h2.page hd hno hx, h2.word, h1⟩⟩
  · refine ⟨putAll_ok _ _ hL0.ok (fun p hp => ps_ok hd hno hx hn hnew hps p (List.mem_of_mem_take hp)), by omega, ?_⟩
    by_cases hk0 : k = 0
    · subst hk0
      rw [if_pos rfl] at hnow
      rw [List.take_zero, putAll_nil]
      exact .inl ⟨hL0.page hd hno hx, hL0.word, hnow⟩
    · rw [if_neg hk0] at hnow
      have hlen : ps.length = mid.length + 2 := by rw [hps]; simp
      have := stage_mid (c0 := ⟨ltBegin (wd c), ⟨#[]⟩, 0⟩) (c1 := ⟨wd (c + 1), ⟨#[]⟩, 0⟩) hd (id := 1) (by omega) hno hnew.1 hL0.len (hx.pg (c + 1)).le (k := k) (by omega) (by omega)
      rw [← hps] at this
      exact .inr ⟨by rw [this], hnow⟩

/-- The reader. -/
def RdOk (d : Cfg) (x : Pg) (fr c : Nat) (now : Int) (s : RdS) : Prop := s.Ok d ∧ fr ≤ c ∧ RdInv x fr c now s
theorem RdOk.start (fr c : Nat) (now : Int) (x : Pg) (h : fr ≤ c) : RdOk d x fr c now rd0 := ⟨rd0_ok d, h, .inl rfl⟩

/-- A step of the reader. -/
theorem reader_st {x : Pg} {fr bm bc br acc : Nat} {va : Value} {s : RdS} (hd : d.Ok) (hL : CelsOk L) (hc : c < 9) (ha : acc ≤ 1000000000000)
    (hm : (PageAt d 1 L x ∧ (getC L (d.node 1 0)).n = wd c ∧ now = wd c) ∨ ((getC L (d.node 1 0)).n = ltBegin (wd c) ∧ now = ltBegin (wd c))) (hr : RdOk d x fr c now s)
    (hs : St K w (rdC br d 1 va s :: slC va s.pg :: memC bm bc L acc :: F)) :
    Calls Try.prog 26 #[.pointer (some ⟨br, 0, none⟩), .pointer (some ⟨bm, 0, none⟩)] w fun e w' => ∃ (va' : Value) (s' : RdS) (acc' : Nat), acc' ≤ acc + 1 ∧
      ((e = .returned (.bool false) ∧ RdOk d x fr c now s') ∨ (e = .returned (.bool true) ∧ s'.pc = 6 ∧ s'.pg = x)) ∧ St K w' (rdC br d 1 va' s' :: slC va' s'.pg :: memC bm bc L acc' :: F) := by
  obtain ⟨hok, hfr, hinv⟩ := hr
  have hok' := rdStep_ok (id := 1) hd hL hok
  refine (rdStep_st hd (by omega) hL ha hok hs).mono ?_
  rintro e w' ⟨va', rfl, hs'⟩
  refine ⟨va', _, _, rdAcc_le _ _, ?_, hs'⟩
  have lt6 : ∀ {s' : RdS}, RdInv x fr c now s' → s'.pc < 6 := fun h => by
    rcases h with h | ⟨_, h, _⟩ <;> omega
  rcases hm with ⟨hp, hw, rfl⟩ | ⟨hw, rfl⟩
  · rcases rd_stable hp hc hfr hw hinv with h | ⟨h6, hpg⟩
    · have := lt6 h
      exact .inl ⟨by rw [decide_eq_false (by omega)], hok', hfr, h⟩
    · exact .inr ⟨by rw [decide_eq_true (by omega)], h6, hpg⟩
  · have h := rd_changing hc hw hinv
    have := lt6 h
    exact .inl ⟨by rw [decide_eq_false (by omega)], hok', hfr, h⟩
end
end Go.Proofs.Ytfgjanponijkhaa
