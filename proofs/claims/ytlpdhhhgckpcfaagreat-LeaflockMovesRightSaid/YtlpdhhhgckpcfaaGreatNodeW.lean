
/- The writer of a node (package node): the list of its stores. The map of a writer's stores (map[put]bool, made by the call itself), as a part of a world. The writer of a node as a machine (package node): newWriter, store, Step. NewWrite (package node): the stores that turn a page into another. What a writer of a node holds when it has finished (package node): result, Held. The writer of a new node (package node: Fresh). What a writer's list makes of the cells (pure). -/
import Derived.Test.YtlpdhhhgckpcfaaGreatNodeB
import Derived.Test.YtlpdhhhgckpcfaaGreatTailC
import Derived.Maps.OwnSet
import Derived.DeepKeys4
import Derived.Test.YtlpdhhhgckpcfaaGreatPageA
namespace Go.Proofs.YtlpdhhhgckpcfaaGreat
open Go.RowKit
set_option maxRecDepth 100000

/-- A store: cell i, and what it gets. -/
structure Pt where
  i : Int
  c : Cel
def ptCells (p : Pt) : List Value := [.int .i64 p.i, .int .u64 p.c.n, .string p.c.k, .int .u64 p.c.m]
def ptRow (l : List Pt) : List Value := l.flatMap ptCells
theorem ptRow_length (l : List Pt) : (ptRow l).length = l.length * 4 := by
  induction l with
  | nil => rfl
  | cons s l ih => rw [show ptRow (s :: l) = ptCells s ++ ptRow l from rfl, List.length_append, ih]; simp [ptCells]; omega
theorem ptRow_append (l l' : List Pt) : ptRow (l ++ l') = ptRow l ++ ptRow l' := by unfold ptRow; rw [List.flatMap_append]
theorem ptRow_at (l : List Pt) : ∀ (i : Nat) (s : Pt), l[i]? = some s → (ptRow l)[i * 4]? = some (.int .i64 s.i) ∧ (ptRow l)[i * 4 + 1]? = some (.int .u64 s.c.n) ∧ (ptRow l)[i * 4 + 2]? = some (.string s.c.k) ∧ (ptRow l)[i * 4 + 3]? = some (.int .u64 s.c.m) := by
  induction l with
  | nil => intro i s h; simp at h
  | cons a l ih =>
    intro i s h
    have e : ptRow (a :: l) = .int .i64 a.i :: .int .u64 a.c.n :: .string a.c.k :: .int .u64 a.c.m :: ptRow l := rfl
    rw [e]
    cases i with
    | zero => simp at h; subst h; exact ⟨rfl, rfl, rfl, rfl⟩
    | succ i =>
      have := ih i s (by simpa using h)
      rw [show (i + 1) * 4 = i * 4 + 4 by omega]
      simpa using this
theorem ptRow_one (l : List Pt) : ∀ u, u ∈ ptRow l → u.oneCell' = true := by
  intro u hu
  obtain ⟨s, _, hs⟩ := List.mem_flatMap.1 hu
  simp [ptCells] at hs
  rcases hs with rfl | rfl | rfl | rfl <;> rfl

/-- The stores of slots, from number i on. -/
def slPts (d : Cfg) (id : Int) : Nat → List Sl → List Pt
  | _, [] => []
  | i, s :: l => ⟨d.slot id i, ⟨s.r, s.k, 0⟩⟩ :: slPts d id (i + 1) l
theorem slPts_length {d : Cfg} {id : Int} : ∀ (l : List Sl) (i : Nat), (slPts d id i l).length = l.length
  | [], _ => rfl
  | s :: l, i => by simp [slPts, slPts_length l]
theorem slPts_snoc {d : Cfg} {id : Int} : ∀ (l : List Sl) (i : Nat) (s : Sl), slPts d id i (l ++ [s]) = slPts d id i l ++ [⟨d.slot id ((i + l.length : Nat) : Int), ⟨s.r, s.k, 0⟩⟩]
  | [], i, s => by simp [slPts]
  | x :: l, i, s => by
    show _ :: slPts d id (i + 1) (l ++ [s]) = _ :: _
    rw [slPts_snoc l (i + 1) s]
    simp only [List.length_cons]
    rw [show i + 1 + l.length = i + (l.length + 1) by omega]
    rfl
/-- What cells returns. -/
def hiCel (pg : Pg) : Cel := cond pg.la ⟨0, ⟨#[]⟩, 1⟩ ⟨0, pg.hi, 0⟩
def pgPts (d : Cfg) (id : Int) (pg : Pg) : List Pt :=
  slPts d id 0 pg.sl ++ [⟨d.node id 2, hiCel pg⟩, ⟨d.node id 3, ⟨pg.ri, ⟨#[]⟩, 0⟩⟩, ⟨d.node id 1, ⟨pg.sl.length, ⟨#[]⟩, pg.lev⟩⟩]

theorem infoPut : (Tryz.prog.info? 139).map (fun i => (i.zero, i.size, i.bytes)) = some (some (.agg #[.int .i64 0, .int .u64 0, .string ⟨#[]⟩, .int .u64 0]), 4, 40) := by kernel_rfl

section
variable {K : Know} {w : World} {F : List Comp} {pg : Pg} {a : Option Addr} {cap : Nat} {d : Cfg} {id : Int}
end
end Go.Proofs.YtlpdhhhgckpcfaaGreat

namespace Go.Proofs.YtlpdhhhgckpcfaaGreat
open Go.RowKit Go.Maps
set_option maxRecDepth 100000

theorem keyed_put : Maps.Keyed Tryz.prog 139 := Maps.Keyed.of_law (deep_law_laid (by kernel_rfl) (m := 3) (by omega) (of_decide_eq_true (by kernel_rfl)) (by kernel_rfl) (by kernel_rfl))
/-- A store that may be a key. -/
structure PtOk (p : Pt) : Prop where
  i : (Lit.int .i64 p.i).wf = true
  n : (Lit.int .u64 p.c.n).wf = true
  k : p.c.k.size ≤ maxLen
  m : (Lit.int .u64 p.c.m).wf = true
def ptV (p : Pt) : Value := .agg #[.int .i64 p.i, .int .u64 p.c.n, .string p.c.k, .int .u64 p.c.m]
theorem ptV_inj {p q : Pt} (h : ptV p = ptV q) : p = q := by
  obtain ⟨i, n, k, m⟩ := p
  obtain ⟨i', n', k', m'⟩ := q
  simp [ptV] at h
  obtain ⟨rfl, rfl, rfl, rfl⟩ := h
  rfl
theorem put_key {p : Pt} (h : PtOk p) : ∃ kl, keyOf Tryz.prog 139 (ptV p) = some kl := by
  have e0 : Tryz.prog.keyType 139 = true := by kernel_rfl
  have e1 : (ptV p).formed Tryz.prog 139 = true := by
    unfold ptV Value.formed
    rw [Tryz.underlying139]
    simp only
    kernel_rfl
  have hsz : 139 < Tryz.prog.types.size := of_decide_eq_true (by kernel_rfl)
  obtain ⟨d, hd⟩ : ∃ d, Tryz.prog.types.size = d + 2 := ⟨Tryz.prog.types.size - 2, by omega⟩
  have c0 : Tryz.prog.cellsOf 139 = 4 := by kernel_rfl
  have c1 : Tryz.prog.cellsOf 3 = 1 := by kernel_rfl
  have c2 : Tryz.prog.cellsOf 63 = 3 := by kernel_rfl
  have c3 : Tryz.prog.cellsOf 23 = 1 := by kernel_rfl
  have c4 : Tryz.prog.cellsOf 9 = 1 := by kernel_rfl
  have h0 := h.i
  have h1 := h.n
  have h2 := h.k
  have h3 := h.m
  unfold keyOf
  rw [Tryz.underlying139]
  simp only [e0, e1, Bool.and_self, if_true, hd]
  simp [Program.keyLits, ptV, Value.cells, Tryz.underlying139, Tryz.underlying3, Tryz.underlying63, Tryz.underlying23, Tryz.underlying9, c0, c1, c2, c3, c4, h0, h1, h2, h3]
  rw [if_pos (fun i hi => by rcases (show i = 0 ∨ i = 1 ∨ i = 2 by omega) with rfl | rfl | rfl <;> simp)]
  exact ⟨_, rfl⟩

abbrev UH := Unit
/-- A map of stores that holds 'true' at the ones of S and nothing else. -/
def PtsIn (w : World) (b : Nat) (S : List Pt) : Prop :=
  ∃ (n : Nat) (D : DataW UH), n ≤ S.length ∧ w.ownsMap Tryz.prog 139 (plainElem Tryz.prog 4) b n D ∧
    ∀ p kl, PtOk p → keyOf Tryz.prog 139 (ptV p) = some kl → (p ∈ S → D.atKey kl (.lit (.bool false)) = .lit (.bool true)) ∧ (p ∉ S → D.atKey kl (.lit (.bool false)) = .lit (.bool false))
theorem ownsMap_heap {w w' : World} {b n : Nat} {D : DataW UH} (h : w.ownsMap Tryz.prog 139 (plainElem Tryz.prog 4) b n D) (hb : w'.heap[b]? = w.heap[b]?) : w'.ownsMap Tryz.prog 139 (plainElem Tryz.prog 4) b n D := by
  obtain ⟨es, clock, h1, F, hs, hD⟩ := h
  exact ⟨es, clock, by rw [hb]; exact h1, F, hs, hD⟩
def ptMap (b : Nat) (S : List Pt) : Comp where
  foot := [b]
  ok := fun w => PtsIn w b S
  loc := fun w w' h ⟨n, D, hn, ho, hk⟩ => ⟨n, D, hn, ownsMap_heap ho (h b (by simp)), hk⟩
  dom := fun w ⟨n, D, hn, ho, hk⟩ b' hb => by simp at hb; subst hb; exact ho.lt

section
variable {K : Know} {w : World} {F : List Comp} {b : Nat} {S : List Pt} {p : Pt}
theorem St.ptMap_made (h : St K w F) : St K (w.alloc (.map #[] 0)) (ptMap w.heap.size [] :: F) := by
  refine St.chg (ms := []) (ms' := [ptMap w.heap.size []]) (F := F) h ((Chg.refl _ _).alloc _) (fun c hc => ?_) (fun b hb => ?_) (by simp [feet, ptMap])
  · simp at hc; subst hc
    exact ⟨0, .map [], Nat.le_refl _, World.ownsMap_made w _ _ _, fun p kl _ _ => ⟨fun h => by simp at h, fun _ => rfl⟩⟩
  · simp [feet, ptMap] at hb; subst hb; exact .inr (Nat.le_refl _)

theorem bool_of_elem {v : Value} {x : Bool} {ps : List MemPlace} (h : plainElem (H := UH) Tryz.prog 4 v = some (.lit (.bool x), ps)) : v = .bool x := by
  cases v with
  | bool y =>
    simp [plainElem, Tryz.underlying4] at h
    rw [h.1]
  | _ => simp [plainElem, Tryz.underlying4] at h

/-- 'm[k]'. -/
theorem St.ptMap_look (h : St K w (ptMap b S :: F)) (hp : PtOk p) : ∃ x : Bool, (Instr.lookup 146 (.map (some b)) (ptV p) false).run Tryz.prog w = .ok (.bool x) w ∧ (x = true ↔ p ∈ S) := by
  obtain ⟨n, D, hn, ho, hk⟩ := h.head
  obtain ⟨kl, hkl⟩ := put_key hp
  obtain ⟨v, ps, hrun, hv⟩ := ho.lookup keyed_put Tryz.underlying146 (z := .bool false) (by simp [go_sem]) (plainElem_bool Tryz.underlying4 false) hkl
  obtain ⟨h1, h2⟩ := hk p kl hp hkl
  by_cases hin : p ∈ S
  · rw [h1 hin] at hv
    rw [bool_of_elem hv] at hrun
    exact ⟨true, hrun, by simp [hin]⟩
  · rw [h2 hin] at hv
    rw [bool_of_elem hv] at hrun
    exact ⟨false, hrun, by simp [hin]⟩

/-- 'm[k] = true'. -/
theorem St.ptMap_put (h : St K w (ptMap b S :: F)) (hp : PtOk p) (hS : S.length < 1000000) : ∃ w', (Instr.mapUpdate 146 (.map (some b)) (ptV p) (.bool true)).run Tryz.prog w = .ok () w' ∧ St K w' (ptMap b (p :: S) :: F) := by
  obtain ⟨n, D, hn, ho, hk⟩ := h.head
  obtain ⟨kl, hkl⟩ := put_key hp
  obtain ⟨w', hrun, ho', hg⟩ := ho.update keyed_put Tryz.underlying146 (by unfold maxLen; omega) hkl (plainElem_bool Tryz.underlying4 true)
  refine ⟨w', hrun, h.chg1 (c' := ptMap b (p :: S)) ⟨hg.os, hg.tape, hg.output, hg.size, fun k hk hn => hg.block k hk (fun e => hn ?_)⟩ ⟨n + 1, _, by simp; omega, ho', fun q kq hq hkq => ?_⟩ rfl⟩
  · simp [ptMap]; exact Option.some.inj e
  · by_cases hkk : kq = kl
    · subst hkk
      have e : ptV q = ptV p := keyed_put.inj hkq hkl
      have e2 := ptV_inj e
      subst e2
      refine ⟨fun _ => atKey_put_same ho.isMap (keyed_put.key hkl) _ _, fun hn => absurd (List.mem_cons_self) hn⟩
    · have hne : q ≠ p := fun e => by
        subst e
        rw [hkl] at hkq
        exact hkk (Option.some.inj hkq).symm
      rw [atKey_put_other hkk]
      obtain ⟨h1, h2⟩ := hk q kq hq hkq
      exact ⟨fun hin => h1 (by simpa [hne] using hin), fun hin => h2 (by simpa [hne] using hin)⟩

theorem wpList_ptPut {ops : Array Oper} {rest : List Oper} {o : Oper} {a : Act} {Q : Exit → Act → World → Prop} (hs : St K w (ptMap b S :: F)) (hp : PtOk p) (hS : S.length < 1000000)
    (hg : o.guard = none) (m x v : Operand) (hop : o.op = Op.mapUpdate 146 m x v) (hm : a.eval m = .map (some b)) (hx : a.eval x = ptV p) (hv : a.eval v = .bool true)
    (hK : ∀ w', St K w' (ptMap b (p :: S) :: F) → wpList Tryz.prog ops Q rest (a.put o.dst undef) w') : wpList Tryz.prog ops Q (o :: rest) a w := by
  refine wpList_plain hg fun K' hK' => ?_
  obtain ⟨w', hrun, r1⟩ := hs.ptMap_put hp hS
  unfold Oper.wp
  simp [execOp, hop, hm, hx, hv, hrun, Result.andThen]
  exact hK' _ _ (hK w' r1)
end
end Go.Proofs.YtlpdhhhgckpcfaaGreat

namespace Go.Proofs.YtlpdhhhgckpcfaaGreat
open Go.RowKit
set_option maxRecDepth 100000

def wrStore (b : Nat) : Option FV := some ⟨130, #[.pointer (some ⟨b, 0, none⟩)], #[]⟩
def wrCells (nx pv : Value) (id word : Int) (pg : Pg) (va : Value) : List Value := [nx, .bool true, pv, .int .u64 id, .int .u64 word, .int .i64 (pg).lev, va, .string (pg).hi, .bool (pg).la, .int .u64 (pg).ri]

section
variable {K : Know} {w : World} {F : List Comp} {pg : Pg} {id word : Int}
theorem newWriter_st {ap ag : Option Addr} {np cp ns cs : Nat} (hs : St K w F) :
    Calls Tryz.prog 90 #[.slice ap np cp, .agg #[.int .u64 id, .int .u64 word, .int .i64 (pg).lev, (.slice ag ns cs), .string (pg).hi, .bool (pg).la, .int .u64 (pg).ri]] w fun e w' => ∃ b, e = .returned (.pointer (some ⟨b, 0, none⟩)) ∧
      St K w' (blk b (.cells (wrCells (stV (wrStore b)) (.slice ap np cp) id word pg (.slice ag ns cs)).toArray 149) :: F) := by
  have hs := hs.pass (.cells #[.int .u64 id, .int .u64 word, .int .i64 (pg).lev, (.slice ag ns cs), .string (pg).hi, .bool (pg).la, .int .u64 (pg).ri] 45)
  have hs := hs.made (.cells #[.nilFunc, .bool false, .slice ap np cp, .int .u64 id, .int .u64 word, .int .i64 (pg).lev, (.slice ag ns cs), .string (pg).hi, .bool (pg).la, .int .u64 (pg).ri] 149)
  rw [World.size_alloc] at hs
  go_enter Tryz.func90, Tryz.ntmps90
  go_wp2_with fail
  refine (calls_same hs (begin_any _ _ _ _)).mono ?_
  clear hs
  rintro e w2 ⟨rfl, hs⟩
  have k := hs.k0
  have kf := hs.f0
  have hs := (hs.setL 0 (.func (.func 130) #[.pointer (some ⟨(w.heap.size + 1), 0, none⟩)] #[])).setL 1 (.bool true)
  simp only [List.set_cons_zero, List.set_cons_succ] at hs
  go_wp2
  go_ret
  exact ⟨_, rfl, hs⟩

/-- A store: the first of those that are left. -/
theorem store_any_st {b bm bc g off m c acc : Nat} {L : List Cel} {nx va : Value} {p : Pt} (hm : 1 ≤ m) (hmc : m ≤ c) (ha : acc ≤ 1000000000000)
    (hc0 : w.cell? ⟨g, off, none⟩ = some (.int .i64 p.i)) (hc1 : w.cell? ⟨g, off + 1, none⟩ = some (.int .u64 p.c.n)) (hc4 : w.cell? ⟨g, off + 2, none⟩ = some (.string p.c.k)) (hc3 : w.cell? ⟨g, off + 3, none⟩ = some (.int .u64 p.c.m))
    (hs : St K w (blk b (.cells (wrCells nx (.slice (some ⟨g, off, none⟩) m c) id word pg va).toArray 149) :: memC bm bc L acc :: F)) :
    Calls Tryz.prog 130 #[.pointer (some ⟨b, 0, none⟩), .pointer (some ⟨bm, 0, none⟩)] w fun e w' => e = .returned (stV (if m = 1 then none else wrStore b)) ∧
      St K w' (blk b (.cells (wrCells nx (.slice (some ⟨g, if c = 1 then off else off + 4, none⟩) (m - 1) (c - 1)) id word pg va).toArray 149) :: memC bm bc (putC L p.i p.c) (acc + 1) :: F) := by
  rcases (show (c = 1 ∧ m = 1) ∨ (c ≠ 1 ∧ m = 1) ∨ (c ≠ 1 ∧ m ≠ 1) by omega) with ⟨rfl, rfl⟩ | ⟨hx, rfl⟩ | ⟨hx, hy⟩
  · simp only [if_true]
    have k := hs.k0
    have kf := hs.f0
    have hs := hs.made (.cells #[.int .i64 p.i, .int .u64 p.c.n, .string p.c.k, .int .u64 p.c.m] 139)
    unfold wrCells at k
    go_enter Tryz.func130, Tryz.ntmps130
    go_upto_region 2 with (fail)
    refine wp_ck hs ?_
    clear hs k kf hc0 hc1 hc4 hc3
    generalize w.heap.size = bn
    intro W hs
    have k := hs.k1
    have kf := hs.f1
    unfold wrCells at k
    have hs := hs.b1.setL 2 (.slice (some ⟨g, off, none⟩) 0 0)
    simp only [wrCells, List.set_cons_zero, List.set_cons_succ] at hs
    go_upto_region 3 with (fail)
    refine wp_ck hs ?_
    clear hs k kf
    intro W2 hs
    have kn := hs.k1
    go_wp2_with fail
    refine (store_st (i := p.i) (c := p.c) hs.b2 (by omega)).mono ?_
    clear hs kn
    rintro e w3 ⟨rfl, hs⟩
    have k := hs.k1
    have hs := hs.b1.b2.tail
    go_wp2
    go_ret
    exact ⟨rfl, hs⟩
  · have hc2 : 1 ≤ c := by omega
    simp only [if_true]
    rw [if_neg hx]
    have k := hs.k0
    have kf := hs.f0
    have hs := hs.made (.cells #[.int .i64 p.i, .int .u64 p.c.n, .string p.c.k, .int .u64 p.c.m] 139)
    unfold wrCells at k
    go_enter Tryz.func130, Tryz.ntmps130
    go_upto_region 2 with (fail)
    refine wp_ck hs ?_
    clear hs k kf hc0 hc1 hc4 hc3
    generalize w.heap.size = bn
    intro W hs
    have k := hs.k1
    have kf := hs.f1
    unfold wrCells at k
    have hs := hs.b1.setL 2 (.slice (some ⟨g, off + 4, none⟩) 0 (c - 1))
    simp only [wrCells, List.set_cons_zero, List.set_cons_succ] at hs
    go_upto_region 3 with (fail)
    refine wp_ck hs ?_
    clear hs k kf
    intro W2 hs
    have kn := hs.k1
    go_wp2_with fail
    refine (store_st (i := p.i) (c := p.c) hs.b2 (by omega)).mono ?_
    clear hs kn
    rintro e w3 ⟨rfl, hs⟩
    have k := hs.k1
    have hs := hs.b1.b2.tail
    go_wp2
    go_ret
    exact ⟨rfl, hs⟩
  · have hc2 : 1 ≤ c := by omega
    rw [if_neg hx, if_neg hy]
    have k := hs.k0
    have kf := hs.f0
    have hs := hs.made (.cells #[.int .i64 p.i, .int .u64 p.c.n, .string p.c.k, .int .u64 p.c.m] 139)
    unfold wrCells at k
    go_enter Tryz.func130, Tryz.ntmps130
    go_upto_region 2 with (fail)
    refine wp_ck hs ?_
    clear hs k kf hc0 hc1 hc4 hc3
    generalize w.heap.size = bn
    intro W hs
    have k := hs.k1
    have kf := hs.f1
    unfold wrCells at k
    have hs := hs.b1.setL 2 (.slice (some ⟨g, off + 4, none⟩) (m - 1) (c - 1))
    simp only [wrCells, List.set_cons_zero, List.set_cons_succ] at hs
    go_upto_region 3 with (fail)
    refine wp_ck hs ?_
    clear hs k kf
    intro W2 hs
    have kn := hs.k1
    go_wp2_with fail
    refine (store_st (i := p.i) (c := p.c) hs.b2 (by omega)).mono ?_
    clear hs kn
    rintro e w3 ⟨rfl, hs⟩
    have k := hs.k1
    have hs := hs.b1.b2.tail
    go_wp2
    go_ret
    exact ⟨rfl, hs⟩
end

theorem enters_store : Enters 130 := fun _ _ => rfl
/-- The writer's block when k stores have been made. -/
def wrC (b : Nat) (id word : Int) (pg : Pg) (va : Value) (g cap : Nat) (ps : List Pt) (k : Nat) : Comp where
  foot := [b]
  ok := fun w => ∃ pv, (k < ps.length → pv = .slice (some ⟨g, k * 4, none⟩) (ps.length - k) (cap - k)) ∧ w.heap[b]? = some (.cells (wrCells (stV (if k < ps.length then wrStore b else none)) pv id word pg va).toArray 149)
  loc := by
    rintro w w' h ⟨pv, h1, h2⟩
    exact ⟨pv, h1, by rw [h b (by simp)]; exact h2⟩
  dom := by
    rintro w ⟨pv, h1, h2⟩ b' hb
    simp at hb; subst hb; exact blk_lt h2

section
variable {K : Know} {w : World} {F : List Comp} {pg : Pg} {id word : Int} {b g cap k bm bc acc : Nat} {va : Value} {ps : List Pt} {L : List Cel}
theorem St.wr_open (h : St K w (wrC b id word pg va g cap ps k :: F)) : ∃ pv, (k < ps.length → pv = .slice (some ⟨g, k * 4, none⟩) (ps.length - k) (cap - k)) ∧ St K w (blk b (.cells (wrCells (stV (if k < ps.length then wrStore b else none)) pv id word pg va).toArray 149) :: F) := by
  obtain ⟨pv, h1, h2⟩ := h.head
  exact ⟨pv, h1, h.chg1 (c' := blk b (.cells (wrCells (stV (if k < ps.length then wrStore b else none)) pv id word pg va).toArray 149)) (Chg.refl _ _) h2 rfl⟩
theorem St.wr_close {pv : Value} (h : St K w (blk b (.cells (wrCells (stV (if k < ps.length then wrStore b else none)) pv id word pg va).toArray 149) :: F)) (hp : k < ps.length → pv = .slice (some ⟨g, k * 4, none⟩) (ps.length - k) (cap - k)) : St K w (wrC b id word pg va g cap ps k :: F) :=
  h.chg1 (c' := wrC b id word pg va g cap ps k) (Chg.refl _ _) ⟨pv, hp, h.head⟩ rfl

/-- A step of the writer. -/
theorem wrRun_st {p : Pt} (hk : ps[k]? = some p) (ha : acc ≤ 1000000000000)
    (hs : St K w (wrC b id word pg va g cap ps k :: memC bm bc L acc :: rowC (.slice (some ⟨g, 0, none⟩) ps.length cap) 139 4 ps.length (ptRow ps) :: F)) :
    Calls Tryz.prog 77 #[.pointer (some ⟨b, 0, none⟩), .pointer (some ⟨bm, 0, none⟩)] w fun e w' => e = .returned (.bool (decide (k + 1 = ps.length))) ∧
      St K w' (wrC b id word pg va g cap ps (k + 1) :: memC bm bc (putC L p.i p.c) (acc + 1) :: rowC (.slice (some ⟨g, 0, none⟩) ps.length cap) 139 4 ps.length (ptRow ps) :: F) := by
  have hlt : k < ps.length := (List.getElem?_eq_some_iff.1 hk).1
  obtain ⟨pv, hpv, hs⟩ := hs.wr_open
  rw [if_pos hlt] at hs
  have hpv := hpv hlt
  subst hpv
  obtain ⟨_, cap', hv, hle, _⟩ := hs.b2.row_read
  have hcap : ps.length ≤ cap := by
    have e : cap = cap' := by injection hv
    omega
  obtain ⟨r0, r1, r2, r3⟩ := ptRow_at ps k p hk
  have q := store_any_st (off := k * 4) (m := ps.length - k) (c := cap - k) (p := p) (by omega) (by omega) ha (hs.b2.row_cell r0) (hs.b2.row_cell r1) (hs.b2.row_cell r2) (hs.b2.row_cell r3) hs
  have hc : w.cell? ⟨b, 0, none⟩ = some (stV (wrStore b)) := hs.k0 0
  refine (runStep_some (α := Unit) (m := bm) (f := ⟨130, #[.pointer (some ⟨b, 0, none⟩)], #[]⟩) (o := if ps.length - k = 1 then none else wrStore b) (nx := stV (wrStore b))
    (tl := fun _ => (wrCells (stV (wrStore b)) (.slice (some ⟨g, if cap - k = 1 then k * 4 else k * 4 + 4, none⟩) (ps.length - k - 1) (cap - k - 1)) id word pg va).tail) (T := 149)
    (F' := fun _ => memC bm bc (putC L p.i p.c) (acc + 1) :: rowC (.slice (some ⟨g, 0, none⟩) ps.length cap) 139 4 ps.length (ptRow ps) :: F) enters_store hc (q.mono fun e w1 ⟨he, h⟩ => ⟨(), he, h⟩)).mono ?_
  rintro e w' ⟨_, rfl, hs⟩
  refine ⟨?_, ?_⟩
  · by_cases h1 : ps.length - k = 1
    · rw [if_pos h1, decide_eq_true (by omega)]; rfl
    · rw [if_neg h1, decide_eq_false (by omega)]; rfl
  · have e : (if ps.length - k = 1 then none else wrStore b) = (if k + 1 < ps.length then wrStore b else none) := by
      by_cases h1 : ps.length - k = 1
      · rw [if_pos h1, if_neg (by omega)]
      · rw [if_neg h1, if_pos (by omega)]
    rw [e] at hs
    exact hs.wr_close (fun h => by rw [if_neg (by omega), show (k + 1) * 4 = k * 4 + 4 by omega, show ps.length - (k + 1) = ps.length - k - 1 by omega, show cap - (k + 1) = cap - k - 1 by omega])

theorem writeStep_st {p : Pt} {bw : Nat} (hk : ps[k]? = some p) (ha : acc ≤ 1000000000000)
    (hs : St K w (wrC b id word pg va g cap ps k :: memC bm bc L acc :: rowC (.slice (some ⟨g, 0, none⟩) ps.length cap) 139 4 ps.length (ptRow ps) :: blk bw (.cells #[.pointer (some ⟨b, 0, none⟩)] 147) :: F)) :
    Calls Tryz.prog 41 #[.pointer (some ⟨bw, 0, none⟩), .pointer (some ⟨bm, 0, none⟩)] w fun e w' => e = .returned (.bool (decide (k + 1 = ps.length))) ∧
      St K w' (wrC b id word pg va g cap ps (k + 1) :: memC bm bc (putC L p.i p.c) (acc + 1) :: rowC (.slice (some ⟨g, 0, none⟩) ps.length cap) 139 4 ps.length (ptRow ps) :: blk bw (.cells #[.pointer (some ⟨b, 0, none⟩)] 147) :: F) := by
  have Q := Lib.hid (wrRun_st hk ha hs)
  have kw := hs.b3.k0
  clear hs
  go_enter Tryz.func41, Tryz.ntmps41
  go_wp2_with fail
  refine (Q.out).mono ?_
  rintro e w1 ⟨rfl, hs⟩
  go_wp2
  go_ret
  exact ⟨rfl, hs⟩
end
end Go.Proofs.YtlpdhhhgckpcfaaGreat

namespace Go.Proofs.YtlpdhhhgckpcfaaGreat
open Go.RowKit
set_option maxRecDepth 100000

attribute [go_sem] run_makeMap
theorem wf_of_u64 {n : Int} (h0 : 0 ≤ n) (h1 : n < 18446744073709551616) : (Lit.int .u64 n).wf = true := by
  simp [Lit.wf, IntKind.min, IntKind.max, IntKind.signed, IntKind.bits]; omega
theorem wf_of_i64 {n : Int} (h0 : -9223372036854775808 ≤ n) (h1 : n ≤ 9223372036854775807) : (Lit.int .i64 n).wf = true := by
  simp [Lit.wf, IntKind.min, IntKind.max, IntKind.signed, IntKind.bits]; omega

section
variable {d : Cfg} (hd : d.Ok) {id : Int}
include hd
theorem node_wf {k : Int} (h1 : 1 ≤ id) (h2 : id ≤ d.no) (hk : 0 ≤ k) (hk2 : k < d.fa + 4) : (Lit.int .i64 (d.node id k)).wf = true := by
  have h := node_in hd h1 h2 hk hk2
  have := hd.cells_bd
  exact wf_of_i64 (by omega) (by omega)
theorem slPts_ok (h1 : 1 ≤ id) (h2 : id ≤ d.no) : ∀ (l : List Sl) (i : Nat), (i + l.length : Int) ≤ d.fa → (∀ s, s ∈ l → (0 ≤ s.r ∧ s.r < 18446744073709551616) ∧ s.k.size ≤ maxLen) → ∀ p, p ∈ slPts d id i l → PtOk p
  | [], _, _, _, p, hp => by simp [slPts] at hp
  | s :: l, i, hle, hr, p, hp => by
    simp only [List.length_cons] at hle
    rcases List.mem_cons.1 hp with h | h
    · subst h
      obtain ⟨r1, r2⟩ := hr s (by simp)
      have es : d.slot id i = d.node id (4 + (i : Int)) := by
        unfold Cfg.slot
        rw [if_pos ⟨by omega, by omega⟩]
      refine ⟨?_, wf_of_u64 r1.1 r1.2, r2, (wf_of_u64 (n := 0) (by decide) (by decide) : _)⟩
      show (Lit.int .i64 (d.slot id i)).wf = true
      rw [es]
      exact node_wf hd h1 h2 (by omega) (by omega)
    · exact slPts_ok h1 h2 l (i + 1) (by omega) (fun s' hs' => hr s' (by simp [hs'])) p h
theorem pgPts_ok (h1 : 1 ≤ id) (h2 : id ≤ d.no) {pg : Pg} (po : PgOk d pg) (hlev : 0 ≤ pg.lev ∧ pg.lev < 1000000) : ∀ p, p ∈ pgPts d id pg → PtOk p := by
  intro p hp
  have f1 := hd.fa1
  have f2 := hd.fa2
  have hle := po.le
  have z : (Lit.int .u64 0).wf = true := wf_of_u64 (by decide) (by decide)
  have e0 : (⟨#[]⟩ : ByteArray).size ≤ maxLen := by show 0 ≤ maxLen; omega
  rcases List.mem_append.1 hp with h | h
  · exact slPts_ok hd h1 h2 pg.sl 0 (by omega) (fun s hs => ⟨po.r s hs, po.k s hs⟩) p h
  · simp only [List.mem_cons, List.not_mem_nil, or_false] at h
    rcases h with h | h | h
    · subst h
      refine ⟨node_wf hd h1 h2 (by omega) (by omega), ?_, ?_, ?_⟩ <;> (simp only [hiCel]; cases pg.la)
      · exact z
      · exact z
      · exact po.hi
      · exact e0
      · exact z
      · exact (wf_of_u64 (n := 1) (by decide) (by decide) : _)
    · subst h
      exact ⟨node_wf hd h1 h2 (by omega) (by omega), wf_of_u64 po.ri.1 po.ri.2, e0, z⟩
    · subst h
      exact ⟨node_wf hd h1 h2 (by omega) (by omega), wf_of_u64 (by show (0 : Int) ≤ pg.sl.length; omega) (by show (pg.sl.length : Int) < _; omega), e0, wf_of_u64 hlev.1 (by show pg.lev < _; omega)⟩
end

/-- What a writer's list is made of: the first store, those of y that are none of x's, in their order. -/
def Newer (px py : List Pt) (mid : List Pt) : Prop := mid.Sublist py ∧ ∀ p, p ∈ py → p ∉ px → p ∈ mid
theorem Newer.nil (px : List Pt) : Newer px [] [] := ⟨List.Sublist.refl _, fun p h => by simp at h⟩
theorem Newer.skip {px py mid : List Pt} {p : Pt} (h : Newer px py mid) (hp : p ∈ px) : Newer px (py ++ [p]) mid :=
  ⟨h.1.trans (List.sublist_append_left _ _), fun q hq hn => by
    rcases List.mem_append.1 hq with h1 | h1
    · exact h.2 q h1 hn
    · simp at h1; subst h1; exact absurd hp hn⟩
theorem Newer.take {px py mid : List Pt} {p : Pt} (h : Newer px py mid) : Newer px (py ++ [p]) (mid ++ [p]) :=
  ⟨List.Sublist.append h.1 (List.Sublist.refl _), fun q hq hn => by
    rcases List.mem_append.1 hq with h1 | h1
    · exact List.mem_append_left _ (h.2 q h1 hn)
    · exact List.mem_append_right _ h1⟩

def rowP (o : Option Value) (c0 c1 : Comp) : Comp := match o with
  | some _ => c1
  | none => c0
/-- What is known while NewWrite's last statement runs. -/
def NwR (K : Know) (REST : List Comp) (id word2 : Int) (y : Pg) (a11 : Option Addr) (c11 n : Nat) (xs lit : List Value) (ρ : Nat → Option Value) (W : World) : Prop :=
  ∃ (b5 : Nat) (a6 : Option Addr) (c6 : Nat) (aV : Option Addr) (cV b13 bw : Nat),
    (∀ v, ρ 5 = some v → v = .slice (some ⟨b5, 0, none⟩) 1 1) ∧ (∀ v, ρ 6 = some v → v = .slice a6 (n + 1) c6) ∧ (∀ v, ρ 11 = some v → v = .agg #[.int .i64 (y).lev, (.slice aV y.sl.length cV), .string (y).hi, .bool (y).la, .int .u64 (y).ri]) ∧
    (∀ v, ρ 12 = some v → v = .agg #[.int .u64 id, .int .u64 word2, .int .i64 (y).lev, (.slice aV y.sl.length cV), .string (y).hi, .bool (y).la, .int .u64 (y).ri]) ∧ (∀ v, ρ 13 = some v → v = .pointer (some ⟨b13, 0, none⟩)) ∧ (∀ v, ρ 14 = some v → v = .agg #[.pointer (some ⟨b13, 0, none⟩)]) ∧ (∀ v, ρ 15 = some v → v = .pointer (some ⟨bw, 0, none⟩)) ∧ (∀ v, ρ 16 = some v → v = .pointer (some ⟨bw, 0, none⟩)) ∧
    St K W (optC (ρ 5) (blk b5 (.cells lit.toArray 139)) :: rowP (ρ 6) (rowC (.slice a11 n c11) 139 4 n xs) (rowC (.slice a6 (n + 1) c6) 139 4 (n + 1) (xs ++ lit)) :: optC (ρ 11) (slC (.slice aV y.sl.length cV) y) ::
      optC (ρ 13) (blk b13 (.cells (wrCells (stV (wrStore b13)) (.slice a6 (n + 1) c6) id word2 y (.slice aV y.sl.length cV)).toArray 149)) :: optC (ρ 15) (blk bw (.cells #[.pointer (some ⟨b13, 0, none⟩)] 147)) :: REST)

section
variable {K : Know} {W : World} {REST : List Comp} {id word2 : Int} {y : Pg} {a11 ay : Option Addr} {c11 n cy : Nat} {xs lit : List Value} {ρ : Nat → Option Value} {v v5 v6 v11 v12 v13 v14 v15 : Value}
theorem NwR.start (hs : St K W (rowC (.slice a11 n c11) 139 4 n xs :: REST)) : NwR K REST id word2 y a11 c11 n xs lit (fun _ => none) W := by
  refine ⟨0, none, 0, none, 0, 0, 0, ?_, ?_, ?_, ?_, ?_, ?_, ?_, ?_, ?_⟩
  iterate 8 (intro v h; cases h)
  exact hs.empty.b1.empty.b1.empty.b1.empty
theorem NwR.same {W' : World} (h : NwR K REST id word2 y a11 c11 n xs lit ρ W) (hb : Below W.heap.size W W') : NwR K REST id word2 y a11 c11 n xs lit ρ W' := by
  obtain ⟨b5, a6, c6, aV, cV, b13, bw, e1, e2, e3, e4, e5, e6, e7, e8, hs⟩ := h
  exact ⟨b5, a6, c6, aV, cV, b13, bw, e1, e2, e3, e4, e5, e6, e7, e8, hs.same hb⟩
theorem NwR.rest (h : NwR K REST id word2 y a11 c11 n xs lit ρ W) : St K W REST := by
  obtain ⟨b5, a6, c6, aV, cV, b13, bw, e1, e2, e3, e4, e5, e6, e7, e8, hs⟩ := h
  exact hs.tail.tail.tail.tail.tail
theorem NwR.e5 (h : NwR K REST id word2 y a11 c11 n xs lit ρ W) (h5 : ρ 5 = none) : NwR K REST id word2 y a11 c11 n xs lit (upd ρ 5 (.slice (some ⟨W.heap.size, 0, none⟩) 1 1)) (W.alloc (.cells lit.toArray 139)) := by
  obtain ⟨b5, a6, c6, aV, cV, b13, bw, e1, e2, e3, e4, e5, e6, e7, e8, hs⟩ := h
  rw [h5] at hs
  exact ⟨W.heap.size, a6, c6, aV, cV, b13, bw, fun v hv => (Option.some.inj hv).symm, e2, e3, e4, e5, e6, e7, e8, hs.tail.made _⟩
theorem NwR.e6 (h : NwR K REST id word2 y a11 c11 n xs lit ρ W) (h5 : ρ 5 = some v5) (h6 : ρ 6 = none) (h13 : ρ 13 = none) : ∃ (b5 : Nat) (R' : List Comp), v5 = .slice (some ⟨b5, 0, none⟩) 1 1 ∧ St K W (rowC (.slice a11 n c11) 139 4 n xs :: blk b5 (.cells lit.toArray 139) :: R') ∧
    ∀ v' W', St K W' (rowC v' 139 4 (n + 1) (xs ++ lit) :: blk b5 (.cells lit.toArray 139) :: R') → NwR K REST id word2 y a11 c11 n xs lit (upd ρ 6 v') W' := by
  obtain ⟨b5, a6, c6, aV, cV, b13, bw, e1, e2, e3, e4, e5, e6, e7, e8, hs⟩ := h
  rw [h5, h6, h13] at hs
  refine ⟨b5, _, e1 v5 h5, hs.b1, fun v' W' hs' => ?_⟩
  obtain ⟨a', c', rfl, _, _⟩ := hs'.row_read
  refine ⟨b5, a', c', aV, cV, b13, bw, e1, fun v hv => (Option.some.inj hv).symm, e3, e4, e5, e6, e7, e8, ?_⟩
  show St K W' (optC (ρ 5) _ :: rowC _ _ _ _ _ :: optC (ρ 11) _ :: optC (ρ 13) _ :: optC (ρ 15) _ :: REST)
  rw [h5, h13]
  exact hs'.b1
theorem NwR.e11 (h : NwR K (rowC (.slice ay y.sl.length cy) 69 2 y.sl.length (slRow y.sl) :: REST) id word2 y a11 c11 n xs lit ρ W) (h11 : ρ 11 = none) (h12 : ρ 12 = none) (h13 : ρ 13 = none) : ∃ (R' : List Comp), St K W (rowC (.slice ay y.sl.length cy) 69 2 y.sl.length (slRow y.sl) :: R') ∧
    ∀ va W', St K W' (rowC va 69 2 y.sl.length (slRow y.sl) :: rowC (.slice ay y.sl.length cy) 69 2 y.sl.length (slRow y.sl) :: R') → NwR K (rowC (.slice ay y.sl.length cy) 69 2 y.sl.length (slRow y.sl) :: REST) id word2 y a11 c11 n xs lit (upd ρ 11 (.agg #[.int .i64 (y).lev, va, .string (y).hi, .bool (y).la, .int .u64 (y).ri])) W' := by
  obtain ⟨b5, a6, c6, aV, cV, b13, bw, e1, e2, e3, e4, e5, e6, e7, e8, hs⟩ := h
  rw [h11, h13] at hs
  refine ⟨_, hs.b5, fun va W' hs' => ?_⟩
  obtain ⟨a', c', rfl, _, _⟩ := hs'.row_read
  refine ⟨b5, a6, c6, a', c', b13, bw, e1, e2, fun v hv => (Option.some.inj hv).symm, fun v hv => ?_, e5, e6, e7, e8, ?_⟩
  · have : ρ 12 = some v := hv
    rw [h12] at this; cases this
  · show St K W' (optC (ρ 5) _ :: rowP (ρ 6) _ _ :: slC _ _ :: optC (ρ 13) _ :: optC (ρ 15) _ :: _)
    rw [h13]
    exact hs'.b4.tail.b1.u5.u2
theorem NwR.e12 (h : NwR K REST id word2 y a11 c11 n xs lit ρ W) (h11 : ρ 11 = some v11) : ∃ (aV : Option Addr) (cV : Nat), v11 = .agg #[.int .i64 (y).lev, (.slice aV y.sl.length cV), .string (y).hi, .bool (y).la, .int .u64 (y).ri] ∧
    NwR K REST id word2 y a11 c11 n xs lit (upd ρ 12 (.agg #[.int .u64 id, .int .u64 word2, .int .i64 (y).lev, (.slice aV y.sl.length cV), .string (y).hi, .bool (y).la, .int .u64 (y).ri])) W := by
  obtain ⟨b5, a6, c6, aV, cV, b13, bw, e1, e2, e3, e4, e5, e6, e7, e8, hs⟩ := h
  exact ⟨aV, cV, e3 v11 h11, b5, a6, c6, aV, cV, b13, bw, e1, e2, e3, fun v hv => (Option.some.inj hv).symm, e5, e6, e7, e8, hs⟩
theorem NwR.e13 (h : NwR K REST id word2 y a11 c11 n xs lit ρ W) (h6 : ρ 6 = some v6) (h12 : ρ 12 = some v12) (h13 : ρ 13 = none) (h14 : ρ 14 = none) (h15 : ρ 15 = none) : ∃ (a6 : Option Addr) (c6 : Nat) (aV : Option Addr) (cV : Nat) (R' : List Comp), v6 = .slice a6 (n + 1) c6 ∧
    v12 = .agg #[.int .u64 id, .int .u64 word2, .int .i64 (y).lev, (.slice aV y.sl.length cV), .string (y).hi, .bool (y).la, .int .u64 (y).ri] ∧ St K W R' ∧
    ∀ b W', St K W' (blk b (.cells (wrCells (stV (wrStore b)) (.slice a6 (n + 1) c6) id word2 y (.slice aV y.sl.length cV)).toArray 149) :: R') → NwR K REST id word2 y a11 c11 n xs lit (upd ρ 13 (.pointer (some ⟨b, 0, none⟩))) W' := by
  obtain ⟨b5, a6, c6, aV, cV, b13, bw, e1, e2, e3, e4, e5, e6, e7, e8, hs⟩ := h
  rw [h13, h15] at hs
  refine ⟨a6, c6, aV, cV, _, e2 v6 h6, e4 v12 h12, hs.b3.tail, fun b W' hs' => ?_⟩
  refine ⟨b5, a6, c6, aV, cV, b, bw, e1, e2, e3, e4, fun v hv => (Option.some.inj hv).symm, fun v hv => ?_, e7, e8, ?_⟩
  · have : ρ 14 = some v := hv
    rw [h14] at this; cases this
  · show St K W' (optC (ρ 5) _ :: rowP (ρ 6) _ _ :: optC (ρ 11) _ :: blk _ (.cells (wrCells _ _ _ _ _ _).toArray 149) :: optC (ρ 15) _ :: REST)
    rw [h15]
    exact hs'.u3
theorem NwR.e14 (h : NwR K REST id word2 y a11 c11 n xs lit ρ W) (h13 : ρ 13 = some v13) : ∃ b : Nat, v13 = .pointer (some ⟨b, 0, none⟩) ∧ NwR K REST id word2 y a11 c11 n xs lit (upd ρ 14 (.agg #[.pointer (some ⟨b, 0, none⟩)])) W := by
  obtain ⟨b5, a6, c6, aV, cV, b13, bw, e1, e2, e3, e4, e5, e6, e7, e8, hs⟩ := h
  exact ⟨b13, e5 v13 h13, b5, a6, c6, aV, cV, b13, bw, e1, e2, e3, e4, e5, fun v hv => (Option.some.inj hv).symm, e7, e8, hs⟩
theorem NwR.e15 (h : NwR K REST id word2 y a11 c11 n xs lit ρ W) (h14 : ρ 14 = some v14) (h15 : ρ 15 = none) (h16 : ρ 16 = none) : ∃ b : Nat, v14 = .agg #[.pointer (some ⟨b, 0, none⟩)] ∧ NwR K REST id word2 y a11 c11 n xs lit (upd ρ 15 (.pointer (some ⟨W.heap.size, 0, none⟩))) (W.alloc (.cells #[.pointer (some ⟨b, 0, none⟩)] 147)) := by
  obtain ⟨b5, a6, c6, aV, cV, b13, bw, e1, e2, e3, e4, e5, e6, e7, e8, hs⟩ := h
  rw [h15] at hs
  refine ⟨b13, e6 v14 h14, b5, a6, c6, aV, cV, b13, W.heap.size, e1, e2, e3, e4, e5, e6, fun v hv => (Option.some.inj hv).symm, fun v hv => ?_, ?_⟩
  · have : ρ 16 = some v := hv
    rw [h16] at this; cases this
  · exact (hs.b4.tail.made _).u4
theorem NwR.e16 (h : NwR K REST id word2 y a11 c11 n xs lit ρ W) (h15 : ρ 15 = some v15) : ∃ b : Nat, v15 = .pointer (some ⟨b, 0, none⟩) ∧ NwR K REST id word2 y a11 c11 n xs lit (upd ρ 16 (.pointer (some ⟨b, 0, none⟩))) W := by
  obtain ⟨b5, a6, c6, aV, cV, b13, bw, e1, e2, e3, e4, e5, e6, e7, e8, hs⟩ := h
  exact ⟨bw, e7 v15 h15, b5, a6, c6, aV, cV, b13, bw, e1, e2, e3, e4, e5, e6, e7, fun v hv => (Option.some.inj hv).symm, hs⟩
theorem NwR.last (h : NwR K REST id word2 y a11 c11 n xs lit ρ W) (hall : ∀ e, e ∈ [5, 6, 11, 12, 13, 14, 15, 16] → (ρ e).isSome = true) : ∃ (b5 : Nat) (a6 : Option Addr) (c6 : Nat) (aV : Option Addr) (cV b13 bw : Nat),
    ρ 5 = some (.slice (some ⟨b5, 0, none⟩) 1 1) ∧ ρ 6 = some (.slice a6 (n + 1) c6) ∧ ρ 11 = some (.agg #[.int .i64 (y).lev, (.slice aV y.sl.length cV), .string (y).hi, .bool (y).la, .int .u64 (y).ri]) ∧ ρ 12 = some (.agg #[.int .u64 id, .int .u64 word2, .int .i64 (y).lev, (.slice aV y.sl.length cV), .string (y).hi, .bool (y).la, .int .u64 (y).ri]) ∧ ρ 13 = some (.pointer (some ⟨b13, 0, none⟩)) ∧ ρ 14 = some (.agg #[.pointer (some ⟨b13, 0, none⟩)]) ∧ ρ 15 = some (.pointer (some ⟨bw, 0, none⟩)) ∧ ρ 16 = some (.pointer (some ⟨bw, 0, none⟩)) ∧
    St K W (rowC (.slice a6 (n + 1) c6) 139 4 (n + 1) (xs ++ lit) :: slC (.slice aV y.sl.length cV) y :: blk b13 (.cells (wrCells (stV (wrStore b13)) (.slice a6 (n + 1) c6) id word2 y (.slice aV y.sl.length cV)).toArray 149) :: blk bw (.cells #[.pointer (some ⟨b13, 0, none⟩)] 147) :: REST) := by
  obtain ⟨b5, a6, c6, aV, cV, b13, bw, e1, e2, e3, e4, e5, e6, e7, e8, hs⟩ := h
  have g : ∀ e, e ∈ [5, 6, 11, 12, 13, 14, 15, 16] → ∃ v, ρ e = some v := fun e he => Option.isSome_iff_exists.1 (hall e he)
  obtain ⟨v5, h5⟩ := g 5 (by simp)
  obtain ⟨v6, h6⟩ := g 6 (by simp)
  obtain ⟨v11, h11⟩ := g 11 (by simp)
  obtain ⟨v12, h12⟩ := g 12 (by simp)
  obtain ⟨v13, h13⟩ := g 13 (by simp)
  obtain ⟨v14, h14⟩ := g 14 (by simp)
  obtain ⟨v15, h15⟩ := g 15 (by simp)
  obtain ⟨v16, h16⟩ := g 16 (by simp)
  rw [h5, h6, h11, h13, h15] at hs
  exact ⟨b5, a6, c6, aV, cV, b13, bw, by rw [h5, e1 v5 h5], by rw [h6, e2 v6 h6], by rw [h11, e3 v11 h11], by rw [h12, e4 v12 h12], by rw [h13, e5 v13 h13], by rw [h14, e6 v14 h14], by rw [h15, e7 v15 h15], by rw [h16, e8 v16 h16], hs.tail⟩
end

section
variable {K : Know} {w : World} {F : List Comp} {x y : Pg} {ax ay : Option Addr} {cx cy : Nat} {d : Cfg} {id word : Int}
end
end Go.Proofs.YtlpdhhhgckpcfaaGreat

namespace Go.Proofs.YtlpdhhhgckpcfaaGreat
open Go.RowKit
set_option maxRecDepth 100000

theorem result_res (tmps : Array Value) (w : World) (b : Nat) (v0 v1 v2 v3 v4 v5 v6 : Value) (hp : tmps[2]? = some (.pointer (some ⟨b, 0, none⟩))) (hk : ∀ k, w.cell? ⟨b, k, none⟩ = (#[v0, v1, v2, v3, v4, v5, v6] : Array Value)[k]?) :
    (results Tryz.f94 tmps).run Tryz.prog w = .ok (.agg #[v0, v1, v2, v3, v4, v5, v6]) w := by
  simp [results, Tryz.results94, go_sem, hp, hk]
theorem wheld_res (tmps : Array Value) (w : World) (b : Nat) (v0 v1 v2 v3 v4 v5 v6 : Value) (hp : tmps[2]? = some (.pointer (some ⟨b, 0, none⟩))) (hk : ∀ k, w.cell? ⟨b, k, none⟩ = (#[v0, v1, v2, v3, v4, v5, v6] : Array Value)[k]?) :
    (results Tryz.f42 tmps).run Tryz.prog w = .ok (.agg #[v0, v1, v2, v3, v4, v5, v6]) w := by
  simp [results, Tryz.results42, go_sem, hp, hk]

section
variable {K : Know} {w : World} {F : List Comp} {pg : Pg} {id word : Int} {b bw g cap : Nat} {av : Option Addr} {cv : Nat} {ps : List Pt}
set_option maxHeartbeats 4000000 in
theorem result_st (hn : pg.sl.length ≤ 1000000) (hs : St K w (wrC b id word pg (.slice av pg.sl.length cv) g cap ps ps.length :: rowC (.slice av (pg).sl.length cv) 69 2 (pg).sl.length (slRow (pg).sl) :: F)) :
    Calls Tryz.prog 94 #[.pointer (some ⟨b, 0, none⟩)] w fun e w' => ∃ va, e = .returned (.agg #[.int .u64 id, .int .u64 word, .int .i64 (pg).lev, va, .string (pg).hi, .bool (pg).la, .int .u64 (pg).ri]) ∧
      St K w' (rowC va 69 2 pg.sl.length (slRow pg.sl) :: wrC b id word pg (.slice av pg.sl.length cv) g cap ps ps.length :: rowC (.slice av (pg).sl.length cv) 69 2 (pg).sl.length (slRow (pg).sl) :: F) := by
  obtain ⟨pv, hpv, hs⟩ := hs.wr_open
  rw [if_neg (Nat.lt_irrefl _)] at hs
  have hcl : ∀ w' (G : List Comp), St K w' (blk b (.cells (wrCells .nilFunc pv id word pg (.slice av pg.sl.length cv)).toArray 149) :: G) → St K w' (wrC b id word pg (.slice av pg.sl.length cv) g cap ps ps.length :: G) := fun w' G h => by
    refine St.wr_close (pv := pv) ?_ hpv
    rw [if_neg (Nat.lt_irrefl _)]
    exact h
  have Hcl := Lib.hid hcl
  have hs : St K w (blk b (.cells (wrCells .nilFunc pv id word pg (.slice av pg.sl.length cv)).toArray 149) :: rowC (.slice av (pg).sl.length cv) 69 2 (pg).sl.length (slRow (pg).sl) :: F) := hs
  clear hcl hpv
  have hs := hs.made (.cells #[.int .u64 0, .int .u64 0, .int .i64 0, .slice none 0 0, .string ⟨#[]⟩, .bool false, .int .u64 0] 45)
  have Qd := Lib.hid (rdDone_any (w.alloc (.cells #[.int .u64 0, .int .u64 0, .int .i64 0, .slice none 0 0, .string ⟨#[]⟩, .bool false, .int .u64 0] 45)) b (hs.k1 0) (hs.k1 1))
  go_enter Tryz.func94, Tryz.ntmps94
  go_wp2_with fail
  refine (Qd.out).mono ?_
  clear Qd
  rintro e w1 ⟨rfl, rfl⟩
  generalize hb0 : w.heap.size = b0
  rw [hb0] at hs
  go_upto_region 3 with (fail)
  refine wp_ck hs ?_
  clear hs hb0
  intro W hs
  have k := hs.k1
  unfold wrCells at k
  have hs := hs.made (.cells #[.int .u64 id, .int .u64 word, .int .i64 (pg).lev, (.slice av pg.sl.length cv), .string (pg).hi, .bool (pg).la, .int .u64 (pg).ri] 45)
  go_wp2_with fail
  refine (clone_st (cap := cv) hs (hs.b3.row_slots (by omega))).mono ?_
  clear hs k
  generalize W.heap.size = b1
  rintro e w2 ⟨va, rfl, hs⟩
  obtain ⟨a2, c2, rfl, _, _⟩ := hs.row_read
  have hs := hs.b1
  have k1 := hs.k0
  have q1 := hs.f0
  have hs := ((((hs.setL 2 (.int .i64 pg.lev)).setL 3 (.slice a2 pg.sl.length c2)).setL 4 (.string pg.hi)).setL 5 (.bool pg.la)).setL 6 (.int .u64 pg.ri)
  simp only [List.set_cons_zero, List.set_cons_succ] at hs
  go_upto_region 5 with (fail)
  refine wp_ck hs ?_
  clear hs k1 q1
  intro W3 hs
  have k1 := hs.k0
  have hs := hs.b2
  have k0 := hs.k0
  have f0 := hs.f0
  have hs := ((((((hs.setL 0 (.int .u64 id)).setL 1 (.int .u64 word)).setL 2 (.int .i64 pg.lev)).setL 3 (.slice a2 pg.sl.length c2)).setL 4 (.string pg.hi)).setL 5 (.bool pg.la)).setL 6 (.int .u64 pg.ri)
  simp only [List.set_cons_zero, List.set_cons_succ] at hs
  go_wp2
  refine bodyPost_ret (result_res _ _ b0 _ _ _ _ _ _ _ rfl hs.k0) rfl ⟨_, rfl, (Hcl.out _ _ hs.tail.tail.b1).b1⟩
set_option maxHeartbeats 1000000 in
theorem writeHeld_st (hn : pg.sl.length ≤ 1000000) (hs : St K w (wrC b id word pg (.slice av pg.sl.length cv) g cap ps ps.length :: rowC (.slice av (pg).sl.length cv) 69 2 (pg).sl.length (slRow (pg).sl) :: blk bw (.cells #[.pointer (some ⟨b, 0, none⟩)] 147) :: F)) :
    Calls Tryz.prog 42 #[.pointer (some ⟨bw, 0, none⟩)] w fun e w' => ∃ va, e = .returned (.agg #[.int .u64 id, .int .u64 word, .int .i64 (pg).lev, va, .string (pg).hi, .bool (pg).la, .int .u64 (pg).ri]) ∧
      St K w' (rowC va 69 2 pg.sl.length (slRow pg.sl) :: wrC b id word pg (.slice av pg.sl.length cv) g cap ps ps.length :: rowC (.slice av (pg).sl.length cv) 69 2 (pg).sl.length (slRow (pg).sl) :: blk bw (.cells #[.pointer (some ⟨b, 0, none⟩)] 147) :: F) := by
  have hs := hs.made (.cells #[.int .u64 0, .int .u64 0, .int .i64 0, .slice none 0 0, .string ⟨#[]⟩, .bool false, .int .u64 0] 45)
  have kw := hs.b3.k0
  go_enter Tryz.func42, Tryz.ntmps42
  go_wp2_with fail
  refine (result_st hn hs.u2).mono ?_
  clear hs kw
  generalize w.heap.size = b0
  rintro e w1 ⟨va, rfl, hs⟩
  obtain ⟨a2, c2, rfl, _, _⟩ := hs.row_read
  have hs := hs.b3
  have k0 := hs.k0
  have f0 := hs.f0
  have hs := ((((((hs.setL 0 (.int .u64 id)).setL 1 (.int .u64 word)).setL 2 (.int .i64 pg.lev)).setL 3 (.slice a2 pg.sl.length c2)).setL 4 (.string pg.hi)).setL 5 (.bool pg.la)).setL 6 (.int .u64 pg.ri)
  simp only [List.set_cons_zero, List.set_cons_succ] at hs
  go_wp2
  refine bodyPost_ret (wheld_res _ _ b0 _ _ _ _ _ _ _ rfl hs.k0) rfl ⟨_, rfl, hs.tail⟩
end
end Go.Proofs.YtlpdhhhgckpcfaaGreat

namespace Go.Proofs.YtlpdhhhgckpcfaaGreat
open Go.RowKit
set_option maxRecDepth 100000

def frRow (o6 o11 : Option Value) (b6 : Nat) (a11 : Option Addr) (c11 n : Nat) (lit xs : List Value) : Comp := match o11 with
  | some _ => rowC (.slice a11 (1 + n) c11) 139 4 (1 + n) (lit ++ xs)
  | none => match o6 with
    | some _ => blk b6 (.cells lit.toArray 139)
    | none => emptyC
/-- While the list is put together: the first store, the others, both. -/
def FrR (K : Know) (REST : List Comp) (n : Nat) (lit xs : List Value) (ρ : Nat → Option Value) (W : World) : Prop :=
  ∃ (b6 : Nat) (a10 : Option Addr) (c10 : Nat) (a11 : Option Addr) (c11 : Nat), (∀ v, ρ 6 = some v → v = .slice (some ⟨b6, 0, none⟩) 1 1) ∧ (∀ v, ρ 10 = some v → v = .slice a10 n c10) ∧ (∀ v, ρ 11 = some v → v = .slice a11 (1 + n) c11) ∧ (∀ v, ρ 12 = some v → v = .slice a11 (1 + n) c11) ∧
    St K W (frRow (ρ 6) (ρ 11) b6 a11 c11 n lit xs :: optC (ρ 10) (rowC (.slice a10 n c10) 139 4 n xs) :: REST)

section
variable {K : Know} {w : World} {F : List Comp} {x : Pg} {ax : Option Addr} {cx : Nat} {d : Cfg} {id : Int}

theorem freshStep_st {word : Int} {pg : Pg} {b bw bm bc g cap k acc : Nat} {va : Value} {ps : List Pt} {L : List Cel} {p : Pt} (hk : ps[k]? = some p) (ha : acc ≤ 1000000000000)
    (hs : St K w (wrC b id word pg va g cap ps k :: memC bm bc L acc :: rowC (.slice (some ⟨g, 0, none⟩) ps.length cap) 139 4 ps.length (ptRow ps) :: blk bw (.cells #[.pointer (some ⟨b, 0, none⟩)] 145) :: F)) :
    Calls Tryz.prog 40 #[.pointer (some ⟨bw, 0, none⟩), .pointer (some ⟨bm, 0, none⟩)] w fun e w' => e = .returned (.bool (decide (k + 1 = ps.length))) ∧
      St K w' (wrC b id word pg va g cap ps (k + 1) :: memC bm bc (putC L p.i p.c) (acc + 1) :: rowC (.slice (some ⟨g, 0, none⟩) ps.length cap) 139 4 ps.length (ptRow ps) :: blk bw (.cells #[.pointer (some ⟨b, 0, none⟩)] 145) :: F) := by
  have Q := Lib.hid (wrRun_st hk ha hs)
  have kw := hs.b3.k0
  clear hs
  go_enter Tryz.func40, Tryz.ntmps40
  go_wp2_with fail
  refine (Q.out).mono ?_
  rintro e w1 ⟨rfl, hs⟩
  go_wp2
  go_ret
  exact ⟨rfl, hs⟩
end
end Go.Proofs.YtlpdhhhgckpcfaaGreat

namespace Go.Proofs.YtlpdhhhgckpcfaaGreat
open Go.RowKit
set_option linter.unusedSectionVars false

def putAll (L : List Cel) (ps : List Pt) : List Cel := ps.foldl (fun L p => putC L p.i p.c) L
theorem putAll_cons (L : List Cel) (p : Pt) (ps : List Pt) : putAll L (p :: ps) = putAll (putC L p.i p.c) ps := rfl
theorem putAll_append (L : List Cel) (ps qs : List Pt) : putAll L (ps ++ qs) = putAll (putAll L ps) qs := by unfold putAll; rw [List.foldl_append]
theorem putAll_take {L : List Cel} {ps : List Pt} {k : Nat} {p : Pt} (h : ps[k]? = some p) : putAll L (ps.take (k + 1)) = putC (putAll L (ps.take k)) p.i p.c := by
  have hlt : k < ps.length := (List.getElem?_eq_some_iff.1 h).1
  rw [List.getElem?_eq_getElem hlt] at h
  rw [List.take_succ_eq_append_getElem hlt, Option.some.inj h, putAll_append]
  rfl
theorem putAll_length : ∀ (ps : List Pt) (L : List Cel), (putAll L ps).length = L.length
  | [], L => rfl
  | p :: ps, L => by rw [putAll_cons, putAll_length ps, putC_length]
theorem putAll_other : ∀ (ps : List Pt) (L : List Cel) (j : Int), (∀ p, p ∈ ps → j ≠ p.i) → getC (putAll L ps) j = getC L j
  | [], L, j, _ => rfl
  | p :: ps, L, j, h => by rw [putAll_cons, putAll_other ps _ j (fun q hq => h q (by simp [hq]))]; exact getC_ne (h p (by simp))
theorem putAll_at : ∀ (ps : List Pt) (L : List Cel), (ps.map (·.i)).Nodup → (∀ p, p ∈ ps → 0 ≤ p.i ∧ p.i < L.length) → ∀ p, p ∈ ps → getC (putAll L ps) p.i = p.c
  | [], L, _, _, p, h => by simp at h
  | q :: ps, L, hn, hr, p, h => by
    rw [List.map_cons, List.nodup_cons] at hn
    rw [putAll_cons]
    rcases List.mem_cons.1 h with h1 | h1
    · subst h1
      rw [putAll_other ps _ _ (fun r hr' e => hn.1 (List.mem_map.2 ⟨r, hr', e.symm⟩))]
      have := hr p (by simp)
      exact getC_eq this.1 (by exact_mod_cast this.2)
    · exact putAll_at ps _ hn.2 (fun r hr' => by rw [putC_length]; exact hr r (by simp [hr'])) p h1

/-- The cells hold what the stores would put there. -/
def Holds (L : List Cel) (ps : List Pt) : Prop := ∀ p, p ∈ ps → getC L p.i = p.c

section
variable {d : Cfg} (hd : d.Ok) {id : Int} (h1 : 1 ≤ id) (h2 : id ≤ d.no)
include hd h1 h2
omit hd h1 h2 in
theorem slPts_addr : ∀ (l : List Sl) (i : Nat), (i + l.length : Int) ≤ d.fa → ∀ p, p ∈ slPts d id i l → ∃ j : Nat, i ≤ j ∧ j < i + l.length ∧ p.i = d.node id (4 + (j : Int))
  | [], _, _, p, hp => by simp [slPts] at hp
  | s :: l, i, hle, p, hp => by
    simp only [List.length_cons] at hle
    rcases List.mem_cons.1 hp with h | h
    · subst h
      refine ⟨i, Nat.le_refl _, by simp, ?_⟩
      show d.slot id i = _
      unfold Cfg.slot
      rw [if_pos ⟨by omega, by omega⟩]
    · obtain ⟨j, a, b, c⟩ := slPts_addr l (i + 1) (by omega) p h
      exact ⟨j, by omega, by simp; omega, c⟩
theorem slPts_nodup : ∀ (l : List Sl) (i : Nat), (i + l.length : Int) ≤ d.fa → ((slPts d id i l).map (·.i)).Nodup
  | [], _, _ => by simp [slPts]
  | s :: l, i, hle => by
    simp only [List.length_cons] at hle
    show (d.slot id i :: (slPts d id (i + 1) l).map (·.i)).Nodup
    rw [List.nodup_cons]
    refine ⟨fun hm => ?_, slPts_nodup l (i + 1) (by omega)⟩
    obtain ⟨p, hp, e⟩ := List.mem_map.1 hm
    obtain ⟨j, a, b, c⟩ := slPts_addr l (i + 1) (by omega) p hp
    have es : d.slot id i = d.node id (4 + (i : Int)) := by
      unfold Cfg.slot
      rw [if_pos ⟨by omega, by omega⟩]
    rw [c, es] at e
    exact node_ne hd h1 h2 (by omega) (by omega) (by omega) (by omega) (by omega) e
/-- The addresses of a page's cells: different ones, none of them the latch's. -/
theorem pgPts_addr {pg : Pg} (hle : (pg.sl.length : Int) ≤ d.fa) : ∀ p, p ∈ pgPts d id pg → ∃ k : Int, 1 ≤ k ∧ k < d.fa + 4 ∧ p.i = d.node id k := by
  intro p hp
  have f1 := hd.fa1
  rcases List.mem_append.1 hp with h | h
  · obtain ⟨j, a, b, c⟩ := slPts_addr pg.sl 0 (by omega) p h
    exact ⟨4 + (j : Int), by omega, by omega, c⟩
  · simp only [List.mem_cons, List.not_mem_nil, or_false] at h
    rcases h with h | h | h <;> subst h
    · exact ⟨2, by omega, by omega, rfl⟩
    · exact ⟨3, by omega, by omega, rfl⟩
    · exact ⟨1, by omega, by omega, rfl⟩
theorem pgPts_nodup {pg : Pg} (hle : (pg.sl.length : Int) ≤ d.fa) : ((pgPts d id pg).map (·.i)).Nodup := by
  have f1 := hd.fa1
  unfold pgPts
  rw [List.map_append, List.nodup_append]
  refine ⟨slPts_nodup hd h1 h2 pg.sl 0 (by omega), ?_, fun a ha b hb => ?_⟩
  · have e1 := node_ne hd h1 h2 (k := 2) (k' := 3) (by omega) (by omega) (by omega) (by omega) (by omega)
    have e2 := node_ne hd h1 h2 (k := 2) (k' := 1) (by omega) (by omega) (by omega) (by omega) (by omega)
    have e3 := node_ne hd h1 h2 (k := 3) (k' := 1) (by omega) (by omega) (by omega) (by omega) (by omega)
    simp [e1, e2, e3]
  · obtain ⟨p, hp, rfl⟩ := List.mem_map.1 ha
    obtain ⟨j, a1, b1, c⟩ := slPts_addr pg.sl 0 (by omega) p hp
    rw [c]
    simp only [List.map_cons, List.map_nil, List.mem_cons, List.not_mem_nil, or_false] at hb
    rcases hb with rfl | rfl | rfl <;> exact node_ne hd h1 h2 (by omega) (by omega) (by omega) (by omega) (by omega)

/-- Put lays them down. -/
theorem putPg_holds {L : List Cel} {pg : Pg} (hlen : (L.length : Int) = d.cells) (hle : (pg.sl.length : Int) ≤ d.fa) (hla : pg.la = true → pg.hi = ⟨#[]⟩) : Holds (putPg d id pg L) (pgPts d id pg) := by
  have f1 := hd.fa1
  have n1 := node_in hd h1 h2 (k := 1) (by omega) (by omega)
  have n2 := node_in hd h1 h2 (k := 2) (by omega) (by omega)
  have n3 := node_in hd h1 h2 (k := 3) (by omega) (by omega)
  have ne : ∀ (k : Int) (m : Nat), 0 ≤ k → k ≤ 3 → 0 ≤ m → m < 0 + pg.sl.length → d.node id k ≠ d.node id (4 + (m : Int)) := fun k m a b _ c => node_ne hd h1 h2 a (by omega) (by omega) (by omega) (by omega)
  intro p hp
  rcases List.mem_append.1 hp with h | h
  · have key : ∀ (l : List Sl) (i : Nat) (L' : List Cel), (L'.length : Int) = d.cells → (i + l.length : Int) ≤ d.fa → ∀ p, p ∈ slPts d id i l → getC (putSl d id i l L') p.i = p.c := by
      intro l
      induction l with
      | nil => intro i L' _ _ p hp; simp [slPts] at hp
      | cons s l ih =>
        intro i L' hl' hle' p hp
        simp only [List.length_cons] at hle'
        show getC (putSl d id (i + 1) l (putC L' (d.node id (4 + (i : Int))) ⟨s.r, s.k, 0⟩)) p.i = p.c
        rcases List.mem_cons.1 hp with h | h
        · subst h
          have es : d.slot id i = d.node id (4 + (i : Int)) := by
            unfold Cfg.slot
            rw [if_pos ⟨by omega, by omega⟩]
          show getC _ (d.slot id i) = _
          rw [es, putSl_other _ _ _ _ (fun k a b => node_ne hd h1 h2 (by omega) (by omega) (by omega) (by omega) (by omega))]
          have hi := node_in hd h1 h2 (k := 4 + (i : Int)) (by omega) (by omega)
          exact getC_eq hi.2.1 (by omega)
        · exact ih (i + 1) _ (by rw [putC_length]; exact hl') (by omega) p h
    exact key pg.sl 0 _ (by unfold put3; rw [putC_length, putC_length, putC_length]; exact hlen) (by omega) p h
  · simp only [List.mem_cons, List.not_mem_nil, or_false] at h
    unfold putPg
    rcases h with h | h | h <;> subst h
    · show getC _ (d.node id 2) = hiCel pg
      rw [putSl_other _ _ _ _ (fun k a b => ne 2 k (by omega) (by omega) a b)]
      unfold put3
      rw [getC_ne (node_ne hd h1 h2 (by omega) (by omega) (by omega) (by omega) (by omega)), getC_eq n2.2.1 (by rw [putC_length]; omega)]
      unfold hiCel
      cases hb : pg.la with
      | true => rw [hla hb]; rfl
      | false => rfl
    · show getC _ (d.node id 3) = _
      rw [putSl_other _ _ _ _ (fun k a b => ne 3 k (by omega) (by omega) a b)]
      unfold put3
      rw [getC_eq n3.2.1 (by rw [putC_length, putC_length]; omega)]
    · show getC _ (d.node id 1) = _
      rw [putSl_other _ _ _ _ (fun k a b => ne 1 k (by omega) (by omega) a b)]
      unfold put3
      rw [getC_ne (node_ne hd h1 h2 (by omega) (by omega) (by omega) (by omega) (by omega)), getC_ne (node_ne hd h1 h2 (by omega) (by omega) (by omega) (by omega) (by omega)), getC_eq n1.2.1 (by omega)]
omit hd h1 h2 in
theorem slPts_mem : ∀ (l : List Sl) (i0 i : Nat) (s : Sl), l[i]? = some s → (⟨d.slot id ((i0 + i : Nat) : Int), ⟨s.r, s.k, 0⟩⟩ : Pt) ∈ slPts d id i0 l
  | [], i0, i, s, h => by simp at h
  | x :: l, i0, 0, s, h => by
    simp at h; subst h
    exact List.mem_cons_self
  | x :: l, i0, i + 1, s, h => by
    have := slPts_mem l (i0 + 1) i s (by simpa using h)
    rw [show i0 + (i + 1) = i0 + 1 + i by omega]
    exact List.mem_cons_of_mem _ this
/-- Cells that hold a page say so. -/
theorem Holds.page {L : List Cel} {pg : Pg} (h : Holds L (pgPts d id pg)) (hle : (pg.sl.length : Int) ≤ d.fa) (hlev : 0 ≤ pg.lev ∧ pg.lev < 1000000) (hla : pg.la = true → pg.hi = ⟨#[]⟩) : PageAt d id L pg := by
  have e1 := h ⟨d.node id 1, ⟨pg.sl.length, ⟨#[]⟩, pg.lev⟩⟩ (by unfold pgPts; simp)
  have e2 := h ⟨d.node id 2, hiCel pg⟩ (by unfold pgPts; simp)
  have e3 := h ⟨d.node id 3, ⟨pg.ri, ⟨#[]⟩, 0⟩⟩ (by unfold pgPts; simp)
  simp only at e1 e2 e3
  refine ⟨by rw [e1], by rw [e1]; show wrap64 pg.lev = pg.lev; unfold wrap64; omega, ?_, ?_, by rw [e3], hle, fun i s hs => ?_⟩
  · rw [e2]; unfold hiCel
    cases hb : pg.la with
    | true => rw [hla hb]; rfl
    | false => rfl
  · rw [e2]; unfold hiCel
    cases hb : pg.la <;> rfl
  · have e := h _ (List.mem_append_left _ (slPts_mem pg.sl 0 i s hs) : _ ∈ pgPts d id pg)
    simp only [Nat.zero_add] at e
    rw [e]; exact ⟨rfl, rfl⟩

omit hd h1 h2 in
theorem nodup_inj {α β : Type} {f : α → β} : ∀ {l : List α}, (l.map f).Nodup → ∀ {a b : α}, a ∈ l → b ∈ l → f a = f b → a = b
  | [], _, a, b, ha, _, _ => by simp at ha
  | c :: l, hn, a, b, ha, hb, e => by
    rw [List.map_cons, List.nodup_cons] at hn
    rcases List.mem_cons.1 ha with h | h <;> rcases List.mem_cons.1 hb with h' | h'
    · rw [h, h']
    · subst h; exact absurd (List.mem_map.2 ⟨b, h', e.symm⟩) hn.1
    · subst h'; exact absurd (List.mem_map.2 ⟨a, h, e⟩) hn.1
    · exact nodup_inj hn.2 h h' e

/-- All stores: the new page. -/
theorem stage_end {L : List Cel} {x y : Pg} {mid : List Pt} {c0 c1 : Cel} (hx : Holds L (pgPts d id x)) (hnew : Newer (pgPts d id x) (pgPts d id y) mid) (hlen : (L.length : Int) = d.cells) (hley : (y.sl.length : Int) ≤ d.fa) :
    Holds (putAll L (⟨d.node id 0, c0⟩ :: mid ++ [⟨d.node id 0, c1⟩])) (pgPts d id y) := by
  intro p hp
  have f1 := hd.fa1
  obtain ⟨k, k1, k2, ek⟩ := pgPts_addr hd h1 h2 hley p hp
  have hne : p.i ≠ d.node id 0 := by rw [ek]; exact node_ne hd h1 h2 (by omega) k2 (by omega) (by omega) (by omega)
  have hnd := pgPts_nodup hd h1 h2 hley
  rw [List.cons_append, putAll_cons, putAll_append]
  show getC (putC _ (d.node id 0) c1) p.i = p.c
  rw [getC_ne hne]
  by_cases hm : p ∈ mid
  · refine putAll_at mid _ (hnd.sublist (hnew.1.map _)) (fun q hq => ?_) p hm
    obtain ⟨kq, kq1, kq2, eq⟩ := pgPts_addr hd h1 h2 hley q (hnew.1.subset hq)
    have := node_in hd h1 h2 (k := kq) (by omega) kq2
    rw [putC_length, eq]
    omega
  · have hpx : p ∈ pgPts d id x := Classical.byContradiction fun hn => hm (hnew.2 p hp hn)
    rw [putAll_other mid _ _ (fun q hq e => hm (by rw [nodup_inj hnd hp (hnew.1.subset hq) e]; exact hq)), getC_ne hne]
    exact hx p hpx
/-- In between: the latch's word is the first store's. -/
theorem stage_mid {L : List Cel} {y : Pg} {mid : List Pt} {c0 c1 : Cel} (hsub : mid.Sublist (pgPts d id y)) (hlen : (L.length : Int) = d.cells) (hley : (y.sl.length : Int) ≤ d.fa) {k : Nat} (hk : 1 ≤ k) (hk2 : k ≤ mid.length + 1) :
    getC (putAll L (List.take k (⟨d.node id 0, c0⟩ :: mid ++ [⟨d.node id 0, c1⟩]))) (d.node id 0) = c0 := by
  have f1 := hd.fa1
  obtain ⟨k, rfl⟩ : ∃ j, k = j + 1 := ⟨k - 1, by omega⟩
  rw [List.cons_append, List.take_succ_cons, List.take_append_of_le_length (by omega), putAll_cons]
  rw [putAll_other _ _ _ (fun q hq => ?_)]
  · have n0 := node_in hd h1 h2 (k := 0) (by omega) (by omega)
    show getC (putC L (d.node id 0) c0) (d.node id 0) = c0
    exact getC_eq n0.2.1 (by omega)
  · obtain ⟨kq, kq1, kq2, eq⟩ := pgPts_addr hd h1 h2 hley q (hsub.subset (List.mem_of_mem_take hq))
    rw [eq]
    exact node_ne hd h1 h2 (by omega) (by omega) (by omega) kq2 (by omega)
theorem stage_last {L : List Cel} {mid : List Pt} {c0 c1 : Cel} (hlen : (L.length : Int) = d.cells) : getC (putAll L (⟨d.node id 0, c0⟩ :: mid ++ [⟨d.node id 0, c1⟩])) (d.node id 0) = c1 := by
  have f1 := hd.fa1
  have n0 := node_in hd h1 h2 (k := 0) (by omega) (by omega)
  rw [putAll_append]
  show getC (putC _ (d.node id 0) c1) (d.node id 0) = c1
  exact getC_eq n0.2.1 (by rw [putAll_length]; omega)
end
end Go.Proofs.YtlpdhhhgckpcfaaGreat
