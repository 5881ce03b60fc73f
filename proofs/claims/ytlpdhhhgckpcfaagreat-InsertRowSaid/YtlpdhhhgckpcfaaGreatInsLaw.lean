
/- The cells behind Insert (pure). -/
import Derived.Test.YtlpdhhhgckpcfaaGreatInsB
import Derived.Test.YtlpdhhhgckpcfaaGreatTreeB
namespace Go.Proofs.YtlpdhhhgckpcfaaGreat
open Go.RowKit
set_option linter.unusedSectionVars false
section
variable {d : Cfg} (hd : d.Ok) {fr : InH} {fu p : Pg} {L : List Cel} {ps : List Pt} {id : Int}
include hd
/-- A write stays in its node. -/
theorem WrPs.addr (h : WrPs d fr p ps) (h1 : 1 ≤ fr.id) (h2 : fr.id ≤ d.no) (hle : (p.sl.length : Int) ≤ d.fa) : ∀ q, q ∈ ps → ∃ k : Int, 0 ≤ k ∧ k < d.fa + 4 ∧ q.i = d.node fr.id k := by
  have f1 := hd.fa1
  obtain ⟨mid, hn, rfl⟩ := h
  intro q hq
  simp only [List.cons_append, List.mem_cons, List.mem_append, List.not_mem_nil, or_false] at hq
  rcases hq with rfl | hq | rfl
  · exact ⟨0, by omega, by omega, rfl⟩
  · obtain ⟨k, k1, k2, e⟩ := pgPts_addr hd h1 h2 hle q (hn.1.subset hq)
    exact ⟨k, by omega, k2, e⟩
  · exact ⟨0, by omega, by omega, rfl⟩
theorem frPts_addr (h1 : 1 ≤ newId L) (h2 : newId L ≤ d.no) (hle : ((splR fu).sl.length : Int) ≤ d.fa) : ∀ q, q ∈ frPts d fu L → ∃ k : Int, 0 ≤ k ∧ k < d.fa + 4 ∧ q.i = d.node (newId L) k := by
  have f1 := hd.fa1
  intro q hq
  rcases List.mem_cons.1 hq with rfl | hq
  · exact ⟨0, by omega, by omega, rfl⟩
  · obtain ⟨k, k1, k2, e⟩ := pgPts_addr hd h1 h2 hle q hq
    exact ⟨k, by omega, k2, e⟩
/-- What a write leaves: the page and the word; nothing else changes. -/
theorem wr_end (hw : WrPs d fr p ps) (h1 : 1 ≤ fr.id) (h2 : fr.id ≤ d.no) (hle : (p.sl.length : Int) ≤ d.fa) (hlen : (L.length : Int) = d.cells) (hx : Holds L (pgPts d fr.id fr.pg)) :
    Holds (putAll L ps) (pgPts d fr.id p) ∧ (getC (putAll L ps) (d.node fr.id 0)).n = ltEnd (ltBegin fr.word) ∧ ∀ j : Int, (∀ k : Int, 0 ≤ k → k < d.fa + 4 → j ≠ d.node fr.id k) → getC (putAll L ps) j = getC L j := by
  have ha := hw.addr hd h1 h2 hle
  obtain ⟨mid, hn, rfl⟩ := hw
  refine ⟨stage_end hd h1 h2 hx hn hlen hle, ?_, fun j hj => putAll_other _ _ _ fun q hq => ?_⟩
  · rw [stage_last hd h1 h2 hlen]
  · obtain ⟨k, k1, k2, e⟩ := ha q hq
    rw [e]
    exact hj k k1 k2
/-- What the new node's write leaves. -/
theorem fr_end (h1 : 1 ≤ newId L) (h2 : newId L ≤ d.no) (hle : ((splR fu).sl.length : Int) ≤ d.fa) (hlen : (L.length : Int) = d.cells) :
    Holds (putAll (takL L) (frPts d fu L)) (pgPts d (newId L) (splR fu)) ∧ getC (putAll (takL L) (frPts d fu L)) (d.node (newId L) 0) = ⟨ltLock 0, ⟨#[]⟩, 0⟩ ∧ getC (putAll (takL L) (frPts d fu L)) 4 = ⟨newId L, ⟨#[]⟩, 0⟩ ∧
    ∀ j : Int, j ≠ 4 → (∀ k : Int, 0 ≤ k → k < d.fa + 4 → j ≠ d.node (newId L) k) → getC (putAll (takL L) (frPts d fu L)) j = getC L j := by
  have f1 := hd.fa1
  have hA := hd.A_bd
  have hcb := cells_big hd
  have ha := frPts_addr hd h1 h2 hle
  have hlt : ((takL L).length : Int) = d.cells := by unfold takL; rw [putC_length]; exact hlen
  have hnd : ((frPts d fu L).map (·.i)).Nodup := by
    show (_ :: (pgPts d (newId L) (splR fu)).map (·.i)).Nodup
    rw [List.nodup_cons]
    refine ⟨fun hm => ?_, pgPts_nodup hd h1 h2 hle⟩
    obtain ⟨q, hq, e⟩ := List.mem_map.1 hm
    obtain ⟨k, k1, k2, e2⟩ := pgPts_addr hd h1 h2 hle q hq
    exact node_ne hd h1 h2 (by omega) k2 (by omega) (by omega) (by omega) (e2.symm.trans e)
  have hin : ∀ q, q ∈ frPts d fu L → 0 ≤ q.i ∧ q.i < (takL L).length := fun q hq => by
    obtain ⟨k, k1, k2, e⟩ := ha q hq
    have := node_in hd h1 h2 k1 k2
    rw [e]; omega
  have hat := putAll_at (frPts d fu L) (takL L) hnd hin
  have h4 : ∀ k : Int, 0 ≤ k → k < d.fa + 4 → (4 : Int) ≠ d.node (newId L) k := fun k k1 k2 => by
    have h := node_in hd h1 h2 k1 k2
    have h0 : 0 ≤ (newId L - 1) * (d.fa + 4) := Int.mul_nonneg (by omega) (by omega)
    omega
  refine ⟨fun q hq => hat q (List.mem_cons_of_mem _ hq), hat _ (List.mem_cons_self ..), ?_, fun j hj hk => ?_⟩
  · rw [putAll_other _ _ _ (fun q hq => by obtain ⟨k, k1, k2, e⟩ := ha q hq; rw [e]; exact h4 k k1 k2)]
    exact getC_eq (by omega) (by omega)
  · rw [putAll_other _ _ _ (fun q hq => by obtain ⟨k, k1, k2, e⟩ := ha q hq; rw [e]; exact hk k k1 k2)]
    exact getC_ne hj
end
theorem slPts_cels {d : Cfg} {id : Int} : ∀ (l : List Sl) (i : Nat), (∀ s, s ∈ l → 0 ≤ s.r ∧ s.r < 18446744073709551616) → ∀ q, q ∈ slPts d id i l → CelOk q.c
  | [], _, _, q, h => by cases h
  | s :: l, i, hr, q, h => by
    rcases List.mem_cons.1 h with rfl | h
    · exact hr s List.mem_cons_self
    · exact slPts_cels l (i + 1) (fun s hs => hr s (List.mem_cons_of_mem _ hs)) q h
theorem pgPts_cels {d : Cfg} {id : Int} {pg : Pg} (hd : d.Ok) (h : PgOk d pg) : ∀ q, q ∈ pgPts d id pg → CelOk q.c := fun q hq => by
  have f2 := hd.fa2
  have hle := h.le
  rcases List.mem_append.1 hq with hq | hq
  · exact slPts_cels pg.sl 0 h.r q hq
  · simp only [List.mem_cons, List.not_mem_nil, or_false] at hq
    rcases hq with rfl | rfl | rfl
    · show CelOk (hiCel pg)
      unfold hiCel
      cases pg.la
      · exact ⟨by show (0 : Int) ≤ 0; omega, by show (0 : Int) < 18446744073709551616; omega⟩
      · exact ⟨by show (0 : Int) ≤ 0; omega, by show (0 : Int) < 18446744073709551616; omega⟩
    · exact h.ri
    · exact ⟨by show (0 : Int) ≤ pg.sl.length; omega, by show (pg.sl.length : Int) < _; omega⟩
theorem wrPs_cels {d : Cfg} {fr : InH} {p : Pg} {ps : List Pt} (hd : d.Ok) (hfr : fr.Ok d) (hp : PgOk d p) (hw : WrPs d fr p ps) : ∀ q, q ∈ ps → CelOk q.c := by
  obtain ⟨mid, hn, rfl⟩ := hw
  intro q hq
  have hb := hfr.word
  simp only [List.cons_append, List.mem_cons, List.mem_append, List.not_mem_nil, or_false] at hq
  rcases hq with rfl | hq | rfl
  · show 0 ≤ ltBegin fr.word ∧ ltBegin fr.word < 18446744073709551616
    unfold ltBegin
    split <;> omega
  · exact pgPts_cels hd hp q (hn.1.subset hq)
  · show 0 ≤ ltEnd (ltBegin fr.word) ∧ ltEnd (ltBegin fr.word) < 18446744073709551616
    unfold ltEnd
    rw [IntKind.wrap_u64]
    omega
/-- The cells behind Insert. -/
structure InsCels (d : Cfg) (fr : InH) (L L' : List Cel) (p : Pg) (sp : Bool) (q : Pg) : Prop where
  len : (L'.length : Int) = d.cells
  pg : Holds L' (pgPts d fr.id p)
  word : (getC L' (d.node fr.id 0)).n = ltEnd (ltBegin fr.word)
  n4 : sp = false → getC L' 4 = getC L 4
  new4 : sp = true → (getC L' 4).n = newId L
  npg : sp = true → Holds L' (pgPts d (newId L) q)
  nword : sp = true → (getC L' (d.node (newId L) 0)).n = ltLock 0
  other : ∀ j : Int, (j ≠ 4) → (∀ k : Int, 0 ≤ k → k < d.fa + 4 → j ≠ d.node fr.id k) → (sp = true → ∀ k : Int, 0 ≤ k → k < d.fa + 4 → j ≠ d.node (newId L) k) → getC L' j = getC L j
  cels : CelsOk L → CelsOk L'
theorem node_not4 {d : Cfg} (hd : d.Ok) {id : Int} (h1 : 1 ≤ id) (h2 : id ≤ d.no) : ∀ k : Int, 0 ≤ k → k < d.fa + 4 → (4 : Int) ≠ d.node id k := fun k k1 k2 => by
  have hA := hd.A_bd
  have f1 := hd.fa1
  have h := node_in hd h1 h2 k1 k2
  have h0 : 0 ≤ (id - 1) * (d.fa + 4) := Int.mul_nonneg (by omega) (by omega)
  omega
theorem wcase_end {d : Cfg} (hd : d.Ok) {fr : InH} {vf vu : Value} {fu p : Pg} {L L2 : List Cel} {x : InX} {ps : List Pt} (hfr : fr.Ok d) (hfu : FuOk d fr fu) (hn : fr.id ≤ (getC L 4).n) (hlen : (L.length : Int) = d.cells) (hx : Holds L (pgPts d fr.id fr.pg))
    (hc : WCase d fr vf fu vu L x p L2) (hw : WrPs d fr p ps) : InsCels d fr L (putAll L2 ps) p (decide (d.fa < (fu.sl.length : Int))) (splR fu) := by
  obtain ⟨h1, h2⟩ := hfr.id
  have hnew : newId L = (getC L 4).n + 1 := rfl
  have hno2 := hd.no2
  rcases hc with ⟨hle, rfl, rfl, rfl⟩ | ⟨hle, hno, _, rfl, rfl⟩
  · rw [decide_eq_false (by omega : ¬ d.fa < (p.sl.length : Int))]
    obtain ⟨e1, e2, e3⟩ := wr_end hd hw h1 h2 hle hlen hx
    exact ⟨by rw [putAll_length]; exact hlen, e1, e2, fun _ => e3 4 (node_not4 hd h1 h2), fun h => (by cases h), fun h => (by cases h), fun h => (by cases h), fun j _ hj _ => e3 j hj, fun hc => putAll_ok _ _ hc (wrPs_cels hd hfr (hfu.fit hle) hw)⟩
  · rw [decide_eq_true hle]
    have hr := (hfu.right hd).le
    obtain ⟨f1, f2, f3, f4⟩ := fr_end (fu := fu) hd (by omega) hno hr hlen
    have hlen2 : ((putAll (takL L) (frPts d fu L)).length : Int) = d.cells := by rw [putAll_length]; unfold takL; rw [putC_length]; exact hlen
    have hx2 : Holds (putAll (takL L) (frPts d fu L)) (pgPts d fr.id fr.pg) := fun q hq => by
      obtain ⟨k, k1, k2, e⟩ := pgPts_addr hd h1 h2 hfr.pg.le q hq
      rw [← hx q hq]
      refine f4 _ ?_ fun k' k1' k2' => ?_
      · rw [e]; exact (node_not4 hd h1 h2 k (by omega) k2).symm
      · rw [e]; exact node_apart hd h1 h2 (by omega) hno (by omega) k2 k1' k2' (by omega)
    obtain ⟨e1, e2, e3⟩ := wr_end hd hw h1 h2 (hfu.left hd ⟨by omega, by omega⟩).le hlen2 hx2
    have hap : ∀ k : Int, 0 ≤ k → k < d.fa + 4 → ∀ k' : Int, 0 ≤ k' → k' < d.fa + 4 → d.node (newId L) k ≠ d.node fr.id k' := fun k k1 k2 k' k1' k2' => node_apart hd (by omega) hno h1 h2 k1 k2 k1' k2' (by omega)
    have g1 := hd.fa1
    refine ⟨by rw [putAll_length]; exact hlen2, e1, e2, fun h => (by cases h), fun _ => ?_, fun _ q hq => ?_, fun _ => ?_, fun j h4 hj hk => ?_, fun hc => putAll_ok _ _ (putAll_ok _ _ (hc.put ⟨by show (0 : Int) ≤ newId L; omega, by show newId L < 18446744073709551616; omega⟩) (fun q hq => ?_)) (wrPs_cels hd hfr (hfu.left hd ⟨by omega, by omega⟩) hw)⟩
    rotate_left 4
    · rcases List.mem_cons.1 hq with rfl | hq
      · exact ⟨by show (0 : Int) ≤ ltLock 0; decide, by show ltLock 0 < (18446744073709551616 : Int); decide⟩
      · exact pgPts_cels hd (hfu.right hd) q hq
    · rw [e3 4 (node_not4 hd h1 h2), f3]
    · obtain ⟨k, k1, k2, e⟩ := pgPts_addr hd (by omega) hno hr q hq
      rw [← f1 q hq]
      refine e3 _ ?_
      rw [e]
      exact hap k (by omega) k2
    · rw [e3 _ (hap 0 (by omega) (by omega)), f2]
    · rw [e3 j hj, f4 j h4 (hk rfl)]
theorem insSl_mem {l : List Sl} {key : ByteArray} {r : Int} {s : Sl} (h : s ∈ insSl l key r) : s ∈ l ∨ s = ⟨key, r⟩ := by
  unfold insSl at h
  rcases List.mem_append.1 h with h | h
  · exact .inl (List.mem_of_mem_take h)
  · rcases List.mem_cons.1 h with h | h
    · exact .inr h
    · exact .inl (List.mem_of_mem_drop h)
theorem FuOk.ins {d : Cfg} {fr : InH} {key : ByteArray} {r : Int} (hpg : PgOk d fr.pg) (hk : ∀ s, s ∈ fr.pg.sl → s.k.size ≤ 1000000) (hkey : key.size ≤ 1000000) (hr : 0 ≤ r ∧ r < 18446744073709551616) : FuOk d fr (insPg fr.pg key r) := by
  refine ⟨rfl, ?_, fun s hs => ?_, fun s hs => ?_, hpg.hi, hpg.la, hpg.ri⟩
  · show ((insSl fr.pg.sl key r).length : Int) ≤ _
    rw [insSl_length]
    have := hpg.le
    omega
  · rcases insSl_mem hs with h | h
    · exact hpg.r s h
    · rw [h]; exact hr
  · rcases insSl_mem hs with h | h
    · exact hk s h
    · rw [h]; exact hkey
end Go.Proofs.YtlpdhhhgckpcfaaGreat
