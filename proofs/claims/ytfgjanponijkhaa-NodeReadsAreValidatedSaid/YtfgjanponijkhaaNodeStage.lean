/- What a writer's list makes of the cells (pure). -/
import Derived.Test.YtfgjanponijkhaaNodeW3
namespace Go.Proofs.Ytfgjanponijkhaa
open Go.RowKit
set_option linter.unusedSectionVars false

def putAll (L : List Cel) (ps : List Pt) : List Cel := ps.foldl (fun L p => putC L p.i p.c) L
theorem putAll_nil (L : List Cel) : putAll L [] = L := rfl
theorem putAll_cons (L : List Cel) (p : Pt) (ps : List Pt) : putAll L (p :: ps) = putAll (putC L p.i p.c) ps := rfl
theorem putAll_append (L : List Cel) (ps qs : List Pt) : putAll L (ps ++ qs) = putAll (putAll L ps) qs := by unfold putAll; rw [List.foldl_append]
theorem putAll_take {L : List Cel} {ps : List Pt} {k : Nat} {p : Pt} (h : ps[k]? = some p) : putAll L (ps.take (k + 1)) = putC (putAll L (ps.take k)) p.i p.c := by
  have hlt : k < ps.length := (List.getElem?_eq_some_iff.1 h).1
  rw [List.getElem?_eq_getElem hlt] at h
  rw [List.take_succ_eq_append_getElem hlt, Option.some.inj h, putAll_append]
  rfl
theorem putAll_length : ∀ (ps : List Pt) (L : List Cel), (putAll L ps).length = L.length
  | [], L => rfl
  | p :: ps, L => by rw [putAll_cons, putAll_length ps, putC_length]
theorem putAll_ok : ∀ (ps : List Pt) (L : List Cel), CelsOk L → (∀ p, p ∈ ps → CelOk p.c) → CelsOk (putAll L ps)
  | [], L, h, _ => h
  | p :: ps, L, h, hp => putAll_ok ps _ (h.put (hp p (by simp))) (fun q hq => hp q (by simp [hq]))
theorem putAll_other : ∀ (ps : List Pt) (L : List Cel) (j : Int), (∀ p, p ∈ ps → j ≠ p.i) → getC (putAll L ps) j = getC L j
  | [], L, j, _ => rfl
  | p :: ps, L, j, h => by rw [putAll_cons, putAll_other ps _ j (fun q hq => h q (by simp [hq]))]; exact getC_ne (h p (by simp))
theorem putAll_at : ∀ (ps : List Pt) (L : List Cel), (ps.map (·.i)).Nodup → (∀ p, p ∈ ps → 0 ≤ p.i ∧ p.i < L.length) → ∀ p, p ∈ ps → getC (putAll L ps) p.i = p.c
  | [], L, _, _, p, h => by simp at h
  | q :: ps, L, hn, hr, p, h => by
    rw [List.map_cons, List.nodup_cons] at hn
    rw [putAll_cons]
    rcases List.mem_cons.1 h with h1 | h1
    · subst h1
      rw [putAll_other ps _ _ (fun r hr' e => hn.1 (List.mem_map.2 ⟨r, hr', e.symm⟩))]
      have := hr p (by simp)
      exact getC_eq this.1 (by exact_mod_cast this.2)
    · exact putAll_at ps _ hn.2 (fun r hr' => by rw [putC_length]; exact hr r (by simp [hr'])) p h1

/-- The cells hold what the stores would put there. -/
def Holds (L : List Cel) (ps : List Pt) : Prop := ∀ p, p ∈ ps → getC L p.i = p.c

section
variable {d : Cfg} (hd : d.Ok) {id : Int} (h1 : 1 ≤ id) (h2 : id ≤ d.no)
include hd h1 h2
omit hd h1 h2 in
theorem slPts_addr : ∀ (l : List Sl) (i : Nat), (i + l.length : Int) ≤ d.fa → ∀ p, p ∈ slPts d id i l → ∃ j : Nat, i ≤ j ∧ j < i + l.length ∧ p.i = d.node id (4 + (j : Int))
  | [], _, _, p, hp => by simp [slPts] at hp
  | s :: l, i, hle, p, hp => by
    simp only [List.length_cons] at hle
    rcases List.mem_cons.1 hp with h | h
    · subst h
      refine ⟨i, Nat.le_refl _, by simp, ?_⟩
      show d.slot id i = _
      unfold Cfg.slot
      rw [if_pos ⟨by omega, by omega⟩]
    · obtain ⟨j, a, b, c⟩ := slPts_addr l (i + 1) (by omega) p h
      exact ⟨j, by omega, by simp; omega, c⟩
theorem slPts_nodup : ∀ (l : List Sl) (i : Nat), (i + l.length : Int) ≤ d.fa → ((slPts d id i l).map (·.i)).Nodup
  | [], _, _ => by simp [slPts]
  | s :: l, i, hle => by
    simp only [List.length_cons] at hle
    show (d.slot id i :: (slPts d id (i + 1) l).map (·.i)).Nodup
    rw [List.nodup_cons]
    refine ⟨fun hm => ?_, slPts_nodup l (i + 1) (by omega)⟩
    obtain ⟨p, hp, e⟩ := List.mem_map.1 hm
    obtain ⟨j, a, b, c⟩ := slPts_addr l (i + 1) (by omega) p hp
    have es : d.slot id i = d.node id (4 + (i : Int)) := by
      unfold Cfg.slot
      rw [if_pos ⟨by omega, by omega⟩]
    rw [c, es] at e
    exact node_ne hd h1 h2 (by omega) (by omega) (by omega) (by omega) (by omega) e
/-- The addresses of a page's cells: different ones, none of them the latch's. -/
theorem pgPts_addr {pg : Pg} (hle : (pg.sl.length : Int) ≤ d.fa) : ∀ p, p ∈ pgPts d id pg → ∃ k : Int, 1 ≤ k ∧ k < d.fa + 4 ∧ p.i = d.node id k := by
  intro p hp
  have f1 := hd.fa1
  rcases List.mem_append.1 hp with h | h
  · obtain ⟨j, a, b, c⟩ := slPts_addr pg.sl 0 (by omega) p h
    exact ⟨4 + (j : Int), by omega, by omega, c⟩
  · simp only [List.mem_cons, List.not_mem_nil, or_false] at h
    rcases h with h | h | h <;> subst h
    · exact ⟨2, by omega, by omega, rfl⟩
    · exact ⟨3, by omega, by omega, rfl⟩
    · exact ⟨1, by omega, by omega, rfl⟩
theorem pgPts_nodup {pg : Pg} (hle : (pg.sl.length : Int) ≤ d.fa) : ((pgPts d id pg).map (·.i)).Nodup := by
  have f1 := hd.fa1
  unfold pgPts
  rw [List.map_append, List.nodup_append]
  refine ⟨slPts_nodup hd h1 h2 pg.sl 0 (by omega), ?_, fun a ha b hb => ?_⟩
  · have e1 := node_ne hd h1 h2 (k := 2) (k' := 3) (by omega) (by omega) (by omega) (by omega) (by omega)
    have e2 := node_ne hd h1 h2 (k := 2) (k' := 1) (by omega) (by omega) (by omega) (by omega) (by omega)
    have e3 := node_ne hd h1 h2 (k := 3) (k' := 1) (by omega) (by omega) (by omega) (by omega) (by omega)
    simp [e1, e2, e3]
  · obtain ⟨p, hp, rfl⟩ := List.mem_map.1 ha
    obtain ⟨j, a1, b1, c⟩ := slPts_addr pg.sl 0 (by omega) p hp
    rw [c]
    simp only [List.map_cons, List.map_nil, List.mem_cons, List.not_mem_nil, or_false] at hb
    rcases hb with rfl | rfl | rfl <;> exact node_ne hd h1 h2 (by omega) (by omega) (by omega) (by omega) (by omega)

/-- Put lays them down. -/
theorem putPg_holds {L : List Cel} {pg : Pg} (hlen : (L.length : Int) = d.cells) (hle : (pg.sl.length : Int) ≤ d.fa) (hla : pg.la = true → pg.hi = ⟨#[]⟩) : Holds (putPg d id pg L) (pgPts d id pg) := by
  have f1 := hd.fa1
  have n1 := node_in hd h1 h2 (k := 1) (by omega) (by omega)
  have n2 := node_in hd h1 h2 (k := 2) (by omega) (by omega)
  have n3 := node_in hd h1 h2 (k := 3) (by omega) (by omega)
  have ne : ∀ (k : Int) (m : Nat), 0 ≤ k → k ≤ 3 → 0 ≤ m → m < 0 + pg.sl.length → d.node id k ≠ d.node id (4 + (m : Int)) := fun k m a b _ c => node_ne hd h1 h2 a (by omega) (by omega) (by omega) (by omega)
  intro p hp
  rcases List.mem_append.1 hp with h | h
  · have key : ∀ (l : List Sl) (i : Nat) (L' : List Cel), (L'.length : Int) = d.cells → (i + l.length : Int) ≤ d.fa → ∀ p, p ∈ slPts d id i l → getC (putSl d id i l L') p.i = p.c := by
      intro l
      induction l with
      | nil => intro i L' _ _ p hp; simp [slPts] at hp
      | cons s l ih =>
        intro i L' hl' hle' p hp
        simp only [List.length_cons] at hle'
        show getC (putSl d id (i + 1) l (putC L' (d.node id (4 + (i : Int))) ⟨s.r, s.k, 0⟩)) p.i = p.c
        rcases List.mem_cons.1 hp with h | h
        · subst h
          have es : d.slot id i = d.node id (4 + (i : Int)) := by
            unfold Cfg.slot
            rw [if_pos ⟨by omega, by omega⟩]
          show getC _ (d.slot id i) = _
          rw [es, putSl_other _ _ _ _ (fun k a b => node_ne hd h1 h2 (by omega) (by omega) (by omega) (by omega) (by omega))]
          have hi := node_in hd h1 h2 (k := 4 + (i : Int)) (by omega) (by omega)
          exact getC_eq hi.2.1 (by omega)
        · exact ih (i + 1) _ (by rw [putC_length]; exact hl') (by omega) p h
    exact key pg.sl 0 _ (by unfold put3; rw [putC_length, putC_length, putC_length]; exact hlen) (by omega) p h
  · simp only [List.mem_cons, List.not_mem_nil, or_false] at h
    unfold putPg
    rcases h with h | h | h <;> subst h
    · show getC _ (d.node id 2) = hiCel pg
      rw [putSl_other _ _ _ _ (fun k a b => ne 2 k (by omega) (by omega) a b)]
      unfold put3
      rw [getC_ne (node_ne hd h1 h2 (by omega) (by omega) (by omega) (by omega) (by omega)), getC_eq n2.2.1 (by rw [putC_length]; omega)]
      unfold hiCel
      cases hb : pg.la with
      | true => rw [hla hb]; rfl
      | false => rfl
    · show getC _ (d.node id 3) = _
      rw [putSl_other _ _ _ _ (fun k a b => ne 3 k (by omega) (by omega) a b)]
      unfold put3
      rw [getC_eq n3.2.1 (by rw [putC_length, putC_length]; omega)]
    · show getC _ (d.node id 1) = _
      rw [putSl_other _ _ _ _ (fun k a b => ne 1 k (by omega) (by omega) a b)]
      unfold put3
      rw [getC_ne (node_ne hd h1 h2 (by omega) (by omega) (by omega) (by omega) (by omega)), getC_ne (node_ne hd h1 h2 (by omega) (by omega) (by omega) (by omega) (by omega)), getC_eq n1.2.1 (by omega)]
omit hd h1 h2 in
theorem slPts_mem : ∀ (l : List Sl) (i0 i : Nat) (s : Sl), l[i]? = some s → (⟨d.slot id ((i0 + i : Nat) : Int), ⟨s.r, s.k, 0⟩⟩ : Pt) ∈ slPts d id i0 l
  | [], i0, i, s, h => by simp at h
  | x :: l, i0, 0, s, h => by
    simp at h; subst h
    exact List.mem_cons_self
  | x :: l, i0, i + 1, s, h => by
    have := slPts_mem l (i0 + 1) i s (by simpa using h)
    rw [show i0 + (i + 1) = i0 + 1 + i by omega]
    exact List.mem_cons_of_mem _ this
/-- Cells that hold a page say so. -/
theorem Holds.page {L : List Cel} {pg : Pg} (h : Holds L (pgPts d id pg)) (hle : (pg.sl.length : Int) ≤ d.fa) (hlev : 0 ≤ pg.lev ∧ pg.lev < 1000000) (hla : pg.la = true → pg.hi = ⟨#[]⟩) : PageAt d id L pg := by
  have e1 := h ⟨d.node id 1, ⟨pg.sl.length, ⟨#[]⟩, pg.lev⟩⟩ (by unfold pgPts; simp)
  have e2 := h ⟨d.node id 2, hiCel pg⟩ (by unfold pgPts; simp)
  have e3 := h ⟨d.node id 3, ⟨pg.ri, ⟨#[]⟩, 0⟩⟩ (by unfold pgPts; simp)
  simp only at e1 e2 e3
  refine ⟨by rw [e1], by rw [e1]; show wrap64 pg.lev = pg.lev; unfold wrap64; omega, ?_, ?_, by rw [e3], hle, fun i s hs => ?_⟩
  · rw [e2]; unfold hiCel
    cases hb : pg.la with
    | true => rw [hla hb]; rfl
    | false => rfl
  · rw [e2]; unfold hiCel
    cases hb : pg.la <;> rfl
  · have e := h _ (List.mem_append_left _ (slPts_mem pg.sl 0 i s hs) : _ ∈ pgPts d id pg)
    simp only [Nat.zero_add] at e
    rw [e]; exact ⟨rfl, rfl⟩

omit hd h1 h2 in
theorem nodup_inj {α β : Type} {f : α → β} : ∀ {l : List α}, (l.map f).Nodup → ∀ {a b : α}, a ∈ l → b ∈ l → f a = f b → a = b
  | [], _, a, b, ha, _, _ => by simp at ha
  | c :: l, hn, a, b, ha, hb, e => by
    rw [List.map_cons, List.nodup_cons] at hn
    rcases List.mem_cons.1 ha with h | h <;> rcases List.mem_cons.1 hb with h' | h'
    · rw [h, h']
    · subst h; exact absurd (List.mem_map.2 ⟨b, h', e.symm⟩) hn.1
    · subst h'; exact absurd (List.mem_map.2 ⟨a, h, e⟩) hn.1
    · exact nodup_inj hn.2 h h' e

/-- All stores: the new page. -/
theorem stage_end {L : List Cel} {x y : Pg} {mid : List Pt} {c0 c1 : Cel} (hx : Holds L (pgPts d id x)) (hnew : Newer (pgPts d id x) (pgPts d id y) mid) (hlen : (L.length : Int) = d.cells) (hley : (y.sl.length : Int) ≤ d.fa) :
    Holds (putAll L (⟨d.node id 0, c0⟩ :: mid ++ [⟨d.node id 0, c1⟩])) (pgPts d id y) := by
  intro p hp
  have f1 := hd.fa1
  obtain ⟨k, k1, k2, ek⟩ := pgPts_addr hd h1 h2 hley p hp
  have hne : p.i ≠ d.node id 0 := by rw [ek]; exact node_ne hd h1 h2 (by omega) k2 (by omega) (by omega) (by omega)
  have hnd := pgPts_nodup hd h1 h2 hley
  rw [List.cons_append, putAll_cons, putAll_append]
  show getC (putC _ (d.node id 0) c1) p.i = p.c
  rw [getC_ne hne]
  by_cases hm : p ∈ mid
  · refine putAll_at mid _ (hnd.sublist (hnew.1.map _)) (fun q hq => ?_) p hm
    obtain ⟨kq, kq1, kq2, eq⟩ := pgPts_addr hd h1 h2 hley q (hnew.1.subset hq)
    have := node_in hd h1 h2 (k := kq) (by omega) kq2
    rw [putC_length, eq]
    omega
  · have hpx : p ∈ pgPts d id x := Classical.byContradiction fun hn => hm (hnew.2 p hp hn)
    rw [putAll_other mid _ _ (fun q hq e => hm (by rw [nodup_inj hnd hp (hnew.1.subset hq) e]; exact hq)), getC_ne hne]
    exact hx p hpx
/-- In between: the latch's word is the first store's. -/
theorem stage_mid {L : List Cel} {y : Pg} {mid : List Pt} {c0 c1 : Cel} (hsub : mid.Sublist (pgPts d id y)) (hlen : (L.length : Int) = d.cells) (hley : (y.sl.length : Int) ≤ d.fa) {k : Nat} (hk : 1 ≤ k) (hk2 : k ≤ mid.length + 1) :
    getC (putAll L (List.take k (⟨d.node id 0, c0⟩ :: mid ++ [⟨d.node id 0, c1⟩]))) (d.node id 0) = c0 := by
  have f1 := hd.fa1
  obtain ⟨k, rfl⟩ : ∃ j, k = j + 1 := ⟨k - 1, by omega⟩
  rw [List.cons_append, List.take_succ_cons, List.take_append_of_le_length (by omega), putAll_cons]
  rw [putAll_other _ _ _ (fun q hq => ?_)]
  · have n0 := node_in hd h1 h2 (k := 0) (by omega) (by omega)
    show getC (putC L (d.node id 0) c0) (d.node id 0) = c0
    exact getC_eq n0.2.1 (by omega)
  · obtain ⟨kq, kq1, kq2, eq⟩ := pgPts_addr hd h1 h2 hley q (hsub.subset (List.mem_of_mem_take hq))
    rw [eq]
    exact node_ne hd h1 h2 (by omega) (by omega) (by omega) kq2 (by omega)
theorem stage_last {L : List Cel} {mid : List Pt} {c0 c1 : Cel} (hlen : (L.length : Int) = d.cells) : getC (putAll L (⟨d.node id 0, c0⟩ :: mid ++ [⟨d.node id 0, c1⟩])) (d.node id 0) = c1 := by
  have f1 := hd.fa1
  have n0 := node_in hd h1 h2 (k := 0) (by omega) (by omega)
  rw [putAll_append]
  show getC (putC _ (d.node id 0) c1) (d.node id 0) = c1
  exact getC_eq n0.2.1 (by rw [putAll_length]; omega)
end
theorem ltLock_bd {x : Int} (h0 : 0 ≤ x) (h1 : x < 18446744073709551616) : 0 ≤ ltLock x ∧ ltLock x < 18446744073709551616 := by
  unfold ltLock; split <;> omega
/-- A change gives another word. -/
theorem ltEnd_ne {x : Int} (h0 : 0 ≤ x) (h1 : x < 18446744073709551616) (h2 : ltChg x = false) : ltEnd (ltBegin x) ≠ x := by
  unfold ltChg at h2
  rw [decide_eq_false_iff_not] at h2
  have hx : x % 4 < 2 := by omega
  unfold ltEnd ltClear ltBegin
  rw [IntKind.wrap_u64, if_pos hx]
  split <;> omega
theorem ltLock_chg {x : Int} (h : ltChg x = false) : ltChg (ltLock x) = false := by
  unfold ltChg at *
  rw [decide_eq_false_iff_not] at *
  unfold ltLock
  split <;> omega
end Go.Proofs.Ytfgjanponijkhaa
