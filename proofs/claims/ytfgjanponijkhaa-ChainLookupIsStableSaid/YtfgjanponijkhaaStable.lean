/- A reader of a chain while one writer works on it: what the reader will answer does not change. -/
import Derived.Test.YtfgjanponijkhaaChainIn
namespace Go.Proofs.Ytfgjanponijkhaa
open Go.RowKit

/-- Every record refers to one with a lesser number. -/
def Desc : Int → List Ver → Prop
  | _, [] => True
  | n, v :: vs => v.r ≤ n ∧ Desc (v.r - 1) vs
theorem Desc.mono {n m : Int} {vs : List Ver} (h : Desc n vs) (hm : n ≤ m) : Desc m vs := by
  cases vs with
  | nil => trivial
  | cons v vs => exact ⟨by have := h.1; omega, h.2⟩
theorem Desc.le {vs : List Ver} : ∀ {n : Int}, Desc n vs → ∀ v, v ∈ vs → v.r ≤ n := by
  induction vs with
  | nil => intro n _ v hv; simp at hv
  | cons a vs ih =>
    intro n h v hv
    rcases List.mem_cons.1 hv with rfl | hv
    · exact h.1
    · have := ih h.2 v hv; have := h.1; omega
theorem Desc.map {f : Ver → Ver} (hf : ∀ v, (f v).r = v.r) {vs : List Ver} : ∀ {n : Int}, Desc n vs → Desc n (vs.map f) := by
  induction vs with
  | nil => intro n _; trivial
  | cons a vs ih => intro n h; exact ⟨by rw [hf]; exact h.1, by rw [hf]; exact ih h.2⟩
theorem Desc.nodup {vs : List Ver} : ∀ {n : Int}, Desc n vs → (vs.map Ver.r).Nodup := by
  induction vs with
  | nil => intro n _; simp
  | cons a vs ih =>
    intro n h
    rw [List.map_cons, List.nodup_cons]
    refine ⟨fun hm => ?_, ih h.2⟩
    obtain ⟨v, hv, e⟩ := List.mem_map.1 hm
    have := h.2.le v hv
    omega

/-! ### What a change of the cells does to linked versions -/
section
variable {d : Cfg} (hd : d.Ok) {L : List Cel} {tm : Int}
include hd
theorem linked_fresh {n r k : Int} {c : Cel} (hr : n < r) (hr1 : 1 ≤ r) (hr2 : r ≤ d.re) (hk : 0 ≤ k) (hk2 : k ≤ 2) {vs : List Ver} {x : Int} (h : Linked d L x vs) (hD : Desc n vs) : Linked d (putC L (d.record r k) c) x vs :=
  h.keep (fun v hv k' h1 h2 => getC_ne (record_ne hd (h.bd v hv).1 (h.bd v hv).2 h1 h2 hr1 hr2 hk hk2 (.inl (by have := hD.le v hv; omega))))
theorem linked_chain {ch : Int} (hch : 1 ≤ ch ∧ ch ≤ d.ch) {c : Cel} {vs : List Ver} {x : Int} (h : Linked d L x vs) : Linked d (putC L (d.chain ch) c) x vs :=
  h.keep (fun v hv k' h1 h2 => getC_ne (fun e => chain_ne_record hd hch.1 hch.2 (h.bd v hv).1 (h.bd v hv).2 h1 h2 e.symm))

def stampAt (r t : Int) (v : Ver) : Ver := if v.r = r then { v with st := t } else v
omit hd in
theorem stampAt_r (r t : Int) (v : Ver) : (stampAt r t v).r = v.r := by unfold stampAt; split <;> rfl
theorem linked_stamp (hlen : (L.length : Int) = d.cells) {r t : Int} (hr1 : 1 ≤ r) (hr2 : r ≤ d.re) (h0 : (getC L (d.record r 0)).n = 0) (ht : tm < t) : ∀ {vs : List Ver} {x : Int}, Linked d L x vs →
    Linked d (putC L (d.record r 0) ⟨t, ⟨#[]⟩, 0⟩) x (vs.map (stampAt r t)) ∧ vval tm (vs.map (stampAt r t)) = vval tm vs ∧ ∀ v, v ∈ vs → vis tm (stampAt r t v) = vis tm v := by
  have q := record_in hd hr1 hr2 (k := 0) (by omega) (by omega)
  have q0 := record_pos hd hr1 hr2 (k := 0) (by omega) (by omega)
  intro vs
  induction vs with
  | nil => intro x h; exact ⟨h, rfl, fun v hv => by simp at hv⟩
  | cons v vs ih =>
    intro x ⟨h1, ⟨h2, h3, h4, h5, h6⟩, h7⟩
    obtain ⟨i1, i2, i3⟩ := ih h7
    have g1 := getC_ne (L := L) (c := ⟨t, ⟨#[]⟩, 0⟩) (record_ne hd h2 h3 (k := 1) (by omega) (by omega) hr1 hr2 (k' := 0) (by omega) (by omega) (.inr (by omega)))
    have g2 := getC_ne (L := L) (c := ⟨t, ⟨#[]⟩, 0⟩) (record_ne hd h2 h3 (k := 2) (by omega) (by omega) hr1 hr2 (k' := 0) (by omega) (by omega) (.inr (by omega)))
    have hvis : vis tm (stampAt r t v) = vis tm v := by
      unfold stampAt
      split
      · rename_i e
        rw [e] at h4
        have hv0 : v.st = 0 := by rw [← h4]; exact h0
        unfold vis
        simp only
        rw [decide_eq_false (by omega), decide_eq_false (by omega)]
      · rfl
    have hkd : (stampAt r t v).k = v.k ∧ (stampAt r t v).del = v.del := by unfold stampAt; split <;> exact ⟨rfl, rfl⟩
    refine ⟨?_, ?_, fun u hu => ?_⟩
    · rw [List.map_cons]
      refine ⟨by rw [stampAt_r]; exact h1, ⟨by rw [stampAt_r]; exact h2, by rw [stampAt_r]; exact h3, ?_, ?_, ?_⟩, ?_⟩
      · rw [stampAt_r]
        unfold stampAt
        split
        · rename_i e
          rw [e, getC_eq q0 (by omega)]
        · rename_i e
          rw [getC_ne (record_ne hd h2 h3 (by omega) (by omega) hr1 hr2 (by omega) (by omega) (.inl e))]; exact h4
      · rw [stampAt_r, g1, hkd.1]; exact h5
      · rw [stampAt_r, g1, hkd.2]; exact h6
      · rw [stampAt_r, g2]; exact i1
    · rw [List.map_cons]
      unfold vval vfind
      rw [hvis]
      cases hv : vis tm v with
      | true => simp only [if_true]; rw [hkd.1, hkd.2]
      | false => simp only [Bool.false_eq_true, if_false]; exact i2
    · rcases List.mem_cons.1 hu with rfl | hu
      · exact hvis
      · exact i3 u hu
/-- A cut behind a version that the reader's time sees. -/
theorem linked_cut (hlen : (L.length : Int) = d.cells) {r : Int} (hr1 : 1 ≤ r) (hr2 : r ≤ d.re) (h0 : (getC L (d.record r 0)).n ≠ 0) (ht : (getC L (d.record r 0)).n ≤ tm) : ∀ {vs : List Ver} {x n : Int}, Linked d L x vs → Desc n vs →
    ∃ vs', Linked d (putC L (d.record r 2) Cel.zero) x vs' ∧ vval tm vs' = vval tm vs ∧ Desc n vs' ∧ List.Sublist vs' vs ∧ ∀ v ws, vs = v :: ws → ∃ ws', vs' = v :: ws' ∧ (vis tm v = false → vval tm ws' = vval tm ws) := by
  have q := record_in hd hr1 hr2 (k := 2) (by omega) (by omega)
  have q0 := record_pos hd hr1 hr2 (k := 2) (by omega) (by omega)
  intro vs
  induction vs with
  | nil => intro x n h _; exact ⟨[], h, rfl, trivial, .slnil, fun v ws e => by cases e⟩
  | cons v vs ih =>
    intro x n ⟨h1, ⟨h2, h3, h4, h5, h6⟩, h7⟩ hD
    obtain ⟨vs', i1, i2, i3, i4, _⟩ := ih h7 hD.2
    have g0 := getC_ne (L := L) (c := Cel.zero) (record_ne hd h2 h3 (k := 0) (by omega) (by omega) hr1 hr2 (k' := 2) (by omega) (by omega) (.inr (by omega)))
    have g1 := getC_ne (L := L) (c := Cel.zero) (record_ne hd h2 h3 (k := 1) (by omega) (by omega) hr1 hr2 (k' := 2) (by omega) (by omega) (.inr (by omega)))
    have hAt : VerAt d (putC L (d.record r 2) Cel.zero) v := ⟨h2, h3, by rw [g0]; exact h4, by rw [g1]; exact h5, by rw [g1]; exact h6⟩
    by_cases hr : v.r = r
    · have hv : vis tm v = true := by
        rw [← hr, h4] at h0 ht
        simp [vis]; exact ⟨h0, ht⟩
      refine ⟨[v], ⟨h1, hAt, ?_⟩, ?_, ⟨hD.1, trivial⟩, (List.nil_sublist vs).cons_cons v, fun v' ws e => ?_⟩
      · show (getC _ _).n = 0
        rw [hr, getC_eq q0 (by omega)]; rfl
      · unfold vval vfind; rw [if_pos hv, if_pos hv]
      · simp only [List.cons.injEq] at e
        obtain ⟨rfl, rfl⟩ := e
        exact ⟨[], rfl, fun e => by rw [hv] at e; cases e⟩
    · have g2 := getC_ne (L := L) (c := Cel.zero) (record_ne hd h2 h3 (k := 2) (by omega) (by omega) hr1 hr2 (k' := 2) (by omega) (by omega) (.inl hr))
      refine ⟨v :: vs', ⟨h1, hAt, by rw [g2]; exact i1⟩, ?_, ⟨hD.1, i3⟩, i4.cons_cons v, fun v' ws e => ?_⟩
      · unfold vval vfind
        cases hv : vis tm v with
        | true => rfl
        | false => simp only [Bool.false_eq_true, if_false]; exact i2
      · simp only [List.cons.injEq] at e
        obtain ⟨rfl, rfl⟩ := e
        exact ⟨vs', rfl, fun _ => i2⟩
end

/-! ### The reader -/
/-- What the reader's state has to do with the answer V that it will give. -/
def RdOk (d : Cfg) (tm : Int) (V : ByteArray × Bool) (n : Int) (L : List Cel) (s : ChS) : Prop :=
  (s.pc = 0 ∧ s = lk0) ∨
  (s.pc = 1 ∧ s.k = ⟨#[]⟩ ∧ s.ok = false ∧ ∃ v vs, Linked d L s.at' (v :: vs) ∧ Desc n (v :: vs) ∧ vval tm (v :: vs) = V) ∨
  (s.pc = 2 ∧ s.k = ⟨#[]⟩ ∧ s.ok = false ∧ ∃ v vs, Linked d L s.at' (v :: vs) ∧ Desc n (v :: vs) ∧ vis tm v = false ∧ vval tm vs = V) ∨
  (s.pc = 3 ∧ s.k = ⟨#[]⟩ ∧ s.ok = false ∧ ∃ v vs, Linked d L s.at' (v :: vs) ∧ Desc n (v :: vs) ∧ vis tm v = true ∧ vval tm (v :: vs) = V) ∨
  (s.pc = 4 ∧ s.k = V.1 ∧ s.ok = V.2)

/-- The chain, its list, and what the reader will find in it. -/
structure WMem (d : Cfg) (tm : Int) (V : ByteArray × Bool) (n : Int) (L : List Cel) (vs : List Ver) : Prop where
  c : ChOk d 1 L vs n
  desc : Desc n vs
  val : vval tm vs = V

section
variable {d : Cfg} (hd : d.Ok) {L : List Cel} {tm : Int} {V : ByteArray × Bool} {n : Int}

theorem rd_go {s : ChS} {x : Int} {vs : List Ver} (hl : Linked d L x vs) (hD : Desc n vs) (hv : vval tm vs = V) (hk : s.k = ⟨#[]⟩) (ho : s.ok = false) : RdOk d tm V n L (wkGo lkEnd s x) := by
  cases vs with
  | nil =>
    have : x = 0 := hl
    subst this
    refine .inr (.inr (.inr (.inr ⟨rfl, ?_, ?_⟩)))
    · rw [← hv]; exact hk
    · rw [← hv]; exact ho
  | cons v vs =>
    have hx : x ≠ 0 := by have := hl.1; have := hl.2.1.1; omega
    have e : wkGo lkEnd s x = { s with at' := x, pc := 1 } := by unfold wkGo; rw [if_neg hx]
    rw [e]
    exact .inr (.inl ⟨rfl, hk, ho, v, vs, hl, hD, hv⟩)
theorem RdOk.step {vs : List Ver} (hm : WMem d tm V n L vs) {s : ChS} (h : RdOk d tm V n L s) : RdOk d tm V n L (lkStep d 1 tm L s) := by
  rcases h with ⟨h, rfl⟩ | ⟨h, hk, ho, v, ws, hl, hD, hv⟩ | ⟨h, hk, ho, v, ws, hl, hD, hvs, hv⟩ | ⟨h, hk, ho, v, ws, hl, hD, hvs, hv⟩ | ⟨h, hk, ho⟩
  · have e : lkStep d 1 tm L lk0 = wkGo lkEnd { lk0 with first := true } (getC L (d.chain 1)).n := rfl
    rw [e]
    exact rd_go hm.c.link hm.desc hm.val rfl rfl
  · have e : lkStep d 1 tm L s = wkStep lkEnd d 1 tm L s := by unfold lkStep; rw [if_pos (by omega)]
    obtain ⟨l1, ⟨l2, l3, l4, l5, l6⟩, l7⟩ := id hl
    have l4' : (getC L (d.record s.at' 0)).n = v.st := by rw [l1]; exact l4
    rw [e, wkStep_1 h, l4']
    split
    · rename_i hvis
      have ea : lkEnd s = { s with pc := 3 } := by unfold lkEnd; rw [if_neg (by omega)]
      rw [ea]
      exact .inr (.inr (.inr (.inl ⟨rfl, hk, ho, v, ws, hl, hD, by simpa [vis] using hvis, hv⟩)))
    · rename_i hvis
      have hv2 : vis tm v = false := by simpa [vis] using hvis
      refine .inr (.inr (.inl ⟨rfl, hk, ho, v, ws, hl, hD, hv2, ?_⟩))
      rw [← hv]
      unfold vval
      rw [show vfind tm (v :: ws) = vfind tm ws by simp [vfind, hv2]]
  · have e : lkStep d 1 tm L s = wkStep lkEnd d 1 tm L s := by unfold lkStep; rw [if_pos (by omega)]
    obtain ⟨l1, ⟨l2, l3, l4, l5, l6⟩, l7⟩ := hl
    rw [e, wkStep_2 h, l1]
    exact rd_go l7 (hD.2.mono (by have := hD.1; omega)) hv hk ho
  · obtain ⟨l1, ⟨l2, l3, l4, l5, l6⟩, l7⟩ := hl
    have e : lkStep d 1 tm L s = if v.del = true then { s with pc := 4, ok := false } else { s with pc := 4, ok := true, k := v.k } := by
      unfold lkStep
      rw [if_neg (by omega), if_pos h, l1, l5, l6]
      cases v.del <;> simp [b01]
    have hV : V = if v.del = true then (⟨#[]⟩, false) else (v.k, true) := by
      rw [← hv]; unfold vval vfind; rw [if_pos hvs]
    rw [e, hV]
    cases v.del with
    | true => exact .inr (.inr (.inr (.inr ⟨rfl, hk, rfl⟩)))
    | false => exact .inr (.inr (.inr (.inr ⟨rfl, rfl, rfl⟩)))
  · have e : lkStep d 1 tm L s = s := lk_fix h
    rw [e]
    exact .inr (.inr (.inr (.inr ⟨h, hk, ho⟩)))

/-- How many steps the reader has still to make at most. -/
def rdLeft (n : Int) (s : ChS) : Nat :=
  match s.pc with
  | 0 => (2 * n + 4).toNat
  | 1 => (2 * s.at' + 2).toNat
  | 2 => (2 * s.at' + 1).toNat
  | 3 => 1
  | _ => 0
theorem RdOk.left {vs : List Ver} (hn : 0 ≤ n) (hm : WMem d tm V n L vs) {s : ChS} (h : RdOk d tm V n L s) : (4 ≤ (lkStep d 1 tm L s).pc) ∨ rdLeft n (lkStep d 1 tm L s) < rdLeft n s := by
  have go : ∀ (s : ChS) (x : Int) (ws : List Ver) (m : Int), Linked d L x ws → Desc m ws → 0 ≤ m → 4 ≤ (wkGo lkEnd s x).pc ∨ rdLeft n (wkGo lkEnd s x) < (2 * m + 3).toNat := by
    intro s x ws m hl hD hm0
    cases ws with
    | nil =>
      have : x = 0 := hl
      subst this
      exact .inl (Nat.le_refl 4)
    | cons v ws =>
      have h1 := hl.1; have h2 := hl.2.1.1; have h3 := hD.1
      have e : wkGo lkEnd s x = { s with at' := x, pc := 1 } := by unfold wkGo; rw [if_neg (by omega)]
      rw [e]
      refine .inr ?_
      show (2 * x + 2).toNat < _
      omega
  rcases h with ⟨h, rfl⟩ | ⟨h, hk, ho, v, ws, hl, hD, hv⟩ | ⟨h, hk, ho, v, ws, hl, hD, hvs, hv⟩ | ⟨h, hk, ho, v, ws, hl, hD, hvs, hv⟩ | ⟨h, hk, ho⟩
  · have e : lkStep d 1 tm L lk0 = wkGo lkEnd { lk0 with first := true } (getC L (d.chain 1)).n := rfl
    rw [e]
    rcases go { lk0 with first := true } _ vs n hm.c.link hm.desc hn with h | h
    · exact .inl h
    · refine .inr ?_
      have e2 : rdLeft n lk0 = (2 * n + 4).toNat := rfl
      rw [e2]; omega
  · have e : lkStep d 1 tm L s = wkStep lkEnd d 1 tm L s := by unfold lkStep; rw [if_pos (by omega)]
    have h1 := hl.1; have h2 := hl.2.1.1
    rw [e, wkStep_1 h]
    have e2 : rdLeft n s = (2 * s.at' + 2).toNat := by simp only [rdLeft, h]
    rw [e2]
    split
    · have ea : lkEnd s = { s with pc := 3 } := by unfold lkEnd; rw [if_neg (by omega)]
      rw [ea]
      refine .inr ?_
      show 1 < _
      omega
    · refine .inr ?_
      show (2 * s.at' + 1).toNat < _
      omega
  · have e : lkStep d 1 tm L s = wkStep lkEnd d 1 tm L s := by unfold lkStep; rw [if_pos (by omega)]
    have h1 := hl.1; have h2 := hl.2.1.1
    have h7 : Linked d L (getC L (d.record s.at' 2)).n ws := by rw [h1]; exact hl.2.2
    rw [e, wkStep_2 h]
    have e2 : rdLeft n s = (2 * s.at' + 1).toNat := by simp only [rdLeft, h]
    rw [e2]
    rcases go { s with first := false } _ ws (v.r - 1) h7 hD.2 (by omega) with h | h
    · exact .inl h
    · exact .inr (by omega)
  · left
    unfold lkStep
    rw [if_neg (by omega), if_pos h]
    split <;> exact Nat.le_refl 4
  · left
    rw [lk_fix h, h]
    exact Nat.le_refl 4
theorem RdOk.end_ {s : ChS} (h : RdOk d tm V n L s) (h4 : 4 ≤ s.pc) : s.k = V.1 ∧ s.ok = V.2 := by
  rcases h with ⟨h, _⟩ | ⟨h, _⟩ | ⟨h, _⟩ | ⟨h, _⟩ | ⟨h, hk, ho⟩
  · omega
  · omega
  · omega
  · omega
  · exact ⟨hk, ho⟩
theorem RdOk.bound (hn : 0 ≤ n) {s : ChS} (h : RdOk d tm V n L s) : rdLeft n s ≤ (2 * n + 4).toNat := by
  rcases h with ⟨h, _⟩ | ⟨h, hk, ho, v, ws, hl, hD, hv⟩ | ⟨h, hk, ho, v, ws, hl, hD, hvs, hv⟩ | ⟨h, _⟩ | ⟨h, hk, ho⟩
  · unfold rdLeft; rw [h]; exact Nat.le_refl _
  · unfold rdLeft; rw [h]; have := hl.1; have := hD.1; simp only; omega
  · unfold rdLeft; rw [h]; have := hl.1; have := hD.1; simp only; omega
  · unfold rdLeft; rw [h]; simp only; omega
  · unfold rdLeft; rw [h]; simp only; omega

/-- The reader's state stays right under a change of the cells that keeps the lists. -/
theorem RdOk.keep {n' : Int} {L' : List Cel} (hk : ∀ x v vs, Linked d L x (v :: vs) → Desc n (v :: vs) → ∃ v' vs', Linked d L' x (v' :: vs') ∧ Desc n' (v' :: vs') ∧ vval tm (v' :: vs') = vval tm (v :: vs) ∧ vis tm v' = vis tm v ∧ (vis tm v = false → vval tm vs' = vval tm vs)) {s : ChS} (h : RdOk d tm V n L s) : RdOk d tm V n' L' s := by
  rcases h with h | ⟨h, h1, h2, v, ws, hl, hD, hv⟩ | ⟨h, h1, h2, v, ws, hl, hD, hvs, hv⟩ | ⟨h, h1, h2, v, ws, hl, hD, hvs, hv⟩ | h
  · exact .inl h
  · obtain ⟨v', ws', a, b, c, e, f⟩ := hk _ _ _ hl hD
    exact .inr (.inl ⟨h, h1, h2, v', ws', a, b, c.trans hv⟩)
  · obtain ⟨v', ws', a, b, c, e, f⟩ := hk _ _ _ hl hD
    exact .inr (.inr (.inl ⟨h, h1, h2, v', ws', a, b, e.trans hvs, (f hvs).trans hv⟩))
  · obtain ⟨v', ws', a, b, c, e, f⟩ := hk _ _ _ hl hD
    exact .inr (.inr (.inr (.inl ⟨h, h1, h2, v', ws', a, b, e.trans hvs, c.trans hv⟩)))
  · exact .inr (.inr (.inr (.inr h)))

include hd
/-! ### What the writer does -/
theorem WMem.put {vs : List Ver} (hd1 : 1 ≤ d.ch) (h : WMem d tm V n L vs) {r : Int} (hr : n < r) (hr1 : 1 ≤ r) (hr2 : r ≤ d.re) {k : Int} (hk : 1 ≤ k) (hk2 : k ≤ 2) {c : Cel} (hc : CelOk c) :
    WMem d tm V n (putC L (d.record r k) c) vs ∧ ∀ s, RdOk d tm V n L s → RdOk d tm V n (putC L (d.record r k) c) s :=
  ⟨⟨h.c.put hd ⟨by omega, hd1⟩ hr hr1 hr2 hk hk2 hc, h.desc, h.val⟩, fun _ hs => hs.keep (fun _ v vs hl hD => ⟨v, vs, linked_fresh hd hr hr1 hr2 (by omega) hk2 hl hD, hD, rfl, rfl, fun _ => rfl⟩)⟩
theorem WMem.top {vs : List Ver} (hd1 : 1 ≤ d.ch) (h : WMem d tm V n L vs) {r : Int} (hr : n < r) (hr1 : 1 ≤ r) (hr2 : r ≤ d.re) {k : ByteArray} {del : Bool} (h1 : getC L (d.record r 1) = valC k del) (h0 : del = true → k = ⟨#[]⟩) (h2 : (getC L (d.record r 2)).n = (getC L (d.chain 1)).n) :
    WMem d tm V r (putC L (d.chain 1) ⟨r, ⟨#[]⟩, 0⟩) (⟨r, 0, k, del⟩ :: vs) ∧ ∀ s, RdOk d tm V n L s → RdOk d tm V r (putC L (d.chain 1) ⟨r, ⟨#[]⟩, 0⟩) s :=
  ⟨⟨h.c.top hd ⟨by omega, hd1⟩ hr hr1 hr2 h1 h0 h2, ⟨Int.le_refl _, h.desc.mono (by show n ≤ r - 1; omega)⟩, by rw [vval_pending]; exact h.val⟩,
    fun _ hs => hs.keep (fun _ v vs hl hD => ⟨v, vs, linked_chain hd ⟨by omega, hd1⟩ hl, hD.mono (by omega), rfl, rfl, fun _ => rfl⟩)⟩
theorem WMem.stamp {v : Ver} {vs : List Ver} (hd1 : 1 ≤ d.ch) (h : WMem d tm V n L (v :: vs)) (h0 : v.st = 0) {t : Int} (ht : 0 ≤ t ∧ t < 18446744073709551616) (htm : tm < t) :
    WMem d tm V n (putC L (d.record v.r 0) ⟨t, ⟨#[]⟩, 0⟩) ({ v with st := t } :: vs) ∧ ∀ s, RdOk d tm V n L s → RdOk d tm V n (putC L (d.record v.r 0) ⟨t, ⟨#[]⟩, 0⟩) s := by
  obtain ⟨l1, ⟨l2, l3, l4, l5, l6⟩, l7⟩ := h.c.link
  refine ⟨⟨h.c.stamp hd ⟨by omega, hd1⟩ ht, ⟨h.desc.1, h.desc.2⟩, ?_⟩, fun s hs => hs.keep (fun x u us hl hD => ?_)⟩
  · rw [← h.val]
    unfold vval
    rw [show vfind tm ({ v with st := t } :: vs) = vfind tm vs by simp [vfind, vis]; omega, show vfind tm (v :: vs) = vfind tm vs by simp [vfind, vis, h0]]
  · obtain ⟨q1, q2, q3⟩ := linked_stamp hd (tm := tm) h.c.len l2 l3 (by rw [l4]; exact h0) htm hl
    obtain ⟨p1, p2, _⟩ := linked_stamp hd (tm := tm) h.c.len l2 l3 (by rw [l4]; exact h0) htm hl.2.2
    exact ⟨stampAt v.r t u, us.map (stampAt v.r t), q1, hD.map (stampAt_r v.r t), q2, q3 u (by simp), fun _ => p2⟩
theorem WMem.back {v : Ver} {vs : List Ver} (hd1 : 1 ≤ d.ch) (h : WMem d tm V n L (v :: vs)) (h0 : v.st = 0) {old : Int} (ho : old = (getC L (d.record v.r 2)).n) :
    WMem d tm V n (putC L (d.chain 1) ⟨old, ⟨#[]⟩, 0⟩) vs ∧ ∀ s, RdOk d tm V n L s → RdOk d tm V n (putC L (d.chain 1) ⟨old, ⟨#[]⟩, 0⟩) s := by
  refine ⟨⟨h.c.back hd ⟨by omega, hd1⟩ ho, h.desc.2.mono (by have := h.desc.1; omega), ?_⟩, fun _ hs => hs.keep (fun _ v vs hl hD => ⟨v, vs, linked_chain hd ⟨by omega, hd1⟩ hl, hD, rfl, rfl, fun _ => rfl⟩)⟩
  rw [← h.val]
  unfold vval
  rw [show vfind tm (v :: vs) = vfind tm vs by simp [vfind, vis, h0]]
theorem WMem.cut {vs : List Ver} (h : WMem d tm V n L vs) {r : Int} (h0 : (getC L (d.record r 0)).n ≠ 0) (ht : (getC L (d.record r 0)).n ≤ tm) :
    (∃ vs', WMem d tm V n (putC L (d.record r 2) Cel.zero) vs' ∧ List.Sublist vs' vs) ∧ ∀ s, RdOk d tm V n L s → RdOk d tm V n (putC L (d.record r 2) Cel.zero) s := by
  have hr : 1 ≤ r ∧ r ≤ d.re := by
    by_cases hr : 1 ≤ r ∧ r ≤ d.re
    · exact hr
    · have : d.record r 0 = -1 := by unfold Cfg.record; rw [if_neg hr]
      rw [this, getC_neg (by omega)] at h0
      exact absurd rfl h0
  have q0 := record_pos hd hr.1 hr.2 (k := 2) (by omega) (by omega)
  refine ⟨?_, fun s hs => hs.keep (fun x u us hl hD => ?_)⟩
  · obtain ⟨vs', i1, i2, i3, i4, _⟩ := linked_cut hd (tm := tm) h.c.len hr.1 hr.2 h0 ht h.c.link h.desc
    have hci : d.ch = d.ch := rfl
    refine ⟨vs', ⟨⟨by rw [putC_length]; exact h.c.len, h.c.ok.put ⟨by decide, by decide⟩, ?_, fun v hv => h.c.le v (i4.subset hv), h.c.nd.sublist (i4.map _), fun r' a1 a2 => ?_⟩, i3, i2.trans h.val⟩, i4⟩
    · have : getC (putC L (d.record r 2) Cel.zero) (d.chain 1) = getC L (d.chain 1) := by
        by_cases hc : 1 ≤ d.ch
        · exact getC_ne (chain_ne_record hd (by omega) hc hr.1 hr.2 (by omega) (by omega))
        · have : d.chain 1 = -1 := by unfold Cfg.chain; rw [if_neg (by omega)]
          rw [this, getC_neg (by omega), getC_neg (by omega)]
      rw [this]; exact i1
    · by_cases h1 : 1 ≤ r'
      · rw [getC_ne (record_ne hd h1 a2 (by omega) (by omega) hr.1 hr.2 (by omega) (by omega) (.inr (by omega)))]; exact h.c.fresh r' a1 a2
      · have : d.record r' 0 = -1 := by unfold Cfg.record; rw [if_neg (by omega)]
        rw [this, getC_neg (by omega)]; rfl
  · obtain ⟨vs', i1, i2, i3, i4, i5⟩ := linked_cut hd (tm := tm) h.c.len hr.1 hr.2 h0 ht hl hD
    obtain ⟨ws', rfl, i6⟩ := i5 u us rfl
    exact ⟨u, ws', i1, i3, i2, rfl, i6⟩
end
end Go.Proofs.Ytfgjanponijkhaa
