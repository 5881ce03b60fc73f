/- Install, Stamp and Restore as functions of the cells; what they do to a chain. -/
import Derived.Test.YtfgjanponijkhaaChainLaw
namespace Go.Proofs.Ytfgjanponijkhaa
open Go.RowKit

structure InS where
  pc : Nat
  old : Int
/-- Install: 0 load, 1 value, 2 next, 3 link, 4 done. -/
def inStep (d : Cfg) (ch r : Int) (c : Cel) (p : InS × List Cel) : InS × List Cel :=
  match p.1.pc with
  | 0 => (⟨1, (getC p.2 (d.chain ch)).n⟩, p.2)
  | 1 => (⟨2, p.1.old⟩, putC p.2 (d.record r 1) c)
  | 2 => (⟨3, p.1.old⟩, putC p.2 (d.record r 2) ⟨p.1.old, ⟨#[]⟩, 0⟩)
  | 3 => (⟨4, p.1.old⟩, putC p.2 (d.chain ch) ⟨r, ⟨#[]⟩, 0⟩)
  | _ => p
theorem in_fix {d : Cfg} {ch r : Int} {c : Cel} {p : InS × List Cel} (h : 4 ≤ p.1.pc) : inStep d ch r c p = p := by
  unfold inStep
  split <;> first | rfl | omega

/-- The cell of a write's value. -/
def valC (k : ByteArray) (del : Bool) : Cel := if del then ⟨0, ⟨#[]⟩, 1⟩ else ⟨0, k, 0⟩

/-- The chain and what it leans on: n records have been used. -/
structure ChOk (d : Cfg) (ch : Int) (L : List Cel) (vs : List Ver) (n : Int) : Prop where
  len : (L.length : Int) = d.cells
  ok : CelsOk L
  link : Linked d L (getC L (d.chain ch)).n vs
  le : ∀ v, v ∈ vs → v.r ≤ n
  nd : (vs.map Ver.r).Nodup
  fresh : ∀ r, n < r → r ≤ d.re → (getC L (d.record r 0)).n = 0

section
variable {d : Cfg} (hd : d.Ok) {ch : Int} (hch : 1 ≤ ch ∧ ch ≤ d.ch) {L : List Cel} {vs : List Ver} {n r : Int}
include hd hch
theorem ChOk.put (h : ChOk d ch L vs n) (hr : n < r) (hr1 : 1 ≤ r) (hr2 : r ≤ d.re) {k : Int} (hk : 1 ≤ k) (hk2 : k ≤ 2) {c : Cel} (hc : CelOk c) : ChOk d ch (putC L (d.record r k) c) vs n := by
  have e : getC (putC L (d.record r k) c) (d.chain ch) = getC L (d.chain ch) := getC_ne (chain_ne_record hd hch.1 hch.2 hr1 hr2 (by omega) (by omega))
  refine ⟨by rw [putC_length]; exact h.len, h.ok.put hc, ?_, h.le, h.nd, fun r' h1 h2 => ?_⟩
  · rw [e]
    refine h.link.keep (fun v hv k' h1 h2 => getC_ne ?_)
    have b := h.link.bd v hv
    have := h.le v hv
    exact record_ne hd b.1 b.2 h1 h2 hr1 hr2 (by omega) (by omega) (.inl (by omega))
  · by_cases h0 : 1 ≤ r'
    · rw [getC_ne (record_ne hd h0 h2 (by omega) (by omega) hr1 hr2 (by omega) (by omega) (.inr (by omega)))]; exact h.fresh r' h1 h2
    · have : d.record r' 0 = -1 := by unfold Cfg.record; rw [if_neg (by omega)]
      rw [this, getC_neg (by omega)]; rfl
/-- A pending version on top. -/
theorem ChOk.top (h : ChOk d ch L vs n) (hr : n < r) (hr1 : 1 ≤ r) (hr2 : r ≤ d.re) {k : ByteArray} {del : Bool} (h1 : getC L (d.record r 1) = valC k del) (h0 : del = true → k = ⟨#[]⟩) (h2 : (getC L (d.record r 2)).n = (getC L (d.chain ch)).n) :
    ChOk d ch (putC L (d.chain ch) ⟨r, ⟨#[]⟩, 0⟩) (⟨r, 0, k, del⟩ :: vs) r := by
  have hci := chain_in hd hch.1 hch.2
  have hC := hd.C_bd
  have hcl := hd.cells_bd
  have e : getC (putC L (d.chain ch) ⟨r, ⟨#[]⟩, 0⟩) (d.chain ch) = ⟨r, ⟨#[]⟩, 0⟩ := getC_eq hci.2.1 (by have := h.len; omega)
  have hrec : ∀ (r' k' : Int), 1 ≤ r' → r' ≤ d.re → 0 ≤ k' → k' ≤ 2 → getC (putC L (d.chain ch) ⟨r, ⟨#[]⟩, 0⟩) (d.record r' k') = getC L (d.record r' k') := fun r' k' a1 a2 a3 a4 => getC_ne (fun e => chain_ne_record hd hch.1 hch.2 a1 a2 a3 a4 e.symm)
  refine ⟨by rw [putC_length]; exact h.len, h.ok.put ⟨by show 0 ≤ r; omega, by show r < _; have := hd.re2; omega⟩, ?_, ?_, ?_, fun r' a1 a2 => ?_⟩
  · rw [e]
    refine ⟨rfl, ⟨hr1, hr2, ?_, ?_, ?_⟩, ?_⟩
    · rw [hrec r 0 hr1 hr2 (by omega) (by omega)]; exact h.fresh r hr hr2
    · rw [hrec r 1 hr1 hr2 (by omega) (by omega), h1]
      cases del with
      | false => rfl
      | true => rw [h0 rfl]; rfl
    · rw [hrec r 1 hr1 hr2 (by omega) (by omega), h1]; cases del <;> rfl
    · rw [hrec r 2 hr1 hr2 (by omega) (by omega), h2]
      exact h.link.keep (fun v hv k' a1 a2 => hrec v.r k' (h.link.bd v hv).1 (h.link.bd v hv).2 a1 a2)
  · intro v hv
    rcases List.mem_cons.1 hv with rfl | hv
    · exact Int.le_refl _
    · have := h.le v hv; omega
  · rw [List.map_cons, List.nodup_cons]
    refine ⟨fun hm => ?_, h.nd⟩
    obtain ⟨v, hv, e⟩ := List.mem_map.1 hm
    have := h.le v hv
    simp only at e
    omega
  · by_cases h0 : 1 ≤ r'
    · rw [hrec r' 0 h0 a2 (by omega) (by omega)]; exact h.fresh r' (by omega) a2
    · omega
/-- It is stamped. -/
theorem ChOk.stamp {v : Ver} (h : ChOk d ch L (v :: vs) n) {t : Int} (ht : 0 ≤ t ∧ t < 18446744073709551616) : ChOk d ch (putC L (d.record v.r 0) ⟨t, ⟨#[]⟩, 0⟩) ({ v with st := t } :: vs) n := by
  obtain ⟨l1, ⟨l2, l3, l4, l5, l6⟩, l7⟩ := h.link
  have q := record_in hd l2 l3 (k := 0) (by omega) (by omega)
  have q0 := record_pos hd l2 l3 (k := 0) (by omega) (by omega)
  have e : getC (putC L (d.record v.r 0) ⟨t, ⟨#[]⟩, 0⟩) (d.chain ch) = getC L (d.chain ch) := getC_ne (chain_ne_record hd hch.1 hch.2 l2 l3 (by omega) (by omega))
  have hnd := h.nd
  rw [List.map_cons, List.nodup_cons] at hnd
  refine ⟨by rw [putC_length]; exact h.len, h.ok.put ht, ?_, ?_, h.nd, fun r' a1 a2 => ?_⟩
  · rw [e, l1]
    refine ⟨rfl, ⟨l2, l3, ?_, ?_, ?_⟩, ?_⟩
    · rw [getC_eq q0 (by have := h.len; omega)]
    · rw [getC_ne (record_ne hd l2 l3 (by omega) (by omega) l2 l3 (by omega) (by omega) (.inr (by omega)))]; exact l5
    · rw [getC_ne (record_ne hd l2 l3 (by omega) (by omega) l2 l3 (by omega) (by omega) (.inr (by omega)))]; exact l6
    · rw [getC_ne (record_ne hd l2 l3 (by omega) (by omega) l2 l3 (by omega) (by omega) (.inr (by omega)))]
      refine l7.keep (fun v' hv' k' a1 a2 => getC_ne ?_)
      have b := l7.bd v' hv'
      exact record_ne hd b.1 b.2 a1 a2 l2 l3 (by omega) (by omega) (.inl (fun e => hnd.1 (by rw [← e]; exact List.mem_map_of_mem hv')))
  · intro v' hv'
    rcases List.mem_cons.1 hv' with rfl | hv'
    · exact h.le v (by simp)
    · exact h.le v' (by simp [hv'])
  · have := h.le v (by simp)
    by_cases h0 : 1 ≤ r'
    · rw [getC_ne (record_ne hd h0 a2 (by omega) (by omega) l2 l3 (by omega) (by omega) (.inl (by omega)))]; exact h.fresh r' a1 a2
    · omega
/-- It is taken back. -/
theorem ChOk.back {v : Ver} (h : ChOk d ch L (v :: vs) n) {old : Int} (ho : old = (getC L (d.record v.r 2)).n) : ChOk d ch (putC L (d.chain ch) ⟨old, ⟨#[]⟩, 0⟩) vs n := by
  have hci := chain_in hd hch.1 hch.2
  have hC := hd.C_bd
  have hcl := hd.cells_bd
  obtain ⟨l1, ⟨l2, l3, l4, l5, l6⟩, l7⟩ := h.link
  have e : getC (putC L (d.chain ch) ⟨old, ⟨#[]⟩, 0⟩) (d.chain ch) = ⟨old, ⟨#[]⟩, 0⟩ := getC_eq hci.2.1 (by have := h.len; omega)
  have hrec : ∀ (r' k' : Int), 1 ≤ r' → r' ≤ d.re → 0 ≤ k' → k' ≤ 2 → getC (putC L (d.chain ch) ⟨old, ⟨#[]⟩, 0⟩) (d.record r' k') = getC L (d.record r' k') := fun r' k' a1 a2 a3 a4 => getC_ne (fun e => chain_ne_record hd hch.1 hch.2 a1 a2 a3 a4 e.symm)
  have hnd := h.nd
  rw [List.map_cons, List.nodup_cons] at hnd
  refine ⟨by rw [putC_length]; exact h.len, h.ok.put (by rw [ho]; exact h.ok _), ?_, fun v' hv' => h.le v' (by simp [hv']), hnd.2, fun r' a1 a2 => ?_⟩
  · rw [e]
    show Linked d _ old vs
    rw [← ho] at l7
    exact l7.keep (fun v hv k' a1 a2 => hrec v.r k' (l7.bd v hv).1 (l7.bd v hv).2 a1 a2)
  · by_cases h0 : 1 ≤ r'
    · rw [hrec r' 0 h0 a2 (by omega) (by omega)]; exact h.fresh r' a1 a2
    · have : d.record r' 0 = -1 := by unfold Cfg.record; rw [if_neg (by omega)]
      rw [this, getC_neg (by omega)]; rfl
omit hch in
/-- A cut leaves it. -/
theorem ChOk.cut {vs' : List Ver} {L' : List Cel} (h : ChOk d ch L vs n) (hc : CutOf d L vs L') (hl : Linked d L' (getC L' (d.chain ch)).n vs') (hs : List.Sublist vs' vs) : ChOk d ch L' vs' n := by
  rcases hc with rfl | ⟨v, hv, rfl⟩
  · exact ⟨h.len, h.ok, hl, fun v hv => h.le v (hs.subset hv), h.nd.sublist (hs.map _), h.fresh⟩
  · have b := h.link.bd v hv
    refine ⟨by rw [putC_length]; exact h.len, h.ok.put ⟨by decide, by decide⟩, hl, fun v hv => h.le v (hs.subset hv), h.nd.sublist (hs.map _), fun r' a1 a2 => ?_⟩
    by_cases h0 : 1 ≤ r'
    · rw [getC_ne (record_ne hd h0 a2 (by omega) (by omega) b.1 b.2 (by omega) (by omega) (.inr (by omega)))]; exact h.fresh r' a1 a2
    · have : d.record r' 0 = -1 := by unfold Cfg.record; rw [if_neg (by omega)]
      rw [this, getC_neg (by omega)]; rfl
/-- All of Install, step by step: the chain stays as it was until the last step. -/
theorem in_steps (h : ChOk d ch L vs n) (hr : n < r) (hr1 : 1 ≤ r) (hr2 : r ≤ d.re) {k : ByteArray} {del : Bool} (h0 : del = true → k = ⟨#[]⟩) :
    ∃ L1 L2 L3, it (inStep d ch r (valC k del)) 1 (⟨0, 0⟩, L) = (⟨1, (getC L (d.chain ch)).n⟩, L) ∧ it (inStep d ch r (valC k del)) 2 (⟨0, 0⟩, L) = (⟨2, (getC L (d.chain ch)).n⟩, L1) ∧ it (inStep d ch r (valC k del)) 3 (⟨0, 0⟩, L) = (⟨3, (getC L (d.chain ch)).n⟩, L2) ∧
      it (inStep d ch r (valC k del)) 4 (⟨0, 0⟩, L) = (⟨4, (getC L (d.chain ch)).n⟩, L3) ∧ ChOk d ch L1 vs n ∧ ChOk d ch L2 vs n ∧ ChOk d ch L3 (⟨r, 0, k, del⟩ :: vs) r ∧ (getC L3 (d.record r 2)).n = (getC L (d.chain ch)).n := by
  have hv : CelOk (valC k del) := by cases del <;> exact ⟨by simp [valC], by simp [valC]⟩
  have c1 := h.put hd hch hr hr1 hr2 (k := 1) (by omega) (by omega) hv
  have c2 := c1.put hd hch hr hr1 hr2 (k := 2) (c := ⟨(getC L (d.chain ch)).n, ⟨#[]⟩, 0⟩) (by omega) (by omega) (h.ok (d.chain ch))
  have i1 := record_in hd hr1 hr2 (k := 1) (by omega) (by omega)
  have i2 := record_in hd hr1 hr2 (k := 2) (by omega) (by omega)
  have p1 := record_pos hd hr1 hr2 (k := 1) (by omega) (by omega)
  have p2 := record_pos hd hr1 hr2 (k := 2) (by omega) (by omega)
  have hlen := h.len
  have hlen1 := c1.len
  have g2 : getC (putC (putC L (d.record r 1) (valC k del)) (d.record r 2) ⟨(getC L (d.chain ch)).n, ⟨#[]⟩, 0⟩) (d.record r 2) = ⟨(getC L (d.chain ch)).n, ⟨#[]⟩, 0⟩ := getC_eq p2 (by omega)
  have g1 : getC (putC (putC L (d.record r 1) (valC k del)) (d.record r 2) ⟨(getC L (d.chain ch)).n, ⟨#[]⟩, 0⟩) (d.record r 1) = valC k del := by
    rw [getC_ne (record_ne hd hr1 hr2 (by omega) (by omega) hr1 hr2 (by omega) (by omega) (.inr (by omega))), getC_eq p1 (by omega)]
  have gc : getC (putC (putC L (d.record r 1) (valC k del)) (d.record r 2) ⟨(getC L (d.chain ch)).n, ⟨#[]⟩, 0⟩) (d.chain ch) = getC L (d.chain ch) := by
    rw [getC_ne (chain_ne_record hd hch.1 hch.2 hr1 hr2 (by omega) (by omega)), getC_ne (chain_ne_record hd hch.1 hch.2 hr1 hr2 (by omega) (by omega))]
  have c3 := c2.top hd hch hr hr1 hr2 g1 h0 (by rw [g2, gc])
  refine ⟨_, _, _, rfl, rfl, rfl, rfl, c1, c2, c3, ?_⟩
  rw [getC_ne (fun e => chain_ne_record hd hch.1 hch.2 hr1 hr2 (by omega) (by omega) e.symm)]
  exact (congrArg Cel.n g2).trans rfl
end

theorem vcut_sub (t : Int) (vs : List Ver) : List.Sublist (vcut t vs) vs := by
  induction vs with
  | nil => exact .slnil
  | cons v vs ih =>
    unfold vcut
    split
    · exact (List.nil_sublist vs).cons_cons v
    · exact ih.cons_cons v
/-- A pending version is not seen. -/
theorem vval_pending (t r : Int) (k : ByteArray) (del : Bool) (vs : List Ver) : vval t (⟨r, 0, k, del⟩ :: vs) = vval t vs := by
  unfold vval
  rw [show vfind t (⟨r, 0, k, del⟩ :: vs) = vfind t vs by simp [vfind, vis]]
end Go.Proofs.Ytfgjanponijkhaa
