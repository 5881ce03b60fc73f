
/- Several Locks in a world. -/
import Derived.Test.YtlpdhhhgckpcfaaGreatExLaw
import Derived.Test.YtlpdhhhgckpcfaaGreatLock
namespace Go.Proofs.YtlpdhhhgckpcfaaGreat
open Go.RowKit
set_option maxRecDepth 100000
theorem map_set {α : Type} (f : Nat → α) (n i : Nat) (v : α) : ((List.range n).map f).set i v = (List.range n).map (updF f i v) := by
  refine List.ext_getElem? (fun j => ?_)
  rw [List.getElem?_set]
  simp only [List.length_map, List.length_range, List.getElem?_map]
  by_cases e : i = j
  · subst e
    rw [if_pos rfl]
    by_cases h : i < n
    · rw [if_pos h, List.getElem?_range h, Option.map_some, updF_same]
    · rw [if_neg h, List.getElem?_eq_none (by simp; omega)]
      rfl
  · rw [if_neg e]
    by_cases h : j < n
    · rw [List.getElem?_range h, Option.map_some, Option.map_some, updF_ne _ _ (fun h => e h.symm)]
    · rw [List.getElem?_eq_none (by simp; omega)]
      rfl
/-- The parts of the machines. -/
def exC (n : Nat) (C : Nat → List Comp) : Comp := group ((List.range n).map fun i => group (C i))
section
variable {K : Know} {w : World} {F : List Comp} {n i : Nat} {C : Nat → List Comp}
theorem exC_out (hi : i < n) (hs : St K w (exC n C :: F)) : ∃ R, St K w (group (C i) :: group R :: F) ∧ ∀ w' Ci' F', St K w' (group Ci' :: group R :: F') → St K w' (exC n (updF C i Ci') :: F') := by
  have hat : ((List.range n).map fun i => group (C i))[i]? = some (group (C i)) := by simp [hi]
  refine ⟨_, St.out hs hat, fun w' Ci' F' h => ?_⟩
  have := St.into h (by simp [hi])
  rw [map_set] at this
  have e : (List.range n).map (updF (fun i => group (C i)) i (group Ci')) = (List.range n).map (fun j => group (updF C i Ci' j)) := by
    refine List.map_congr_left (fun j _ => ?_)
    unfold updF
    split <;> rfl
  rw [e] at this
  exact this
theorem exC_push {C' : List Comp} (hs : St K w (group C' :: exC n C :: F)) : St K w (exC (n + 1) (updF C n C') :: F) := by
  have := St.push hs
  unfold exC
  rw [List.range_succ, List.map_append, List.map_singleton, updF_same]
  have e : (List.range n).map (fun i => group (updF C n C' i)) = (List.range n).map (fun i => group (C i)) := by
    refine List.map_congr_left (fun j hj => ?_)
    rw [updF_ne _ _ (by have := List.mem_range.1 hj; omega)]
  rw [e]
  exact this
end
/-- The machines, the memory, the rest. -/
def ExG (K : Know) (bm bc : Nat) (d : Cfg) (n : Nat) (key : Nat → ByteArray) (bs : Nat → Nat) (X : Nat → LkS) (L : List Cel) (acc : Nat) (F : List Comp) (w : World) : Prop :=
  ∃ C : Nat → List Comp, (∀ i, i < n → LkRep d (key i) ((0 : Nat) : Int) (bs i) (X i) (C i)) ∧ St K w (exC n C :: memC bm bc L acc :: F)
section
variable {K : Know} {w : World} {F : List Comp} {n i bm bc acc : Nat} {d : Cfg} {key : Nat → ByteArray} {bs : Nat → Nat} {X : Nat → LkS} {L : List Cel}
theorem ExG.step (hd : d.Ok) (hL : CelsOk L) (ha : acc ≤ 1000000000000) (hi : i < n) (hok : (X i).Ok d (key i) ((0 : Nat) : Int) L) (hh : (X i).h = hd0) (h : ExG K bm bc d n key bs X L acc F w) :
    Calls Tryz.prog 18 #[(.pointer (some ⟨(bs i), 0, none⟩)), (.pointer (some ⟨bm, 0, none⟩))] w fun e w' => e = .returned (.bool (decide (4 ≤ (lokStep d (key i) ((0 : Nat) : Int) L (X i)).1.pc))) ∧ ExG K bm bc d n key bs (updF X i (lokStep d (key i) ((0 : Nat) : Int) L (X i)).1) (lokStep d (key i) ((0 : Nat) : Int) L (X i)).2 (acc + 1) F w' := by
  obtain ⟨C, hr, hs⟩ := h
  obtain ⟨R, hs, hback⟩ := exC_out hi hs
  refine (lockStep_st hd hL ha hok hh (hr i hi) (St.group_iff.1 (hs.re [0, 2, 1] rfl))).mono ?_
  rintro e w' ⟨C', he, hr', hs'⟩
  refine ⟨he, _, fun j hj => ?_, hback w' C' _ ((St.group_iff.2 hs').re [0, 2, 1] rfl)⟩
  by_cases hji : j = i
  · subst hji
    rw [updF_same, updF_same]; exact hr'
  · rw [updF_ne _ _ hji, updF_ne _ _ hji]; exact hr j hj
theorem ExG.push {b : Nat} {key' : ByteArray} {C' : List Comp} (h : ∃ C : Nat → List Comp, (∀ i, i < n → LkRep d (key i) ((0 : Nat) : Int) (bs i) (X i) (C i)) ∧ St K w (C' ++ (exC n C :: memC bm bc L acc :: F))) (hk : key n = key') (hr : LkRep d key' ((0 : Nat) : Int) b lok0 C') (hX : X n = lok0) : ExG K bm bc d (n + 1) key (updF bs n b) X L acc F w := by
  obtain ⟨C, hr0, hs⟩ := h
  refine ⟨updF C n C', fun j hj => ?_, exC_push (St.group_iff.2 hs)⟩
  by_cases hjn : j = n
  · subst hjn
    rw [updF_same, updF_same, hk, hX]; exact hr
  · rw [updF_ne _ _ hjn, updF_ne _ _ hjn]; exact hr0 j (by omega)
end
theorem LkC.pc_le {d : Cfg} {L : List Cel} {t : List (List Nd)} {key : ByteArray} {level : Nat} {s : LkS} {m : Nat} (h : LkC d L t key level s m) : s.pc ≤ 4 := by
  obtain ⟨pc, fd, id, aq, ow, hh⟩ := s
  match pc, h with
  | 0, _ => exact Nat.zero_le 4
  | 1, _ => exact (by decide : 1 ≤ 4)
  | 2, _ => exact (by decide : 2 ≤ 4)
  | 3, _ => exact (by decide : 3 ≤ 4)
  | 4, _ => exact Nat.le_refl 4
  | n + 5, h => exact h.elim
section
variable {K : Know} {w : World} {F : List Comp} {n i bm bc acc : Nat} {d : Cfg} {key : Nat → ByteArray} {bs : Nat → Nat} {X : Nat → LkS} {H : Nat → Int} {p : Nat → Nat} {L0 L : List Cel} {t : List (List Nd)}
theorem ExI.cases (h : ExI d L0 L t n key X H p) (hi : i < n) : H i = 0 ∨ (1 < H i ∧ H i ≤ 4) ∨ H i = 1 ∨ H i = -1 := by
  rcases h.mach i hi with ⟨a, _⟩ | ⟨a, b, _⟩ | a <;> omega
/-- A step of a machine that has no node yet, in a world. -/
theorem ExG.lock (hd : d.Ok) (hn : n ≤ 4) (hi : i < n) (h0 : H i = 0) (HI : ExI d L0 L t n key X H p) (ha : acc ≤ 1000000000000) (h : ExG K bm bc d n key bs X L acc F w) :
    Calls Tryz.prog 18 #[(.pointer (some ⟨(bs i), 0, none⟩)), (.pointer (some ⟨bm, 0, none⟩))] w fun e w' => ∃ (dn : Bool) (X' : Nat → LkS) (H' : Nat → Int) (L' : List Cel) (p' : Nat → Nat), e = .returned (.bool dn) ∧ (dn = true → H' = updF H i 4) ∧ (dn = false → H' = H) ∧ ExI d L0 L' t n key X' H' p' ∧ ExG K bm bc d n key bs X' L' (acc + 1) F w' ∧
      (sumN n p' + 1 ≤ sumN n p ∨ (p' = p ∧ L' = L ∧ X' = X ∧ H' = H ∧ Idle d L t X H i)) := by
  obtain ⟨hok, hh, p', hI', hp⟩ := HI.lock hd hn hi h0
  refine (h.step hd HI.cels ha hi hok hh).mono ?_
  rintro e w' ⟨rfl, hG⟩
  generalize lokStep d (key i) ((0 : Nat) : Int) L (X i) = st at *
  obtain ⟨s', L'⟩ := st
  simp only at hI' hp hG ⊢
  by_cases h4 : s'.pc = 4
  · rw [if_pos h4] at hI'
    refine ⟨true, _, _, _, p', by rw [decide_eq_true (by omega)], fun _ => rfl, fun e => (by cases e), hI', hG, ?_⟩
    rcases hp with hp | ⟨e1, e2, e3, e4⟩
    · exact .inl hp
    · exfalso
      rcases e4 with e4 | ⟨_, e4, _⟩
      · omega
      · rw [e3] at h4; omega
  · rw [if_neg h4] at hI'
    have h4' : ¬ 4 ≤ s'.pc := by
      have hm := hI'.mach i hi
      rw [updF_same] at hm
      rcases hm with ⟨_, _, _, m, hc, _⟩ | ⟨a, _⟩ | a
      · have := hc.pc_le; omega
      · omega
      · omega
    refine ⟨false, _, _, _, p', by rw [decide_eq_false h4'], fun e => (by cases e), fun _ => rfl, hI', hG, ?_⟩
    rcases hp with hp | ⟨e1, e2, e3, e4⟩
    · exact .inl hp
    · refine .inr ⟨e1, e2, ?_, rfl, e4⟩
      rw [e3]
      funext j
      unfold updF
      split
      · rename_i e; rw [e]
      · rfl
/-- The loop goes on. -/
theorem ExB.next {lp k a : Nat} {L' : List Cel} {X' : Nat → LkS} {H' : Nat → Int} {p' : Nat → Nat} (h : ExB n lp k (sumN n p) (Idle d L t X H) a) (han : a < n) (hi : lp ≤ k → i = k % n) (hp : sumN n p' + 1 ≤ sumN n p ∨ (p' = p ∧ L' = L ∧ X' = X ∧ H' = H ∧ Idle d L t X H i)) : ∃ a', Hid (ExB n lp (k + 1) (sumN n p') (Idle d L' t X' H') a') := by
  rcases hp with hp | ⟨rfl, rfl, rfl, rfl, hid⟩
  · exact ⟨0, Lib.hid (h.prog han hp)⟩
  · obtain ⟨a', h'⟩ := h.rest han hi hid
    exact ⟨a', Lib.hid h'⟩
end
/-- What a machine that holds its node says of it. -/
theorem ExI.says {n i : Nat} {d : Cfg} {key : Nat → ByteArray} {X : Nat → LkS} {H : Nat → Int} {p : Nat → Nat} {L0 L : List Cel} {t : List (List Nd)} (hd : d.Ok) (h : ExI d L0 L t n key X H p) (hi : i < n) (h1 : 0 < H i) : (X i).pc = 4 ∧ (X i).h.pg.sl.length ≤ 1000000 ∧ (0 ≤ (X i).h.id ∧ (X i).h.id < 18446744073709551616) ∧ (X i).h.word = 1 := by
  obtain ⟨l, nd, hl, hnm, hpc, hid, hh, hc, _⟩ := h.held hi h1
  have hb := (h.tr.sh.nodes 0 l hl nd hnm).1
  have hn4 := h.tr.n4
  have hno2 := hd.no2
  have hfa2 := hd.fa2
  have hp := (h.tr.node 0 l hl nd hnm (by rw [hc]; decide)).page.le
  rw [hh]
  exact ⟨hpc, by show nd.pg.sl.length ≤ 1000000; omega, ⟨by show 0 ≤ nd.id; omega, by show nd.id < _; omega⟩, rfl⟩
end Go.Proofs.YtlpdhhhgckpcfaaGreat
