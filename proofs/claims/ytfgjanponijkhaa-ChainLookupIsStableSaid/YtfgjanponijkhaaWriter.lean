/- The writer of layer 10's law as a machine: what each of its steps does to the chain. -/
import Derived.Test.YtfgjanponijkhaaChain8
import Derived.Test.YtfgjanponijkhaaChain5
import Derived.Test.YtfgjanponijkhaaStable
namespace Go.Proofs.Ytfgjanponijkhaa
open Go.RowKit
set_option maxRecDepth 100000

/-- What the writer is at. -/
inductive Ph where
  | idle
  | inst (b : Nat) (k : ByteArray) (del : Bool) (s : InS)
  | cut (b : Nat) (fl : Int) (t : ChS)

def phC (d : Cfg) (n : Int) : Ph → Comp
  | .idle => emptyC
  | .inst b k del s => inC b d 1 n ⟨#[]⟩ k del s
  | .cut b fl t => trC b d 1 fl t
def phIn : Ph → Option Addr
  | .inst b _ _ _ => some ⟨b, 0, none⟩
  | _ => none
def phCut : Ph → Option Addr
  | .cut b _ _ => some ⟨b, 0, none⟩
  | _ => none
def phEnd : Ph → Bool
  | .inst _ _ _ s => decide (4 ≤ s.pc)
  | _ => false

/-- What the phase has to do with the cells: n records have been taken. -/
def PhOk (d : Cfg) (tm : Int) (V : ByteArray × Bool) (n : Int) (L : List Cel) : Ph → Prop
  | .idle => ∃ vs, WMem d tm V n L vs
  | .inst _ k del s => (del = true → k = ⟨#[]⟩) ∧ 0 ≤ s.old ∧ s.old < 18446744073709551616 ∧
      ((s.pc = 0 ∧ s = ⟨0, 0⟩ ∧ ∃ vs, WMem d tm V (n - 1) L vs) ∨
       (s.pc = 1 ∧ s.old = (getC L (d.chain 1)).n ∧ ∃ vs, WMem d tm V (n - 1) L vs) ∨
       (s.pc = 2 ∧ s.old = (getC L (d.chain 1)).n ∧ getC L (d.record n 1) = valC k del ∧ ∃ vs, WMem d tm V (n - 1) L vs) ∨
       (s.pc = 3 ∧ s.old = (getC L (d.chain 1)).n ∧ getC L (d.record n 1) = valC k del ∧ (getC L (d.record n 2)).n = s.old ∧ ∃ vs, WMem d tm V (n - 1) L vs) ∨
       (s.pc = 4 ∧ s.old = (getC L (d.record n 2)).n ∧ ∃ vs, WMem d tm V n L (⟨n, 0, k, del⟩ :: vs)))
  | .cut _ fl t => fl ≤ tm ∧ t.Ok ∧ (∃ vs, WMem d tm V n L vs) ∧ (t.pc = 3 ∨ t.pc = 4 → (getC L (d.record t.at' 0)).n ≠ 0 ∧ (getC L (d.record t.at' 0)).n ≤ fl)

/-- What may be said of the records that readers know: n, or one less while a record is being prepared. -/
def phN (n : Int) : Ph → Int
  | .inst _ _ _ s => if s.pc = 4 then n else n - 1
  | _ => n

section
variable {d : Cfg} (hd : d.Ok) (hch : (1 : Int) ≤ 1 ∧ (1 : Int) ≤ d.ch) {L : List Cel} {tm : Int} {V : ByteArray × Bool} {n : Int}

theorem PhOk.mem {ph : Ph} (h : PhOk d tm V n L ph) : ∃ vs, WMem d tm V (phN n ph) L vs := by
  cases ph with
  | idle => exact h
  | inst b k del s =>
    obtain ⟨_, _, _, ⟨h, _, hm⟩ | ⟨h, _, hm⟩ | ⟨h, _, _, hm⟩ | ⟨h, _, _, _, hm⟩ | ⟨h, _, vs, hm⟩⟩ := h
    · unfold phN; simp only [h]; exact hm
    · unfold phN; simp only [h]; exact hm
    · unfold phN; simp only [h]; exact hm
    · unfold phN; simp only [h]; exact hm
    · unfold phN; simp only [h]; exact ⟨_, hm⟩
  | cut b fl t => exact h.2.2.1
theorem PhOk.ok {ph : Ph} (h : PhOk d tm V n L ph) : CelsOk L := by obtain ⟨vs, hm⟩ := h.mem; exact hm.c.ok

include hd hch
/-- A step of Install. -/
theorem PhOk.inStep {b : Nat} {k : ByteArray} {del : Bool} {s : InS} (h : PhOk d tm V n L (.inst b k del s)) (hs : s.pc ≤ 3) (hn : 1 ≤ n) (hn2 : n ≤ d.re) :
    PhOk d tm V n (inStep d 1 n (valC k del) (s, L)).2 (.inst b k del (inStep d 1 n (valC k del) (s, L)).1) ∧ (inStep d 1 n (valC k del) (s, L)).1.pc = s.pc + 1 ∧
      ∀ x, RdOk d tm V (phN n (.inst b k del s)) L x → RdOk d tm V (phN n (.inst b k del (inStep d 1 n (valC k del) (s, L)).1)) (inStep d 1 n (valC k del) (s, L)).2 x := by
  obtain ⟨h0, ho, ho2, ⟨h, e, vs, hm⟩ | ⟨h, e, vs, hm⟩ | ⟨h, e, e1, vs, hm⟩ | ⟨h, e, e1, e2, vs, hm⟩ | ⟨h, _, vs, hm⟩⟩ := h
  · have e' : Go.Proofs.Ytfgjanponijkhaa.inStep d 1 n (valC k del) (s, L) = (⟨1, (getC L (d.chain 1)).n⟩, L) := by unfold Go.Proofs.Ytfgjanponijkhaa.inStep; simp only [h]
    rw [e']
    have hc := hm.c.ok (d.chain 1)
    refine ⟨⟨h0, hc.1, hc.2, .inr (.inl ⟨rfl, rfl, vs, hm⟩)⟩, by simp [h], fun x hx => ?_⟩
    unfold phN at hx ⊢
    simpa [h] using hx
  · have e' : Go.Proofs.Ytfgjanponijkhaa.inStep d 1 n (valC k del) (s, L) = (⟨2, s.old⟩, putC L (d.record n 1) (valC k del)) := by unfold Go.Proofs.Ytfgjanponijkhaa.inStep; simp only [h]
    rw [e']
    have hv : CelOk (valC k del) := by cases del <;> exact ⟨by simp [valC], by simp [valC]⟩
    obtain ⟨m1, m2⟩ := hm.put hd hch.2 (r := n) (k := 1) (by omega) hn hn2 (by omega) (by omega) hv
    have p1 := record_pos hd hn hn2 (k := 1) (by omega) (by omega)
    have i1 := record_in hd hn hn2 (k := 1) (by omega) (by omega)
    have hlen := hm.c.len
    refine ⟨⟨h0, ho, ho2, .inr (.inr (.inl ⟨rfl, ?_, getC_eq p1 (by omega), vs, m1⟩))⟩, by simp [h], fun x hx => ?_⟩
    · rw [getC_ne (chain_ne_record hd hch.1 hch.2 hn hn2 (by omega) (by omega))]; exact e
    · unfold phN at hx ⊢
      exact m2 x (by simpa [h] using hx)
  · have e' : Go.Proofs.Ytfgjanponijkhaa.inStep d 1 n (valC k del) (s, L) = (⟨3, s.old⟩, putC L (d.record n 2) ⟨s.old, ⟨#[]⟩, 0⟩) := by unfold Go.Proofs.Ytfgjanponijkhaa.inStep; simp only [h]
    rw [e']
    obtain ⟨m1, m2⟩ := hm.put hd hch.2 (r := n) (k := 2) (c := ⟨s.old, ⟨#[]⟩, 0⟩) (by omega) hn hn2 (by omega) (by omega) ⟨ho, ho2⟩
    have p1 := record_pos hd hn hn2 (k := 2) (by omega) (by omega)
    have i1 := record_in hd hn hn2 (k := 2) (by omega) (by omega)
    have hlen := hm.c.len
    refine ⟨⟨h0, ho, ho2, .inr (.inr (.inr (.inl ⟨rfl, ?_, ?_, ?_, vs, m1⟩)))⟩, by simp [h], fun x hx => ?_⟩
    · rw [getC_ne (chain_ne_record hd hch.1 hch.2 hn hn2 (by omega) (by omega))]; exact e
    · rw [getC_ne (record_ne hd hn hn2 (by omega) (by omega) hn hn2 (by omega) (by omega) (.inr (by omega)))]; exact e1
    · rw [getC_eq p1 (by omega)]
    · unfold phN at hx ⊢
      exact m2 x (by simpa [h] using hx)
  · have e' : Go.Proofs.Ytfgjanponijkhaa.inStep d 1 n (valC k del) (s, L) = (⟨4, s.old⟩, putC L (d.chain 1) ⟨n, ⟨#[]⟩, 0⟩) := by unfold Go.Proofs.Ytfgjanponijkhaa.inStep; simp only [h]
    rw [e']
    obtain ⟨m1, m2⟩ := hm.top hd hch.2 (r := n) (by omega) hn hn2 e1 h0 (by rw [e2]; exact e)
    refine ⟨⟨h0, ho, ho2, .inr (.inr (.inr (.inr ⟨rfl, ?_, vs, m1⟩)))⟩, by simp [h], fun x hx => ?_⟩
    · rw [getC_ne (fun e => chain_ne_record hd hch.1 hch.2 hn hn2 (by omega) (by omega) e.symm)]; exact e2.symm
    · unfold phN at hx ⊢
      exact m2 x (by simpa [h] using hx)
  · omega
/-- The version is stamped. -/
theorem PhOk.stamp {b : Nat} {k : ByteArray} {del : Bool} {s : InS} (h : PhOk d tm V n L (.inst b k del s)) (hs : s.pc = 4) {t : Int} (ht : 0 ≤ t ∧ t < 18446744073709551616) (htm : tm < t) :
    PhOk d tm V n (putC L (d.record n 0) ⟨t, ⟨#[]⟩, 0⟩) .idle ∧ ∀ x, RdOk d tm V (phN n (.inst b k del s)) L x → RdOk d tm V (phN n .idle) (putC L (d.record n 0) ⟨t, ⟨#[]⟩, 0⟩) x := by
  obtain ⟨h0, ho, ho2, ⟨h, _⟩ | ⟨h, _⟩ | ⟨h, _⟩ | ⟨h, _⟩ | ⟨h, e, vs, hm⟩⟩ := h
  · omega
  · omega
  · omega
  · omega
  · obtain ⟨m1, m2⟩ := hm.stamp hd hch.2 rfl ht htm
    refine ⟨⟨_, m1⟩, fun x hx => m2 x ?_⟩
    unfold phN at hx
    simpa [h] using hx
/-- It is taken back. -/
theorem PhOk.back {b : Nat} {k : ByteArray} {del : Bool} {s : InS} (h : PhOk d tm V n L (.inst b k del s)) (hs : s.pc = 4) :
    PhOk d tm V n (putC L (d.chain 1) ⟨s.old, ⟨#[]⟩, 0⟩) .idle ∧ ∀ x, RdOk d tm V (phN n (.inst b k del s)) L x → RdOk d tm V (phN n .idle) (putC L (d.chain 1) ⟨s.old, ⟨#[]⟩, 0⟩) x := by
  obtain ⟨h0, ho, ho2, ⟨h, _⟩ | ⟨h, _⟩ | ⟨h, _⟩ | ⟨h, _⟩ | ⟨h, e, vs, hm⟩⟩ := h
  · omega
  · omega
  · omega
  · omega
  · obtain ⟨m1, m2⟩ := hm.back hd hch.2 rfl e
    refine ⟨⟨_, m1⟩, fun x hx => m2 x ?_⟩
    unfold phN at hx
    simpa [h] using hx
omit hch in
/-- A step of Truncate. -/
theorem PhOk.trStep {b : Nat} {fl : Int} {t : ChS} (h : PhOk d tm V n L (.cut b fl t)) :
    PhOk d tm V n (trStep d 1 fl (t, L)).2 (.cut b fl (trStep d 1 fl (t, L)).1) ∧ ∀ x, RdOk d tm V n L x → RdOk d tm V n (trStep d 1 fl (t, L)).2 x := by
  obtain ⟨hfl, hok, ⟨vs, hm⟩, hst⟩ := h
  have hok2 := trStep_ok (d := d) (ch := 1) (tm := fl) (p := (t, L)) hok hm.c.ok
  have hj : ∀ s : ChS, (trJudge s).pc = 5 ∨ (trJudge s).pc = 6 := by intro s; unfold trJudge; split <;> simp
  by_cases h2 : t.pc ≤ 2
  · have e : Go.Proofs.Ytfgjanponijkhaa.trStep d 1 fl (t, L) = (wkStep trEnd d 1 fl L t, L) := by unfold Go.Proofs.Ytfgjanponijkhaa.trStep; rw [if_pos h2]
    rw [e] at hok2 ⊢
    refine ⟨⟨hfl, hok2.1, ⟨vs, hm⟩, ?_⟩, fun _ hx => hx⟩
    have hend : ∀ s : ChS, (trEnd s).pc = 3 ∨ (trEnd s).pc = 6 := by intro s; unfold trEnd; split <;> simp
    have go : ∀ (s : ChS) (r : Int), ((wkGo trEnd s r).pc = 3 ∨ (wkGo trEnd s r).pc = 4) → False := by
      intro s r hp
      by_cases hr : r = 0
      · have e : (wkGo trEnd s r).pc = 6 := by subst hr; simp [wkGo, trEnd]
        rw [e] at hp; omega
      · have e : (wkGo trEnd s r).pc = 1 := by simp [wkGo, hr]
        rw [e] at hp; omega
    intro hp
    rcases (show t.pc = 0 ∨ t.pc = 1 ∨ t.pc = 2 by omega) with h | h | h
    · rw [wkStep_0 h] at hp; exact (go _ _ hp).elim
    · rw [wkStep_1 h] at hp ⊢
      split
      · rename_i hv
        rw [trEnd_at]; exact hv
      · rename_i hv
        rw [if_neg hv] at hp
        simp at hp
    · rw [wkStep_2 h] at hp; exact (go _ _ hp).elim
  · by_cases h3 : t.pc = 3
    · have hs := hst (.inl h3)
      by_cases h0 : (getC L (d.record t.at' 2)).n = 0
      · have e : Go.Proofs.Ytfgjanponijkhaa.trStep d 1 fl (t, L) = (trJudge t, L) := by unfold Go.Proofs.Ytfgjanponijkhaa.trStep; rw [if_neg h2, if_pos h3, if_pos h0]
        rw [e] at hok2 ⊢
        refine ⟨⟨hfl, hok2.1, ⟨vs, hm⟩, fun hp => ?_⟩, fun _ hx => hx⟩
        have hp : (trJudge t).pc = 3 ∨ (trJudge t).pc = 4 := hp
        have := hj t
        omega
      · have e : Go.Proofs.Ytfgjanponijkhaa.trStep d 1 fl (t, L) = ({ t with pc := 4 }, L) := by unfold Go.Proofs.Ytfgjanponijkhaa.trStep; rw [if_neg h2, if_pos h3, if_neg h0]
        rw [e] at hok2 ⊢
        exact ⟨⟨hfl, hok2.1, ⟨vs, hm⟩, fun _ => hs⟩, fun _ hx => hx⟩
    · by_cases h4 : t.pc = 4
      · have hs := hst (.inr h4)
        have e : Go.Proofs.Ytfgjanponijkhaa.trStep d 1 fl (t, L) = (trJudge t, putC L (d.record t.at' 2) Cel.zero) := by unfold Go.Proofs.Ytfgjanponijkhaa.trStep; rw [if_neg h2, if_neg h3, if_pos h4]
        rw [e] at hok2 ⊢
        obtain ⟨⟨vs', m1, _⟩, m2⟩ := hm.cut hd hs.1 (by omega)
        refine ⟨⟨hfl, hok2.1, ⟨vs', m1⟩, fun hp => ?_⟩, m2⟩
        have hp : (trJudge t).pc = 3 ∨ (trJudge t).pc = 4 := hp
        have := hj t
        omega
      · by_cases h5 : t.pc = 5
        · have e : Go.Proofs.Ytfgjanponijkhaa.trStep d 1 fl (t, L) = ({ t with pc := 6, ok := decide ((getC L (d.record t.at' 1)).m = 1) }, L) := by unfold Go.Proofs.Ytfgjanponijkhaa.trStep; rw [if_neg h2, if_neg h3, if_neg h4, if_pos h5]
          rw [e] at hok2 ⊢
          exact ⟨⟨hfl, hok2.1, ⟨vs, hm⟩, fun hp => by simp at hp⟩, fun _ hx => hx⟩
        · have e : Go.Proofs.Ytfgjanponijkhaa.trStep d 1 fl (t, L) = (t, L) := by unfold Go.Proofs.Ytfgjanponijkhaa.trStep; rw [if_neg h2, if_neg h3, if_neg h4, if_neg h5]
          rw [e] at hok2 ⊢
          exact ⟨⟨hfl, hok2.1, ⟨vs, hm⟩, fun hp => by have hp : t.pc = 3 ∨ t.pc = 4 := hp; omega⟩, fun _ hx => hx⟩
end
end Go.Proofs.Ytfgjanponijkhaa
