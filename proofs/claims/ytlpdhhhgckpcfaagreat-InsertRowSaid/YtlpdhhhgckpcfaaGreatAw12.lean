
/- blinktreelaw12's awake. -/
import Derived.Test.YtlpdhhhgckpcfaaGreatLatVar
namespace Go.Proofs.YtlpdhhhgckpcfaaGreat
open Go.RowKit
set_option maxRecDepth 100000
/-- A Lock, the memory, the rest. -/
def LoOn (K : Know) (b bm bc : Nat) (d : Cfg) (L : List Cel) (key : ByteArray) (level : Int) (F : List Comp) (s : LkS) (acc : Nat) (w : World) : Prop :=
  ∃ C, LkRep d key level b s C ∧ St K w (C ++ memC bm bc L acc :: F)
section
variable {K : Know} {w : World} {F : List Comp} {b bm bc : Nat} {d : Cfg} {L L1 : List Cel} {t : List (List Nd)} {key : ByteArray} {level acc m : Nat} {s : LkS}
theorem lockStep_on {lv : Int} (hd : d.Ok) (hL : CelsOk L) (ha : acc ≤ 1000000000000) (hok : s.Ok d key lv L) (hh : s.h = hd0) (hs : LoOn K b bm bc d L key lv F s acc w) :
    Calls Tryz.prog 18 #[(.pointer (some ⟨b, 0, none⟩)), (.pointer (some ⟨bm, 0, none⟩))] w fun e w' => e = .returned (.bool (decide (4 ≤ (lokStep d key lv L s).1.pc))) ∧ LoOn K b bm bc d (lokStep d key lv L s).2 key lv F (lokStep d key lv L s).1 (acc + 1) w' := by
  obtain ⟨C, hr, hs⟩ := hs
  refine (lockStep_st hd hL ha hok hh hr hs).mono ?_
  rintro e w' ⟨C', he, hr', hs'⟩
  exact ⟨he, C', hr', hs'⟩
theorem LoOn.done (h4 : s.pc = 4) (hs : LoOn K b bm bc d L key level F s acc w) : ∃ (a : Option Addr) (c : Nat), St K w (blk b (.cells (.nilFunc :: .bool true :: lkTl d key s.h (.slice a s.h.pg.sl.length c)).toArray 125) :: slC (.slice a s.h.pg.sl.length c) s.h.pg :: memC bm bc L acc :: F) := by
  obtain ⟨pc, fd, id, aq, ow, h⟩ := s
  simp only at h4
  subst h4
  obtain ⟨C, hr, hs⟩ := hs
  obtain ⟨va, rfl⟩ := hr
  obtain ⟨a, c, rfl, _, _⟩ := (show St K w (rowC va 69 2 h.pg.sl.length (slRow h.pg.sl) :: _) from hs.b1).row_read
  exact ⟨a, c, hs⟩
/-- A Lock that waits: its node is locked by another. -/
def LoB (d : Cfg) (L0 : List Cel) (t : List (List Nd)) (key : ByteArray) (level : Nat) (nd : Nd) (s : LkS) : Prop :=
  (s.pc = 0 ∧ s.h = hd0 ∧ s.fd.pc ≠ 2 ∧ ∃ m, FdV d L0 t key level s.fd m) ∨ (s.pc = 1 ∧ s.h = hd0 ∧ s.id = nd.id ∧ s.aq = acq0)
theorem LoB.step {nd : Nd} (hd : d.Ok) (hL : CelsOk L) (ht : TreeOk d L t) (hv : LatVar d t L L1) (hc : Cover t key level nd) (hone : ∀ nd', Cover t key level nd' → nd' = nd) (hw : (getC L1 (d.node nd.id 0)).n = 1) (h : LoB d L t key level nd s) :
    s.Ok d key level L1 ∧ s.h = hd0 ∧ LoB d L t key level nd (lokStep d key level L1 s).1 ∧ (lokStep d key level L1 s).2 = L1 ∧ (lokStep d key level L1 s).1.pc ≤ 1 := by
  have hno2 := hd.no2
  have hfa2 := hd.fa2
  have hlev : level < t.length := by
    obtain ⟨l, i, hl, _⟩ := hc
    exact (List.getElem?_eq_some_iff.1 hl).1
  obtain ⟨pc, fd, id, aq, ow, hh⟩ := s
  rcases h with ⟨h0, h1, h2, m, hI⟩ | ⟨h0, h1, h2, h3⟩
  · simp only at h0 h1 h2 hI
    subst h0 h1
    obtain ⟨q1, q2, q3, q4⟩ := hI.step hd hL ht hv h2
    have hid : (fdStep d L1 key level fd).pc = 2 → FdRes t key level (fdStep d L1 key level fd) := fun e => (q2.done (by omega)).2
    have hbd : (fdStep d L1 key level fd).pc = 2 → (0 ≤ (fdStep d L1 key level fd).id ∧ (fdStep d L1 key level fd).id < 18446744073709551616) ∧ (fdStep d L1 key level fd).pg.sl.length ≤ 1000000 := by
      intro e
      obtain ⟨r1, r2⟩ := hid e
      obtain ⟨l, i, nd, hl, hi, e1, e2, _⟩ := r1 hlev
      have hN := ht.nodes level l hl nd (List.mem_of_getElem? hi)
      have h3 := hN.id
      have h4 := hN.page.le
      rw [e1, e2]
      exact ⟨by omega, by omega⟩
    refine ⟨⟨Nat.zero_le _, fun _ => ⟨q3, h2, q4, hbd⟩, fun h => by simp at h, fun h => by simp at h, fun h => by simp at h, fun h => by simp at h⟩, rfl, ?_⟩
    unfold lokStep
    simp only
    by_cases hp : (fdStep d L1 key level fd).pc = 2
    · rw [if_pos hp]
      obtain ⟨r1, r2⟩ := hid hp
      obtain ⟨l, i, nd', hl, hi, e1, e2, e3, e4⟩ := r1 hlev
      obtain rfl := hone nd' ⟨l, i, hl, hi, e3, e4⟩
      have hN := ht.nodes level l hl nd' (List.mem_of_getElem? hi)
      have h3 := hN.id
      rw [if_neg (by rw [e1]; omega)]
      exact ⟨.inr ⟨rfl, rfl, e1, rfl⟩, rfl, Nat.le_refl _⟩
    · rw [if_neg hp]
      exact ⟨.inl ⟨rfl, rfl, hp, _, q2⟩, rfl, Nat.zero_le _⟩
  · simp only at h0 h1 h2 h3
    subst h0 h1 h2 h3
    have hN := hc.nd ht
    have hid := hN.id
    refine ⟨⟨by show 1 ≤ 3; omega, fun h => by simp at h, fun _ => by simp only; omega, fun _ => ⟨acq0_ok, by show (0 : Nat) ≠ 2; decide⟩, fun h => by simp at h, fun h => by simp at h⟩, rfl, ?_⟩
    have e : (if (1 : Int) % 2 = 1 then (⟨0, 0⟩ : AcqS) else ⟨1, ltLock 1⟩) = ⟨0, 0⟩ := if_pos (by decide)
    unfold lokStep acqStep acq0
    simp only [hw, e]
    rw [if_neg (by decide)]
    exact ⟨.inr ⟨rfl, rfl, rfl, rfl⟩, rfl, Nat.le_refl _⟩
end
def AwΦ (d : Cfg) (e : Nat) (ρ : Nat → Option Value) (v : Value) (cs : List Comp) : Prop := match e with
  | 1 => ∃ b : Nat, v = (.pointer (some ⟨b, 0, none⟩)) ∧ LkRep d ⟨#[107]⟩ 0 b lok0 cs
  | 3 => ∃ b : Nat, v = (.pointer (some ⟨b, 0, none⟩)) ∧ LkRep d ⟨#[107]⟩ 0 b lok0 cs
  | 4 => ∃ b : Nat, v = (.pointer (some ⟨b, 0, none⟩)) ∧ cs = [] ∧ ρ 1 = some (.pointer (some ⟨b, 0, none⟩))
  | 5 => ∃ b : Nat, v = (.pointer (some ⟨b, 0, none⟩)) ∧ cs = [] ∧ ρ 3 = some (.pointer (some ⟨b, 0, none⟩))
  | _ => False
theorem AwΦ.mono {d : Cfg} : Mono [1, 3, 4, 5] (AwΦ d) := by
  intro e ρ v cs k u he hk h
  simp only [List.mem_cons, List.not_mem_nil, or_false] at he
  rcases he with rfl | rfl | rfl | rfl
  · exact h
  · exact h
  · obtain ⟨b, h1, h2, h3⟩ := h
    exact ⟨b, h1, h2, upd_keep hk h3⟩
  · obtain ⟨b, h1, h2, h3⟩ := h
    exact ⟨b, h1, h2, upd_keep hk h3⟩
section
variable {K : Know} {w : World} {cs : List Comp}
end
end Go.Proofs.YtlpdhhhgckpcfaaGreat
