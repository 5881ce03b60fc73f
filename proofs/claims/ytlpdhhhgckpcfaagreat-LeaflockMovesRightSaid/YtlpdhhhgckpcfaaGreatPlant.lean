
/- blinktreekit.Plant. -/
import Derived.Test.YtlpdhhhgckpcfaaGreatTreeB
import Derived.Test.YtlpdhhhgckpcfaaGreatNodeLawB
import Derived.Test.YtlpdhhhgckpcfaaGreatTailC
import Derived.Test.YtlpdhhhgckpcfaaGreatGrA
namespace Go.Proofs.YtlpdhhhgckpcfaaGreat
open Go.RowKit
set_option maxRecDepth 100000
/-- What loop 2 keeps. -/
structure Pl2 (d : Cfg) (ks : List ByteArray) (hide : Bool) (L : List Cel) (S : List Sl) (t : List (List Nd)) (nx lev : Nat) : Prop where
  pi : PlI d ks hide L S t nx
  tl : t.length = lev
  z : lev = 0 → nx = 1 ∧ S.length ≤ 40
  p : 0 < lev → nx - 1 + fb S.length ≤ 100 ∧ 1 ≤ S.length ∧ lev + S.length ≤ 41
  nx1 : 1 ≤ nx
theorem Pl2.le {d : Cfg} {ks : List ByteArray} {hide : Bool} {L : List Cel} {S : List Sl} {t : List (List Nd)} {nx lev : Nat} (h : Pl2 d ks hide L S t nx lev) : S.length ≤ 40 ∧ lev ≤ 40 := by
  rcases Nat.eq_zero_or_pos lev with h0 | h0
  · have := h.z h0; omega
  · have := h.p h0; omega
theorem Pl2.some_parts {d : Cfg} {ks : List ByteArray} {hide : Bool} {L : List Cel} {S : List Sl} {t : List (List Nd)} {nx lev : Nat} {ps : List Nat} (h : Pl2 d ks hide L S t nx lev) (hp : PartsOk S ps)
    (h0 : lev = 0 → ps.length ≤ 40) (h1 : 0 < lev → ps.length ≤ (S.length + 1) / 2) (hne : ps.length ≠ 1) : ps.length ≤ S.length ∧ (0 < lev → 3 ≤ S.length ∧ ps.length < S.length) := by
  have hps := hp.ne
  have hle : ps.length ≤ S.length := by
    rcases hp.pos with hq | hq
    · have := sum_ge hq; rw [hp.sum] at this; exact this
    · rw [hq] at hne; simp at hne
  refine ⟨hle, fun h => ?_⟩
  have := h1 h
  omega
theorem Pl2.next {d : Cfg} {ks : List ByteArray} {hide : Bool} {L L2 : List Cel} {S A : List Sl} {t t2 : List (List Nd)} {nx lev : Nat} {ps : List Nat} (h : Pl2 d ks hide L S t nx lev) (hp : PartsOk S ps)
    (h0 : lev = 0 → ps.length ≤ 40) (h1 : 0 < lev → ps.length ≤ (S.length + 1) / 2) (hne : ps.length ≠ 1) (hA : A.length ≤ ps.length) (ht2 : t2.length = lev + 1) (hi : PlI d ks hide L2 A t2 (nx + ps.length)) : Pl2 d ks hide L2 A t2 (nx + ps.length) (lev + 1) := by
  obtain ⟨hle, h3⟩ := h.some_parts hp h0 h1 hne
  have hS := h.le.1
  have hA1 : 1 ≤ A.length := by
    obtain ⟨q, _⟩ := hi.s1 (fun e => by rw [e] at ht2; simp at ht2)
    rcases Nat.eq_zero_or_pos A.length with h | h
    · exact absurd (List.length_eq_zero_iff.1 h) q
    · exact h
  refine ⟨hi, ht2, fun e => by omega, fun _ => ?_, by have := h.nx1; omega⟩
  rcases Nat.eq_zero_or_pos lev with hl | hl
  · have hz := h.z hl
    have hp40 := h0 hl
    have hm := fb_mono 40 (by omega) A.length (by omega)
    have h40 : fb 40 = 41 := by decide +kernel
    omega
  · have hz := h.p hl
    have hc := h1 hl
    obtain ⟨q1, q2⟩ := h3 hl
    have hh := fb_half S.length hS q1
    have hm := fb_mono ((S.length + 1) / 2) (by omega) A.length (by omega)
    omega
section
variable {K : Know} {w : World} {F : List Comp} {d : Cfg} {bm bc : Nat} {L : List Cel} {acc : Nat} {ks : List ByteArray} {ka : Option Addr} {kc : Nat} {sh : Int} {hide : Bool}
end
end Go.Proofs.YtlpdhhhgckpcfaaGreat
