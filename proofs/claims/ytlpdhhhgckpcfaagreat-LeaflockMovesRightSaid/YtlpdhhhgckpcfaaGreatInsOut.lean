
/- What Insert leaves; what a law asks of it (Err, Separator, View.Latch), the halves of a page. -/
import Derived.Test.YtlpdhhhgckpcfaaGreatInsLaw
import Derived.Test.YtlpdhhhgckpcfaaGreatViewA
import Derived.Test.YtlpdhhhgckpcfaaGreatRefIns
import Derived.Test.YtlpdhhhgckpcfaaGreatCelSame
namespace Go.Proofs.YtlpdhhhgckpcfaaGreat
open Go.RowKit
set_option maxRecDepth 100000
section
variable {K : Know} {w : World} {F : List Comp} {b : Nat} {d : Cfg} {x : InX} {nx : Value}
end
section
variable {K : Know} {w : World} {F : List Comp} {b : Nat} {d : Cfg} {fr : InH} {fu : Pg} {vu : Value} {af : Option Addr} {cf : Nat} {nx : Value}
end
section
variable {K : Know} {w : World} {F : List Comp} {b : Nat} {d : Cfg} {fr : InH} {fu p : Pg} {L L' : List Cel} {x : InX} {sp : Bool}
end
theorem slAt_take {w : World} {a : Option Addr} {l : List Sl} (h : SlAt w a l) (k : Nat) : SlAt w a (l.take k) :=
  ⟨Nat.le_trans (by rw [List.length_take]; omega) h.1, fun i s hs => h.2 i s (by
    rw [List.getElem?_take] at hs
    split at hs
    · exact hs
    · cases hs)⟩
theorem slAt_drop {w : World} {g : Nat} {l : List Sl} (h : SlAt w (some ⟨g, 0, none⟩) l) (k : Nat) : SlAt w (some ⟨g, k * 2, none⟩) (l.drop k) := by
  refine ⟨Nat.le_trans (by rw [List.length_drop]; omega) h.1, fun i s hs => ?_⟩
  rw [List.getElem?_drop] at hs
  obtain ⟨b, off, e, hlt, c0, c1⟩ := h.2 _ _ hs
  simp only [Option.some.injEq, Addr.mk.injEq, and_true] at e
  obtain ⟨rfl, rfl⟩ := e
  rw [show 0 + (k + i) * 2 = k * 2 + i * 2 by omega] at c0 c1
  exact ⟨g, k * 2, rfl, hlt, c0, c1⟩
section
variable {d : Cfg} {id : Int} {L : List Cel} {pg : Pg}
theorem slPts_at : ∀ (l : List Sl) (i : Nat), Holds L (slPts d id i l) → ∀ (k : Nat) (s : Sl), l[k]? = some s → getC L (d.slot id ((i + k : Nat) : Int)) = ⟨s.r, s.k, 0⟩
  | [], _, _, k, s, h => by simp at h
  | s0 :: l, i, hh, 0, s, h => by
    obtain rfl : s0 = s := by simpa using h
    exact hh _ List.mem_cons_self
  | s0 :: l, i, hh, k + 1, s, h => by
    have := slPts_at l (i + 1) (fun p hp => hh p (List.mem_cons_of_mem _ hp)) k s (by simpa using h)
    rw [show i + (k + 1) = i + 1 + k by omega]
    exact this
/-- What has been written can be read. -/
theorem pageAt_of (hh : Holds L (pgPts d id pg)) (hlev : 0 ≤ pg.lev ∧ pg.lev < 1000000) (hle : (pg.sl.length : Int) ≤ d.fa) (hla : pg.la = true → pg.hi = ⟨#[]⟩) : PageAt d id L pg := by
  have h1 : getC L (d.node id 1) = ⟨pg.sl.length, ⟨#[]⟩, pg.lev⟩ := hh ⟨d.node id 1, ⟨pg.sl.length, ⟨#[]⟩, pg.lev⟩⟩ (by simp [pgPts])
  have h2 : getC L (d.node id 2) = hiCel pg := hh ⟨d.node id 2, hiCel pg⟩ (by simp [pgPts])
  have h3 : getC L (d.node id 3) = ⟨pg.ri, ⟨#[]⟩, 0⟩ := hh ⟨d.node id 3, ⟨pg.ri, ⟨#[]⟩, 0⟩⟩ (by simp [pgPts])
  refine ⟨by rw [h1], by rw [h1]; exact wrap64_idn hlev.1 hlev.2, ?_, ?_, by rw [h3], hle, fun i s hi => ?_⟩
  · rw [h2]
    unfold hiCel
    cases h : pg.la with
    | true => rw [hla h]; rfl
    | false => rfl
  · rw [h2]
    unfold hiCel
    cases h : pg.la <;> rfl
  · have := slPts_at pg.sl 0 (fun p hp => hh p (List.mem_append_left _ hp)) i s hi
    rw [Nat.zero_add] at this
    rw [this]
    exact ⟨rfl, rfl⟩
end
end Go.Proofs.YtlpdhhhgckpcfaaGreat
