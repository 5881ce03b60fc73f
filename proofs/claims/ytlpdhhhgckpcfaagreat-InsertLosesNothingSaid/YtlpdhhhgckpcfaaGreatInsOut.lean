
/- What Insert leaves; what a law asks of it (Err, Separator, View.Latch), the halves of a page. -/
import Derived.Test.YtlpdhhhgckpcfaaGreatInsLaw
import Derived.Test.YtlpdhhhgckpcfaaGreatViewA
import Derived.Test.YtlpdhhhgckpcfaaGreatRefIns
import Derived.Test.YtlpdhhhgckpcfaaGreatCelSame
namespace Go.Proofs.YtlpdhhhgckpcfaaGreat
open Go.RowKit
set_option maxRecDepth 100000
section
variable {K : Know} {w : World} {F : List Comp} {b : Nat} {d : Cfg} {x : InX} {nx : Value}
theorem insErr_b (hs : St K w (insC b nx d x :: F)) : Calls Tryz.prog 52 #[(.pointer (some ⟨b, 0, none⟩))] w fun e w' => e = .returned (.int .i64 x.err) ∧ w = w' := by
  obtain ⟨fr, vf, fu, vu, err, le, vl, ri, vr, sep, on⟩ := x
  have k := hs.k0
  unfold inCells inH at k
  clear hs
  go_enter Tryz.func52, Tryz.ntmps52
  go_wp2
  go_ret
  exact ⟨rfl, rfl⟩
end
section
variable {K : Know} {w : World} {F : List Comp} {b : Nat} {d : Cfg} {fr : InH} {fu : Pg} {vu : Value} {af : Option Addr} {cf : Nat} {nx : Value}
end
section
variable {K : Know} {w : World} {F : List Comp} {b : Nat} {d : Cfg} {fr : InH} {fu p : Pg} {L L' : List Cel} {x : InX} {sp : Bool}
end
section
variable {d : Cfg} {id : Int} {L : List Cel} {pg : Pg}
theorem slPts_at : ∀ (l : List Sl) (i : Nat), Holds L (slPts d id i l) → ∀ (k : Nat) (s : Sl), l[k]? = some s → getC L (d.slot id ((i + k : Nat) : Int)) = ⟨s.r, s.k, 0⟩
  | [], _, _, k, s, h => by simp at h
  | s0 :: l, i, hh, 0, s, h => by
    obtain rfl : s0 = s := by simpa using h
    exact hh _ List.mem_cons_self
  | s0 :: l, i, hh, k + 1, s, h => by
    have := slPts_at l (i + 1) (fun p hp => hh p (List.mem_cons_of_mem _ hp)) k s (by simpa using h)
    rw [show i + (k + 1) = i + 1 + k by omega]
    exact this
/-- What has been written can be read. -/
theorem pageAt_of (hh : Holds L (pgPts d id pg)) (hlev : 0 ≤ pg.lev ∧ pg.lev < 1000000) (hle : (pg.sl.length : Int) ≤ d.fa) (hla : pg.la = true → pg.hi = ⟨#[]⟩) : PageAt d id L pg := by
  have h1 : getC L (d.node id 1) = ⟨pg.sl.length, ⟨#[]⟩, pg.lev⟩ := hh ⟨d.node id 1, ⟨pg.sl.length, ⟨#[]⟩, pg.lev⟩⟩ (by simp [pgPts])
  have h2 : getC L (d.node id 2) = hiCel pg := hh ⟨d.node id 2, hiCel pg⟩ (by simp [pgPts])
  have h3 : getC L (d.node id 3) = ⟨pg.ri, ⟨#[]⟩, 0⟩ := hh ⟨d.node id 3, ⟨pg.ri, ⟨#[]⟩, 0⟩⟩ (by simp [pgPts])
  refine ⟨by rw [h1], by rw [h1]; exact wrap64_idn hlev.1 hlev.2, ?_, ?_, by rw [h3], hle, fun i s hi => ?_⟩
  · rw [h2]
    unfold hiCel
    cases h : pg.la with
    | true => rw [hla h]; rfl
    | false => rfl
  · rw [h2]
    unfold hiCel
    cases h : pg.la <;> rfl
  · have := slPts_at pg.sl 0 (fun p hp => hh p (List.mem_append_left _ hp)) i s hi
    rw [Nat.zero_add] at this
    rw [this]
    exact ⟨rfl, rfl⟩
end
end Go.Proofs.YtlpdhhhgckpcfaaGreat
