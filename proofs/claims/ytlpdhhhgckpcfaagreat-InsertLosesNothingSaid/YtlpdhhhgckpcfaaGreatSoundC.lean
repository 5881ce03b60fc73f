
/- blinktreecells.View: counters, chains. -/
import Derived.Test.YtlpdhhhgckpcfaaGreatSoundB
namespace Go.Proofs.YtlpdhhhgckpcfaaGreat
open Go.RowKit
set_option maxRecDepth 100000
/-- The counters, with nothing in progress. -/
structure CtOk (d : Cfg) (L : List Cel) : Prop where
  pub : (getC L 1).n = (getC L 2).n
  flo : (getC L 3).n ≤ (getC L 2).n
  nod : (getC L 4).n ≤ d.no
  chn : (getC L 5).n ≤ d.ch
  rcd : (getC L 6).n ≤ d.re
  gro : (getC L 7).n % 4 = 0
  snp : ∀ i : Int, 8 ≤ i → i < d.A → (getC L i).n = 0 ∨ (getC L 3).n ≤ (getC L i).n - 1
/-- The chains of the slots. -/
structure ChsOk (d : Cfg) (L : List Cel) (rs : List Int) : Prop where
  ok : ∀ r, r ∈ rs → 1 ≤ r ∧ r ≤ d.ch ∧ r ≤ (getC L 5).n ∧ ∃ vs, Linked d L (getC L (d.chain r)).n vs ∧ (vs.length : Int) ≤ d.re ∧ V9 (getC L 2).n vs
  nd : rs.Nodup
section
variable {K : Know} {w : World} {F : List Comp} {d : Cfg} {g : Nat} {L : List Cel} {t : List (List Nd)}
end
end Go.Proofs.YtlpdhhhgckpcfaaGreat
