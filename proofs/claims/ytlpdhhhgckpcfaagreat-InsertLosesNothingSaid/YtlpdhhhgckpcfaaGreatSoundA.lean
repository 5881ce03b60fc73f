
/- blinktreecells.View: Chain, Refs, Keys, counters, chains. -/
import Derived.Test.YtlpdhhhgckpcfaaGreatVers
import Derived.Test.YtlpdhhhgckpcfaaGreatLevA
import Derived.Test.YtlpdhhhgckpcfaaGreatCelSame
import Derived.Test.YtlpdhhhgckpcfaaGreatInsOut
namespace Go.Proofs.YtlpdhhhgckpcfaaGreat
open Go.RowKit
set_option maxRecDepth 100000
section
variable {K : Know} {w : World} {F : List Comp} {d : Cfg} {g : Nat} {L : List Cel}
/-- A record's number in a chain: 0 or a record. -/
theorem Linked.num {r : Int} {vs : List Ver} (h : Linked d L r vs) : (vs = [] ∧ r = 0) ∨ ∃ v rest, vs = v :: rest ∧ r = v.r ∧ VerAt d L v ∧ Linked d L (getC L (d.record v.r 2)).n rest := by
  cases vs with
  | nil => exact .inl ⟨rfl, h⟩
  | cons v rest => exact .inr ⟨v, rest, rfl, h.1, h.2.1, h.2.2⟩
variable {t : List (List Nd)}

end
end Go.Proofs.YtlpdhhhgckpcfaaGreat
