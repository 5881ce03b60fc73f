
/- blinktreecells.View: sound, Sound. -/
import Derived.Test.YtlpdhhhgckpcfaaGreatSoundC
namespace Go.Proofs.YtlpdhhhgckpcfaaGreat
open Go.RowKit
set_option maxRecDepth 100000
/-- A node that is sound at its place. -/
structure NdSnd (d : Cfg) (L : List Cel) (lev : Nat) (below : List Int) (lows : List ByteArray) (nd : Nd) : Prop where
  ok : NdOk d L nd
  lv : nd.pg.lev = lev
  ne : 0 < lev → ∃ s r, nd.pg.sl = s :: r ∧ s.k = nd.low
  la : nd.pg.la = true → nd.pg.hi = ⟨#[]⟩ ∧ nd.pg.ri = 0
  ri : nd.pg.la = false → 1 ≤ nd.pg.ri ∧ nd.pg.ri ≤ d.no ∧ nd.pg.ri ≤ (getC L 4).n
  dn : ∀ s, s ∈ nd.pg.sl → lev = 0 ∨ ∃ k : Nat, below[k]? = some s.r ∧ lows[k]? = some s.k
section
variable {K : Know} {w : World} {F : List Comp} {d : Cfg} {g : Nat} {L : List Cel} {nd : Nd} {lev : Nat} {below : List Int} {lows : List ByteArray} {ab al : Option Addr} {cb cl : Nat}
end
end Go.Proofs.YtlpdhhhgckpcfaaGreat
