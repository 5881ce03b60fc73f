
/- blinktreecells.View: counters, chains, sound, Sound: a tree that is sound. -/
import Derived.Test.YtlpdhhhgckpcfaaGreatSoundA
import Derived.Test.YtlpdhhhgckpcfaaGreatTreePut
import Derived.Test.YtlpdhhhgckpcfaaGreatLaw11b
namespace Go.Proofs.YtlpdhhhgckpcfaaGreat
open Go.RowKit
set_option maxRecDepth 100000
section
variable {K : Know} {w : World} {F : List Comp} {a : Option Addr} {n cap : Nat} {sl : List Sl} {lev ri fa : Int} {hi : ByteArray}
/- P7.1. -/

end
end Go.Proofs.YtlpdhhhgckpcfaaGreat
