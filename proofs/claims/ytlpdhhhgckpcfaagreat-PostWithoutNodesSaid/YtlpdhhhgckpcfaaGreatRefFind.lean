
/- The rz Find. -/
import Derived.Test.YtlpdhhhgckpcfaaGreatKeys
namespace Go.Proofs.YtlpdhhhgckpcfaaGreat
open Go.RowKit
set_option maxRecDepth 100000
section
variable {pg:Pg}{a:Option Addr}{cap:Nat}{key:ByteArray}
end
end Go.Proofs.YtlpdhhhgckpcfaaGreat
