
/- The rz Insert and Split. -/
import Derived.Test.YtlpdhhhgckpcfaaGreatPageOps
import Derived.Test.YtlpdhhhgckpcfaaGreatRefFind
import Derived.Test.YtlpdhhhgckpcfaaGreatCallVar
namespace Go.Proofs.YtlpdhhhgckpcfaaGreat
open Go.RowKit
set_option maxRecDepth 100000
section
variable {K:aK}{w:World}{F:List aB}{pg:Pg}{a:Option Addr}{cap:Nat}{key:ByteArray}{r:Int}
end
end Go.Proofs.YtlpdhhhgckpcfaaGreat
