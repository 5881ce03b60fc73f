
/- Lock in a tree that nobody else changes: what it has found and locked. -/
import Derived.Test.YtlpdhhhgckpcfaaGreatLock
import Derived.Test.YtlpdhhhgckpcfaaGreatLaw11ab
namespace Go.Proofs.YtlpdhhhgckpcfaaGreat
open Go.RowKit
set_option maxRecDepth 100000
def xd (t:List (List Nd))(key:ByteArray)(level:Nat)(nd:Nd):Prop:=
 ∃ (l:List Nd) (i:Nat),t[level]?=some l/\l[i]?=some nd/\cE key nd.low=false/\(nd.pg.la || cE key nd.pg.hi)=true
def Xr (d:aR)(L:List aP)(nd:Nd):Int:=(ah L (d.node nd.id 0)).n
def abH (d:aR)(L:List aP)(nd:Nd):List aP:=aN L (d.node nd.id 0) ⟨aO (Xr d L nd),⟨#[]⟩,0⟩
theorem rT {x:Int}(h:x%4=0):aO x=x+1:=by
 unfold aO;rw[if_pos (by omega)]
theorem oG {x:Int}(h:x%4=0):aH (x+1)=x:=by
 unfold aH;omega
def LoI (d:aR)(L:List aP)(t:List (List Nd))(key:ByteArray)(level:Nat)(s:u6)(L1:List aP)(m:Nat):Prop:=
 (s.pc=0/\s.h=mA/\L1=L/\s.fd.pc≠2/\∃ m0,aeg d L t key level s.fd m0/\m0+(d.fa.toNat+6)<=m) \/
 (s.pc=1/\s.h=mA/\L1=L/\∃ nd,xd t key level nd/\s.id=nd.id/\((s.aq.pc=0/\s.aq.word=0/\d.fa.toNat+5<=m)\/(s.aq.pc=1/\s.aq.word=aO (Xr d L nd)/\d.fa.toNat+4<=m))) \/
 (s.pc=2/\s.h=mA/\∃ nd n,xd t key level nd/\s.id=nd.id/\L1=abH d L nd/\s.ow=it (bR d nd.id L1) n (xU (aO (Xr d L nd)))/\s.ow.pc≠6/\n<nd.pg.sl.length+3/\nd.pg.sl.length+3-n<=m) \/
 (s.pc=4/\((∃ nd,xd t key level nd/\s.h=⟨nd.id,aO (Xr d L nd),nd.pg⟩/\L1=abH d L nd)\/(t.length<=level/\s.h=mA/\L1=L)))
section
variable {d:aR}{L:List aP}{t:List (List Nd)}{key:ByteArray}{level:Nat}{s:u6}{L1:List aP}{m:Nat}
theorem xd.nd (ht:cA d L t){nd:Nd}(h:xd t key level nd):sq d L nd:=by
 obtain⟨l,i,hl,hi,_⟩:=h;exact ht.nodes level l hl nd (aqs hi)
end
end Go.Proofs.YtlpdhhhgckpcfaaGreat
