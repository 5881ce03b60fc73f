
/- Find in a tree: where it is, and how many steps are left. -/
import Derived.Test.YtlpdhhhgckpcfaaGreatFindA
import Derived.Test.YtlpdhhhgckpcfaaGreatTreeB
namespace Go.Proofs.YtlpdhhhgckpcfaaGreat
open Go.RowKit
set_option maxRecDepth 100000
def cS (t:List (List Nd))(k:Nat):Nat:=((t.take k).map List.length).sum
theorem rS {t:List (List Nd)}{k:Nat}{l:List Nd}(h:t[k]?=some l):cS t (k+1)=cS t k+l.length:=by
 unfold cS;rw[List.take_add_one,h];simp
theorem Ng (t:List (List Nd))(k:Nat):cS t k<=(t.map List.length).sum:=by
 unfold cS;have h:(t.map List.length).sum=((t.take k).map List.length).sum+((t.drop k).map List.length).sum:=by
  rw[← List.sum_append,← List.map_append,List.take_append_drop]
 omega
def aef (t:List (List Nd))(key:ByteArray)(level:Nat)(s:pZ):Prop:=
 (level<t.length->∃ (l:List Nd) (i:Nat) (nd:Nd),t[level]?=some l/\l[i]?=some nd/\s.id=nd.id/\s.pg=nd.pg/\cE key nd.low=false/\(nd.pg.la || cE key nd.pg.hi)=true)/\(t.length<=level->s.id=0/\s.pg=Fb)
def bT (d:aR):Nat:=d.fa.toNat+5
def aeg (d:aR)(L:List aP)(t:List (List Nd))(key:ByteArray)(level:Nat)(s:pZ)(m:Nat):Prop:=
 (s.pc=0/\(t.map List.length).sum*bT d+1<=m) \/
 (s.pc=1/\∃ (k i:Nat) (l:List Nd) (nd:Nd) (n:Nat),t[k]?=some l/\l[i]?=some nd/\s.id=nd.id/\s.rd=it (rdStep d nd.id L) n pq/\s.rd.pc<6/\cE key nd.low=false/\(level<=k\/k+1=t.length) /\
  (l.length-i+cS t k-1)*bT d+(bT d-n)<=m) \/
 (s.pc=2/\aef t key level s)
section
variable {d:aR}{L:List aP}{t:List (List Nd)}{key:ByteArray}{level:Nat}{s:pZ}{m:Nat}
end
end Go.Proofs.YtlpdhhhgckpcfaaGreat
