
/- ac3 into a row of leaves (pure): what InsertRow keeps. -/
import Derived.Test.YtlpdhhhgckpcfaaGreatInsTree
import Derived.Test.YtlpdhhhgckpcfaaGreatSound
namespace Go.Proofs.YtlpdhhhgckpcfaaGreat
open Go.RowKit
set_option maxRecDepth 100000
section
variable {d:aR}{L L':List aP}{nd:Nd}{fr:cB}{p q:Pg}{sp:Bool}
end
def afe (l:List Nd):List Sl:=l.flatMap fun nd=>nd.pg.sl
structure aff (d:aR)(L:List aP)(l:List Nd)(ks:List ByteArray):Prop where
 tr:cA d L [l]
 iR:bI L
 eW:(L.length:Int)=d.cells
 sl:(afe l).Perm (ee 0 ks)
 n4:(ah L 4).n<=ks.length+1
 zero:∀ j:Int,mC d j->ah L j=aP.zero
 ksz:∀ k,k∈ks->k.size<=32
 his:∀ nd,nd∈l->nd.pg.hi.size<=32
section
variable {d:aR}{L L':List aP}{l:List Nd}{ks:List ByteArray}{key:ByteArray}
theorem aff.nd (h:aff d L l ks){nd:Nd}(hn:nd∈l):sq d L nd:=h.tr.nodes 0 l rfl nd hn
theorem uQ:∀ (ks:List ByteArray)(i:Nat),(ee i ks).map (·.r)=(List.range ks.length).map (fun j=>((i+j+1:Nat):Int))
 | [],i=>rfl
 | k::ks,i=>by
  show((i+1:Nat):Int)::(ee (i+1) ks).map (·.r)=_
  rw[uQ ks (i+1),List.length_cons,List.range_succ_eq_map,List.map_cons,List.map_map];congr 1
  refine List.map_congr_left (fun j _=>?_)
  show((i+1+j+1:Nat):Int)=((i+(j+1)+1:Nat):Int)
  congr 1;omega
end
end Go.Proofs.YtlpdhhhgckpcfaaGreat
