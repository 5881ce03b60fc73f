
/- The leaves that no slot of level 1 ab9 to (pure). -/
import Derived.Test.YtlpdhhhgckpcfaaGreatTreeB
namespace Go.Proofs.YtlpdhhhgckpcfaaGreat
open Go.RowKit
def jv (M:Nat)(S:List Int):List Value:=(List.range M).map fun(i:Nat)=> .bool (decide ((i:Int)∈S))
theorem Un (M:Nat)(S:List Int):(jv M S).length=M:=by simp[jv]
theorem Nu (M:Nat):List.replicate M (Value.bool false)=jv M []:=by
 unfold jv;refine List.ext_getElem? (fun i=>?_)
 by_cases h:i<M
 ·simp[h]
 ·simp[h]
theorem Kn {M i:Nat}(S:List Int)(hi:i<M):(jv M S)[i]?=some (.bool (decide ((i:Int)∈S))):=by simp[jv,hi]
theorem Uo (M:Nat)(S:List Int)(i:Nat):(jv M S).set i (.bool true)=jv M (S++[(i:Int)]):=by
 refine List.ext_getElem? (fun j=>?_)
 unfold jv;rw[List.getElem?_set];by_cases h:j<M
 ·by_cases e:i=j
  ·subst e
   simp[h]
  ·have e2:¬ (j:Int)=(i:Int):=by omega
   simp[h,e,e2]
 ·by_cases e:i=j
  ·subst e
   simp[h]
  ·simp[h,e]
def refsOf (l:List Nd):List Int:=(l.flatMap fun nd=>nd.pg.sl).map (·.r)
def fV (l0 l1:List Nd):List Nd:=(l0.drop 1).filter fun c => !decide (c.id∈refsOf l1)
def fM (l:List Nd):List Value:=l.flatMap fun c=>[.string c.low,.int .u64 c.id]
theorem Ik (l:List Nd)(c:Nd):fM (l++[c])=fM l++[.string c.low,.int .u64 c.id]:=by simp[fM]
theorem Du:∀ (l:List Nd)(i:Nat)(c:Nd),l[i]?=some c->(fM l)[i*2]?=some (.string c.low)/\(fM l)[i*2+1]?=some (.int .u64 c.id)
 | [],i,c,h=>by simp at h
 | a::l,0,c,h=>by
  obtain rfl:a=c:=by simpa using h
  exact⟨rfl,rfl⟩
 | a::l,i+1,c,h=>by
  have:=Du l i c (by simpa using h)
  rw[show(i+1)*2=i*2+2 by omega]
  exact this
theorem Nv {l0 l1:List Nd}{i:Nat}{c:Nd}(hi:l0[i]?=some c):fV (l0.take (i+1)) l1=if i > 0/\¬ c.id∈refsOf l1 then fV (l0.take i) l1++[c]else fV (l0.take i) l1:=by
 unfold fV;rw[List.take_add_one,hi];cases i with
 | zero=>simp
 | succ i=>
  have hlen:=(aqq.1 hi).1;rw[List.drop_append_of_le_length (by rw[List.length_take];omega),List.filter_append]
  by_cases h:c.id∈refsOf l1
  ·rw[if_neg (fun hh=>hh.2 h)]
   simp[h]
  ·rw[if_pos ⟨by omega,h⟩]
   simp[h]
theorem Dv {l:List Nd}{i:Nat}{c:Nd}(hi:l[i]?=some c):refsOf (l.take (i+1))=refsOf (l.take i)++c.pg.sl.map (·.r):=by
 unfold refsOf;rw[List.take_add_one,hi];simp
end Go.Proofs.YtlpdhhhgckpcfaaGreat
