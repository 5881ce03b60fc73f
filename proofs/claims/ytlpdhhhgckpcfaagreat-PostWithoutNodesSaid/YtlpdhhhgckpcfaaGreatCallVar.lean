
/- x := f(..), x a variable that a closure captures, in a region that draws: the call (i), the new variable (i + 1), the store (i + 2). -/
import Derived.Test.YtlpdhhhgckpcfaaGreatGrA
import Derived.Test.YtlpdhhhgckpcfaaGreatPageA
namespace Go.Proofs.YtlpdhhhgckpcfaaGreat
open Go.RowKit
set_option maxRecDepth 100000
def oA (K:aK)(REST:List aB)(T:TypeId)(z:Value)(i j k:Nat)(Φ:Value->List aB->Prop)(ρ:Nat->Option Value)(W:World):Prop:=
 ∃ (b:Nat) (C:List aB),(∀ v,ρ i=some v->Φ v C)/\(∀ v,ρ j=some v->v=(.pointer (some ⟨b,0,none⟩))) /\
  St K W ((if (ρ i).isSome then C else [])++(dA (ρ j) (blk b (.cells #[if (ρ k).isSome then(ρ i).getD z else z] T))::REST))
section
variable {K:aK}{REST:List aB}{T:TypeId}{z:Value}{i j k:Nat}{Φ:Value->List aB->Prop}{ρ:Nat->Option Value}{W:World}{v u:Value}
theorem oA.start (hs:St K W REST):oA K REST T z i j k Φ (fun _=>none) W:=
 ⟨0,[],fun v h=>(by cases h),fun v h=>(by cases h),hs.empty⟩
theorem oA.same {W':World}(h:oA K REST T z i j k Φ ρ W)(hb:Below W.heap.size W W'):oA K REST T z i j k Φ ρ W' := by
 obtain⟨b,C,e1,e2,hs⟩:=h;exact⟨b,C,e1,e2,hs.same hb⟩
theorem oA.rest (h:oA K REST T z i j k Φ ρ W):St K W REST:=by
 obtain⟨b,C,e1,e2,hs⟩:=h;exact(hs.right).tail
theorem upd_ne {ρ:Nat->Option Value}{a b:Nat}{v:Value}(h:b≠a):upd ρ a v b=ρ b:=by simp[upd,h]
theorem cC {ρ:Nat->Option Value}{a:Nat}{v:Value}:upd ρ a v a=some v:=by simp[upd]
theorem St.aaM {x:aB}{xs:List aB}(h:St K W (x::xs)):St K W (xs++[x]):=
 h.perm (by simpa using (List.perm_append_comm (l₁:=[x]) (l₂:=xs)))
theorem oA.call (h:oA K REST T z i j k Φ ρ W)(hij:i≠j)(hik:i≠k)(hi:ρ i=none)(hk:ρ k=none):∃ X:List aB,St K W (REST++X)/\∀ v C W',Φ v C->St K W' (C++(REST++X))->oA K REST T z i j k Φ (upd ρ i v) W' := by
 obtain⟨b,C0,e1,e2,hs⟩:=h;rw[hi,hk]at hs;have hs:St K W (dA (ρ j) (blk b (.cells #[z] T))::REST):=hs;refine⟨[dA (ρ j) (blk b (.cells #[z] T))],hs.aaM,fun v C W' hΦ hs' => ⟨b,C,fun v' hv' =>?_,fun v' hv' => e2 v' (by rwa [upd_ne (Ne.symm hij)]at hv'),?_⟩⟩
 ·rw[cC]at hv'
  rw[← aqu hv'];exact hΦ
 ·rw[cC,upd_ne (Ne.symm hij),upd_ne (Ne.symm hik),hk]
  exact hs'.perm (List.Perm.append_left C (by simp))
theorem oA.var (h:oA K REST T z i j k Φ ρ W)(hij:i≠j)(hjk:j≠k)(hj:ρ j=none)(hk:ρ k=none):oA K REST T z i j k Φ (upd ρ j (.pointer (some ⟨W.heap.size,0,none⟩))) (W.alloc (.cells #[z] T)):=by
 obtain⟨b,C0,e1,e2,hs⟩:=h;rw[hj,hk]at hs;refine⟨W.heap.size,C0,fun v hv=>e1 v (by rwa [upd_ne hij]at hv),fun v hv=>by rw[cC]at hv;exact(aqu hv).symm,?_⟩
 rw[upd_ne hij,cC,upd_ne (Ne.symm hjk),hk];have h1:St K W ((if (ρ i).isSome then C0 else [])++(gK::REST)):=hs
 have h2:St K W (gK::((if (ρ i).isSome then C0 else [])++REST)):=h1.perm List.perm_middle
 have h3:=h2.tail.made (.cells #[z] T);exact h3.perm (List.perm_middle.symm)
theorem oA.store (h:oA K REST T z i j k Φ ρ W)(hik:i≠k)(hjk:j≠k)(hi:ρ i=some v)(hj:ρ j=some u)(hk:ρ k=none):∃ (b:Nat)(R':List aB),u=(.pointer (some ⟨b,0,none⟩))/\(∃ C,Φ v C)/\St K W (blk b (.cells #[z] T)::R') /\
  ∀ W',St K W' (blk b (.cells #[v] T)::R')->oA K REST T z i j k Φ (upd ρ k undef) W' := by
 obtain⟨b,C0,e1,e2,hs⟩:=h;rw[hi,hj,hk]at hs;have h1:St K W (C0++(blk b (.cells #[z] T)::REST)):=hs;refine⟨b,C0++REST,e2 u hj,⟨C0,e1 v hi⟩,h1.perm List.perm_middle,fun W' hs' => ⟨b,C0,fun v' hv=>e1 v' (by rwa [upd_ne hik]at hv),fun v' hv=>e2 v' (by rwa [upd_ne hjk]at hv),?_⟩⟩
 rw[upd_ne hik,upd_ne hjk,cC,hi,hj];exact hs'.perm (List.perm_middle.symm)
theorem oA.last (h:oA K REST T z i j k Φ ρ W)(hall:∀ e,e∈[i,j,k]->(ρ e).isSome=true):∃ (b:Nat)(v:Value)(C:List aB),ρ i=some v/\ρ j=some (.pointer (some ⟨b,0,none⟩))/\(∃ x,ρ k=some x)/\Φ v C/\St K W (blk b (.cells #[v] T)::(C++REST)):=by
 obtain⟨v,hi⟩:=aqr.1 (hall i (by simp))
 obtain⟨u,hj⟩:=aqr.1 (hall j (by simp))
 obtain⟨x,hk⟩:=aqr.1 (hall k (by simp))
 obtain⟨b,C0,e1,e2,hs⟩:=h;rw[hi,hj,hk]at hs;have h1:St K W (C0++(blk b (.cells #[v] T)::REST)):=hs;exact⟨b,v,C0,hi,by rw[hj,e2 u hj],⟨x,hk⟩,e1 v hi,h1.perm List.perm_middle⟩
end
end Go.Proofs.YtlpdhhhgckpcfaaGreat
