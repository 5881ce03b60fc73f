
/- latch.Acquire and latch.Release as parts of a world. -/
import Derived.Test.YtlpdhhhgckpcfaaGreatBaseA
import Derived.Test.YtlpdhhhgckpcfaaGreatNodeB
import Derived.Test.YtlpdhhhgckpcfaaGreatFindA
namespace Go.Proofs.YtlpdhhhgckpcfaaGreat
open Go.RowKit
set_option maxRecDepth 100000
/-- Acquire: 0 it looks, 1 it locks, 2 it has locked. -/
structure AcqS where
  pc : Nat
  word : Int
def acqStep (i : Int) (L : List Cel) (s : AcqS) : AcqS × List Cel :=
  match s.pc with
  | 0 => (if (getC L i).n % 2 = 1 then ⟨0, s.word⟩ else ⟨1, ltLock (getC L i).n⟩, L)
  | 1 => if swapOk L i (ltUnlock s.word) then (⟨2, s.word⟩, putC L i ⟨s.word, ⟨#[]⟩, 0⟩) else (⟨0, s.word⟩, L)
  | _ => (s, L)
def acq0 : AcqS := ⟨0, 0⟩
section
variable (x : Int) (h0 : 0 ≤ x) (h1 : x < 18446744073709551616)
include h0 h1
end
section
variable {K : Know} {w : World} {F : List Comp} {b bm bc : Nat} {i : Int} {L : List Cel} {acc : Nat} {s : AcqS} {nx : Value}
end
section
variable {K : Know} {w : World} {F : List Comp} {b bm bc : Nat} {i : Int} {L : List Cel} {acc : Nat} {s : AcqS}
structure AcqS.Ok (s : AcqS) : Prop where
  pc : s.pc ≤ 2
  word : 0 ≤ s.word ∧ s.word < 18446744073709551616
end
/-- Release: the machine, the variables of its function. -/
def relPv (bi bw : Nat) : Nat → Option FV
  | 0 => some ⟨78, #[], #[(.pointer (some ⟨bi, 0, none⟩)), (.pointer (some ⟨bw, 0, none⟩))]⟩
  | _ => none
def relL (b bi bw : Nat) (i word : Int) (pc : Nat) : List Comp := [blk b (.cells [stV (relPv bi bw pc), .bool true].toArray 131), blk bi (.cells #[.int .i64 i] 3), blk bw (.cells #[.int .u64 word] 23)]
section
variable {K : Know} {w : World} {F : List Comp} {b bi bw bm bc : Nat} {i word : Int} {L : List Cel} {acc : Nat}
end
end Go.Proofs.YtlpdhhhgckpcfaaGreat
