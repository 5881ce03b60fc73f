
/- The machine alloc.Take (layer 5): what each of its steps does. alloc.Take as a part of a world. -/
import Derived.Test.YtlpdhhhgckpcfaaGreatBaseA
namespace Go.Proofs.YtlpdhhhgckpcfaaGreat
open Go.RowKit
set_option maxRecDepth 100000

/-- A taker: where it stands (0: it loads, 1: it swaps, 2: it has finished), what it saw, whether it took a number. -/
structure TakeS where
  pc : Nat
  seen : Int
  ok : Bool

def takePc (bt : Nat) : Nat → Value
  | 0 => .func (.func 134) #[.pointer (some ⟨bt, 0, none⟩)] #[]
  | 1 => .func (.func 162) #[.pointer (some ⟨bt, 0, none⟩)] #[]
  | _ => .nilFunc

/-- What a step of a taker does. -/
def takeStep (i lim : Int) (L : List Cel) (s : TakeS) : TakeS × List Cel :=
  match s.pc with
  | 0 => (⟨if lim ≤ (getC L i).n then 2 else 1, (getC L i).n, s.ok⟩, L)
  | 1 => if swapOk L i s.seen then (⟨2, s.seen, true⟩, putC L i ⟨s.seen + 1, ⟨#[]⟩, 0⟩) else (⟨0, s.seen, s.ok⟩, L)
  | _ => (s, L)

end Go.Proofs.YtlpdhhhgckpcfaaGreat

namespace Go.Proofs.YtlpdhhhgckpcfaaGreat
open Go.RowKit
set_option maxRecDepth 100000
section
variable {K : Know} {w w' : World} {c d : Comp} {cs F : List Comp}
def takeC (b : Nat) (i lim : Int) (s : TakeS) : Comp := blk b (.cells #[takePc b s.pc, .bool true, .int .i64 i, .int .u64 lim, .int .u64 s.seen, .bool s.ok] 190)
end
end Go.Proofs.YtlpdhhhgckpcfaaGreat
