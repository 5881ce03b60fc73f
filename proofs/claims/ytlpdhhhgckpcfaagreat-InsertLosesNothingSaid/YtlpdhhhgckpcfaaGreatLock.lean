
/- The machine leaflock.Lock: Find, Acquire, Own, Release as its parts. -/
import Derived.Test.YtlpdhhhgckpcfaaGreatAcq
import Derived.Test.YtlpdhhhgckpcfaaGreatNodeOwn
import Derived.Test.YtlpdhhhgckpcfaaGreatMach
import Derived.Test.YtlpdhhhgckpcfaaGreatInsB
namespace Go.Proofs.YtlpdhhhgckpcfaaGreat
open Go.RowKit
set_option maxRecDepth 100000
/-- A Lock's cells behind its position. -/
def lkTl (d : Cfg) (key : ByteArray) (h : InH) (va : Value) : List Value :=
  [.int .i64 d.th, .int .i64 d.sn, .int .i64 d.no, .int .i64 d.ch, .int .i64 d.re, .int .i64 d.fa, .int .u64 d.cl, .string key, .int .u64 h.id, .int .u64 h.word, .int .i64 h.pg.lev, va, .string h.pg.hi, .bool h.pg.la, .int .u64 h.pg.ri]
/-- Lock: 0 it finds, 1 it acquires, 2 it reads the node, 3 it gives the node back, 4 it has ended. -/
structure LkS where
  pc : Nat
  fd : FdS
  id : Int
  aq : AcqS
  ow : RdS
  h : InH
def lok0 : LkS := ⟨0, fd0, 0, acq0, own0 0, hd0⟩
/-- The node covers the key (its low key does not count). -/
def pgIn (key : ByteArray) (pg : Pg) : Bool := pg.la || klt key pg.hi
def lokStep (d : Cfg) (key : ByteArray) (level : Int) (L : List Cel) (s : LkS) : LkS × List Cel :=
  match s.pc with
  | 0 =>
    let f := fdStep d L key level s.fd
    if f.pc = 2 then (if f.id = 0 then ({ s with pc := 4, fd := f }, L) else ({ s with pc := 1, fd := f, id := f.id, aq := acq0 }, L)) else ({ s with fd := f }, L)
  | 1 =>
    let a := acqStep (d.node s.id 0) L s.aq
    if a.1.pc = 2 then ({ s with pc := 2, aq := a.1, ow := own0 a.1.word }, a.2) else ({ s with aq := a.1 }, a.2)
  | 2 =>
    let o := ownStep d s.id L s.ow
    if o.pc = 6 then (if pgIn key o.pg then ({ s with pc := 4, ow := o, h := ⟨s.id, o.word, o.pg⟩ }, L) else ({ s with pc := 3, ow := o }, L)) else ({ s with ow := o }, L)
  | 3 => ({ s with pc := 1, id := s.ow.pg.ri, aq := acq0 }, putC L (d.node s.id 0) ⟨ltUnlock s.ow.word, ⟨#[]⟩, 0⟩)
  | _ => (s, L)
def lkThen3 (bk bh : Nat) : Value := .func (.func 154) #[] #[(.pointer (some ⟨bk, 0, none⟩)), (.pointer (some ⟨bh, 0, none⟩))]
section
variable {K : Know} {w : World} {F : List Comp} {b : Nat} {d : Cfg} {key : ByteArray} {level : Int}
end
section
variable {K : Know} {w : World} {F : List Comp} {b : Nat} {d : Cfg} {key : ByteArray} {h : InH} {va nx : Value} {id : Int}
/-- The node is kept, or given back. -/
def JdP (K : Know) (b : Nat) (d : Cfg) (key : ByteArray) (nx : Value) (h0 : InH) (va0 : Value) (h : InH) (a : Option Addr) (c : Nat) (F : List Comp) (e : Ending) (w' : World) : Prop :=
  (pgIn key h.pg = true ∧ e = .returned .nilFunc ∧ St K w' (blk b (.cells (nx :: .bool true :: lkTl d key h (.slice a h.pg.sl.length c)).toArray 125) :: slC (.slice a h.pg.sl.length c) h.pg :: F)) ∨
  (pgIn key h.pg = false ∧ ∃ b2 b3 b5 br bi bw bk bh, e = .returned (stV (some (callFV b2 b3 b5))) ∧ St K w' (blk b (.cells (nx :: .bool true :: lkTl d key h0 va0).toArray 125) :: callC b2 b3 b5 (.iface 47 (.pointer (some ⟨br, 0, none⟩))) (lkThen3 bk bh) :: ([blk bk (.cells #[(.pointer (some ⟨b, 0, none⟩))] 37), blk bh (.cells #[.int .u64 (h).id, .int .u64 (h).word, .int .i64 (h).pg.lev, (.slice a h.pg.sl.length c), .string (h).pg.hi, .bool (h).pg.la, .int .u64 (h).pg.ri] 45)] ++ (relL br bi bw (d.node h.id 0) h.word 0 ++ F))))
theorem JdP.same {K : Know} {b : Nat} {d : Cfg} {key : ByteArray} {nx : Value} {h0 : InH} {va0 : Value} {h : InH} {a : Option Addr} {c : Nat} {F : List Comp} {e : Ending} {W W' : World} (hj : JdP K b d key nx h0 va0 h a c F e W) (hb : Below W.heap.size W W') : JdP K b d key nx h0 va0 h a c F e W' := by
  rcases hj with ⟨h1, h2, hs⟩ | ⟨h1, b2, b3, b5, br, bi, bw, bk, bh, h2, hs⟩
  · exact .inl ⟨h1, h2, hs.same hb⟩
  · exact .inr ⟨h1, b2, b3, b5, br, bi, bw, bk, bh, h2, hs.same hb⟩
theorem JdP.rest {K : Know} {b : Nat} {d : Cfg} {key : ByteArray} {nx : Value} {h0 : InH} {va0 : Value} {h : InH} {a : Option Addr} {c : Nat} {F : List Comp} {e : Ending} {W : World} (hj : JdP K b d key nx h0 va0 h a c F e W) : St K W F := by
  rcases hj with ⟨h1, h2, hs⟩ | ⟨h1, b2, b3, b5, br, bi, bw, bk, bh, h2, hs⟩
  · exact hs.tail.tail
  · exact (show St K W (_ :: _ :: _ :: _ :: _ :: _ :: _ :: F) from hs).tail.tail.tail.tail.tail.tail.tail
end
structure LkS.Ok (d : Cfg) (key : ByteArray) (level : Int) (L : List Cel) (s : LkS) : Prop where
  pc : s.pc ≤ 3
  fd : s.pc = 0 → s.fd.Ok d ∧ s.fd.pc ≠ 2 ∧ (s.fd.pc = 1 → (rdStep d s.fd.id L s.fd.rd).pc = 6 → PgGood level (rdStep d s.fd.id L s.fd.rd).pg) ∧
    ((fdStep d L key level s.fd).pc = 2 → (0 ≤ (fdStep d L key level s.fd).id ∧ (fdStep d L key level s.fd).id < 18446744073709551616) ∧ (fdStep d L key level s.fd).pg.sl.length ≤ 1000000)
  id : 1 ≤ s.pc → 0 ≤ s.id ∧ s.id < 18446744073709551616
  aq : s.pc = 1 → s.aq.Ok ∧ s.aq.pc ≠ 2
  ow : s.pc = 2 → s.ow.OkO d ∧ s.ow.pc ≠ 6
  rl : s.pc = 3 → (0 ≤ s.ow.word ∧ s.ow.word < 18446744073709551616) ∧ 0 ≤ s.ow.pg.ri ∧ s.ow.pg.ri < 18446744073709551616
section
variable {K : Know} {w : World} {F : List Comp} {b bm bc : Nat} {d : Cfg} {key : ByteArray} {level : Int} {L : List Cel} {acc : Nat} {s : LkS} {C : List Comp}
end
end Go.Proofs.YtlpdhhhgckpcfaaGreat
