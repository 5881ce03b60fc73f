/- Machines: the position of a machine (steps.Run), for any state function that keeps the position's cell. The position of a machine (steps.Run), for any state function, as a part of a world. -/
import Derived.Test.YtfgjanponijkhaaMem
import Derived.Laws.EntriesVeiled
import Derived.Test.YtfgjanponijkhaaSt
namespace Go.Proofs.Ytfgjanponijkhaa
open Go.RowKit

theorem neq_func (f : Nat) (x y : Array Value) (w : World) : (binOp .neq 155 (.func (.func f) x y) .nilFunc).run Try.prog w = .ok (.bool true) w := by kernel_rfl
theorem eql_func (f : Nat) (x y : Array Value) (w : World) : (binOp .eql 155 (.func (.func f) x y) .nilFunc).run Try.prog w = .ok (.bool false) w := by kernel_rfl
theorem neq_nilFunc (w : World) : (binOp .neq 155 .nilFunc .nilFunc).run Try.prog w = .ok (.bool false) w := by kernel_rfl
theorem eql_nilFunc (w : World) : (binOp .eql 155 .nilFunc .nilFunc).run Try.prog w = .ok (.bool true) w := by kernel_rfl
attribute [go_sem] neq_func eql_func neq_nilFunc eql_nilFunc

theorem field_cell0 (n m : Int) (k : ByteArray) (w : World) : (Instr.field 41 (.agg #[.int .u64 n, .string k, .int .u64 m]) 0).run Try.prog w = .ok (.int .u64 n) w := by kernel_rfl
theorem field_cell1 (n m : Int) (k : ByteArray) (w : World) : (Instr.field 41 (.agg #[.int .u64 n, .string k, .int .u64 m]) 1).run Try.prog w = .ok (.string k) w := by kernel_rfl
theorem field_cell2 (n m : Int) (k : ByteArray) (w : World) : (Instr.field 41 (.agg #[.int .u64 n, .string k, .int .u64 m]) 2).run Try.prog w = .ok (.int .u64 m) w := by kernel_rfl
attribute [go_sem] field_cell0 field_cell1 field_cell2

theorem begin_any (f : Nat) (x y : Array Value) (w : World) : Calls Try.prog 101 #[.func (.func f) x y] w fun e w' => e = .returned (.agg #[.func (.func f) x y, .bool true]) ∧ Below w.heap.size w w' := by
  go_enter Try.func101, Try.ntmps101
  go_wp2
  refine bodyPost_ret (v := .agg #[.func (.func f) x y, .bool true]) (by simp [results, Try.results101, go_sem]) rfl ⟨rfl, ?_⟩
  exact (Below.refl _ _).alloc (Nat.le_refl _) _

set_option maxRecDepth 100000 in
/-- A step of a machine that has finished. -/
theorem runStep_done (w : World) (b m : Nat) (hc : w.cell? ⟨b, 0, none⟩ = some .nilFunc) : Calls Try.prog 103 #[.pointer (some ⟨b, 0, none⟩), .pointer (some ⟨m, 0, none⟩)] w fun e w' => e = .returned (.bool true) ∧ w = w' := by
  go_enter Try.func103, Try.ntmps103
  go_wp2
  go_ret
  exact ⟨rfl, rfl⟩

/-- A function of the program that is entered when it is called. -/
def Enters (f : Nat) : Prop := ∀ (args : Array Value) (w : World), (callFunc f args).run Try.prog w = .ok (.enter f args) w

set_option maxRecDepth 100000 in
/-- A step of a machine that goes on. -/
theorem runStep_go {R : World → Prop} (w : World) (b m f g : Nat) (p : Addr) (hf : Enters f) (hc : w.cell? ⟨b, 0, none⟩ = some (.func (.func f) #[.pointer (some p)] #[]))
    (hcall : Calls Try.prog f #[.pointer (some p), .pointer (some ⟨m, 0, none⟩)] w fun e w1 => e = .returned (.func (.func g) #[.pointer (some p)] #[]) ∧ R w1)
    (hk : ∀ w1, R w1 → ∃ v cs T, w1.heap[b]? = some (.cells cs T) ∧ cs[0]? = some v) :
    Calls Try.prog 103 #[.pointer (some ⟨b, 0, none⟩), .pointer (some ⟨m, 0, none⟩)] w fun e w' => e = .returned (.bool false) ∧ ∃ w1, R w1 ∧ w' = w1.setCell ⟨b, 0, none⟩ (.func (.func g) #[.pointer (some p)] #[]) := by
  have hf' : ∀ (args : Array Value) (w : World), (callFunc f args).run Try.prog w = .ok (.enter f args) w := hf
  have HC := Lib.hid hcall
  have HK := Lib.hid hk
  clear hcall hk
  go_enter Try.func103, Try.ntmps103
  go_wp2_with fail
  refine (HC.out).mono ?_
  rintro e w1 ⟨rfl, hR⟩
  obtain ⟨v, cs, T, hb, hv⟩ := HK.out w1 hR
  have hcell : w1.cell? ⟨b, 0, none⟩ = some v := by rw [blk_cell hb]; exact hv
  have hfr := blk_frozen hb 0
  have hafter : (w1.setCell ⟨b, 0, none⟩ (.func (.func g) #[.pointer (some p)] #[])).cell? ⟨b, 0, none⟩ = some (.func (.func g) #[.pointer (some p)] #[]) := World.cell?_setCell_same _ _ _ hcell
  clear hb hc hf' hv
  go_wp2
  go_ret
  exact ⟨rfl, w1, hR, rfl⟩

set_option maxRecDepth 100000 in
/-- The last step of a machine. -/
theorem runStep_end {R : World → Prop} (w : World) (b m f : Nat) (p : Addr) (hf : Enters f) (hc : w.cell? ⟨b, 0, none⟩ = some (.func (.func f) #[.pointer (some p)] #[]))
    (hcall : Calls Try.prog f #[.pointer (some p), .pointer (some ⟨m, 0, none⟩)] w fun e w1 => e = .returned .nilFunc ∧ R w1)
    (hk : ∀ w1, R w1 → ∃ v cs T, w1.heap[b]? = some (.cells cs T) ∧ cs[0]? = some v) :
    Calls Try.prog 103 #[.pointer (some ⟨b, 0, none⟩), .pointer (some ⟨m, 0, none⟩)] w fun e w' => e = .returned (.bool true) ∧ ∃ w1, R w1 ∧ w' = w1.setCell ⟨b, 0, none⟩ .nilFunc := by
  have hf' : ∀ (args : Array Value) (w : World), (callFunc f args).run Try.prog w = .ok (.enter f args) w := hf
  have HC := Lib.hid hcall
  have HK := Lib.hid hk
  clear hcall hk
  go_enter Try.func103, Try.ntmps103
  go_wp2_with fail
  refine (HC.out).mono ?_
  rintro e w1 ⟨rfl, hR⟩
  obtain ⟨v, cs, T, hb, hv⟩ := HK.out w1 hR
  have hcell : w1.cell? ⟨b, 0, none⟩ = some v := by rw [blk_cell hb]; exact hv
  have hfr := blk_frozen hb 0
  have hafter : (w1.setCell ⟨b, 0, none⟩ .nilFunc).cell? ⟨b, 0, none⟩ = some .nilFunc := World.cell?_setCell_same _ _ _ hcell
  clear hb hc hf' hv
  go_wp2
  go_ret
  exact ⟨rfl, w1, hR, rfl⟩
end Go.Proofs.Ytfgjanponijkhaa

namespace Go.Proofs.Ytfgjanponijkhaa
open Go.RowKit
set_option maxRecDepth 100000

/-- A state function: its number, what stands ahead of the argument, what it has captured; or none. -/
structure FV where
  f : Nat
  x : Array Value
  y : Array Value
def stV : Option FV → Value
  | some s => .func (.func s.f) s.x s.y
  | none => .nilFunc

/-- What a state function leaves: the state behind it, what is known, the machine's block and the other parts. -/
structure Left where
  o : Option FV
  K : Know
  v0 : Value
  cells : List Value
  T : TypeId
  F : List Comp

/-- A step of a machine: its state function is called; what it returns is the next state. -/
theorem runStep_st {R : Left → Prop} (w : World) (b m : Nat) (s : FV) (hf : Enters s.f) (hc : w.cell? ⟨b, 0, none⟩ = some (stV (some s)))
    (hcall : Calls Try.prog s.f (s.x ++ #[.pointer (some ⟨m, 0, none⟩)] ++ s.y) w fun e w1 => ∃ l, e = .returned (stV l.o) ∧ R l ∧ St l.K w1 (blk b (.cells (l.v0 :: l.cells).toArray l.T) :: l.F)) :
    Calls Try.prog 103 #[.pointer (some ⟨b, 0, none⟩), .pointer (some ⟨m, 0, none⟩)] w fun e w' => ∃ l, e = .returned (.bool l.o.isNone) ∧ R l ∧ St l.K w' (blk b (.cells (stV l.o :: l.cells).toArray l.T) :: l.F) := by
  have hf' : ∀ (args : Array Value) (w : World), (callFunc s.f args).run Try.prog w = .ok (.enter s.f args) w := hf
  have HC := Lib.hid hcall
  obtain ⟨f, x, y⟩ := s
  have hc' : w.cell? ⟨b, 0, none⟩ = some (.func (.func f) x y) := hc
  clear hcall hc
  go_enter Try.func103, Try.ntmps103
  go_wp2_with fail
  refine (HC.out).mono ?_
  rintro e w1 ⟨⟨o, K, v0, cells, T, F⟩, he, hR, hs⟩
  have hs : St K w1 (blk b (.cells (v0 :: cells).toArray T) :: F) := hs
  have k := hs.k0 0
  rw [show (v0 :: cells).toArray[0]? = some v0 by simp] at k
  have kf := hs.f0 0
  have hs := hs.setL 0 (stV o)
  have k' := hs.k0 0
  rw [show ((v0 :: cells).set 0 (stV o)).toArray[0]? = some (stV o) by simp] at k'
  simp only [List.set_cons_zero] at hs
  clear hc' hf' HC
  cases o with
  | none =>
    obtain rfl : e = .returned .nilFunc := he
    have k2 : (w1.setCell ⟨b, 0, none⟩ .nilFunc).cell? ⟨b, 0, none⟩ = some .nilFunc := k'
    have Hs := Lib.hid hs
    clear k' hs
    go_wp2
    go_ret
    exact ⟨⟨none, K, v0, cells, T, F⟩, rfl, hR, Hs.out⟩
  | some s =>
    obtain ⟨f', x', y'⟩ := s
    obtain rfl : e = .returned (.func (.func f') x' y') := he
    have k2 : (w1.setCell ⟨b, 0, none⟩ (.func (.func f') x' y')).cell? ⟨b, 0, none⟩ = some (.func (.func f') x' y') := k'
    have Hs := Lib.hid hs
    clear k' hs
    go_wp2
    go_ret
    exact ⟨⟨some ⟨f', x', y'⟩, K, v0, cells, T, F⟩, rfl, hR, Hs.out⟩

/-- .. of a machine that has finished. -/
theorem runStep_end_st {K : Know} {w : World} {cs : List Comp} {b m : Nat} (hs : St K w cs) (hc : w.cell? ⟨b, 0, none⟩ = some .nilFunc) : Calls Try.prog 103 #[.pointer (some ⟨b, 0, none⟩), .pointer (some ⟨m, 0, none⟩)] w fun e w' => e = .returned (.bool true) ∧ St K w' cs :=
  calls_id hs (runStep_done w b m hc)
end Go.Proofs.Ytfgjanponijkhaa
