/- Machines: the position of a machine (steps.Run), for any state function that keeps the position's cell. -/
import Derived.Test.YtfgjanponijkhaaMem2
import Derived.Laws.EntriesVeiled
namespace Go.Proofs.Ytfgjanponijkhaa
open Go.RowKit

theorem neq_func (f : Nat) (x y : Array Value) (w : World) : (binOp .neq 155 (.func (.func f) x y) .nilFunc).run Try.prog w = .ok (.bool true) w := by kernel_rfl
theorem eql_func (f : Nat) (x y : Array Value) (w : World) : (binOp .eql 155 (.func (.func f) x y) .nilFunc).run Try.prog w = .ok (.bool false) w := by kernel_rfl
theorem neq_nilFunc (w : World) : (binOp .neq 155 .nilFunc .nilFunc).run Try.prog w = .ok (.bool false) w := by kernel_rfl
theorem eql_nilFunc (w : World) : (binOp .eql 155 .nilFunc .nilFunc).run Try.prog w = .ok (.bool true) w := by kernel_rfl
attribute [go_sem] neq_func eql_func neq_nilFunc eql_nilFunc

theorem field_cell0 (n m : Int) (k : ByteArray) (w : World) : (Instr.field 41 (.agg #[.int .u64 n, .string k, .int .u64 m]) 0).run Try.prog w = .ok (.int .u64 n) w := by kernel_rfl
theorem field_cell1 (n m : Int) (k : ByteArray) (w : World) : (Instr.field 41 (.agg #[.int .u64 n, .string k, .int .u64 m]) 1).run Try.prog w = .ok (.string k) w := by kernel_rfl
theorem field_cell2 (n m : Int) (k : ByteArray) (w : World) : (Instr.field 41 (.agg #[.int .u64 n, .string k, .int .u64 m]) 2).run Try.prog w = .ok (.int .u64 m) w := by kernel_rfl
attribute [go_sem] field_cell0 field_cell1 field_cell2

theorem begin_any (f : Nat) (x y : Array Value) (w : World) : Calls Try.prog 101 #[.func (.func f) x y] w fun e w' => e = .returned (.agg #[.func (.func f) x y, .bool true]) ∧ Below w.heap.size w w' := by
  go_enter Try.func101, Try.ntmps101
  go_wp2
  refine bodyPost_ret (v := .agg #[.func (.func f) x y, .bool true]) (by simp [results, Try.results101, go_sem]) rfl ⟨rfl, ?_⟩
  exact (Below.refl _ _).alloc (Nat.le_refl _) _

set_option maxRecDepth 100000 in
/-- A step of a machine that has finished. -/
theorem runStep_done (w : World) (b m : Nat) (hc : w.cell? ⟨b, 0, none⟩ = some .nilFunc) : Calls Try.prog 103 #[.pointer (some ⟨b, 0, none⟩), .pointer (some ⟨m, 0, none⟩)] w fun e w' => e = .returned (.bool true) ∧ w = w' := by
  go_enter Try.func103, Try.ntmps103
  go_wp2
  go_ret
  exact ⟨rfl, rfl⟩

/-- A function of the program that is entered when it is called. -/
def Enters (f : Nat) : Prop := ∀ (args : Array Value) (w : World), (callFunc f args).run Try.prog w = .ok (.enter f args) w

set_option maxRecDepth 100000 in
/-- A step of a machine that goes on. -/
theorem runStep_go {R : World → Prop} (w : World) (b m f g : Nat) (p : Addr) (hf : Enters f) (hc : w.cell? ⟨b, 0, none⟩ = some (.func (.func f) #[.pointer (some p)] #[]))
    (hcall : Calls Try.prog f #[.pointer (some p), .pointer (some ⟨m, 0, none⟩)] w fun e w1 => e = .returned (.func (.func g) #[.pointer (some p)] #[]) ∧ R w1)
    (hk : ∀ w1, R w1 → ∃ v cs T, w1.heap[b]? = some (.cells cs T) ∧ cs[0]? = some v) :
    Calls Try.prog 103 #[.pointer (some ⟨b, 0, none⟩), .pointer (some ⟨m, 0, none⟩)] w fun e w' => e = .returned (.bool false) ∧ ∃ w1, R w1 ∧ w' = w1.setCell ⟨b, 0, none⟩ (.func (.func g) #[.pointer (some p)] #[]) := by
  have hf' : ∀ (args : Array Value) (w : World), (callFunc f args).run Try.prog w = .ok (.enter f args) w := hf
  have HC := Lib.hid hcall
  have HK := Lib.hid hk
  clear hcall hk
  go_enter Try.func103, Try.ntmps103
  go_wp2_with fail
  refine (HC.out).mono ?_
  rintro e w1 ⟨rfl, hR⟩
  obtain ⟨v, cs, T, hb, hv⟩ := HK.out w1 hR
  have hcell : w1.cell? ⟨b, 0, none⟩ = some v := by rw [blk_cell hb]; exact hv
  have hfr := blk_frozen hb 0
  have hafter : (w1.setCell ⟨b, 0, none⟩ (.func (.func g) #[.pointer (some p)] #[])).cell? ⟨b, 0, none⟩ = some (.func (.func g) #[.pointer (some p)] #[]) := World.cell?_setCell_same _ _ _ hcell
  clear hb hc hf' hv
  go_wp2
  go_ret
  exact ⟨rfl, w1, hR, rfl⟩

set_option maxRecDepth 100000 in
/-- The last step of a machine. -/
theorem runStep_end {R : World → Prop} (w : World) (b m f : Nat) (p : Addr) (hf : Enters f) (hc : w.cell? ⟨b, 0, none⟩ = some (.func (.func f) #[.pointer (some p)] #[]))
    (hcall : Calls Try.prog f #[.pointer (some p), .pointer (some ⟨m, 0, none⟩)] w fun e w1 => e = .returned .nilFunc ∧ R w1)
    (hk : ∀ w1, R w1 → ∃ v cs T, w1.heap[b]? = some (.cells cs T) ∧ cs[0]? = some v) :
    Calls Try.prog 103 #[.pointer (some ⟨b, 0, none⟩), .pointer (some ⟨m, 0, none⟩)] w fun e w' => e = .returned (.bool true) ∧ ∃ w1, R w1 ∧ w' = w1.setCell ⟨b, 0, none⟩ .nilFunc := by
  have hf' : ∀ (args : Array Value) (w : World), (callFunc f args).run Try.prog w = .ok (.enter f args) w := hf
  have HC := Lib.hid hcall
  have HK := Lib.hid hk
  clear hcall hk
  go_enter Try.func103, Try.ntmps103
  go_wp2_with fail
  refine (HC.out).mono ?_
  rintro e w1 ⟨rfl, hR⟩
  obtain ⟨v, cs, T, hb, hv⟩ := HK.out w1 hR
  have hcell : w1.cell? ⟨b, 0, none⟩ = some v := by rw [blk_cell hb]; exact hv
  have hfr := blk_frozen hb 0
  have hafter : (w1.setCell ⟨b, 0, none⟩ .nilFunc).cell? ⟨b, 0, none⟩ = some .nilFunc := World.cell?_setCell_same _ _ _ hcell
  clear hb hc hf' hv
  go_wp2
  go_ret
  exact ⟨rfl, w1, hR, rfl⟩
end Go.Proofs.Ytfgjanponijkhaa
