/- The position of a machine (steps.Run), for any state function, as a part of a world. -/
import Derived.Test.YtfgjanponijkhaaSt
import Derived.Test.YtfgjanponijkhaaSteps
namespace Go.Proofs.Ytfgjanponijkhaa
open Go.RowKit
set_option maxRecDepth 100000

/-- A state function: its number, what stands ahead of the argument, what it has captured; or none. -/
structure FV where
  f : Nat
  x : Array Value
  y : Array Value
def stV : Option FV → Value
  | some s => .func (.func s.f) s.x s.y
  | none => .nilFunc

/-- What a state function leaves: the state behind it, what is known, the machine's block and the other parts. -/
structure Left where
  o : Option FV
  K : Know
  v0 : Value
  cells : List Value
  T : TypeId
  F : List Comp

/-- A step of a machine: its state function is called; what it returns is the next state. -/
theorem runStep_st {R : Left → Prop} (w : World) (b m : Nat) (s : FV) (hf : Enters s.f) (hc : w.cell? ⟨b, 0, none⟩ = some (stV (some s)))
    (hcall : Calls Try.prog s.f (s.x ++ #[.pointer (some ⟨m, 0, none⟩)] ++ s.y) w fun e w1 => ∃ l, e = .returned (stV l.o) ∧ R l ∧ St l.K w1 (blk b (.cells (l.v0 :: l.cells).toArray l.T) :: l.F)) :
    Calls Try.prog 103 #[.pointer (some ⟨b, 0, none⟩), .pointer (some ⟨m, 0, none⟩)] w fun e w' => ∃ l, e = .returned (.bool l.o.isNone) ∧ R l ∧ St l.K w' (blk b (.cells (stV l.o :: l.cells).toArray l.T) :: l.F) := by
  have hf' : ∀ (args : Array Value) (w : World), (callFunc s.f args).run Try.prog w = .ok (.enter s.f args) w := hf
  have HC := Lib.hid hcall
  obtain ⟨f, x, y⟩ := s
  have hc' : w.cell? ⟨b, 0, none⟩ = some (.func (.func f) x y) := hc
  clear hcall hc
  go_enter Try.func103, Try.ntmps103
  go_wp2_with fail
  refine (HC.out).mono ?_
  rintro e w1 ⟨⟨o, K, v0, cells, T, F⟩, he, hR, hs⟩
  have hs : St K w1 (blk b (.cells (v0 :: cells).toArray T) :: F) := hs
  have k := hs.k0 0
  rw [show (v0 :: cells).toArray[0]? = some v0 by simp] at k
  have kf := hs.f0 0
  have hs := hs.setL 0 (stV o)
  have k' := hs.k0 0
  rw [show ((v0 :: cells).set 0 (stV o)).toArray[0]? = some (stV o) by simp] at k'
  simp only [List.set_cons_zero] at hs
  clear hc' hf' HC
  cases o with
  | none =>
    obtain rfl : e = .returned .nilFunc := he
    have k2 : (w1.setCell ⟨b, 0, none⟩ .nilFunc).cell? ⟨b, 0, none⟩ = some .nilFunc := k'
    have Hs := Lib.hid hs
    clear k' hs
    go_wp2
    go_ret
    exact ⟨⟨none, K, v0, cells, T, F⟩, rfl, hR, Hs.out⟩
  | some s =>
    obtain ⟨f', x', y'⟩ := s
    obtain rfl : e = .returned (.func (.func f') x' y') := he
    have k2 : (w1.setCell ⟨b, 0, none⟩ (.func (.func f') x' y')).cell? ⟨b, 0, none⟩ = some (.func (.func f') x' y') := k'
    have Hs := Lib.hid hs
    clear k' hs
    go_wp2
    go_ret
    exact ⟨⟨some ⟨f', x', y'⟩, K, v0, cells, T, F⟩, rfl, hR, Hs.out⟩

/-- .. of a machine that has finished. -/
theorem runStep_end_st {K : Know} {w : World} {cs : List Comp} {b m : Nat} (hs : St K w cs) (hc : w.cell? ⟨b, 0, none⟩ = some .nilFunc) : Calls Try.prog 103 #[.pointer (some ⟨b, 0, none⟩), .pointer (some ⟨m, 0, none⟩)] w fun e w' => e = .returned (.bool true) ∧ St K w' cs :=
  calls_id hs (runStep_done w b m hc)
end Go.Proofs.Ytfgjanponijkhaa
