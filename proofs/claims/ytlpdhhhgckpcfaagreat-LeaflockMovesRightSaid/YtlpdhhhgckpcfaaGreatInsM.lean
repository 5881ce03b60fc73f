
/- The machine insert.Insert, one step at a time, in a memory that others may change: its state, its parts, its step. -/
import Derived.Test.YtlpdhhhgckpcfaaGreatInsB
namespace Go.Proofs.YtlpdhhhgckpcfaaGreat
open Go.RowKit
set_option maxRecDepth 100000
/-- Insert: 0 it takes a number, 1 it writes the new node, 2 it writes the old one, 3 it has ended (k points of ps are stored). -/
structure InsS where
  pc : Nat
  tk : TakeS
  k : Nat
  ps : List Pt
  sp : Bool
  id : Int
  full : Bool
def ins0 : InsS := ⟨0, ⟨0, 0, false⟩, 0, [], false, 0, false⟩
/-- The old node's new page; the new node. -/
def InsS.pg (s : InsS) (fu : Pg) : Pg := if s.sp then splL fu s.id else fu
def InsS.right (s : InsS) (fu : Pg) : InH := if s.sp then ⟨s.id, ltLock 0, splR fu⟩ else hd0
/-- The cells behind a step. -/
def insMm (d : Cfg) (L : List Cel) (s : InsS) : List Cel := match s.pc with
  | 0 => (takeStep 4 d.no L s.tk).2
  | 1 => match s.ps[s.k]? with
    | some pt => putC L pt.i pt.c
    | none => L
  | 2 => match s.ps[s.k]? with
    | some pt => putC L pt.i pt.c
    | none => L
  | _ => L
/-- A step. -/
def InsNx (d : Cfg) (fr : InH) (fu : Pg) (L : List Cel) (s s' : InsS) : Prop := match s.pc with
  | 0 => ((takeStep 4 d.no L s.tk).1.pc < 2 ∧ s' = { s with tk := (takeStep 4 d.no L s.tk).1 }) ∨
      (2 ≤ (takeStep 4 d.no L s.tk).1.pc ∧ (takeStep 4 d.no L s.tk).1.ok = false ∧ s' = { s with pc := 3, tk := (takeStep 4 d.no L s.tk).1, full := true }) ∨
      (2 ≤ (takeStep 4 d.no L s.tk).1.pc ∧ (takeStep 4 d.no L s.tk).1.ok = true ∧ s' = ⟨1, (takeStep 4 d.no L s.tk).1, 0, ⟨d.node ((takeStep 4 d.no L s.tk).1.seen + 1) 0, ⟨ltLock 0, ⟨#[]⟩, 0⟩⟩ :: pgPts d ((takeStep 4 d.no L s.tk).1.seen + 1) (splR fu), false, (takeStep 4 d.no L s.tk).1.seen + 1, false⟩)
  | 1 => (s.k + 1 ≠ s.ps.length ∧ s' = { s with k := s.k + 1 }) ∨ (s.k + 1 = s.ps.length ∧ ∃ ps', WrPs d fr (splL fu s.id) ps' ∧ s' = { s with pc := 2, sp := true, k := 0, ps := ps' })
  | 2 => (s.k + 1 ≠ s.ps.length ∧ s' = { s with k := s.k + 1 }) ∨ (s.k + 1 = s.ps.length ∧ s' = { s with pc := 3, k := s.k + 1 })
  | _ => s' = s
/-- What a step wants. -/
structure InsS.Ok (d : Cfg) (fu : Pg) (s : InsS) : Prop where
  pc : s.pc ≤ 2
  tk : s.pc = 0 → d.fa < (fu.sl.length : Int) ∧ s.sp = false ∧ s.full = false ∧ ((s.tk.pc = 0 ∧ s.tk.ok = false) ∨ (s.tk.pc = 1 ∧ s.tk.ok = false ∧ 0 ≤ s.tk.seen ∧ s.tk.seen < d.no))
  nw : s.pc = 1 → s.k < s.ps.length ∧ 0 ≤ s.id ∧ s.id ≤ d.no ∧ s.full = false
  wr : s.pc = 2 → s.k < s.ps.length ∧ s.full = false ∧ (s.sp = true ∨ (fu.sl.length : Int) ≤ d.fa)
/-- How it begins. -/
def InsBeg (d : Cfg) (fr : InH) (fu : Pg) (s : InsS) : Prop :=
  ((fu.sl.length : Int) ≤ d.fa ∧ s.pc = 2 ∧ s.sp = false ∧ s.full = false ∧ s.k = 0 ∧ WrPs d fr fu s.ps) ∨ (d.fa < (fu.sl.length : Int) ∧ s = ins0)
section
variable {K : Know} {w : World} {F : List Comp} {b bm bc acc : Nat} {d : Cfg} {fr : InH} {fu : Pg} {L : List Cel} {s : InsS} {C : List Comp}
end
end Go.Proofs.YtlpdhhhgckpcfaaGreat
