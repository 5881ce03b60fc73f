
/- The machine Insert. What follows a write of Insert. Insert after a split: the new node has been written; the split. Insert: the split. Insert: a number has been taken, or not. -/
import Derived.Test.YtlpdhhhgckpcfaaGreatPageOps
import Derived.Test.YtlpdhhhgckpcfaaGreatTakeA
import Derived.Test.YtlpdhhhgckpcfaaGreatNodeW
import Derived.Test.YtlpdhhhgckpcfaaGreatCallVar
namespace Go.Proofs.YtlpdhhhgckpcfaaGreat
open Go.RowKit
set_option maxRecDepth 100000
/-- A held node. -/
structure InH where
  id : Int
  word : Int
  pg : Pg
def inH (h : InH) (va : Value) (rest : List Value) : List Value := .int .u64 h.id :: .int .u64 h.word :: .int .i64 h.pg.lev :: va :: .string h.pg.hi :: .bool h.pg.la :: .int .u64 h.pg.ri :: rest
/-- What Insert has besides its position and its layout. -/
structure InX where
  fr : InH
  vf : Value
  fu : Pg
  vu : Value
  err : Int
  le : InH
  vl : Value
  ri : InH
  vr : Value
  sep : ByteArray
  on : Bool
def inCells (nx : Value) (d : Cfg) (x : InX) : List Value :=
  nx :: .bool x.on :: .int .i64 d.th :: .int .i64 d.sn :: .int .i64 d.no :: .int .i64 d.ch :: .int .i64 d.re :: .int .i64 d.fa :: .int .u64 d.cl ::
    inH x.fr x.vf (.int .i64 x.fu.lev :: x.vu :: .string x.fu.hi :: .bool x.fu.la :: .int .u64 x.fu.ri :: .int .i64 x.err :: inH x.le x.vl (inH x.ri x.vr [.string x.sep]))
def insC (b : Nat) (nx : Value) (d : Cfg) (x : InX) : Comp := blk b (.cells (inCells nx d x).toArray 151)
/-- What a write keeps: its closure's variables, the machine node.Write, its writer, the points. -/
structure WrB where
  b2 : Nat
  b3 : Nat
  b5 : Nat
  bwv : Nat
  biv : Nat
  bw : Nat
  bn : Nat
  g : Nat
  cap : Nat
  va : Value
def wrThen (B : WrB) : Value := .func (.func 133) #[] #[(.pointer (some ⟨B.bwv, 0, none⟩)), (.pointer (some ⟨B.biv, 0, none⟩))]
def wrFV (B : WrB) : FV := callFV B.b2 B.b3 B.b5
/-- The parts of a write: k of its points are stored. -/
def wrL (b : Nat) (B : WrB) (id word : Int) (p : Pg) (ps : List Pt) (k : Nat) : List Comp :=
  [callC B.b2 B.b3 B.b5 (.iface 76 (.pointer (some ⟨B.bw, 0, none⟩))) (wrThen B), blk B.bwv (.cells #[(.pointer (some ⟨B.bw, 0, none⟩))] 76), blk B.biv (.cells #[(.pointer (some ⟨b, 0, none⟩))] 82), wrC B.bn id word p B.va B.g B.cap ps k,
    rowC (.slice (some ⟨B.g, 0, none⟩) ps.length B.cap) 139 4 ps.length (ptRow ps), blk B.bw (.cells #[(.pointer (some ⟨B.bn, 0, none⟩))] 147), slC B.va p]
/-- The points of a write. -/
def WrPs (d : Cfg) (h : InH) (p : Pg) (ps : List Pt) : Prop :=
  ∃ mid, Newer (pgPts d h.id h.pg) (pgPts d h.id p) mid ∧ ps = ⟨d.node h.id 0, ⟨ltBegin h.word, ⟨#[]⟩, 0⟩⟩ :: mid ++ [⟨d.node h.id 0, ⟨ltEnd (ltBegin h.word), ⟨#[]⟩, 0⟩⟩]
/-- A node that Insert may hold. -/
structure InH.Ok (d : Cfg) (h : InH) : Prop where
  id : 1 ≤ h.id ∧ h.id ≤ d.no
  word : 0 ≤ h.word ∧ h.word < 18446744073709551616
  pg : PgOk d h.pg
  lev : 0 ≤ h.pg.lev ∧ h.pg.lev < 1000000
section
variable {K : Know} {w : World} {F : List Comp} {b : Nat} {nx : Value} {d : Cfg} {x : InX} {p : Pg} {ap af : Option Addr} {cp cf : Nat}
end
end Go.Proofs.YtlpdhhhgckpcfaaGreat

namespace Go.Proofs.YtlpdhhhgckpcfaaGreat
open Go.RowKit
set_option maxRecDepth 100000
section
variable {K : Know} {w : World} {F : List Comp} {b : Nat} {nx : Value} {d : Cfg} {x : InX} {p : Pg} {id word : Int} {B : WrB} {ps : List Pt}
end
end Go.Proofs.YtlpdhhhgckpcfaaGreat

namespace Go.Proofs.YtlpdhhhgckpcfaaGreat
open Go.RowKit
set_option maxRecDepth 100000
/-- What the writing of the new node keeps. -/
structure FrB where
  b2 : Nat
  b3 : Nat
  b5 : Nat
  bfv : Nat
  bsv : Nat
  biv : Nat
  blv : Nat
  bw : Nat
  bn : Nat
  g : Nat
  cap : Nat
  va : Value
  vq : Value
def frThen (B : FrB) : Value := .func (.func 136) #[] #[(.pointer (some ⟨B.bfv, 0, none⟩)), (.pointer (some ⟨B.bsv, 0, none⟩)), (.pointer (some ⟨B.biv, 0, none⟩)), (.pointer (some ⟨B.blv, 0, none⟩))]
def frFV (B : FrB) : FV := callFV B.b2 B.b3 B.b5
def frL (b : Nat) (B : FrB) (id : Int) (p q : Pg) (sep : ByteArray) (ps : List Pt) (k : Nat) : List Comp :=
  [callC B.b2 B.b3 B.b5 (.iface 74 (.pointer (some ⟨B.bw, 0, none⟩))) (frThen B), blk B.bfv (.cells #[(.pointer (some ⟨B.bw, 0, none⟩))] 74), blk B.bsv (.cells #[.string sep] 9), blk B.biv (.cells #[(.pointer (some ⟨b, 0, none⟩))] 82), blk B.blv (.cells #[.int .i64 (q).lev, B.vq, .string (q).hi, .bool (q).la, .int .u64 (q).ri] 43),
    wrC B.bn id (ltLock 0) p B.va B.g B.cap ps k, rowC (.slice (some ⟨B.g, 0, none⟩) ps.length B.cap) 139 4 ps.length (ptRow ps), blk B.bw (.cells #[(.pointer (some ⟨B.bn, 0, none⟩))] 145), slC B.va p, slC B.vq q]
/-- While split$1's first region runs: the held node (3), right (7), separator (10). -/
def S1R (K : Know) (REST : List Comp) (b : Nat) (nx : Value) (d : Cfg) (x : InX) (id : Int) (p : Pg) (sep : ByteArray) (ρ : Nat → Option Value) (W : World) : Prop :=
  ∃ (a1 : Option Addr) (c1 : Nat), (∀ v, ρ 3 = some v → v = (.agg #[.int .u64 id, .int .u64 (ltLock 0), .int .i64 (p).lev, (.slice a1 p.sl.length c1), .string (p).hi, .bool (p).la, .int .u64 (p).ri])) ∧
    St K W (optC (ρ 3) (slC (.slice a1 p.sl.length c1) p) :: insC b nx d { x with ri := if (ρ 7).isSome then ⟨id, ltLock 0, p⟩ else x.ri, vr := if (ρ 7).isSome then .slice a1 p.sl.length c1 else x.vr, sep := if (ρ 10).isSome then sep else x.sep } :: REST)
section
variable {K : Know} {REST : List Comp} {b : Nat} {nx : Value} {d : Cfg} {x : InX} {id : Int} {p : Pg} {sep : ByteArray} {ρ : Nat → Option Value} {W : World} {v3 : Value}
theorem S1R.start (hs : St K W (insC b nx d x :: REST)) : S1R K REST b nx d x id p sep (fun _ => none) W := ⟨none, 0, fun v h => (by cases h), hs.empty⟩
theorem S1R.same {W' : World} (h : S1R K REST b nx d x id p sep ρ W) (hb : Below W.heap.size W W') : S1R K REST b nx d x id p sep ρ W' := by
  obtain ⟨a1, c1, e, hs⟩ := h
  exact ⟨a1, c1, e, hs.same hb⟩
theorem S1R.rest (h : S1R K REST b nx d x id p sep ρ W) : St K W REST := by
  obtain ⟨a1, c1, e, hs⟩ := h
  exact hs.tail.tail
theorem S1R.e3 (h : S1R K REST b nx d x id p sep ρ W) (h3 : ρ 3 = none) (h7 : ρ 7 = none) : ∃ R', St K W (R' :: REST) ∧ ∀ (a1 : Option Addr) (c1 : Nat) W', St K W' (slC (.slice a1 p.sl.length c1) p :: R' :: REST) → S1R K REST b nx d x id p sep (upd ρ 3 (.agg #[.int .u64 id, .int .u64 (ltLock 0), .int .i64 (p).lev, (.slice a1 p.sl.length c1), .string (p).hi, .bool (p).la, .int .u64 (p).ri])) W' := by
  obtain ⟨a0, c0, e, hs⟩ := h
  rw [h3, h7] at hs
  refine ⟨_, hs.tail, fun a1 c1 W' hs' => ⟨a1, c1, fun v hv => by rw [upd_eq] at hv; exact (Option.some.inj hv).symm, ?_⟩⟩
  rw [upd_eq, upd_ne (by omega), upd_ne (by omega), h7]
  exact hs'
theorem S1R.e7 (h : S1R K REST b nx d x id p sep ρ W) (h3 : ρ 3 = some v3) (h7 : ρ 7 = none) : ∃ (a1 : Option Addr) (c1 : Nat) (s' : ByteArray) (R' : List Comp), v3 = (.agg #[.int .u64 id, .int .u64 (ltLock 0), .int .i64 (p).lev, (.slice a1 p.sl.length c1), .string (p).hi, .bool (p).la, .int .u64 (p).ri]) ∧ St K W (insC b nx d { x with sep := s' } :: R') ∧
    ∀ W', St K W' (insC b nx d { x with ri := ⟨id, ltLock 0, p⟩, vr := .slice a1 p.sl.length c1, sep := s' } :: R') → S1R K REST b nx d x id p sep (upd ρ 7 undef) W' := by
  obtain ⟨a1, c1, e, hs⟩ := h
  rw [h3, h7] at hs
  refine ⟨a1, c1, _, _, e v3 h3, hs.b1, fun W' hs' => ⟨a1, c1, fun v hv => e v (by rwa [upd_ne (by omega)] at hv), ?_⟩⟩
  rw [upd_ne (by omega), upd_eq, upd_ne (by omega), h3]
  exact hs'.b1
theorem S1R.e10 (h : S1R K REST b nx d x id p sep ρ W) (h10 : ρ 10 = none) : ∃ (r' : InH) (v' : Value) (R' : List Comp), St K W (insC b nx d { x with ri := r', vr := v' } :: R') ∧
    ∀ W', St K W' (insC b nx d { x with ri := r', vr := v', sep := sep } :: R') → S1R K REST b nx d x id p sep (upd ρ 10 undef) W' := by
  obtain ⟨a1, c1, e, hs⟩ := h
  rw [h10] at hs
  refine ⟨_, _, _, hs.b1, fun W' hs' => ⟨a1, c1, fun v hv => e v (by rwa [upd_ne (by omega)] at hv), ?_⟩⟩
  rw [upd_ne (by omega), upd_ne (by omega), upd_eq]
  exact hs'.b1
theorem S1R.last (h : S1R K REST b nx d x id p sep ρ W) (hall : ∀ e, e ∈ [3, 7, 10] → (ρ e).isSome = true) : ∃ (a1 : Option Addr) (c1 : Nat), (∃ v, ρ 3 = some v) ∧ (∃ v, ρ 7 = some v) ∧ (∃ v, ρ 10 = some v) ∧
    St K W (slC (.slice a1 p.sl.length c1) p :: insC b nx d { x with ri := ⟨id, ltLock 0, p⟩, vr := .slice a1 p.sl.length c1, sep := sep } :: REST) := by
  obtain ⟨v3, h3⟩ := Option.isSome_iff_exists.1 (hall 3 (by simp))
  obtain ⟨v7, h7⟩ := Option.isSome_iff_exists.1 (hall 7 (by simp))
  obtain ⟨v10, h10⟩ := Option.isSome_iff_exists.1 (hall 10 (by simp))
  obtain ⟨a1, c1, e, hs⟩ := h
  rw [h3, h7, h10] at hs
  exact ⟨a1, c1, ⟨v3, h3⟩, ⟨v7, h7⟩, ⟨v10, h10⟩, hs⟩
end
section
variable {K : Know} {w : World} {F : List Comp} {b : Nat} {nx : Value} {d : Cfg} {x : InX} {p q : Pg} {id : Int} {sep : ByteArray} {B : FrB} {ps : List Pt} {af aq : Option Addr} {cf cq : Nat}
end
end Go.Proofs.YtlpdhhhgckpcfaaGreat

namespace Go.Proofs.YtlpdhhhgckpcfaaGreat
open Go.RowKit
set_option maxRecDepth 100000
section
variable {K : Know} {w : World} {F : List Comp} {b : Nat} {nx : Value} {d : Cfg} {x : InX} {id : Int} {au : Option Addr} {cu : Nat}
end
end Go.Proofs.YtlpdhhhgckpcfaaGreat

namespace Go.Proofs.YtlpdhhhgckpcfaaGreat
open Go.RowKit
set_option maxRecDepth 100000
/-- What the taking of a number keeps. -/
structure TkB where
  b2 : Nat
  b3 : Nat
  b5 : Nat
  btv : Nat
  biv : Nat
  bt : Nat
def tkThen (B : TkB) : Value := .func (.func 100) #[] #[(.pointer (some ⟨B.btv, 0, none⟩)), (.pointer (some ⟨B.biv, 0, none⟩))]
def tkFV (B : TkB) : FV := callFV B.b2 B.b3 B.b5
def tkL (b : Nat) (B : TkB) (i lim : Int) (s : TakeS) : List Comp :=
  [callC B.b2 B.b3 B.b5 (.iface 156 (.pointer (some ⟨B.bt, 0, none⟩))) (tkThen B), blk B.btv (.cells #[(.pointer (some ⟨B.bt, 0, none⟩))] 156), blk B.biv (.cells #[(.pointer (some ⟨b, 0, none⟩))] 82), takeC B.bt i lim s]
section
variable {K : Know} {w : World} {F : List Comp} {b : Nat} {nx : Value} {d : Cfg} {x : InX} {i lim : Int} {s : TakeS} {B : TkB} {af au : Option Addr} {cf cu : Nat}
end
end Go.Proofs.YtlpdhhhgckpcfaaGreat
