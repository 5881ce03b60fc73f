
/- NewInsert. The steps of Insert. What Insert answers. Insert alone: all its steps, and what is left behind. -/
import Derived.Test.YtlpdhhhgckpcfaaGreatInsA
import Derived.Test.YtlpdhhhgckpcfaaGreatBaseA
import Derived.Test.YtlpdhhhgckpcfaaGreatNodeW
namespace Go.Proofs.YtlpdhhhgckpcfaaGreat
open Go.RowKit
set_option maxRecDepth 100000
def hd0 : InH := ⟨0, 0, pg0⟩
/-- Insert at first. -/
def inx0 (fr : InH) (vf : Value) : InX := ⟨fr, vf, pg0, .slice none 0 0, 0, hd0, .slice none 0 0, hd0, .slice none 0 0, ⟨#[]⟩, false⟩
/-- .. and with the page that has the new slot. -/
def inx1 (fr : InH) (vf : Value) (fu : Pg) (vu : Value) : InX := ⟨fr, vf, fu, vu, 0, hd0, .slice none 0 0, hd0, .slice none 0 0, ⟨#[]⟩, false⟩
/-- While the full page is made (5), looked at (6, 7, 8) and stored (11). -/
def NiR (K : Know) (REST : List Comp) (bi : Nat) (d : Cfg) (fr : InH) (vf : Value) (fu : Pg) (ρ : Nat → Option Value) (W : World) : Prop :=
  ∃ (a : Option Addr) (c : Nat), (∀ v, ρ 5 = some v → v = .tuple #[(.agg #[.int .i64 (fu).lev, (.slice a fu.sl.length c), .string (fu).hi, .bool (fu).la, .int .u64 (fu).ri]), .bool true]) ∧ (∀ v, ρ 6 = some v → v = .tuple #[(.agg #[.int .i64 (fu).lev, (.slice a fu.sl.length c), .string (fu).hi, .bool (fu).la, .int .u64 (fu).ri]), .bool true]) ∧ (∀ v, ρ 7 = some v → v = (.agg #[.int .i64 (fu).lev, (.slice a fu.sl.length c), .string (fu).hi, .bool (fu).la, .int .u64 (fu).ri])) ∧ (∀ v, ρ 8 = some v → v = .bool true) ∧
    St K W (optC (ρ 5) (slC (.slice a fu.sl.length c) fu) :: insC bi .nilFunc d (if (ρ 11).isSome then inx1 fr vf fu (.slice a fu.sl.length c) else inx0 fr vf) :: REST)
section
variable {K : Know} {REST : List Comp} {bi : Nat} {d : Cfg} {fr : InH} {vf : Value} {fu : Pg} {ρ : Nat → Option Value} {W : World} {v5 v6 v7 : Value}
theorem NiR.start (hs : St K W (insC bi .nilFunc d (inx0 fr vf) :: REST)) : NiR K REST bi d fr vf fu (fun _ => none) W :=
  ⟨none, 0, fun v h => (by cases h), fun v h => (by cases h), fun v h => (by cases h), fun v h => (by cases h), hs.empty⟩
theorem NiR.same {W' : World} (h : NiR K REST bi d fr vf fu ρ W) (hb : Below W.heap.size W W') : NiR K REST bi d fr vf fu ρ W' := by
  obtain ⟨a, c, e1, e2, e3, e4, hs⟩ := h
  exact ⟨a, c, e1, e2, e3, e4, hs.same hb⟩
theorem NiR.rest (h : NiR K REST bi d fr vf fu ρ W) : St K W REST := by
  obtain ⟨a, c, e1, e2, e3, e4, hs⟩ := h
  exact hs.tail.tail
theorem NiR.e5 (h : NiR K REST bi d fr vf fu ρ W) (h5 : ρ 5 = none) (h6 : ρ 6 = none) (h7 : ρ 7 = none) (h11 : ρ 11 = none) : ∃ R', St K W (R' :: REST) ∧ ∀ (a : Option Addr) (c : Nat) W', St K W' (slC (.slice a fu.sl.length c) fu :: R' :: REST) → NiR K REST bi d fr vf fu (upd ρ 5 (.tuple #[(.agg #[.int .i64 (fu).lev, (.slice a fu.sl.length c), .string (fu).hi, .bool (fu).la, .int .u64 (fu).ri]), .bool true])) W' := by
  obtain ⟨a0, c0, e1, e2, e3, e4, hs⟩ := h
  rw [h5, h11] at hs
  refine ⟨_, hs.tail, fun a c W' hs' => ⟨a, c, fun v hv => by rw [upd_eq] at hv; exact (Option.some.inj hv).symm, fun v hv => ?_, fun v hv => ?_, fun v hv => e4 v (by rwa [upd_ne (by omega)] at hv), ?_⟩⟩
  · rw [upd_ne (by omega), h6] at hv; cases hv
  · rw [upd_ne (by omega), h7] at hv; cases hv
  · rw [upd_eq, upd_ne (by omega), h11]; exact hs'
theorem NiR.e6 (h : NiR K REST bi d fr vf fu ρ W) (h5 : ρ 5 = some v5) : ∃ a c, v5 = .tuple #[(.agg #[.int .i64 (fu).lev, (.slice a fu.sl.length c), .string (fu).hi, .bool (fu).la, .int .u64 (fu).ri]), .bool true] ∧ NiR K REST bi d fr vf fu (upd ρ 6 v5) W := by
  obtain ⟨a, c, e1, e2, e3, e4, hs⟩ := h
  obtain rfl := e1 v5 h5
  refine ⟨a, c, rfl, a, c, fun v hv => e1 v (by rwa [upd_ne (by omega)] at hv), fun v hv => by rw [upd_eq] at hv; exact (Option.some.inj hv).symm, fun v hv => e3 v (by rwa [upd_ne (by omega)] at hv), fun v hv => e4 v (by rwa [upd_ne (by omega)] at hv), ?_⟩
  rw [upd_ne (by omega), upd_ne (by omega)]; exact hs
theorem NiR.e7 (h : NiR K REST bi d fr vf fu ρ W) (h6 : ρ 6 = some v6) : ∃ a c, v6 = .tuple #[(.agg #[.int .i64 (fu).lev, (.slice a fu.sl.length c), .string (fu).hi, .bool (fu).la, .int .u64 (fu).ri]), .bool true] ∧ NiR K REST bi d fr vf fu (upd ρ 7 (.agg #[.int .i64 (fu).lev, (.slice a fu.sl.length c), .string (fu).hi, .bool (fu).la, .int .u64 (fu).ri])) W := by
  obtain ⟨a, c, e1, e2, e3, e4, hs⟩ := h
  obtain rfl := e2 v6 h6
  refine ⟨a, c, rfl, a, c, fun v hv => e1 v (by rwa [upd_ne (by omega)] at hv), fun v hv => e2 v (by rwa [upd_ne (by omega)] at hv), fun v hv => by rw [upd_eq] at hv; exact (Option.some.inj hv).symm, fun v hv => e4 v (by rwa [upd_ne (by omega)] at hv), ?_⟩
  rw [upd_ne (by omega), upd_ne (by omega)]; exact hs
theorem NiR.e8 (h : NiR K REST bi d fr vf fu ρ W) (h6 : ρ 6 = some v6) : ∃ a c, v6 = .tuple #[(.agg #[.int .i64 (fu).lev, (.slice a fu.sl.length c), .string (fu).hi, .bool (fu).la, .int .u64 (fu).ri]), .bool true] ∧ NiR K REST bi d fr vf fu (upd ρ 8 (.bool true)) W := by
  obtain ⟨a, c, e1, e2, e3, e4, hs⟩ := h
  obtain rfl := e2 v6 h6
  refine ⟨a, c, rfl, a, c, fun v hv => e1 v (by rwa [upd_ne (by omega)] at hv), fun v hv => e2 v (by rwa [upd_ne (by omega)] at hv), fun v hv => e3 v (by rwa [upd_ne (by omega)] at hv), fun v hv => by rw [upd_eq] at hv; exact (Option.some.inj hv).symm, ?_⟩
  rw [upd_ne (by omega), upd_ne (by omega)]; exact hs
theorem NiR.e11 (h : NiR K REST bi d fr vf fu ρ W) (h7 : ρ 7 = some v7) (h11 : ρ 11 = none) : ∃ (a : Option Addr) (c : Nat) (R' : List Comp), v7 = (.agg #[.int .i64 (fu).lev, (.slice a fu.sl.length c), .string (fu).hi, .bool (fu).la, .int .u64 (fu).ri]) ∧ St K W (insC bi .nilFunc d (inx0 fr vf) :: R') ∧
    ∀ W', St K W' (insC bi .nilFunc d (inx1 fr vf fu (.slice a fu.sl.length c)) :: R') → NiR K REST bi d fr vf fu (upd ρ 11 undef) W' := by
  obtain ⟨a, c, e1, e2, e3, e4, hs⟩ := h
  rw [h11] at hs
  refine ⟨a, c, _, e3 v7 h7, hs.b1, fun W' hs' => ⟨a, c, fun v hv => e1 v (by rwa [upd_ne (by omega)] at hv), fun v hv => e2 v (by rwa [upd_ne (by omega)] at hv), fun v hv => e3 v (by rwa [upd_ne (by omega)] at hv), fun v hv => e4 v (by rwa [upd_ne (by omega)] at hv), ?_⟩⟩
  rw [upd_ne (by omega), upd_eq]; exact hs'.b1
theorem NiR.last (h : NiR K REST bi d fr vf fu ρ W) (hall : ∀ e, e ∈ [5, 6, 7, 8, 11] → (ρ e).isSome = true) : ∃ (a : Option Addr) (c : Nat), ρ 5 = some (.tuple #[(.agg #[.int .i64 (fu).lev, (.slice a fu.sl.length c), .string (fu).hi, .bool (fu).la, .int .u64 (fu).ri]), .bool true]) ∧ ρ 6 = some (.tuple #[(.agg #[.int .i64 (fu).lev, (.slice a fu.sl.length c), .string (fu).hi, .bool (fu).la, .int .u64 (fu).ri]), .bool true]) ∧ ρ 7 = some (.agg #[.int .i64 (fu).lev, (.slice a fu.sl.length c), .string (fu).hi, .bool (fu).la, .int .u64 (fu).ri]) ∧ ρ 8 = some (.bool true) ∧ (∃ v, ρ 11 = some v) ∧
    St K W (slC (.slice a fu.sl.length c) fu :: insC bi .nilFunc d (inx1 fr vf fu (.slice a fu.sl.length c)) :: REST) := by
  obtain ⟨v5, h5⟩ := Option.isSome_iff_exists.1 (hall 5 (by simp))
  obtain ⟨v6, h6⟩ := Option.isSome_iff_exists.1 (hall 6 (by simp))
  obtain ⟨v7, h7⟩ := Option.isSome_iff_exists.1 (hall 7 (by simp))
  obtain ⟨v8, h8⟩ := Option.isSome_iff_exists.1 (hall 8 (by simp))
  obtain ⟨v11, h11⟩ := Option.isSome_iff_exists.1 (hall 11 (by simp))
  obtain ⟨a, c, e1, e2, e3, e4, hs⟩ := h
  rw [h5, h11] at hs
  exact ⟨a, c, by rw [h5, e1 v5 h5], by rw [h6, e2 v6 h6], by rw [h7, e3 v7 h7], by rw [h8, e4 v8 h8], ⟨v11, h11⟩, hs⟩
end
/-- i.run = steps.Begin(..): the state (e1), the position (e2), its store (e3). -/
def BgR (K : Know) (REST : List Comp) (bi : Nat) (d : Cfg) (x : InX) (e1 e2 e3 : Nat) (Φ : FV → List Comp → Prop) (ρ : Nat → Option Value) (W : World) : Prop :=
  ∃ (fv : FV) (C : List Comp), (∀ v, ρ e1 = some v → v = stV (some fv) ∧ Φ fv C) ∧ (∀ v, ρ e2 = some v → v = .agg #[stV (some fv), .bool true]) ∧
    St K W ((if (ρ e1).isSome then C else []) ++ (insC bi (if (ρ e3).isSome then stV (some fv) else .nilFunc) d { x with on := (ρ e3).isSome } :: REST))
section
variable {K : Know} {REST : List Comp} {bi : Nat} {d : Cfg} {x : InX} {e1 e2 e3 : Nat} {Φ : FV → List Comp → Prop} {ρ : Nat → Option Value} {W : World} {v1 v2 : Value}
theorem BgR.start (hs : St K W (insC bi .nilFunc d { x with on := false } :: REST)) : BgR K REST bi d x e1 e2 e3 Φ (fun _ => none) W :=
  ⟨⟨0, #[], #[]⟩, [], fun v h => (by cases h), fun v h => (by cases h), hs⟩
theorem BgR.same {W' : World} (h : BgR K REST bi d x e1 e2 e3 Φ ρ W) (hb : Below W.heap.size W W') : BgR K REST bi d x e1 e2 e3 Φ ρ W' := by
  obtain ⟨fv, C, q1, q2, hs⟩ := h
  exact ⟨fv, C, q1, q2, hs.same hb⟩
theorem BgR.rest (h : BgR K REST bi d x e1 e2 e3 Φ ρ W) : St K W REST := by
  obtain ⟨fv, C, q1, q2, hs⟩ := h
  exact (hs.right).tail
theorem BgR.call (h : BgR K REST bi d x e1 e2 e3 Φ ρ W) (h13 : e1 ≠ e3) (h12 : e1 ≠ e2) (h1 : ρ e1 = none) (h2 : ρ e2 = none) (h3 : ρ e3 = none) : St K W (insC bi .nilFunc d { x with on := false } :: REST) ∧
    ∀ fv C W', Φ fv C → St K W' (C ++ (insC bi .nilFunc d { x with on := false } :: REST)) → BgR K REST bi d x e1 e2 e3 Φ (upd ρ e1 (stV (some fv))) W' := by
  obtain ⟨fv0, C0, q1, q2, hs⟩ := h
  rw [h1, h3] at hs
  refine ⟨hs, fun fv C W' hΦ hs' => ⟨fv, C, fun v hv => ?_, fun v hv => ?_, ?_⟩⟩
  · rw [upd_eq] at hv
    exact ⟨(Option.some.inj hv).symm, hΦ⟩
  · rw [upd_ne (Ne.symm h12), h2] at hv; cases hv
  · rw [upd_eq, upd_ne (Ne.symm h13), h3]; exact hs'
theorem BgR.begin (h : BgR K REST bi d x e1 e2 e3 Φ ρ W) (h12 : e1 ≠ e2) (h23 : e2 ≠ e3) (h1 : ρ e1 = some v1) : ∃ fv, v1 = stV (some fv) ∧ ∀ W', Below W.heap.size W W' → BgR K REST bi d x e1 e2 e3 Φ (upd ρ e2 (.agg #[stV (some fv), .bool true])) W' := by
  obtain ⟨fv, C, q1, q2, hs⟩ := h
  refine ⟨fv, (q1 v1 h1).1, fun W' hb => ⟨fv, C, fun v hv => q1 v (by rwa [upd_ne h12] at hv), fun v hv => by rw [upd_eq] at hv; exact (Option.some.inj hv).symm, ?_⟩⟩
  rw [upd_ne h12, upd_ne (Ne.symm h23)]; exact hs.same hb
theorem BgR.store (h : BgR K REST bi d x e1 e2 e3 Φ ρ W) (h13 : e1 ≠ e3) (h23 : e2 ≠ e3) (h2 : ρ e2 = some v2) (h3 : ρ e3 = none) : ∃ (fv : FV) (R' : List Comp), v2 = .agg #[stV (some fv), .bool true] ∧ St K W (insC bi .nilFunc d { x with on := false } :: R') ∧
    ∀ W', St K W' (insC bi (stV (some fv)) d { x with on := true } :: R') → BgR K REST bi d x e1 e2 e3 Φ (upd ρ e3 undef) W' := by
  obtain ⟨fv, C, q1, q2, hs⟩ := h
  rw [h3] at hs
  refine ⟨fv, (if (ρ e1).isSome then C else []) ++ REST, q2 v2 h2, hs.perm List.perm_middle, fun W' hs' => ⟨fv, C, fun v hv => q1 v (by rwa [upd_ne h13] at hv), fun v hv => q2 v (by rwa [upd_ne h23] at hv), ?_⟩⟩
  rw [upd_ne h13, upd_eq]
  exact hs'.perm (List.perm_middle.symm)
theorem BgR.last (h : BgR K REST bi d x e1 e2 e3 Φ ρ W) (hall : ∀ e, e ∈ [e1, e2, e3] → (ρ e).isSome = true) : ∃ (fv : FV) (C : List Comp), ρ e1 = some (stV (some fv)) ∧ ρ e2 = some (.agg #[stV (some fv), .bool true]) ∧ (∃ v, ρ e3 = some v) ∧ Φ fv C ∧ St K W (C ++ (insC bi (stV (some fv)) d { x with on := true } :: REST)) := by
  obtain ⟨v1, h1⟩ := Option.isSome_iff_exists.1 (hall e1 (by simp))
  obtain ⟨v2, h2⟩ := Option.isSome_iff_exists.1 (hall e2 (by simp))
  obtain ⟨v3, h3⟩ := Option.isSome_iff_exists.1 (hall e3 (by simp))
  obtain ⟨fv, C, q1, q2, hs⟩ := h
  rw [h1, h3] at hs
  exact ⟨fv, C, by rw [h1, (q1 v1 h1).1], by rw [h2, q2 v2 h2], ⟨v3, h3⟩, (q1 v1 h1).2, hs⟩
end
section
variable {K : Know} {w : World} {F : List Comp} {d : Cfg} {fr : InH} {af : Option Addr} {cf : Nat} {key : ByteArray} {r : Int} {fu : Pg}
end
end Go.Proofs.YtlpdhhhgckpcfaaGreat

namespace Go.Proofs.YtlpdhhhgckpcfaaGreat
open Go.RowKit
set_option maxRecDepth 100000
section
variable {K : Know} {w : World} {F : List Comp} {b bm bc acc : Nat} {d : Cfg} {x : InX} {L : List Cel} {p q : Pg} {id word : Int} {ps : List Pt} {k : Nat} {pt : Pt} {sep : ByteArray} {af au : Option Addr} {cf cu : Nat} {s : TakeS}
end
end Go.Proofs.YtlpdhhhgckpcfaaGreat

namespace Go.Proofs.YtlpdhhhgckpcfaaGreat
open Go.RowKit
set_option maxRecDepth 100000
theorem field_held0 (w : World) (id wd lev ri : Int) (a : Option Addr) (n c : Nat) (hi : ByteArray) (la : Bool) : (Instr.field 45 (.agg #[.int .u64 id, .int .u64 wd, .int .i64 lev, .slice a n c, .string hi, .bool la, .int .u64 ri]) 0).run Tryz.prog w = .ok (.int .u64 id) w := by kernel_rfl
theorem field_held1 (w : World) (id wd lev ri : Int) (a : Option Addr) (n c : Nat) (hi : ByteArray) (la : Bool) : (Instr.field 45 (.agg #[.int .u64 id, .int .u64 wd, .int .i64 lev, .slice a n c, .string hi, .bool la, .int .u64 ri]) 1).run Tryz.prog w = .ok (.int .u64 wd) w := by kernel_rfl
theorem field_held2 (w : World) (id wd lev ri : Int) (a : Option Addr) (n c : Nat) (hi : ByteArray) (la : Bool) : (Instr.field 45 (.agg #[.int .u64 id, .int .u64 wd, .int .i64 lev, .slice a n c, .string hi, .bool la, .int .u64 ri]) 2).run Tryz.prog w = .ok (.agg #[.int .i64 lev, .slice a n c, .string hi, .bool la, .int .u64 ri]) w := by kernel_rfl
theorem field_page1' (w : World) (lev ri : Int) (a : Option Addr) (n c : Nat) (hi : ByteArray) (la : Bool) : (Instr.field 43 (.agg #[.int .i64 lev, .slice a n c, .string hi, .bool la, .int .u64 ri]) 1).run Tryz.prog w = .ok (.slice a n c) w := by kernel_rfl
attribute [go_sem] field_page1' field_held0 field_held1 field_held2
section
variable {K : Know} {w : World} {F : List Comp} {b bm bc acc : Nat} {d : Cfg} {x : InX} {h : InH} {L : List Cel} {a : Option Addr} {c : Nat} {nx : Value}
end
end Go.Proofs.YtlpdhhhgckpcfaaGreat

namespace Go.Proofs.YtlpdhhhgckpcfaaGreat
open Go.RowKit
set_option maxRecDepth 100000
/-- What is known of the page with the new slot. -/
structure FuOk (d : Cfg) (fr : InH) (fu : Pg) : Prop where
  lev : fu.lev = fr.pg.lev
  len : (fu.sl.length : Int) ≤ d.fa + 1
  r : ∀ s, s ∈ fu.sl → 0 ≤ s.r ∧ s.r < 18446744073709551616
  k : ∀ s, s ∈ fu.sl → s.k.size ≤ 1000000
  hi : fu.hi.size ≤ maxLen
  la : fu.la = true → fu.hi = ⟨#[]⟩
  ri : 0 ≤ fu.ri ∧ fu.ri < 18446744073709551616
theorem sepFrom_size (a b : ByteArray) : ∀ (f n : Nat), (sepFrom a b f n).size ≤ b.size := by
  intro f
  induction f with
  | zero => intro n; exact Nat.zero_le _
  | succ f ih =>
    intro n
    unfold sepFrom
    split
    · rw [ByteArray.size_extract]; omega
    · exact ih _
theorem sepK_size (a b : ByteArray) : (sepK a b).size ≤ b.size := sepFrom_size a b _ _
theorem cells_big {d : Cfg} (hd : d.Ok) : 10 ≤ d.cells := by
  have h1 := node_in hd (id := 1) (by omega) hd.no1 (k := 2) (by omega) (by have := hd.fa1; omega)
  have h2 := (start_cells d hd).2.1
  omega
section
variable {d : Cfg} {fr : InH} {fu : Pg} {id : Int}
theorem FuOk.fit (h : FuOk d fr fu) (hle : (fu.sl.length : Int) ≤ d.fa) : PgOk d fu :=
  ⟨hle, h.ri, h.r, fun s hs => Nat.le_trans (h.k s hs) (by decide), h.hi, h.la⟩
theorem FuOk.sep (h : FuOk d fr fu) : (splSep fu).size ≤ 1000000 := by
  unfold splSep
  split
  · rename_i x y hx hy
    have hy := h.k y (List.mem_of_getElem? hy)
    split
    · exact Nat.le_trans (sepK_size _ _) hy
    · exact hy
  · exact Nat.zero_le _
theorem FuOk.left (h : FuOk d fr fu) (hd : d.Ok) (hid : 0 ≤ id ∧ id < 18446744073709551616) : PgOk d (splL fu id) := by
  have h1 := hd.fa1
  have h2 := h.len
  refine ⟨?_, hid, fun s hs => h.r s (List.mem_of_mem_take hs), fun s hs => Nat.le_trans (h.k s (List.mem_of_mem_take hs)) (by decide), Nat.le_trans h.sep (by decide), fun e => by cases e⟩
  show ((fu.sl.take (splK fu.sl.length)).length : Int) ≤ d.fa
  rw [List.length_take]
  unfold splK
  omega
theorem FuOk.right (h : FuOk d fr fu) (hd : d.Ok) : PgOk d (splR fu) := by
  have h1 := hd.fa1
  have h2 := h.len
  refine ⟨?_, h.ri, fun s hs => h.r s (List.mem_of_mem_drop hs), fun s hs => Nat.le_trans (h.k s (List.mem_of_mem_drop hs)) (by decide), h.hi, h.la⟩
  show ((fu.sl.drop (splK fu.sl.length)).length : Int) ≤ d.fa
  rw [List.length_drop]
  unfold splK
  omega
theorem WrPs.len {p : Pg} {ps : List Pt} (h : WrPs d fr p ps) : 2 ≤ ps.length ∧ ps.length ≤ p.sl.length + 5 := by
  obtain ⟨mid, hn, rfl⟩ := h
  have := hn.1.length_le
  simp [pgPts, slPts_length] at this ⊢
  omega
end
/-- The page with the new slot is there, the machine has begun. -/
def inxA (fr : InH) (vf : Value) (fu : Pg) (vu : Value) : InX := { inx1 fr vf fu vu with on := true }
def inxB (fr : InH) (vf : Value) (fu : Pg) (vu : Value) (id : Int) (va : Value) : InX := { inxA fr vf fu vu with ri := ⟨id, ltLock 0, splR fu⟩, vr := va, sep := splSep fu }
/-- The number of the new node, the points of its page, the cells behind them. -/
def newId (L : List Cel) : Int := (getC L 4).n + 1
def frPts (d : Cfg) (fu : Pg) (L : List Cel) : List Pt := ⟨d.node (newId L) 0, ⟨ltLock 0, ⟨#[]⟩, 0⟩⟩ :: pgPts d (newId L) (splR fu)
def takL (L : List Cel) : List Cel := putC L 4 ⟨newId L, ⟨#[]⟩, 0⟩
/-- The last write: what Insert has, the page, the cells before it. -/
def WCase (d : Cfg) (fr : InH) (vf : Value) (fu : Pg) (vu : Value) (L : List Cel) (x : InX) (p : Pg) (L2 : List Cel) : Prop :=
  ((fu.sl.length : Int) ≤ d.fa ∧ x = inxA fr vf fu vu ∧ p = fu ∧ L2 = L) ∨
  (d.fa < (fu.sl.length : Int) ∧ newId L ≤ d.no ∧ (∃ va, x = inxB fr vf fu vu (newId L) va ∧ ∃ a c, va = .slice a (splR fu).sl.length c) ∧ p = splL fu (newId L) ∧ L2 = putAll (takL L) (frPts d fu L))
section
variable (K : Know) (W : World) (b bm bc : Nat) (d : Cfg) (fr : InH) (vf : Value) (fu : Pg) (vu : Value) (L : List Cel) (F : List Comp)
/-- While it takes a number. -/
def InT (j r : Nat) : Prop := d.fa < (fu.sl.length : Int) ∧ ∃ (B : TkB) (s : TakeS), (s.pc = 0 ∨ (s.pc = 1 ∧ s.seen = (getC L 4).n ∧ s.seen < d.no)) ∧ s.ok = false ∧ 2 - s.pc + (splR fu).sl.length + 4 + fu.sl.length + 5 ≤ r ∧
  St K W (insC b (stV (some (tkFV B))) d (inxA fr vf fu vu) :: memC bm bc L j :: slC vu fu :: (tkL b B 4 d.no s ++ slC vf fr.pg :: F))
/-- While it writes the new node. -/
def InF (j r : Nat) : Prop := d.fa < (fu.sl.length : Int) ∧ newId L ≤ d.no ∧ ∃ (B : FrB) (k : Nat), k < (frPts d fu L).length ∧ (∃ a c, B.vq = .slice a (splL fu (newId L)).sl.length c) ∧ (frPts d fu L).length - k + fu.sl.length + 5 ≤ r ∧
  St K W (insC b (stV (some (frFV B))) d (inxA fr vf fu vu) :: memC bm bc (putAll (takL L) ((frPts d fu L).take k)) j :: slC vf fr.pg :: (frL b B (newId L) (splR fu) (splL fu (newId L)) (splSep fu) (frPts d fu L) k ++ F))
/-- While it writes the old one. -/
def InW (j r : Nat) : Prop := ∃ (B : WrB) (x : InX) (p : Pg) (L2 : List Cel) (ps : List Pt) (k : Nat), WCase d fr vf fu vu L x p L2 ∧ WrPs d fr p ps ∧ k < ps.length ∧ ps.length - k ≤ r ∧
  St K W (insC b (stV (some (wrFV B))) d x :: memC bm bc (putAll L2 (ps.take k)) j :: (wrL b B fr.id (ltEnd (ltBegin fr.word)) p ps k ++ (slC vf fr.pg :: slC x.vr x.ri.pg :: F)))
/-- Behind j steps, with at most r left. -/
def InAt (j r : Nat) : Prop := InT K W b bm bc d fr vf fu vu L F j r ∨ InF K W b bm bc d fr vf fu vu L F j r ∨ InW K W b bm bc d fr vf fu vu L F j r
end
section
variable {K : Know} {W W' : World} {b bm bc j r : Nat} {d : Cfg} {fr : InH} {vf vu : Value} {fu : Pg} {L : List Cel} {F : List Comp}
theorem InAt.same (h : InAt K W b bm bc d fr vf fu vu L F j r) (hb : Below W.heap.size W W') : InAt K W' b bm bc d fr vf fu vu L F j r := by
  rcases h with ⟨h1, B, s, h2, h3, h4, hs⟩ | ⟨h1, h2, B, k, h3, h4, h5, hs⟩ | ⟨B, x, p, L2, ps, k, h1, h2, h3, h4, hs⟩
  · exact .inl ⟨h1, B, s, h2, h3, h4, hs.same hb⟩
  · exact .inr (.inl ⟨h1, h2, B, k, h3, h4, h5, hs.same hb⟩)
  · exact .inr (.inr ⟨B, x, p, L2, ps, k, h1, h2, h3, h4, hs.same hb⟩)
theorem InAt.rest (h : InAt K W b bm bc d fr vf fu vu L F j r) : St K W F := by
  rcases h with ⟨h1, B, s, h2, h3, h4, hs⟩ | ⟨h1, h2, B, k, h3, h4, h5, hs⟩ | ⟨B, x, p, L2, ps, k, h1, h2, h3, h4, hs⟩
  · exact hs.tail.tail.tail.right.tail
  · exact hs.tail.tail.tail.right
  · exact hs.tail.tail.right.tail.tail
end
section
variable {K : Know} {w : World} {b bm bc j r : Nat} {d : Cfg} {fr : InH} {af au : Option Addr} {cf cu : Nat} {fu : Pg} {L : List Cel} {F : List Comp}
end
end Go.Proofs.YtlpdhhhgckpcfaaGreat
