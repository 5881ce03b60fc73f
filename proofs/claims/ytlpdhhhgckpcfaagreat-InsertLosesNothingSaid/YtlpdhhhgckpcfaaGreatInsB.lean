
/- NewInsert. The steps of Insert. What Insert answers. Insert alone: all its steps, and what is left behind. -/
import Derived.Test.YtlpdhhhgckpcfaaGreatInsA
import Derived.Test.YtlpdhhhgckpcfaaGreatBaseA
import Derived.Test.YtlpdhhhgckpcfaaGreatNodeW
namespace Go.Proofs.YtlpdhhhgckpcfaaGreat
open Go.RowKit
set_option maxRecDepth 100000
def hd0 : InH := ⟨0, 0, pg0⟩
/-- Insert at first. -/
def inx0 (fr : InH) (vf : Value) : InX := ⟨fr, vf, pg0, .slice none 0 0, 0, hd0, .slice none 0 0, hd0, .slice none 0 0, ⟨#[]⟩, false⟩
/-- .. and with the page that has the new slot. -/
def inx1 (fr : InH) (vf : Value) (fu : Pg) (vu : Value) : InX := ⟨fr, vf, fu, vu, 0, hd0, .slice none 0 0, hd0, .slice none 0 0, ⟨#[]⟩, false⟩
/-- While the full page is made (5), looked at (6, 7, 8) and stored (11). -/
def NiR (K : Know) (REST : List Comp) (bi : Nat) (d : Cfg) (fr : InH) (vf : Value) (fu : Pg) (ρ : Nat → Option Value) (W : World) : Prop :=
  ∃ (a : Option Addr) (c : Nat), (∀ v, ρ 5 = some v → v = .tuple #[(.agg #[.int .i64 (fu).lev, (.slice a fu.sl.length c), .string (fu).hi, .bool (fu).la, .int .u64 (fu).ri]), .bool true]) ∧ (∀ v, ρ 6 = some v → v = .tuple #[(.agg #[.int .i64 (fu).lev, (.slice a fu.sl.length c), .string (fu).hi, .bool (fu).la, .int .u64 (fu).ri]), .bool true]) ∧ (∀ v, ρ 7 = some v → v = (.agg #[.int .i64 (fu).lev, (.slice a fu.sl.length c), .string (fu).hi, .bool (fu).la, .int .u64 (fu).ri])) ∧ (∀ v, ρ 8 = some v → v = .bool true) ∧
    St K W (optC (ρ 5) (slC (.slice a fu.sl.length c) fu) :: insC bi .nilFunc d (if (ρ 11).isSome then inx1 fr vf fu (.slice a fu.sl.length c) else inx0 fr vf) :: REST)
section
variable {K : Know} {REST : List Comp} {bi : Nat} {d : Cfg} {fr : InH} {vf : Value} {fu : Pg} {ρ : Nat → Option Value} {W : World} {v5 v6 v7 : Value}
theorem NiR.start (hs : St K W (insC bi .nilFunc d (inx0 fr vf) :: REST)) : NiR K REST bi d fr vf fu (fun _ => none) W :=
  ⟨none, 0, fun v h => (by cases h), fun v h => (by cases h), fun v h => (by cases h), fun v h => (by cases h), hs.empty⟩
theorem NiR.same {W' : World} (h : NiR K REST bi d fr vf fu ρ W) (hb : Below W.heap.size W W') : NiR K REST bi d fr vf fu ρ W' := by
  obtain ⟨a, c, e1, e2, e3, e4, hs⟩ := h
  exact ⟨a, c, e1, e2, e3, e4, hs.same hb⟩
theorem NiR.rest (h : NiR K REST bi d fr vf fu ρ W) : St K W REST := by
  obtain ⟨a, c, e1, e2, e3, e4, hs⟩ := h
  exact hs.tail.tail
theorem NiR.e5 (h : NiR K REST bi d fr vf fu ρ W) (h5 : ρ 5 = none) (h6 : ρ 6 = none) (h7 : ρ 7 = none) (h11 : ρ 11 = none) : ∃ R', St K W (R' :: REST) ∧ ∀ (a : Option Addr) (c : Nat) W', St K W' (slC (.slice a fu.sl.length c) fu :: R' :: REST) → NiR K REST bi d fr vf fu (upd ρ 5 (.tuple #[(.agg #[.int .i64 (fu).lev, (.slice a fu.sl.length c), .string (fu).hi, .bool (fu).la, .int .u64 (fu).ri]), .bool true])) W' := by
  obtain ⟨a0, c0, e1, e2, e3, e4, hs⟩ := h
  rw [h5, h11] at hs
  refine ⟨_, hs.tail, fun a c W' hs' => ⟨a, c, fun v hv => by rw [upd_eq] at hv; exact (Option.some.inj hv).symm, fun v hv => ?_, fun v hv => ?_, fun v hv => e4 v (by rwa [upd_ne (by omega)] at hv), ?_⟩⟩
  · rw [upd_ne (by omega), h6] at hv; cases hv
  · rw [upd_ne (by omega), h7] at hv; cases hv
  · rw [upd_eq, upd_ne (by omega), h11]; exact hs'
theorem NiR.e6 (h : NiR K REST bi d fr vf fu ρ W) (h5 : ρ 5 = some v5) : ∃ a c, v5 = .tuple #[(.agg #[.int .i64 (fu).lev, (.slice a fu.sl.length c), .string (fu).hi, .bool (fu).la, .int .u64 (fu).ri]), .bool true] ∧ NiR K REST bi d fr vf fu (upd ρ 6 v5) W := by
  obtain ⟨a, c, e1, e2, e3, e4, hs⟩ := h
  obtain rfl := e1 v5 h5
  refine ⟨a, c, rfl, a, c, fun v hv => e1 v (by rwa [upd_ne (by omega)] at hv), fun v hv => by rw [upd_eq] at hv; exact (Option.some.inj hv).symm, fun v hv => e3 v (by rwa [upd_ne (by omega)] at hv), fun v hv => e4 v (by rwa [upd_ne (by omega)] at hv), ?_⟩
  rw [upd_ne (by omega), upd_ne (by omega)]; exact hs
theorem NiR.e7 (h : NiR K REST bi d fr vf fu ρ W) (h6 : ρ 6 = some v6) : ∃ a c, v6 = .tuple #[(.agg #[.int .i64 (fu).lev, (.slice a fu.sl.length c), .string (fu).hi, .bool (fu).la, .int .u64 (fu).ri]), .bool true] ∧ NiR K REST bi d fr vf fu (upd ρ 7 (.agg #[.int .i64 (fu).lev, (.slice a fu.sl.length c), .string (fu).hi, .bool (fu).la, .int .u64 (fu).ri])) W := by
  obtain ⟨a, c, e1, e2, e3, e4, hs⟩ := h
  obtain rfl := e2 v6 h6
  refine ⟨a, c, rfl, a, c, fun v hv => e1 v (by rwa [upd_ne (by omega)] at hv), fun v hv => e2 v (by rwa [upd_ne (by omega)] at hv), fun v hv => by rw [upd_eq] at hv; exact (Option.some.inj hv).symm, fun v hv => e4 v (by rwa [upd_ne (by omega)] at hv), ?_⟩
  rw [upd_ne (by omega), upd_ne (by omega)]; exact hs
theorem NiR.e8 (h : NiR K REST bi d fr vf fu ρ W) (h6 : ρ 6 = some v6) : ∃ a c, v6 = .tuple #[(.agg #[.int .i64 (fu).lev, (.slice a fu.sl.length c), .string (fu).hi, .bool (fu).la, .int .u64 (fu).ri]), .bool true] ∧ NiR K REST bi d fr vf fu (upd ρ 8 (.bool true)) W := by
  obtain ⟨a, c, e1, e2, e3, e4, hs⟩ := h
  obtain rfl := e2 v6 h6
  refine ⟨a, c, rfl, a, c, fun v hv => e1 v (by rwa [upd_ne (by omega)] at hv), fun v hv => e2 v (by rwa [upd_ne (by omega)] at hv), fun v hv => e3 v (by rwa [upd_ne (by omega)] at hv), fun v hv => by rw [upd_eq] at hv; exact (Option.some.inj hv).symm, ?_⟩
  rw [upd_ne (by omega), upd_ne (by omega)]; exact hs
theorem NiR.e11 (h : NiR K REST bi d fr vf fu ρ W) (h7 : ρ 7 = some v7) (h11 : ρ 11 = none) : ∃ (a : Option Addr) (c : Nat) (R' : List Comp), v7 = (.agg #[.int .i64 (fu).lev, (.slice a fu.sl.length c), .string (fu).hi, .bool (fu).la, .int .u64 (fu).ri]) ∧ St K W (insC bi .nilFunc d (inx0 fr vf) :: R') ∧
    ∀ W', St K W' (insC bi .nilFunc d (inx1 fr vf fu (.slice a fu.sl.length c)) :: R') → NiR K REST bi d fr vf fu (upd ρ 11 undef) W' := by
  obtain ⟨a, c, e1, e2, e3, e4, hs⟩ := h
  rw [h11] at hs
  refine ⟨a, c, _, e3 v7 h7, hs.b1, fun W' hs' => ⟨a, c, fun v hv => e1 v (by rwa [upd_ne (by omega)] at hv), fun v hv => e2 v (by rwa [upd_ne (by omega)] at hv), fun v hv => e3 v (by rwa [upd_ne (by omega)] at hv), fun v hv => e4 v (by rwa [upd_ne (by omega)] at hv), ?_⟩⟩
  rw [upd_ne (by omega), upd_eq]; exact hs'.b1
theorem NiR.last (h : NiR K REST bi d fr vf fu ρ W) (hall : ∀ e, e ∈ [5, 6, 7, 8, 11] → (ρ e).isSome = true) : ∃ (a : Option Addr) (c : Nat), ρ 5 = some (.tuple #[(.agg #[.int .i64 (fu).lev, (.slice a fu.sl.length c), .string (fu).hi, .bool (fu).la, .int .u64 (fu).ri]), .bool true]) ∧ ρ 6 = some (.tuple #[(.agg #[.int .i64 (fu).lev, (.slice a fu.sl.length c), .string (fu).hi, .bool (fu).la, .int .u64 (fu).ri]), .bool true]) ∧ ρ 7 = some (.agg #[.int .i64 (fu).lev, (.slice a fu.sl.length c), .string (fu).hi, .bool (fu).la, .int .u64 (fu).ri]) ∧ ρ 8 = some (.bool true) ∧ (∃ v, ρ 11 = some v) ∧
    St K W (slC (.slice a fu.sl.length c) fu :: insC bi .nilFunc d (inx1 fr vf fu (.slice a fu.sl.length c)) :: REST) := by
  obtain ⟨v5, h5⟩ := Option.isSome_iff_exists.1 (hall 5 (by simp))
  obtain ⟨v6, h6⟩ := Option.isSome_iff_exists.1 (hall 6 (by simp))
  obtain ⟨v7, h7⟩ := Option.isSome_iff_exists.1 (hall 7 (by simp))
  obtain ⟨v8, h8⟩ := Option.isSome_iff_exists.1 (hall 8 (by simp))
  obtain ⟨v11, h11⟩ := Option.isSome_iff_exists.1 (hall 11 (by simp))
  obtain ⟨a, c, e1, e2, e3, e4, hs⟩ := h
  rw [h5, h11] at hs
  exact ⟨a, c, by rw [h5, e1 v5 h5], by rw [h6, e2 v6 h6], by rw [h7, e3 v7 h7], by rw [h8, e4 v8 h8], ⟨v11, h11⟩, hs⟩
end
/-- i.run = steps.Begin(..): the state (e1), the position (e2), its store (e3). -/
def BgR (K : Know) (REST : List Comp) (bi : Nat) (d : Cfg) (x : InX) (e1 e2 e3 : Nat) (Φ : FV → List Comp → Prop) (ρ : Nat → Option Value) (W : World) : Prop :=
  ∃ (fv : FV) (C : List Comp), (∀ v, ρ e1 = some v → v = stV (some fv) ∧ Φ fv C) ∧ (∀ v, ρ e2 = some v → v = .agg #[stV (some fv), .bool true]) ∧
    St K W ((if (ρ e1).isSome then C else []) ++ (insC bi (if (ρ e3).isSome then stV (some fv) else .nilFunc) d { x with on := (ρ e3).isSome } :: REST))
section
variable {K : Know} {REST : List Comp} {bi : Nat} {d : Cfg} {x : InX} {e1 e2 e3 : Nat} {Φ : FV → List Comp → Prop} {ρ : Nat → Option Value} {W : World} {v1 v2 : Value}
theorem BgR.start (hs : St K W (insC bi .nilFunc d { x with on := false } :: REST)) : BgR K REST bi d x e1 e2 e3 Φ (fun _ => none) W :=
  ⟨⟨0, #[], #[]⟩, [], fun v h => (by cases h), fun v h => (by cases h), hs⟩
theorem BgR.same {W' : World} (h : BgR K REST bi d x e1 e2 e3 Φ ρ W) (hb : Below W.heap.size W W') : BgR K REST bi d x e1 e2 e3 Φ ρ W' := by
  obtain ⟨fv, C, q1, q2, hs⟩ := h
  exact ⟨fv, C, q1, q2, hs.same hb⟩
theorem BgR.rest (h : BgR K REST bi d x e1 e2 e3 Φ ρ W) : St K W REST := by
  obtain ⟨fv, C, q1, q2, hs⟩ := h
  exact (hs.right).tail
theorem BgR.call (h : BgR K REST bi d x e1 e2 e3 Φ ρ W) (h13 : e1 ≠ e3) (h12 : e1 ≠ e2) (h1 : ρ e1 = none) (h2 : ρ e2 = none) (h3 : ρ e3 = none) : St K W (insC bi .nilFunc d { x with on := false } :: REST) ∧
    ∀ fv C W', Φ fv C → St K W' (C ++ (insC bi .nilFunc d { x with on := false } :: REST)) → BgR K REST bi d x e1 e2 e3 Φ (upd ρ e1 (stV (some fv))) W' := by
  obtain ⟨fv0, C0, q1, q2, hs⟩ := h
  rw [h1, h3] at hs
  refine ⟨hs, fun fv C W' hΦ hs' => ⟨fv, C, fun v hv => ?_, fun v hv => ?_, ?_⟩⟩
  · rw [upd_eq] at hv
    exact ⟨(Option.some.inj hv).symm, hΦ⟩
  · rw [upd_ne (Ne.symm h12), h2] at hv; cases hv
  · rw [upd_eq, upd_ne (Ne.symm h13), h3]; exact hs'
theorem BgR.begin (h : BgR K REST bi d x e1 e2 e3 Φ ρ W) (h12 : e1 ≠ e2) (h23 : e2 ≠ e3) (h1 : ρ e1 = some v1) : ∃ fv, v1 = stV (some fv) ∧ ∀ W', Below W.heap.size W W' → BgR K REST bi d x e1 e2 e3 Φ (upd ρ e2 (.agg #[stV (some fv), .bool true])) W' := by
  obtain ⟨fv, C, q1, q2, hs⟩ := h
  refine ⟨fv, (q1 v1 h1).1, fun W' hb => ⟨fv, C, fun v hv => q1 v (by rwa [upd_ne h12] at hv), fun v hv => by rw [upd_eq] at hv; exact (Option.some.inj hv).symm, ?_⟩⟩
  rw [upd_ne h12, upd_ne (Ne.symm h23)]; exact hs.same hb
theorem BgR.store (h : BgR K REST bi d x e1 e2 e3 Φ ρ W) (h13 : e1 ≠ e3) (h23 : e2 ≠ e3) (h2 : ρ e2 = some v2) (h3 : ρ e3 = none) : ∃ (fv : FV) (R' : List Comp), v2 = .agg #[stV (some fv), .bool true] ∧ St K W (insC bi .nilFunc d { x with on := false } :: R') ∧
    ∀ W', St K W' (insC bi (stV (some fv)) d { x with on := true } :: R') → BgR K REST bi d x e1 e2 e3 Φ (upd ρ e3 undef) W' := by
  obtain ⟨fv, C, q1, q2, hs⟩ := h
  rw [h3] at hs
  refine ⟨fv, (if (ρ e1).isSome then C else []) ++ REST, q2 v2 h2, hs.perm List.perm_middle, fun W' hs' => ⟨fv, C, fun v hv => q1 v (by rwa [upd_ne h13] at hv), fun v hv => q2 v (by rwa [upd_ne h23] at hv), ?_⟩⟩
  rw [upd_ne h13, upd_eq]
  exact hs'.perm (List.perm_middle.symm)
theorem BgR.last (h : BgR K REST bi d x e1 e2 e3 Φ ρ W) (hall : ∀ e, e ∈ [e1, e2, e3] → (ρ e).isSome = true) : ∃ (fv : FV) (C : List Comp), ρ e1 = some (stV (some fv)) ∧ ρ e2 = some (.agg #[stV (some fv), .bool true]) ∧ (∃ v, ρ e3 = some v) ∧ Φ fv C ∧ St K W (C ++ (insC bi (stV (some fv)) d { x with on := true } :: REST)) := by
  obtain ⟨v1, h1⟩ := Option.isSome_iff_exists.1 (hall e1 (by simp))
  obtain ⟨v2, h2⟩ := Option.isSome_iff_exists.1 (hall e2 (by simp))
  obtain ⟨v3, h3⟩ := Option.isSome_iff_exists.1 (hall e3 (by simp))
  obtain ⟨fv, C, q1, q2, hs⟩ := h
  rw [h1, h3] at hs
  exact ⟨fv, C, by rw [h1, (q1 v1 h1).1], by rw [h2, q2 v2 h2], ⟨v3, h3⟩, (q1 v1 h1).2, hs⟩
end
/-- The state of a write, and its parts. -/
def WbΦ (b : Nat) (d : Cfg) (h : InH) (p : Pg) (fv : FV) (C : List Comp) : Prop :=
  ∃ (B : WrB) (ps : List Pt), fv = wrFV B ∧ WrPs d h p ps ∧ C = wrL b B h.id (ltEnd (ltBegin h.word)) p ps 0
/-- The state of the taking of a number, and its parts. -/
def TbΦ (btv biv bt : Nat) (fv : FV) (C : List Comp) : Prop :=
  ∃ (b2 b3 b5 : Nat), fv = callFV b2 b3 b5 ∧ C = [callC b2 b3 b5 (.iface 156 (.pointer (some ⟨bt, 0, none⟩))) (.func (.func 100) #[] #[(.pointer (some ⟨btv, 0, none⟩)), (.pointer (some ⟨biv, 0, none⟩))])]
def NtΦ (lim : Int) (v : Value) (C : List Comp) : Prop := ∃ bt : Nat, v = (.pointer (some ⟨bt, 0, none⟩)) ∧ C = [takeC bt 4 lim ⟨0, 0, false⟩]
theorem field_cfg2 (d : Cfg) (w : World) : (Instr.field 26 (.agg #[.int .i64 (d).th, .int .i64 (d).sn, .int .i64 (d).no, .int .i64 (d).ch, .int .i64 (d).re, .int .i64 (d).fa, .int .u64 (d).cl]) 2).run Tryz.prog w = .ok (.int .i64 d.no) w := by kernel_rfl
section
variable {K : Know} {w : World} {F : List Comp} {d : Cfg} {fr : InH} {af : Option Addr} {cf : Nat} {key : ByteArray} {r : Int} {fu : Pg}
set_option maxHeartbeats 8000000 in
theorem newInsert_st (hd : d.Ok) (hfr : fr.Ok d) (hfu : fu = insPg fr.pg key r) (hno : decide (loK fr.pg.sl key < hiK fr.pg.sl key) = false) (hasc : Asc fr.pg.sl) (hpg : (fu.sl.length : Int) ≤ d.fa → PgOk d fu) (hs : St K w (slC (.slice af fr.pg.sl.length cf) fr.pg :: F)) :
    Calls Tryz.prog 46 #[.agg #[.int .i64 d.th, .int .i64 d.sn, .int .i64 d.no, .int .i64 d.ch, .int .i64 d.re, .int .i64 d.fa, .int .u64 d.cl], (.agg #[.int .u64 (fr).id, .int .u64 (fr).word, .int .i64 (fr).pg.lev, (.slice af fr.pg.sl.length cf), .string (fr).pg.hi, .bool (fr).pg.la, .int .u64 (fr).pg.ri]), .string key, .int .u64 r] w fun e w' => ∃ (b : Nat) (a : Option Addr) (c : Nat), e = .returned (.pointer (some ⟨b, 0, none⟩)) ∧
      (((fu.sl.length : Int) ≤ d.fa ∧ ∃ (B : WrB) (ps : List Pt), WrPs d fr fu ps ∧ St K w' (insC b (stV (some (wrFV B))) d { inx1 fr (.slice af fr.pg.sl.length cf) fu (.slice a fu.sl.length c) with on := true } :: slC (.slice af fr.pg.sl.length cf) fr.pg :: slC (.slice a fu.sl.length c) fu :: (wrL b B fr.id (ltEnd (ltBegin fr.word)) fu ps 0 ++ F))) ∨
       (d.fa < (fu.sl.length : Int) ∧ ∃ B : TkB, St K w' (insC b (stV (some (tkFV B))) d { inx1 fr (.slice af fr.pg.sl.length cf) fu (.slice a fu.sl.length c) with on := true } :: slC (.slice af fr.pg.sl.length cf) fr.pg :: slC (.slice a fu.sl.length c) fu :: (tkL b B 4 d.no ⟨0, 0, false⟩ ++ F)))) := by
  have hf2 := hd.fa2
  have h100 : fr.pg.sl.length ≤ 100 := by have := hfr.pg.le; omega
  have QI := Lib.hid (fun W (R : List Comp) (h : St K W (slC (.slice af fr.pg.sl.length cf) fr.pg :: R)) => pageInsert_st (key := key) (r := r) hno hasc h100 h)
  rw [← hfu] at QI
  have hlev : fu.lev = fr.pg.lev := by rw [hfu]; rfl
  have hs := (((hs.made (.cells #[.int .i64 (d).th, .int .i64 (d).sn, .int .i64 (d).no, .int .i64 (d).ch, .int .i64 (d).re, .int .i64 (d).fa, .int .u64 (d).cl] 29)).made (.cells #[.int .u64 (fr).id, .int .u64 (fr).word, .int .i64 (fr).pg.lev, (.slice af fr.pg.sl.length cf), .string (fr).pg.hi, .bool (fr).pg.la, .int .u64 (fr).pg.ri] 45)).made (.cells (inCells .nilFunc d (inx0 fr (.slice af fr.pg.sl.length cf))).toArray 151)).made (.cells #[(.pointer (some ⟨(w.heap.size + 2), 0, none⟩))] 82)
  simp only [World.size_alloc] at hs
  obtain ⟨bl, hbl⟩ : ∃ bl, bl = w.heap.size := ⟨_, rfl⟩
  rw [show w.heap.size + 1 + 1 + 1 = w.heap.size + 3 by omega, show w.heap.size + 1 + 1 = w.heap.size + 2 by omega, ← hbl] at hs
  have Hlev := Lib.hid hlev
  have Hpg := Lib.hid hpg
  clear hno hasc hfu hlev hpg
  go_enter Tryz.func46, Tryz.ntmps46
  go_upto_region 2 with (fail)
  rw [show w.heap.size + 1 + 1 + 1 = w.heap.size + 3 by omega, show w.heap.size + 1 + 1 = w.heap.size + 2 by omega, ← hbl]
  clear hbl
  have Hs : Hid (St K _ (insC (bl + 2) .nilFunc d (inx0 fr (.slice af fr.pg.sl.length cf)) :: slC (.slice af fr.pg.sl.length cf) fr.pg :: blk (bl + 3) (.cells #[(.pointer (some ⟨(bl + 2), 0, none⟩))] 82) :: blk (bl + 1) (.cells #[.int .u64 (fr).id, .int .u64 (fr).word, .int .i64 (fr).pg.lev, (.slice af fr.pg.sl.length cf), .string (fr).pg.hi, .bool (fr).pg.la, .int .u64 (fr).pg.ri] 45) :: blk bl (.cells #[.int .i64 (d).th, .int .i64 (d).sn, .int .i64 (d).no, .int .i64 (d).ch, .int .i64 (d).re, .int .i64 (d).fa, .int .u64 (d).cl] 29) :: F)) := Lib.hid (hs.re [1, 4, 0, 2, 3] rfl)
  clear hs
  refine region_effects [false, false, false, false, false, true, true, true, true, false, false, true] [5, 6, 7, 8, 11] (fun | 6 => [5] | 7 => [6] | 8 => [6] | 11 => [7] | _ => [])
    (NiR K (slC (.slice af fr.pg.sl.length cf) fr.pg :: blk (bl + 3) (.cells #[(.pointer (some ⟨(bl + 2), 0, none⟩))] 82) :: blk (bl + 1) (.cells #[.int .u64 (fr).id, .int .u64 (fr).word, .int .i64 (fr).pg.lev, (.slice af fr.pg.sl.length cf), .string (fr).pg.hi, .bool (fr).pg.la, .int .u64 (fr).pg.ri] 45) :: blk bl (.cells #[.int .i64 (d).th, .int .i64 (d).sn, .int .i64 (d).no, .int .i64 (d).ch, .int .i64 (d).re, .int .i64 (d).fa, .int .u64 (d).cl] 29) :: F) (bl + 2) d fr (.slice af fr.pg.sl.length cf) fu)
    (fun W => St K W (slC (.slice af fr.pg.sl.length cf) fr.pg :: blk (bl + 3) (.cells #[(.pointer (some ⟨(bl + 2), 0, none⟩))] 82) :: blk (bl + 1) (.cells #[.int .u64 (fr).id, .int .u64 (fr).word, .int .i64 (fr).pg.lev, (.slice af fr.pg.sl.length cf), .string (fr).pg.hi, .bool (fr).pg.la, .int .u64 (fr).pg.ri] 45) :: blk bl (.cells #[.int .i64 (d).th, .int .i64 (d).sn, .int .i64 (d).no, .int .i64 (d).ch, .int .i64 (d).re, .int .i64 (d).fa, .int .u64 (d).cl] 29) :: F)) ?aS (by kernel_rfl) ?hB ?H ?haS ?h0 ?hI ?hR ?hE ?hQ
  case hB => as_aux_lemma => kernel_rfl
  case H =>
    intro W2 hs
    have ki := hs.k1
    have kh := hs.k2
    clear hs
    simp only [withM]
    repeat (go_big_quiet_step (fail))
    refine wpQuiet_nil ?_
    rfl
  case haS => rfl
  case h0 => exact NiR.start Hs.out
  case hI => exact fun ρ W2 h => h.rest
  case hR => exact fun ρ W2 W3 h hb => h.same hb
  case hE =>
    refine ⟨?e5, ?e6, ?e7, ?e8, ?e11, trivial⟩
    case e5 =>
      intro o ho ρ W2 h hcl h5 hd2 af' haf
      obtain rfl := Option.some.inj ho
      replace haf : af' = fillD _ ρ [] _ := haf
      have h6 : ρ 6 = none := hcl.none (by simp) (show 5 ∈ [5] by simp) h5
      have h7 : ρ 7 = none := hcl.none (by simp) (show 6 ∈ [6] by simp) h6
      have h11 : ρ 11 = none := hcl.none (by simp) (show 7 ∈ [7] by simp) h7
      obtain ⟨R', hs, hnext⟩ := h.e5 h5 h6 h7 h11
      simp only [fillD] at haf
      subst haf
      have Hn := Lib.hid hnext
      clear hnext hcl hd2 h5 h6 h7 h11 h
      go_wp2_with fail
      refine (QI.out _ _ hs.b1).mono ?_
      rintro e W3 ⟨a', c', rfl, hs'⟩
      have Hs' := Lib.hid (hs'.re [0, 2, 1] rfl)
      clear hs hs'
      go_wp2
      exact ⟨rfl, _, rfl, Hn.out a' c' W3 Hs'.out⟩
    case e6 =>
      intro o ho ρ W2 h hcl h6 hd2 af' haf
      obtain rfl := Option.some.inj ho
      replace haf : af' = fillD _ ρ [5] _ := haf
      obtain ⟨v5, h5⟩ := Option.isSome_iff_exists.1 (hd2 5 (by show _ ∈ [5]; simp))
      obtain ⟨a', c', rfl, hk⟩ := h.e6 h5
      simp only [fillD, h5, Option.getD_some, dstAt, List.getElem?_cons_succ, List.getElem?_cons_zero, Option.bind_some, Option.bind_none, Act.put, List.setIfInBounds_toArray, List.set_cons_zero, List.set_cons_succ] at haf
      subst haf
      have Hk := Lib.hid hk
      clear hk hcl hd2 h5 h6 h
      go_wp2
      exact ⟨rfl, _, rfl, Hk.out⟩
    case e7 =>
      intro o ho ρ W2 h hcl h7 hd2 af' haf
      obtain rfl := Option.some.inj ho
      replace haf : af' = fillD _ ρ [6] _ := haf
      obtain ⟨v6, h6⟩ := Option.isSome_iff_exists.1 (hd2 6 (by show _ ∈ [6]; simp))
      obtain ⟨a', c', rfl, hk⟩ := h.e7 h6
      simp only [fillD, h6, Option.getD_some, dstAt, List.getElem?_cons_succ, List.getElem?_cons_zero, Option.bind_some, Option.bind_none, Act.put, List.setIfInBounds_toArray, List.set_cons_zero, List.set_cons_succ] at haf
      subst haf
      have Hk := Lib.hid hk
      clear hk hcl hd2 h6 h7 h
      go_wp2
      exact ⟨rfl, _, rfl, Hk.out⟩
    case e8 =>
      intro o ho ρ W2 h hcl h8 hd2 af' haf
      obtain rfl := Option.some.inj ho
      replace haf : af' = fillD _ ρ [6] _ := haf
      obtain ⟨v6, h6⟩ := Option.isSome_iff_exists.1 (hd2 6 (by show _ ∈ [6]; simp))
      obtain ⟨a', c', rfl, hk⟩ := h.e8 h6
      simp only [fillD, h6, Option.getD_some, dstAt, List.getElem?_cons_succ, List.getElem?_cons_zero, Option.bind_some, Option.bind_none, Act.put, List.setIfInBounds_toArray, List.set_cons_zero, List.set_cons_succ] at haf
      subst haf
      have Hk := Lib.hid hk
      clear hk hcl hd2 h6 h8 h
      go_wp2
      exact ⟨rfl, _, rfl, Hk.out⟩
    case e11 =>
      intro o ho ρ W2 h hcl h11 hd2 af' haf
      obtain rfl := Option.some.inj ho
      replace haf : af' = fillD _ ρ [7] _ := haf
      obtain ⟨v7, h7⟩ := Option.isSome_iff_exists.1 (hd2 7 (by show _ ∈ [7]; simp))
      obtain ⟨a', c', R', rfl, hs, hnext⟩ := h.e11 h7 h11
      simp only [fillD, h7, Option.getD_some, dstAt, List.getElem?_cons_succ, List.getElem?_cons_zero, Option.bind_some, Option.bind_none, Act.put, List.setIfInBounds_toArray, List.set_cons_zero, List.set_cons_succ] at haf
      subst haf
      have k := hs.k0
      have kf := hs.f0
      unfold inCells inH inx0 at k
      have Hs3 : Hid (St K _ (insC (bl + 2) .nilFunc d (inx1 fr (.slice af fr.pg.sl.length cf) fu (.slice a' fu.sl.length c')) :: R')) := Lib.hid (((((hs.setL 16 (.int .i64 fu.lev)).setL 17 (.slice a' fu.sl.length c')).setL 18 (.string fu.hi)).setL 19 (.bool fu.la)).setL 20 (.int .u64 fu.ri))
      have Hn := Lib.hid hnext
      clear hs hnext hcl hd2 h h7 h11
      go_wp2
      exact ⟨rfl, undef, rfl, Hn.out _ Hs3.out⟩
  case hQ =>
  intro ρ W2 h hall
  obtain ⟨a, c, h5, h6, h7, h8, ⟨v11, h11⟩, hs⟩ := h.last hall
  simp only [fillD, h5, h6, h7, h8, h11, Option.getD_some, dstAt, List.getElem?_cons_succ, List.getElem?_cons_zero, Option.bind_some, Option.bind_none, Act.put, List.setIfInBounds_toArray, List.set_cons_zero, List.set_cons_succ]
  clear h hall h5 h6 h7 h8 h11 Hs
  have hs : St K W2 (insC (bl + 2) .nilFunc d { inx1 fr (.slice af fr.pg.sl.length cf) fu (.slice a fu.sl.length c) with on := false } :: slC (.slice af fr.pg.sl.length cf) fr.pg :: slC (.slice a fu.sl.length c) fu :: blk (bl + 3) (.cells #[(.pointer (some ⟨(bl + 2), 0, none⟩))] 82) :: blk (bl + 1) (.cells #[.int .u64 (fr).id, .int .u64 (fr).word, .int .i64 (fr).pg.lev, (.slice af fr.pg.sl.length cf), .string (fr).pg.hi, .bool (fr).pg.la, .int .u64 (fr).pg.ri] 45) :: blk bl (.cells #[.int .i64 (d).th, .int .i64 (d).sn, .int .i64 (d).no, .int .i64 (d).ch, .int .i64 (d).re, .int .i64 (d).fa, .int .u64 (d).cl] 29) :: F) := hs.re [1, 2, 0, 3, 4, 5] rfl
  go_upto_region 3 with (fail)
  go_cut [35] (fun v wx => v = .bool (decide ((fu.sl.length : Int) ≤ d.fa)) ∧ St K wx (insC (bl + 2) .nilFunc d { inx1 fr (.slice af fr.pg.sl.length cf) fu (.slice a fu.sl.length c) with on := false } :: slC (.slice af fr.pg.sl.length cf) fr.pg :: slC (.slice a fu.sl.length c) fu :: blk (bl + 3) (.cells #[(.pointer (some ⟨(bl + 2), 0, none⟩))] 82) :: blk (bl + 1) (.cells #[.int .u64 (fr).id, .int .u64 (fr).word, .int .i64 (fr).pg.lev, (.slice af fr.pg.sl.length cf), .string (fr).pg.hi, .bool (fr).pg.la, .int .u64 (fr).pg.ri] 45) :: blk bl (.cells #[.int .i64 (d).th, .int .i64 (d).sn, .int .i64 (d).no, .int .i64 (d).ch, .int .i64 (d).re, .int .i64 (d).fa, .int .u64 (d).cl] 29) :: F))
  case first =>
    as_aux_lemma =>
    have k := hs.k0
    unfold inCells inH inx1 at k
    have ki := hs.tail.k2
    have kl := hs.tail.tail.tail.k2
    have Qg := Lib.hid (fun w => config_any d w)
    refine region_pure (by kernel_rfl) (by as_aux_lemma => kernel_rfl) ?_
    repeat (go_big_quiet_step ((go_at_call 96; exact pure_of ((Qg.out _).mono (by rintro e w' ⟨rfl, hb⟩; exact ⟨rfl, hb⟩)))))
    refine wpQuiet_nil ?_
    intro w3 hb3
    have hs := hs.same hb3
    clear k ki kl hb3
    go_wp2
    go_meet
    exact ⟨rfl, hs⟩
  case rest =>
  clear hs
  obtain ⟨rfl, hs⟩ := hcut
  by_cases hle : (fu.sl.length : Int) ≤ d.fa
  · rw [decide_eq_true hle]
    go_upto_region 4 with (fail)
    have Hs := Lib.hid hs
    clear hs
    refine region_effects [false, false, false, false, false, false, true, true, false, false, true] [6, 7, 10] (fun | 7 => [6] | 10 => [7] | _ => [])
      (BgR K (slC (.slice af fr.pg.sl.length cf) fr.pg :: slC (.slice a fu.sl.length c) fu :: blk (bl + 3) (.cells #[(.pointer (some ⟨(bl + 2), 0, none⟩))] 82) :: blk (bl + 1) (.cells #[.int .u64 (fr).id, .int .u64 (fr).word, .int .i64 (fr).pg.lev, (.slice af fr.pg.sl.length cf), .string (fr).pg.hi, .bool (fr).pg.la, .int .u64 (fr).pg.ri] 45) :: blk bl (.cells #[.int .i64 (d).th, .int .i64 (d).sn, .int .i64 (d).no, .int .i64 (d).ch, .int .i64 (d).re, .int .i64 (d).fa, .int .u64 (d).cl] 29) :: F) (bl + 2) d (inx1 fr (.slice af fr.pg.sl.length cf) fu (.slice a fu.sl.length c)) 6 7 10 (WbΦ (bl + 2) d fr fu))
      (fun W => ∃ nx on, St K W (insC (bl + 2) nx d { inx1 fr (.slice af fr.pg.sl.length cf) fu (.slice a fu.sl.length c) with on := on } :: slC (.slice af fr.pg.sl.length cf) fr.pg :: slC (.slice a fu.sl.length c) fu :: blk (bl + 3) (.cells #[(.pointer (some ⟨(bl + 2), 0, none⟩))] 82) :: blk (bl + 1) (.cells #[.int .u64 (fr).id, .int .u64 (fr).word, .int .i64 (fr).pg.lev, (.slice af fr.pg.sl.length cf), .string (fr).pg.hi, .bool (fr).pg.la, .int .u64 (fr).pg.ri] 45) :: blk bl (.cells #[.int .i64 (d).th, .int .i64 (d).sn, .int .i64 (d).no, .int .i64 (d).ch, .int .i64 (d).re, .int .i64 (d).fa, .int .u64 (d).cl] 29) :: F)) ?aSA4 (by kernel_rfl) ?hBA4 ?HA4 ?haSA4 ?h0A4 ?hIA4 ?hRA4 ?hEA4 ?hQA4
    case hBA4 => as_aux_lemma => kernel_rfl
    case HA4 =>
      rintro W2 ⟨nx, on, hs⟩
      have k := hs.k0
      unfold inCells inH inx1 at k
      have ki := hs.tail.k2
      clear hs
      simp only [withM]
      repeat (go_big_quiet_step (fail))
      refine wpQuiet_nil ?_
      rfl
    case haSA4 => rfl
    case h0A4 => exact BgR.start Hs.out
    case hIA4 => exact fun ρ W2 ⟨fv, C, _, _, h⟩ => ⟨_, _, h.right⟩
    case hRA4 => exact fun ρ W2 W3 h hb => h.same hb
    case hEA4 =>
      refine ⟨?eaA4, ?ebA4, ?ecA4, trivial⟩
      case eaA4 =>
        intro o ho ρ W2 h hcl h1' hd2 af' haf
        obtain rfl := Option.some.inj ho
        replace haf : af' = fillD _ ρ [] _ := haf
        have h2' : ρ 7 = none := hcl.none (by simp) (show 6 ∈ [6] by simp) h1'
        have h3' : ρ 10 = none := hcl.none (by simp) (show 7 ∈ [7] by simp) h2'
        obtain ⟨hs, hnext⟩ := h.call (by omega) (by omega) h1' h2' h3'
        simp only [fillD] at haf
        subst haf
        have Hn := Lib.hid hnext
        clear hnext hcl hd2 h1' h2' h3' h
        have hs : St K W2 (insC (bl + 2) .nilFunc d { inx1 fr (.slice af fr.pg.sl.length cf) fu (.slice a fu.sl.length c) with on := false } :: slC (.slice af fr.pg.sl.length cf) fr.pg :: slC (.slice a fu.sl.length c) fu :: blk (bl + 3) (.cells #[(.pointer (some ⟨(bl + 2), 0, none⟩))] 82) :: blk (bl + 1) (.cells #[.int .u64 (fr).id, .int .u64 (fr).word, .int .i64 (fr).pg.lev, (.slice af fr.pg.sl.length cf), .string (fr).pg.hi, .bool (fr).pg.la, .int .u64 (fr).pg.ri] 45) :: blk bl (.cells #[.int .i64 (d).th, .int .i64 (d).sn, .int .i64 (d).no, .int .i64 (d).ch, .int .i64 (d).re, .int .i64 (d).fa, .int .u64 (d).cl] 29) :: F) := hs
        have qw := insWrite_st (x := { inx1 fr (.slice af fr.pg.sl.length cf) fu (.slice a fu.sl.length c) with on := false }) hd hfr (Hpg.out hle) (by rw [Hlev.out]; exact hfr.lev) rfl hs
        have Qw := Lib.hid qw
        clear qw hs
        go_wp2_with fail
        refine (Qw.out).mono ?_
        rintro e W3 ⟨B, ps, rfl, hps, hs⟩
        have Hps := Lib.hid hps
        have Hs' : Hid (St K W3 (wrL (bl + 2) B fr.id (ltEnd (ltBegin fr.word)) fu ps 0 ++ (insC (bl + 2) .nilFunc d { inx1 fr (.slice af fr.pg.sl.length cf) fu (.slice a fu.sl.length c) with on := false } :: slC (.slice af fr.pg.sl.length cf) fr.pg :: slC (.slice a fu.sl.length c) fu :: blk (bl + 3) (.cells #[(.pointer (some ⟨(bl + 2), 0, none⟩))] 82) :: blk (bl + 1) (.cells #[.int .u64 (fr).id, .int .u64 (fr).word, .int .i64 (fr).pg.lev, (.slice af fr.pg.sl.length cf), .string (fr).pg.hi, .bool (fr).pg.la, .int .u64 (fr).pg.ri] 45) :: blk bl (.cells #[.int .i64 (d).th, .int .i64 (d).sn, .int .i64 (d).no, .int .i64 (d).ch, .int .i64 (d).re, .int .i64 (d).fa, .int .u64 (d).cl] 29) :: F))) := Lib.hid ((show St K W3 (_ :: _ :: _ :: _ :: _ :: _ :: _ :: _ :: _ :: _ :: _) from hs).re [3, 4, 5, 6, 7, 8, 9, 0, 1, 2] rfl)
        clear hs hps Qw
        simp only [wrFV, callFV, stV]
        go_wp2
        exact ⟨rfl, _, rfl, Hn.out (wrFV B) _ W3 ⟨B, ps, rfl, Hps.out, rfl⟩ Hs'.out⟩
      case ebA4 =>
        intro o ho ρ W2 h hcl h2' hd2 af' haf
        obtain rfl := Option.some.inj ho
        replace haf : af' = fillD _ ρ [6] _ := haf
        obtain ⟨v1, h1'⟩ := Option.isSome_iff_exists.1 (hd2 6 (by show _ ∈ [6]; simp))
        obtain ⟨fv, rfl, hnext⟩ := h.begin (by omega) (by omega) h1'
        simp only [fillD, h1', Option.getD_some, dstAt, List.getElem?_cons_succ, List.getElem?_cons_zero, Option.bind_some, Option.bind_none, Act.put, List.setIfInBounds_toArray, List.set_cons_zero, List.set_cons_succ] at haf
        subst haf
        have Hn := Lib.hid hnext
        clear hnext hcl hd2 h1' h2' h
        simp only [stV]
        go_wp2_with fail
        refine (begin_any _ _ _ _).mono ?_
        rintro e W3 ⟨rfl, hb⟩
        have Hb := Lib.hid hb
        clear hb
        go_wp2
        exact ⟨rfl, _, rfl, Hn.out W3 Hb.out⟩
      case ecA4 =>
        intro o ho ρ W2 h hcl h3' hd2 af' haf
        obtain rfl := Option.some.inj ho
        replace haf : af' = fillD _ ρ [7] _ := haf
        obtain ⟨v2, h2'⟩ := Option.isSome_iff_exists.1 (hd2 7 (by show _ ∈ [7]; simp))
        obtain ⟨fv, R', rfl, hs, hnext⟩ := h.store (by omega) (by omega) h2' h3'
        simp only [fillD, h2', Option.getD_some, dstAt, List.getElem?_cons_succ, List.getElem?_cons_zero, Option.bind_some, Option.bind_none, Act.put, List.setIfInBounds_toArray, List.set_cons_zero, List.set_cons_succ] at haf
        subst haf
        have k := hs.k0
        have kf := hs.f0
        unfold inCells inH inx1 at k
        have Hs3 : Hid (St K _ (insC (bl + 2) (stV (some fv)) d { inx1 fr (.slice af fr.pg.sl.length cf) fu (.slice a fu.sl.length c) with on := true } :: R')) := Lib.hid ((hs.setL 0 (stV (some fv))).setL 1 (.bool true))
        have Hn := Lib.hid hnext
        clear hs hnext hcl hd2 h h2' h3'
        simp only [stV] at Hs3 ⊢
        go_wp2
        exact ⟨rfl, undef, rfl, Hn.out _ Hs3.out⟩
    case hQA4 =>
    intro ρ W2 h hall
    obtain ⟨fv, C, h1', h2', ⟨v3, h3'⟩, hΦ, hs⟩ := h.last hall
    simp only [fillD, h1', h2', h3', Option.getD_some, dstAt, List.getElem?_cons_succ, List.getElem?_cons_zero, Option.bind_some, Option.bind_none, Act.put, List.setIfInBounds_toArray, List.set_cons_zero, List.set_cons_succ]
    clear h hall h1' h2' h3' Hs
    obtain ⟨B, ps, rfl, hps, rfl⟩ := hΦ
    have hs := (show St K W2 (_ :: _ :: _ :: _ :: _ :: _ :: _ :: _ :: _ :: _ :: _ :: _ :: _ :: F) from hs)
    have ki := hs.b10.k0
    have Hs' := Lib.hid (hs.re [10, 11, 12, 7, 8, 9, 0, 1, 2, 3, 4, 5, 6] rfl)
    have Hps := Lib.hid hps
    clear hs hps
    go_wp2
    go_ret
    exact ⟨bl + 2, a, c, rfl, .inl ⟨hle, B, ps, Hps.out, Hs'.out.tail.tail.tail⟩⟩
  · rw [decide_eq_false hle]
    have hno2 := hd.no2
    have hno1 := hd.no1
    have hwn : IntKind.u64.wrap d.no = d.no := by rw [IntKind.wrap_u64]; omega
    go_upto_region 6 with (fail)
    have Hs := Lib.hid hs
    clear hs
    refine region_effects [false, false, false, false, false, false, true, true, true] [6, 7, 8] (fun | 8 => [6, 7] | _ => [])
      (CvR K (insC (bl + 2) .nilFunc d { inx1 fr (.slice af fr.pg.sl.length cf) fu (.slice a fu.sl.length c) with on := false } :: slC (.slice af fr.pg.sl.length cf) fr.pg :: slC (.slice a fu.sl.length c) fu :: blk (bl + 3) (.cells #[(.pointer (some ⟨(bl + 2), 0, none⟩))] 82) :: blk (bl + 1) (.cells #[.int .u64 (fr).id, .int .u64 (fr).word, .int .i64 (fr).pg.lev, (.slice af fr.pg.sl.length cf), .string (fr).pg.hi, .bool (fr).pg.la, .int .u64 (fr).pg.ri] 45) :: blk bl (.cells #[.int .i64 (d).th, .int .i64 (d).sn, .int .i64 (d).no, .int .i64 (d).ch, .int .i64 (d).re, .int .i64 (d).fa, .int .u64 (d).cl] 29) :: F) 156 (.pointer none) 6 7 8 (NtΦ d.no))
      (fun W => St K W (insC (bl + 2) .nilFunc d { inx1 fr (.slice af fr.pg.sl.length cf) fu (.slice a fu.sl.length c) with on := false } :: slC (.slice af fr.pg.sl.length cf) fr.pg :: slC (.slice a fu.sl.length c) fu :: blk (bl + 3) (.cells #[(.pointer (some ⟨(bl + 2), 0, none⟩))] 82) :: blk (bl + 1) (.cells #[.int .u64 (fr).id, .int .u64 (fr).word, .int .i64 (fr).pg.lev, (.slice af fr.pg.sl.length cf), .string (fr).pg.hi, .bool (fr).pg.la, .int .u64 (fr).pg.ri] 45) :: blk bl (.cells #[.int .i64 (d).th, .int .i64 (d).sn, .int .i64 (d).no, .int .i64 (d).ch, .int .i64 (d).re, .int .i64 (d).fa, .int .u64 (d).cl] 29) :: F)) ?aSb (by kernel_rfl) ?hBb ?Hb ?haSb ?h0b ?hIb ?hRb ?hEb ?hQb
    case hBb => as_aux_lemma => kernel_rfl
    case Hb =>
      intro W2 hs
      have kl := hs.tail.tail.tail.k2
      have Qg := Lib.hid (fun w => config_any d w)
      have Qn := Lib.hid (fun w => nodes_any d w)
      have hfld := field_cfg2 d
      clear hs
      simp only [withM]
      repeat (go_big_quiet_step (first | (go_at_call 96; exact pure_of (Qg.out _)) | (go_at_call 99; exact pure_of (Qn.out _))))
      refine wpQuiet_nil ?_
      rfl
    case haSb => rfl
    case h0b => exact CvR.start Hs.out
    case hIb => exact fun ρ W2 h => h.rest
    case hRb => exact fun ρ W2 W3 h hb => h.same hb
    case hEb =>
      refine ⟨?e6b, ?e7b, ?e8b, trivial⟩
      case e6b =>
        intro o ho ρ W2 h hcl h6 hd2 af' haf
        obtain rfl := Option.some.inj ho
        replace haf : af' = fillD _ ρ [] _ := haf
        have h8 : ρ 8 = none := hcl.none (by simp) (show 6 ∈ [6, 7] by simp) h6
        obtain ⟨X, hs, hnext⟩ := h.call (by omega) (by omega) h6 h8
        simp only [fillD] at haf
        subst haf
        have Hn := Lib.hid hnext
        clear hnext hcl hd2 h6 h8 h
        go_wp2_with fail
        refine (newTake_st (i := 4) (lim := d.no) hs).mono ?_
        rintro e W3 ⟨bt, rfl, hs'⟩
        have Hs' := Lib.hid hs'
        clear hs hs'
        go_wp2
        exact ⟨rfl, _, rfl, Hn.out _ _ W3 ⟨bt, rfl, rfl⟩ Hs'.out⟩
      case e7b =>
        intro o ho ρ W2 h hcl h7 hd2 af' haf
        obtain rfl := Option.some.inj ho
        replace haf : af' = fillD _ ρ [] _ := haf
        have h8 : ρ 8 = none := hcl.none (by simp) (show 7 ∈ [6, 7] by simp) h7
        have Hn := Lib.hid (h.var (by omega) (by omega) h7 h8)
        simp only [fillD] at haf
        subst haf
        clear hcl hd2 h7 h8 h
        go_wp2
        exact ⟨rfl, _, rfl, Hn.out⟩
      case e8b =>
        intro o ho ρ W2 h hcl h8 hd2 af' haf
        obtain rfl := Option.some.inj ho
        replace haf : af' = fillD _ ρ [6, 7] _ := haf
        obtain ⟨v6, h6⟩ := Option.isSome_iff_exists.1 (hd2 6 (by show _ ∈ [6, 7]; simp))
        obtain ⟨v7, h7⟩ := Option.isSome_iff_exists.1 (hd2 7 (by show _ ∈ [6, 7]; simp))
        obtain ⟨bv, R', rfl, ⟨C, bt, rfl, _⟩, hs, hnext⟩ := h.store (by omega) (by omega) h6 h7 h8
        simp only [fillD, h6, h7, Option.getD_some, dstAt, List.getElem?_cons_succ, List.getElem?_cons_zero, Option.bind_some, Option.bind_none, Act.put, List.setIfInBounds_toArray, List.set_cons_zero, List.set_cons_succ] at haf
        subst haf
        have k0 := hs.k0
        have f0 := hs.f0
        have Hs3 : Hid (St K _ (blk bv (.cells #[(.pointer (some ⟨bt, 0, none⟩))] 156) :: R')) := Lib.hid (hs.setL 0 (.pointer (some ⟨bt, 0, none⟩)))
        have Hn := Lib.hid hnext
        clear hs hnext hcl hd2 h h6 h7 h8
        go_wp2
        exact ⟨rfl, undef, rfl, Hn.out _ Hs3.out⟩
    case hQb =>
    intro ρ W2 h hall
    obtain ⟨bv, v, C, h6, h7, ⟨v8, h8⟩, ⟨bt, rfl, rfl⟩, hs⟩ := h.last hall
    simp only [fillD, h6, h7, h8, Option.getD_some, dstAt, List.getElem?_cons_succ, List.getElem?_cons_zero, Option.bind_some, Option.bind_none, Act.put, List.setIfInBounds_toArray, List.set_cons_zero, List.set_cons_succ]
    clear h hall h6 h7 h8 Hs
    have hs := (show St K W2 (_ :: _ :: _ :: _) from hs).re [2, 0, 1] rfl
    go_upto_region 7 with (fail)
    have Hs : Hid (St K W2 (insC (bl + 2) .nilFunc d { inx1 fr (.slice af fr.pg.sl.length cf) fu (.slice a fu.sl.length c) with on := false } :: blk bv (.cells #[(.pointer (some ⟨bt, 0, none⟩))] 156) :: takeC bt 4 d.no ⟨0, 0, false⟩ :: slC (.slice af fr.pg.sl.length cf) fr.pg :: slC (.slice a fu.sl.length c) fu :: blk (bl + 3) (.cells #[(.pointer (some ⟨(bl + 2), 0, none⟩))] 82) :: blk (bl + 1) (.cells #[.int .u64 (fr).id, .int .u64 (fr).word, .int .i64 (fr).pg.lev, (.slice af fr.pg.sl.length cf), .string (fr).pg.hi, .bool (fr).pg.la, .int .u64 (fr).pg.ri] 45) :: blk bl (.cells #[.int .i64 (d).th, .int .i64 (d).sn, .int .i64 (d).no, .int .i64 (d).ch, .int .i64 (d).re, .int .i64 (d).fa, .int .u64 (d).cl] 29) :: F)) := Lib.hid hs
    clear hs
    refine region_effects [false, false, false, false, true, true, false, false, true] [4, 5, 8] (fun | 5 => [4] | 8 => [5] | _ => [])
      (BgR K (blk bv (.cells #[(.pointer (some ⟨bt, 0, none⟩))] 156) :: takeC bt 4 d.no ⟨0, 0, false⟩ :: slC (.slice af fr.pg.sl.length cf) fr.pg :: slC (.slice a fu.sl.length c) fu :: blk (bl + 3) (.cells #[(.pointer (some ⟨(bl + 2), 0, none⟩))] 82) :: blk (bl + 1) (.cells #[.int .u64 (fr).id, .int .u64 (fr).word, .int .i64 (fr).pg.lev, (.slice af fr.pg.sl.length cf), .string (fr).pg.hi, .bool (fr).pg.la, .int .u64 (fr).pg.ri] 45) :: blk bl (.cells #[.int .i64 (d).th, .int .i64 (d).sn, .int .i64 (d).no, .int .i64 (d).ch, .int .i64 (d).re, .int .i64 (d).fa, .int .u64 (d).cl] 29) :: F) (bl + 2) d (inx1 fr (.slice af fr.pg.sl.length cf) fu (.slice a fu.sl.length c)) 4 5 8 (TbΦ bv (bl + 3) bt))
      (fun W => ∃ nx on, St K W (insC (bl + 2) nx d { inx1 fr (.slice af fr.pg.sl.length cf) fu (.slice a fu.sl.length c) with on := on } :: blk bv (.cells #[(.pointer (some ⟨bt, 0, none⟩))] 156) :: takeC bt 4 d.no ⟨0, 0, false⟩ :: slC (.slice af fr.pg.sl.length cf) fr.pg :: slC (.slice a fu.sl.length c) fu :: blk (bl + 3) (.cells #[(.pointer (some ⟨(bl + 2), 0, none⟩))] 82) :: blk (bl + 1) (.cells #[.int .u64 (fr).id, .int .u64 (fr).word, .int .i64 (fr).pg.lev, (.slice af fr.pg.sl.length cf), .string (fr).pg.hi, .bool (fr).pg.la, .int .u64 (fr).pg.ri] 45) :: blk bl (.cells #[.int .i64 (d).th, .int .i64 (d).sn, .int .i64 (d).no, .int .i64 (d).ch, .int .i64 (d).re, .int .i64 (d).fa, .int .u64 (d).cl] 29) :: F)) ?aSB7 (by kernel_rfl) ?hBB7 ?HB7 ?haSB7 ?h0B7 ?hIB7 ?hRB7 ?hEB7 ?hQB7
    case hBB7 => as_aux_lemma => kernel_rfl
    case HB7 =>
      rintro W2 ⟨nx, on, hs⟩
      have kv := hs.k1
      have ki := hs.tail.tail.tail.k2
      clear hs
      simp only [withM]
      repeat (go_big_quiet_step (fail))
      refine wpQuiet_nil ?_
      rfl
    case haSB7 => rfl
    case h0B7 => exact BgR.start Hs.out
    case hIB7 => exact fun ρ W2 ⟨fv, C, _, _, h⟩ => ⟨_, _, h.right⟩
    case hRB7 => exact fun ρ W2 W3 h hb => h.same hb
    case hEB7 =>
      refine ⟨?eaB7, ?ebB7, ?ecB7, trivial⟩
      case eaB7 =>
        intro o ho ρ W2 h hcl h1' hd2 af' haf
        obtain rfl := Option.some.inj ho
        replace haf : af' = fillD _ ρ [] _ := haf
        have h2' : ρ 5 = none := hcl.none (by simp) (show 4 ∈ [4] by simp) h1'
        have h3' : ρ 8 = none := hcl.none (by simp) (show 5 ∈ [5] by simp) h2'
        obtain ⟨hs, hnext⟩ := h.call (by omega) (by omega) h1' h2' h3'
        simp only [fillD] at haf
        subst haf
        have Hn := Lib.hid hnext
        clear hnext hcl hd2 h1' h2' h3' h
        have qw := call_st (T2 := 156) (xv := (.pointer (some ⟨bt, 0, none⟩))) (f := 100) (tx := #[]) (ty := #[(.pointer (some ⟨bv, 0, none⟩)), (.pointer (some ⟨(bl + 3), 0, none⟩))]) hs
        have Qw := Lib.hid qw
        clear qw hs
        go_wp2_with fail
        refine (Qw.out).mono ?_
        rintro e W3 ⟨b2, b3, b5, rfl, hs⟩
        have Hs' := Lib.hid hs
        clear hs Qw
        simp only [callFV, stV]
        go_wp2
        exact ⟨rfl, _, rfl, Hn.out (callFV b2 b3 b5) _ W3 ⟨b2, b3, b5, rfl, rfl⟩ Hs'.out⟩
      case ebB7 =>
        intro o ho ρ W2 h hcl h2' hd2 af' haf
        obtain rfl := Option.some.inj ho
        replace haf : af' = fillD _ ρ [4] _ := haf
        obtain ⟨v1, h1'⟩ := Option.isSome_iff_exists.1 (hd2 4 (by show _ ∈ [4]; simp))
        obtain ⟨fv, rfl, hnext⟩ := h.begin (by omega) (by omega) h1'
        simp only [fillD, h1', Option.getD_some, dstAt, List.getElem?_cons_succ, List.getElem?_cons_zero, Option.bind_some, Option.bind_none, Act.put, List.setIfInBounds_toArray, List.set_cons_zero, List.set_cons_succ] at haf
        subst haf
        have Hn := Lib.hid hnext
        clear hnext hcl hd2 h1' h2' h
        simp only [stV]
        go_wp2_with fail
        refine (begin_any _ _ _ _).mono ?_
        rintro e W3 ⟨rfl, hb⟩
        have Hb := Lib.hid hb
        clear hb
        go_wp2
        exact ⟨rfl, _, rfl, Hn.out W3 Hb.out⟩
      case ecB7 =>
        intro o ho ρ W2 h hcl h3' hd2 af' haf
        obtain rfl := Option.some.inj ho
        replace haf : af' = fillD _ ρ [5] _ := haf
        obtain ⟨v2, h2'⟩ := Option.isSome_iff_exists.1 (hd2 5 (by show _ ∈ [5]; simp))
        obtain ⟨fv, R', rfl, hs, hnext⟩ := h.store (by omega) (by omega) h2' h3'
        simp only [fillD, h2', Option.getD_some, dstAt, List.getElem?_cons_succ, List.getElem?_cons_zero, Option.bind_some, Option.bind_none, Act.put, List.setIfInBounds_toArray, List.set_cons_zero, List.set_cons_succ] at haf
        subst haf
        have k := hs.k0
        have kf := hs.f0
        unfold inCells inH inx1 at k
        have Hs3 : Hid (St K _ (insC (bl + 2) (stV (some fv)) d { inx1 fr (.slice af fr.pg.sl.length cf) fu (.slice a fu.sl.length c) with on := true } :: R')) := Lib.hid ((hs.setL 0 (stV (some fv))).setL 1 (.bool true))
        have Hn := Lib.hid hnext
        clear hs hnext hcl hd2 h h2' h3'
        simp only [stV] at Hs3 ⊢
        go_wp2
        exact ⟨rfl, undef, rfl, Hn.out _ Hs3.out⟩
    case hQB7 =>
    intro ρ W2 h hall
    obtain ⟨fv, C, h1', h2', ⟨v3, h3'⟩, hΦ, hs⟩ := h.last hall
    simp only [fillD, h1', h2', h3', Option.getD_some, dstAt, List.getElem?_cons_succ, List.getElem?_cons_zero, Option.bind_some, Option.bind_none, Act.put, List.setIfInBounds_toArray, List.set_cons_zero, List.set_cons_succ]
    clear h hall h1' h2' h3' Hs
    obtain ⟨b2, b3, b5, rfl, rfl⟩ := hΦ
    have hs := (show St K W2 (_ :: _ :: _ :: _ :: _ :: _ :: _ :: _ :: _ :: F) from hs)
    have ki := hs.b6.k0
    have Hs' := Lib.hid (hs.re [7, 8, 1, 4, 5, 0, 2, 6, 3] rfl)
    clear hs
    go_wp2
    go_ret
    exact ⟨bl + 2, rfl, a, c, .inr ⟨⟨b2, b3, b5, bv, bl + 3, bt⟩, Hs'.out.tail.tail⟩⟩
end
end Go.Proofs.YtlpdhhhgckpcfaaGreat

namespace Go.Proofs.YtlpdhhhgckpcfaaGreat
open Go.RowKit
set_option maxRecDepth 100000
theorem runStepOf {K : Know} {w : World} {α : Type} {b m : Nat} {f : FV} {o : α → Option FV} {nx : Value} {tl : α → List Value} {T : TypeId} {F' : α → List Comp} (hf : Enters f.f) (hc : w.cell? ⟨b, 0, none⟩ = some (stV (some f)))
    (hcall : Calls Tryz.prog f.f (f.x ++ #[(.pointer (some ⟨m, 0, none⟩))] ++ f.y) w fun e w1 => ∃ x, e = .returned (stV (o x)) ∧ St K w1 (blk b (.cells (nx :: tl x).toArray T) :: F' x)) :
    Calls Tryz.prog 77 #[(.pointer (some ⟨b, 0, none⟩)), (.pointer (some ⟨m, 0, none⟩))] w fun e w' => ∃ x, e = .returned (.bool (o x).isNone) ∧ St K w' (blk b (.cells (stV (o x) :: tl x).toArray T) :: F' x) := by
  refine (runStep_st (R := fun l => ∃ x, l = ⟨o x, K, nx, tl x, T, F' x⟩) w b m f hf hc (hcall.mono fun e w1 ⟨x, he, hs⟩ => ⟨⟨o x, K, nx, tl x, T, F' x⟩, he, ⟨x, rfl⟩, hs⟩)).mono ?_
  rintro e w' ⟨l, he, ⟨x, rfl⟩, hs⟩
  exact ⟨x, he, hs⟩
theorem wrThenEnters : Enters 133 := fun _ _ => by kernel_rfl
theorem frThenEnters : Enters 136 := fun _ _ => by kernel_rfl
theorem tkThenEnters : Enters 100 := fun _ _ => by kernel_rfl
def inTl (d : Cfg) (x : InX) : List Value := (inCells .nilFunc d x).tail
section
variable {K : Know} {w : World} {F : List Comp} {b bm bc acc : Nat} {d : Cfg} {x : InX} {L : List Cel} {p q : Pg} {id word : Int} {ps : List Pt} {k : Nat} {pt : Pt} {sep : ByteArray} {af au : Option Addr} {cf cu : Nat} {s : TakeS}
/-- A step of the last write. -/
theorem insRunW (B : WrB) (hn : p.sl.length ≤ 1000000) (hk : ps[k]? = some pt) (ha : acc ≤ 1000000000000)
    (hs : St K w (insC b (stV (some (wrFV B))) d x :: memC bm bc L acc :: (wrL b B id word p ps k ++ F))) :
    Calls Tryz.prog 77 #[(.pointer (some ⟨b, 0, none⟩)), (.pointer (some ⟨bm, 0, none⟩))] w fun e w' => (k + 1 ≠ ps.length ∧ e = .returned (.bool false) ∧ St K w' (insC b (stV (some (wrFV B))) d x :: memC bm bc (putC L pt.i pt.c) (acc + 1) :: (wrL b B id word p ps (k + 1) ++ F))) ∨
      (k + 1 = ps.length ∧ e = .returned (.bool true) ∧ ∃ va, St K w' (insC b .nilFunc d { x with le := ⟨id, word, p⟩, vl := va } :: memC bm bc (putC L pt.i pt.c) (acc + 1) :: slC va p :: F)) := by
  obtain ⟨b2, b3, b5, bwv, biv, bw, bn, g, cap, va⟩ := B
  have hc : w.cell? ⟨b, 0, none⟩ = some (stV (some (callFV b2 b3 b5))) := hs.k0 0
  have hs : St K w (insC b (stV (some (callFV b2 b3 b5))) d x :: memC bm bc L acc :: callC b2 b3 b5 (.iface 76 (.pointer (some ⟨bw, 0, none⟩))) (.func (.func 133) #[] #[(.pointer (some ⟨bwv, 0, none⟩)), (.pointer (some ⟨biv, 0, none⟩))]) :: blk bwv (.cells #[(.pointer (some ⟨bw, 0, none⟩))] 76) :: blk biv (.cells #[(.pointer (some ⟨b, 0, none⟩))] 82) ::
    wrC bn id word p va g cap ps k :: rowC (.slice (some ⟨g, 0, none⟩) ps.length cap) 139 4 ps.length (ptRow ps) :: blk bw (.cells #[(.pointer (some ⟨bn, 0, none⟩))] 147) :: slC va p :: F) := hs
  refine (runStepOf (K := K) (α := { y : Option Value // y.isSome = decide (k + 1 = ps.length) }) (f := callFV b2 b3 b5) (o := fun y => match y.1 with | none => some (callFV b2 b3 b5) | some _ => none) (nx := stV (some (callFV b2 b3 b5)))
    (tl := fun y => match y.1 with | none => inTl d x | some va' => inTl d { x with le := ⟨id, word, p⟩, vl := va' })
    (F' := fun y => memC bm bc (putC L pt.i pt.c) (acc + 1) :: (match y.1 with | none => wrL b ⟨b2, b3, b5, bwv, biv, bw, bn, g, cap, va⟩ id word p ps (k + 1) ++ F | some va' => slC va' p :: F)) (T := 151) callEnters hc ?_).mono (fun e w' h => ?_)
  · show Calls Tryz.prog 115 #[(.pointer (some ⟨bm, 0, none⟩)), (.pointer (some ⟨b2, 0, none⟩)), (.pointer (some ⟨b3, 0, none⟩)), (.pointer (some ⟨b5, 0, none⟩))] w _
    refine (callStep_st (P0 := fun w' => k + 1 ≠ ps.length ∧ St K w' (insC b (stV (some (callFV b2 b3 b5))) d x :: memC bm bc (putC L pt.i pt.c) (acc + 1) :: (wrL b ⟨b2, b3, b5, bwv, biv, bw, bn, g, cap, va⟩ id word p ps (k + 1) ++ F)))
      (P1 := fun o w' => k + 1 = ps.length ∧ o = none ∧ ∃ va', St K w' (insC b (stV (some (callFV b2 b3 b5))) d { x with le := ⟨id, word, p⟩, vl := va' } :: slC va' p :: memC bm bc (putC L pt.i pt.c) (acc + 1) :: F))
      (hs.re [2, 0, 1, 3, 4, 5, 6, 7, 8] rfl) (fun n w => method_write n _ w) writeEnters wrThenEnters ((writeStep_st hk ha (hs.re [5, 1, 6, 7, 0, 2, 3, 4, 8] rfl)).mono ?_)).mono ?_
    · rintro e w1 ⟨rfl, hs⟩
      refine ⟨⟨K, _, hs.re [5, 0, 1, 2, 3, 4, 6, 7, 8] rfl⟩, ?_⟩
      by_cases hl : k + 1 = ps.length
      · refine .inr ⟨by rw [decide_eq_true hl], ?_⟩
        have hs' : St K w1 (insC b (stV (some (callFV b2 b3 b5))) d x :: (wrL b ⟨b2, b3, b5, bwv, biv, bw, bn, g, cap, va⟩ id word p ps ps.length ++ (memC bm bc (putC L pt.i pt.c) (acc + 1) :: F))) := by
          have h9 := hs.re [4, 5, 6, 7, 0, 2, 3, 8, 1] rfl
          rw [hl] at h9
          exact h9
        refine (insW1_st hn hs').mono ?_
        rintro e w2 ⟨va', rfl, hs2⟩
        exact ⟨none, rfl, hl, rfl, va', hs2⟩
      · exact .inl ⟨by rw [decide_eq_false hl], hl, hs.re [4, 1, 5, 6, 7, 0, 2, 3, 8] rfl⟩
    · rintro e w1 ⟨o, rfl, ⟨rfl, hl, hs⟩ | ⟨hl, rfl, va', hs⟩⟩
      · exact ⟨⟨none, by simp [hl]⟩, rfl, hs⟩
      · exact ⟨⟨some va', by simp [hl]⟩, rfl, hs.re [0, 2, 1] rfl⟩
  · obtain ⟨⟨y, hy⟩, rfl, hs⟩ := h
    cases y with
    | none => exact .inl ⟨by simpa using hy, rfl, hs⟩
    | some va' => exact .inr ⟨by simpa using hy, rfl, va', hs⟩
/-- A step while the right page is written. -/
theorem insRunF (B : FrB) (hd : d.Ok) (hfr : x.fr.Ok d) (hq : PgOk d q) (hql : 0 ≤ q.lev ∧ q.lev < 1000000) (hn : p.sl.length ≤ 1000000) (hv : x.vf = .slice af x.fr.pg.sl.length cf) (hvq : ∃ a c, B.vq = .slice a q.sl.length c) (hk : ps[k]? = some pt) (ha : acc ≤ 1000000000000)
    (hs : St K w (insC b (stV (some (frFV B))) d x :: memC bm bc L acc :: slC x.vf x.fr.pg :: (frL b B id p q sep ps k ++ F))) :
    Calls Tryz.prog 77 #[(.pointer (some ⟨b, 0, none⟩)), (.pointer (some ⟨bm, 0, none⟩))] w fun e w' => e = .returned (.bool false) ∧
      ((k + 1 ≠ ps.length ∧ St K w' (insC b (stV (some (frFV B))) d x :: memC bm bc (putC L pt.i pt.c) (acc + 1) :: slC x.vf x.fr.pg :: (frL b B id p q sep ps (k + 1) ++ F))) ∨
      (k + 1 = ps.length ∧ ∃ va B' ps', WrPs d x.fr q ps' ∧ St K w' (insC b (stV (some (wrFV B'))) d { x with ri := ⟨id, ltLock 0, p⟩, vr := va, sep := sep } :: memC bm bc (putC L pt.i pt.c) (acc + 1) :: slC x.vf x.fr.pg :: slC va p :: slC B.vq q :: (wrL b B' x.fr.id (ltEnd (ltBegin x.fr.word)) q ps' 0 ++ F)))) := by
  obtain ⟨b2, b3, b5, bfv, bsv, biv, blv, bw, bn, g, cap, va, vq⟩ := B
  have hc : w.cell? ⟨b, 0, none⟩ = some (stV (some (callFV b2 b3 b5))) := hs.k0 0
  have hs : St K w (insC b (stV (some (callFV b2 b3 b5))) d x :: memC bm bc L acc :: slC x.vf x.fr.pg :: callC b2 b3 b5 (.iface 74 (.pointer (some ⟨bw, 0, none⟩))) (.func (.func 136) #[] #[(.pointer (some ⟨bfv, 0, none⟩)), (.pointer (some ⟨bsv, 0, none⟩)), (.pointer (some ⟨biv, 0, none⟩)), (.pointer (some ⟨blv, 0, none⟩))]) ::
    blk bfv (.cells #[(.pointer (some ⟨bw, 0, none⟩))] 74) :: blk bsv (.cells #[.string sep] 9) :: blk biv (.cells #[(.pointer (some ⟨b, 0, none⟩))] 82) :: blk blv (.cells #[.int .i64 (q).lev, vq, .string (q).hi, .bool (q).la, .int .u64 (q).ri] 43) ::
    wrC bn id (ltLock 0) p va g cap ps k :: rowC (.slice (some ⟨g, 0, none⟩) ps.length cap) 139 4 ps.length (ptRow ps) :: blk bw (.cells #[(.pointer (some ⟨bn, 0, none⟩))] 145) :: slC va p :: slC vq q :: F) := hs
  refine (runStepOf (K := K) (α := { y : Option (Value × WrB × List Pt) // y.isSome = decide (k + 1 = ps.length) ∧ ∀ z, y = some z → WrPs d x.fr q z.2.2 }) (f := callFV b2 b3 b5) (o := fun y => match y.1 with | none => some (callFV b2 b3 b5) | some z => some (wrFV z.2.1)) (nx := stV (some (callFV b2 b3 b5)))
    (tl := fun y => match y.1 with | none => inTl d x | some z => inTl d { x with ri := ⟨id, ltLock 0, p⟩, vr := z.1, sep := sep })
    (F' := fun y => memC bm bc (putC L pt.i pt.c) (acc + 1) :: slC x.vf x.fr.pg :: (match y.1 with | none => frL b ⟨b2, b3, b5, bfv, bsv, biv, blv, bw, bn, g, cap, va, vq⟩ id p q sep ps (k + 1) ++ F | some z => slC z.1 p :: slC vq q :: (wrL b z.2.1 x.fr.id (ltEnd (ltBegin x.fr.word)) q z.2.2 0 ++ F))) (T := 151) callEnters hc ?_).mono (fun e w' h => ?_)
  · show Calls Tryz.prog 115 #[(.pointer (some ⟨bm, 0, none⟩)), (.pointer (some ⟨b2, 0, none⟩)), (.pointer (some ⟨b3, 0, none⟩)), (.pointer (some ⟨b5, 0, none⟩))] w _
    refine (callStep_st (P0 := fun w' => k + 1 ≠ ps.length ∧ St K w' (insC b (stV (some (callFV b2 b3 b5))) d x :: memC bm bc (putC L pt.i pt.c) (acc + 1) :: slC x.vf x.fr.pg :: (frL b ⟨b2, b3, b5, bfv, bsv, biv, blv, bw, bn, g, cap, va, vq⟩ id p q sep ps (k + 1) ++ F)))
      (P1 := fun o w' => k + 1 = ps.length ∧ ∃ va' B' ps', o = some (wrFV B') ∧ WrPs d x.fr q ps' ∧ St K w' (insC b (stV (some (callFV b2 b3 b5))) d { x with ri := ⟨id, ltLock 0, p⟩, vr := va', sep := sep } :: memC bm bc (putC L pt.i pt.c) (acc + 1) :: slC x.vf x.fr.pg :: slC va' p :: slC vq q :: (wrL b B' x.fr.id (ltEnd (ltBegin x.fr.word)) q ps' 0 ++ F)))
      (hs.re [3, 0, 1, 2, 4, 5, 6, 7, 8, 9, 10, 11, 12] rfl) (fun n w => method_fresh n _ w) freshEnters frThenEnters ((freshStep_st hk ha (hs.re [8, 1, 9, 10, 0, 2, 3, 4, 5, 6, 7, 11, 12] rfl)).mono ?_)).mono ?_
    · rintro e w1 ⟨rfl, hs⟩
      refine ⟨⟨K, _, hs.re [6, 0, 1, 2, 3, 4, 5, 7, 8, 9, 10, 11, 12] rfl⟩, ?_⟩
      by_cases hl : k + 1 = ps.length
      · refine .inr ⟨by rw [decide_eq_true hl], ?_⟩
        have hs' : St K w1 (insC b (stV (some (callFV b2 b3 b5))) d x :: slC x.vf x.fr.pg :: (frL b ⟨b2, b3, b5, bfv, bsv, biv, blv, bw, bn, g, cap, va, vq⟩ id p q sep ps ps.length ++ (memC bm bc (putC L pt.i pt.c) (acc + 1) :: F))) := by
          have h9 := hs.re [4, 5, 6, 7, 8, 9, 10, 0, 2, 3, 11, 12, 1] rfl
          rw [hl] at h9
          exact h9
        obtain ⟨aq, cq, hvq⟩ := hvq
        refine (insS1_st hd hfr hq hql hn hv hvq hs').mono ?_
        rintro e w2 ⟨va', B', ps', rfl, hw, hs2⟩
        exact ⟨some (wrFV B'), rfl, hl, va', B', ps', rfl, hw, (show St K w2 (_ :: _ :: _ :: _ :: _ :: _ :: _ :: _ :: _ :: _ :: _ :: _ :: F) from hs2).re [0, 11, 1, 2, 3, 4, 5, 6, 7, 8, 9, 10] rfl⟩
      · exact .inl ⟨by rw [decide_eq_false hl], hl, hs.re [4, 1, 5, 6, 7, 8, 9, 10, 0, 2, 3, 11, 12] rfl⟩
    · rintro e w1 ⟨o, rfl, ⟨rfl, hl, hs⟩ | ⟨hl, va', B', ps', rfl, hw, hs⟩⟩
      · exact ⟨⟨none, by simp [hl], by simp⟩, rfl, hs⟩
      · exact ⟨⟨some ⟨va', B', ps'⟩, by simp [hl], fun z hz => by obtain rfl := Option.some.inj hz; exact hw⟩, rfl, hs⟩
  · obtain ⟨⟨y, hy, hw⟩, rfl, hs⟩ := h
    cases y with
    | none => exact ⟨rfl, .inl ⟨by simpa using hy, hs⟩⟩
    | some z => exact ⟨rfl, .inr ⟨by simpa using hy, z.1, z.2.1, z.2.2, hw z rfl, hs⟩⟩
/-- A step while the number is taken. -/
theorem insRunT (B : TkB) (hd : d.Ok) (hul : 0 ≤ x.fu.lev ∧ x.fu.lev < 1000000) (h2 : 2 ≤ x.fu.sl.length) (hle : (x.fu.sl.length : Int) ≤ d.fa + 1) (hsz : ∀ s, s ∈ x.fu.sl → s.k.size ≤ 1000000) (hvu : x.vu = .slice au x.fu.sl.length cu) (hv : x.vf = .slice af x.fr.pg.sl.length cf)
    (hpc : s.pc < 2) (h1 : s.pc = 1 → 0 ≤ s.seen ∧ s.seen < 18446744073709551615) (hseen : (takeStep 4 d.no L s).1.ok = true → 0 ≤ (takeStep 4 d.no L s).1.seen ∧ (takeStep 4 d.no L s).1.seen < 18446744073709551615) (ha : acc ≤ 1000000000000)
    (hs : St K w (insC b (stV (some (tkFV B))) d x :: memC bm bc L acc :: slC x.vu x.fu :: (tkL b B 4 d.no s ++ F))) :
    Calls Tryz.prog 77 #[(.pointer (some ⟨b, 0, none⟩)), (.pointer (some ⟨bm, 0, none⟩))] w fun e w' =>
      ((takeStep 4 d.no L s).1.pc < 2 ∧ e = .returned (.bool false) ∧ St K w' (insC b (stV (some (tkFV B))) d x :: memC bm bc (takeStep 4 d.no L s).2 (acc + 1) :: slC x.vu x.fu :: (tkL b B 4 d.no (takeStep 4 d.no L s).1 ++ F))) ∨
      (2 ≤ (takeStep 4 d.no L s).1.pc ∧ (takeStep 4 d.no L s).1.ok = false ∧ e = .returned (.bool true) ∧ St K w' (insC b .nilFunc d { x with err := 2, le := x.fr, vl := x.vf } :: memC bm bc (takeStep 4 d.no L s).2 (acc + 1) :: slC x.vu x.fu :: F)) ∨
      (2 ≤ (takeStep 4 d.no L s).1.pc ∧ (takeStep 4 d.no L s).1.ok = true ∧ e = .returned (.bool false) ∧ ∃ (B' : FrB) (ps : List Pt), ps = ⟨d.node ((takeStep 4 d.no L s).1.seen + 1) 0, ⟨ltLock 0, ⟨#[]⟩, 0⟩⟩ :: pgPts d ((takeStep 4 d.no L s).1.seen + 1) (splR x.fu) ∧ (∃ a c, B'.vq = .slice a (splL x.fu ((takeStep 4 d.no L s).1.seen + 1)).sl.length c) ∧
        St K w' (insC b (stV (some (frFV B'))) d x :: memC bm bc (takeStep 4 d.no L s).2 (acc + 1) :: slC x.vu x.fu :: (frL b B' ((takeStep 4 d.no L s).1.seen + 1) (splR x.fu) (splL x.fu ((takeStep 4 d.no L s).1.seen + 1)) (splSep x.fu) ps 0 ++ F))) := by
  obtain ⟨b2, b3, b5, btv, biv, bt⟩ := B
  have hc : w.cell? ⟨b, 0, none⟩ = some (stV (some (callFV b2 b3 b5))) := hs.k0 0
  have hs : St K w (insC b (stV (some (callFV b2 b3 b5))) d x :: memC bm bc L acc :: slC x.vu x.fu :: callC b2 b3 b5 (.iface 156 (.pointer (some ⟨bt, 0, none⟩))) (.func (.func 100) #[] #[(.pointer (some ⟨btv, 0, none⟩)), (.pointer (some ⟨biv, 0, none⟩))]) ::
    blk btv (.cells #[(.pointer (some ⟨bt, 0, none⟩))] 156) :: blk biv (.cells #[(.pointer (some ⟨b, 0, none⟩))] 82) :: takeC bt 4 d.no s :: F) := hs
  obtain ⟨s', hs'⟩ : ∃ s', s' = (takeStep 4 d.no L s).1 := ⟨_, rfl⟩
  obtain ⟨L', hL'⟩ : ∃ L', L' = (takeStep 4 d.no L s).2 := ⟨_, rfl⟩
  have q := takeStep_st (i := 4) (lim := d.no) (hs.re [6, 1, 0, 2, 3, 4, 5] rfl) ha h1
  rw [if_neg (by omega : ¬ 2 ≤ s.pc)] at q
  rw [← hs'] at hseen
  rw [← hs', ← hL'] at q ⊢
  have Q := Lib.hid q
  clear q hs' hL'
  refine (runStepOf (K := K) (α := { y : Option (Option (FrB × List Pt)) // match y with | none => s'.pc < 2 | some none => 2 ≤ s'.pc ∧ s'.ok = false | some (some z) => 2 ≤ s'.pc ∧ s'.ok = true ∧ z.2 = ⟨d.node (s'.seen + 1) 0, ⟨ltLock 0, ⟨#[]⟩, 0⟩⟩ :: pgPts d (s'.seen + 1) (splR x.fu) ∧ (∃ a c, z.1.vq = .slice a (splL x.fu (s'.seen + 1)).sl.length c) })
    (f := callFV b2 b3 b5) (o := fun y => match y.1 with | none => some (callFV b2 b3 b5) | some none => none | some (some z) => some (frFV z.1)) (nx := stV (some (callFV b2 b3 b5)))
    (tl := fun y => match y.1 with | none => inTl d x | some none => inTl d { x with err := 2, le := x.fr, vl := x.vf } | some (some _) => inTl d x)
    (F' := fun y => memC bm bc L' (acc + 1) :: slC x.vu x.fu :: (match y.1 with | none => tkL b ⟨b2, b3, b5, btv, biv, bt⟩ 4 d.no s' ++ F | some none => F | some (some z) => frL b z.1 (s'.seen + 1) (splR x.fu) (splL x.fu (s'.seen + 1)) (splSep x.fu) z.2 0 ++ F)) (T := 151) callEnters hc ?_).mono (fun e w' h => ?_)
  · show Calls Tryz.prog 115 #[(.pointer (some ⟨bm, 0, none⟩)), (.pointer (some ⟨b2, 0, none⟩)), (.pointer (some ⟨b3, 0, none⟩)), (.pointer (some ⟨b5, 0, none⟩))] w _
    refine (callStep_st (P0 := fun w' => s'.pc < 2 ∧ St K w' (insC b (stV (some (callFV b2 b3 b5))) d x :: memC bm bc L' (acc + 1) :: slC x.vu x.fu :: (tkL b ⟨b2, b3, b5, btv, biv, bt⟩ 4 d.no s' ++ F)))
      (P1 := fun o w' => 2 ≤ s'.pc ∧ ((s'.ok = false ∧ o = none ∧ St K w' (insC b (stV (some (callFV b2 b3 b5))) d { x with err := 2, le := x.fr, vl := x.vf } :: memC bm bc L' (acc + 1) :: slC x.vu x.fu :: F)) ∨
        (s'.ok = true ∧ ∃ B' ps, o = some (frFV B') ∧ ps = ⟨d.node (s'.seen + 1) 0, ⟨ltLock 0, ⟨#[]⟩, 0⟩⟩ :: pgPts d (s'.seen + 1) (splR x.fu) ∧ (∃ a c, B'.vq = .slice a (splL x.fu (s'.seen + 1)).sl.length c) ∧
          St K w' (insC b (stV (some (callFV b2 b3 b5))) d x :: memC bm bc L' (acc + 1) :: slC x.vu x.fu :: (frL b B' (s'.seen + 1) (splR x.fu) (splL x.fu (s'.seen + 1)) (splSep x.fu) ps 0 ++ F)))))
      (hs.re [3, 0, 1, 2, 4, 5, 6] rfl) (fun n w => method_take n _ w) takeEnters tkThenEnters ((Q.out).mono ?_)).mono ?_
    · rintro e w1 ⟨rfl, hs⟩
      refine ⟨⟨K, _, hs.re [4, 0, 1, 2, 3, 5, 6] rfl⟩, ?_⟩
      by_cases hl : 2 ≤ s'.pc
      · refine .inr ⟨by rw [decide_eq_true hl], ?_⟩
        have hs' : St K w1 (insC b (stV (some (callFV b2 b3 b5))) d x :: slC x.vu x.fu :: (tkL b ⟨b2, b3, b5, btv, biv, bt⟩ 4 d.no s' ++ (memC bm bc L' (acc + 1) :: F))) := hs.re [2, 3, 4, 5, 6, 0, 1] rfl
        cases hok : s'.ok with
        | true =>
          refine (insT1_yes hd hul h2 hle hsz hvu hok (hseen hok) hs').mono ?_
          rintro e w2 ⟨B', ps, rfl, hps, hvq, hs2⟩
          exact ⟨some (frFV B'), rfl, hl, .inr ⟨rfl, B', ps, rfl, hps, hvq, (show St K w2 (_ :: _ :: _ :: _ :: _ :: _ :: _ :: _ :: _ :: _ :: _ :: _ :: _ :: F) from hs2).re [0, 12, 1, 2, 3, 4, 5, 6, 7, 8, 9, 10, 11] rfl⟩⟩
        | false =>
          refine (insT1_no hv hok ((show St K w1 (_ :: _ :: _ :: _ :: _ :: _ :: _ :: F) from hs').re [0, 2, 3, 4, 5, 1, 6] rfl)).mono ?_
          rintro e w2 ⟨rfl, hs2⟩
          exact ⟨none, rfl, hl, .inl ⟨rfl, rfl, hs2.re [0, 2, 1] rfl⟩⟩
      · exact .inl ⟨by rw [decide_eq_false hl], by omega, hs.re [2, 1, 3, 4, 5, 6, 0] rfl⟩
    · rintro e w1 ⟨o, rfl, ⟨rfl, hl, hs⟩ | ⟨hl, ⟨hok, rfl, hs⟩ | ⟨hok, B', ps, rfl, hps, hvq, hs⟩⟩⟩
      · exact ⟨⟨none, hl⟩, rfl, hs⟩
      · exact ⟨⟨some none, hl, hok⟩, rfl, hs⟩
      · exact ⟨⟨some (some ⟨B', ps⟩), hl, hok, hps, hvq⟩, rfl, hs⟩
  · obtain ⟨⟨y, hy⟩, rfl, hs⟩ := h
    match y, hy, hs with
    | none, hy, hs => exact .inl ⟨hy, rfl, hs⟩
    | some none, hy, hs => exact .inr (.inl ⟨hy.1, hy.2, rfl, hs⟩)
    | some (some z), hy, hs => exact .inr (.inr ⟨hy.1, hy.2.1, rfl, z.1, z.2, hy.2.2.1, hy.2.2.2, hs⟩)
end
end Go.Proofs.YtlpdhhhgckpcfaaGreat

namespace Go.Proofs.YtlpdhhhgckpcfaaGreat
open Go.RowKit
set_option maxRecDepth 100000
theorem insRes_res (tmps : Array Value) (w : World) (b : Nat) (v0 v1 v2 v3 v4 v5 v6 : Value) (hp : tmps[4]? = some ((.pointer (some ⟨b, 0, none⟩)))) (hk : ∀ k, w.cell? ⟨b, k, none⟩ = (#[v0, v1, v2, v3, v4, v5, v6] : Array Value)[k]?) :
    (results Tryz.f106 tmps).run Tryz.prog w = .ok (.agg #[v0, v1, v2, v3, v4, v5, v6]) w := by
  simp [results, Tryz.results106, go_sem, hp, hk]
theorem insLeft_res (tmps : Array Value) (w : World) (b : Nat) (v0 v1 v2 v3 v4 v5 v6 : Value) (hp : tmps[2]? = some ((.pointer (some ⟨b, 0, none⟩)))) (hk : ∀ k, w.cell? ⟨b, k, none⟩ = (#[v0, v1, v2, v3, v4, v5, v6] : Array Value)[k]?) :
    (results Tryz.f53 tmps).run Tryz.prog w = .ok (.agg #[v0, v1, v2, v3, v4, v5, v6]) w := by
  simp [results, Tryz.results53, go_sem, hp, hk]
theorem insRight_res (tmps : Array Value) (w : World) (b : Nat) (v0 v1 v2 v3 v4 v5 v6 : Value) (hp : tmps[2]? = some ((.pointer (some ⟨b, 0, none⟩)))) (hk : ∀ k, w.cell? ⟨b, k, none⟩ = (#[v0, v1, v2, v3, v4, v5, v6] : Array Value)[k]?) :
    (results Tryz.f54 tmps).run Tryz.prog w = .ok (.agg #[v0, v1, v2, v3, v4, v5, v6]) w := by
  simp [results, Tryz.results54, go_sem, hp, hk]
theorem field_held0 (w : World) (id wd lev ri : Int) (a : Option Addr) (n c : Nat) (hi : ByteArray) (la : Bool) : (Instr.field 45 (.agg #[.int .u64 id, .int .u64 wd, .int .i64 lev, .slice a n c, .string hi, .bool la, .int .u64 ri]) 0).run Tryz.prog w = .ok (.int .u64 id) w := by kernel_rfl
theorem field_held1 (w : World) (id wd lev ri : Int) (a : Option Addr) (n c : Nat) (hi : ByteArray) (la : Bool) : (Instr.field 45 (.agg #[.int .u64 id, .int .u64 wd, .int .i64 lev, .slice a n c, .string hi, .bool la, .int .u64 ri]) 1).run Tryz.prog w = .ok (.int .u64 wd) w := by kernel_rfl
theorem field_held2 (w : World) (id wd lev ri : Int) (a : Option Addr) (n c : Nat) (hi : ByteArray) (la : Bool) : (Instr.field 45 (.agg #[.int .u64 id, .int .u64 wd, .int .i64 lev, .slice a n c, .string hi, .bool la, .int .u64 ri]) 2).run Tryz.prog w = .ok (.agg #[.int .i64 lev, .slice a n c, .string hi, .bool la, .int .u64 ri]) w := by kernel_rfl
theorem field_page1' (w : World) (lev ri : Int) (a : Option Addr) (n c : Nat) (hi : ByteArray) (la : Bool) : (Instr.field 43 (.agg #[.int .i64 lev, .slice a n c, .string hi, .bool la, .int .u64 ri]) 1).run Tryz.prog w = .ok (.slice a n c) w := by kernel_rfl
attribute [go_sem] field_page1' field_held0 field_held1 field_held2
section
variable {K : Know} {w : World} {F : List Comp} {b bm bc acc : Nat} {d : Cfg} {x : InX} {h : InH} {L : List Cel} {a : Option Addr} {c : Nat} {nx : Value}
set_option maxHeartbeats 4000000 in
theorem insResult_st (hon : x.on = true) (hn : h.pg.sl.length ≤ 1000000) (hs : St K w (insC b .nilFunc d x :: slC (.slice a h.pg.sl.length c) h.pg :: F)) :
    Calls Tryz.prog 106 #[(.pointer (some ⟨b, 0, none⟩)), (.agg #[.int .u64 (h).id, .int .u64 (h).word, .int .i64 (h).pg.lev, (.slice a h.pg.sl.length c), .string (h).pg.hi, .bool (h).pg.la, .int .u64 (h).pg.ri])] w fun e w' => ∃ va, e = .returned (.agg #[.int .u64 (h).id, .int .u64 (h).word, .int .i64 (h).pg.lev, va, .string (h).pg.hi, .bool (h).pg.la, .int .u64 (h).pg.ri]) ∧ St K w' (slC va h.pg :: insC b .nilFunc d x :: slC (.slice a h.pg.sl.length c) h.pg :: F) := by
  obtain ⟨fr, vf, fu, vu, err, le, vl, ri, vr, sep, on⟩ := x
  simp only at hon
  subst hon
  have hs := (hs.made (.cells #[.int .u64 (h).id, .int .u64 (h).word, .int .i64 (h).pg.lev, (.slice a h.pg.sl.length c), .string (h).pg.hi, .bool (h).pg.la, .int .u64 (h).pg.ri] 45)).made (.cells #[.int .u64 0, .int .u64 0, .int .i64 0, .slice none 0 0, .string ⟨#[]⟩, .bool false, .int .u64 0] 45)
  rw [World.size_alloc] at hs
  have Qd := Lib.hid (rdDone_any ((w.alloc (.cells #[.int .u64 (h).id, .int .u64 (h).word, .int .i64 (h).pg.lev, (.slice a h.pg.sl.length c), .string (h).pg.hi, .bool (h).pg.la, .int .u64 (h).pg.ri] 45)).alloc (.cells #[.int .u64 0, .int .u64 0, .int .i64 0, .slice none 0 0, .string ⟨#[]⟩, .bool false, .int .u64 0] 45)) b (hs.k2 0) (hs.k2 1))
  have Hs := Lib.hid hs
  clear hs
  go_enter Tryz.func106, Tryz.ntmps106
  go_wp2_with fail
  refine (Qd.out).mono ?_
  clear Qd
  rintro e w1 ⟨rfl, rfl⟩
  go_upto_region 3 with (fail)
  obtain ⟨b0, hb0⟩ : ∃ b0, b0 = w.heap.size := ⟨_, rfl⟩
  rw [← hb0] at Hs ⊢
  have hs := Hs.out
  refine wp_ck hs ?_
  clear hs Hs hb0
  intro W hs
  have hsl := (show St K _ (rowC (.slice a h.pg.sl.length c) 69 2 h.pg.sl.length (slRow h.pg.sl) :: _) from hs.b3).row_slots (by omega)
  have Hl := Lib.hid (show (slRow h.pg.sl).length = h.pg.sl.length * 2 by rw [slRow_length])
  have H0 : Hid (a = none → h.pg.sl.length = 0) := Lib.hid (fun e => by subst e; rw [hsl.no]; rfl)
  have H1 := Lib.hid (slRow_one h.pg.sl)
  obtain ⟨iv, hiv0, hiv1, hiv2, hiv3⟩ := info_parts infoSlot
  have Hi0 := Lib.hid hiv0
  have Hi1 := Lib.hid hiv1
  have Hi2 := Lib.hid hiv2
  have Hi3 := Lib.hid hiv3
  clear hiv0 hiv1 hiv2 hiv3
  have Hn := Lib.hid hsl.news
  obtain ⟨sl, hsl2⟩ : ∃ sl, sl = slRow h.pg.sl := ⟨_, rfl⟩
  rw [← hsl2] at Hl H1 Hn
  have Hsl2 := Lib.hid hsl2
  have kp := hs.k1
  have fp := hs.b1.f0
  have Hs := Lib.hid (hs.row_nil (T := 69) (size := 2))
  clear hs hsl hsl2
  go_wp2_with (at_builtin; refine append_row_st _ _ 41 69 _ 0 h.pg.sl.length c 2 24 [] sl (.agg #[.string ⟨#[]⟩, .int .u64 0]) iv a Hs.out rfl rfl Tryz.underlying41 Hi0.out Hi1.out Hi2.out Hi3.out rfl (by decide) rfl rfl Hl.out H0.out Hn.out H1.out (by omega) (by decide) ?_)
  intro v' w' hs
  obtain ⟨ao, capo, hv, _, _⟩ := hs.row_read
  subst hv
  clear Hs kp fp Hl H0 H1 Hn Hi0 Hi1 Hi2 Hi3
  have hs := hs.b2
  have kb := hs.k0
  have fb := hs.f0
  have hs := hs.setL 3 (.slice ao h.pg.sl.length capo)
  simp only [List.set_cons_zero, List.set_cons_succ] at hs
  go_upto_region 4 with (fail)
  refine wp_ck hs ?_
  clear hs kb fb
  intro W3 hs
  have k1 := hs.k0
  have hs := hs.b2
  have k0 := hs.k0
  have f0 := hs.f0
  have hs := ((((((hs.setL 0 (.int .u64 h.id)).setL 1 (.int .u64 h.word)).setL 2 (.int .i64 h.pg.lev)).setL 3 (.slice ao h.pg.sl.length capo)).setL 4 (.string h.pg.hi)).setL 5 (.bool h.pg.la)).setL 6 (.int .u64 h.pg.ri)
  simp only [List.set_cons_zero, List.set_cons_succ] at hs
  go_wp2
  rw [Hsl2.out] at hs
  refine bodyPost_ret (insRes_res _ _ (b0 + 1) _ _ _ _ _ _ _ rfl hs.k0) rfl ⟨_, rfl, hs.tail.tail⟩
theorem insStep_st {P : Value → World → Prop} (q : Calls Tryz.prog 77 #[(.pointer (some ⟨b, 0, none⟩)), (.pointer (some ⟨bm, 0, none⟩))] w fun e w' => ∃ v, e = .returned v ∧ P v w') (hp : ∀ v w', P v w' → ∃ t : Bool, v = .bool t) :
    Calls Tryz.prog 48 #[(.pointer (some ⟨b, 0, none⟩)), (.pointer (some ⟨bm, 0, none⟩))] w fun e w' => ∃ v, e = .returned v ∧ P v w' := by
  have Q := Lib.hid q
  clear q
  go_enter Tryz.func48, Tryz.ntmps48
  go_wp2_with fail
  refine (Q.out).mono ?_
  rintro e w1 ⟨v, rfl, h⟩
  obtain ⟨t, rfl⟩ := hp v w1 h
  have H := Lib.hid h
  clear h Q hp
  go_wp2
  go_ret
  exact ⟨.bool t, rfl, H.out⟩
theorem insErr_st (hs : St K w (insC b nx d x :: F)) : Calls Tryz.prog 52 #[(.pointer (some ⟨b, 0, none⟩))] w fun e w' => e = .returned (.int .i64 x.err) ∧ St K w' (insC b nx d x :: F) := by
  obtain ⟨fr, vf, fu, vu, err, le, vl, ri, vr, sep, on⟩ := x
  have k := hs.k0
  unfold inCells inH at k
  have Hs := Lib.hid hs
  clear hs
  go_enter Tryz.func52, Tryz.ntmps52
  go_wp2
  go_ret
  exact ⟨rfl, Hs.out⟩
theorem insLeft_st (hon : x.on = true) (hn : x.le.pg.sl.length ≤ 1000000) (hv : x.vl = .slice a x.le.pg.sl.length c) (hs : St K w (insC b .nilFunc d x :: slC x.vl x.le.pg :: F)) :
    Calls Tryz.prog 53 #[(.pointer (some ⟨b, 0, none⟩))] w fun e w' => ∃ va, e = .returned (.agg #[.int .u64 (x.le).id, .int .u64 (x.le).word, .int .i64 (x.le).pg.lev, va, .string (x.le).pg.hi, .bool (x.le).pg.la, .int .u64 (x.le).pg.ri]) ∧ St K w' (slC va x.le.pg :: insC b .nilFunc d x :: slC x.vl x.le.pg :: F) := by
  obtain ⟨fr, vf, fu, vu, err, le, vl, ri, vr, sep, on⟩ := x
  simp only at hv hn
  subst hv
  have hs := (hs.made (.cells #[.int .u64 0, .int .u64 0, .int .i64 0, .slice none 0 0, .string ⟨#[]⟩, .bool false, .int .u64 0] 45)).u2
  have Q := Lib.hid (insResult_st hon hn hs)
  have k := hs.k0
  unfold inCells inH at k
  clear hs hon
  go_enter Tryz.func53, Tryz.ntmps53
  go_wp2_with fail
  refine (Q.out).mono ?_
  clear Q k
  generalize w.heap.size = b0
  rintro e w1 ⟨va, rfl, hs⟩
  obtain ⟨a2, c2, rfl, _, _⟩ := hs.row_read
  have hs := hs.b3
  have k0 := hs.k0
  have f0 := hs.f0
  have hs := ((((((hs.setL 0 (.int .u64 le.id)).setL 1 (.int .u64 le.word)).setL 2 (.int .i64 le.pg.lev)).setL 3 (.slice a2 le.pg.sl.length c2)).setL 4 (.string le.pg.hi)).setL 5 (.bool le.pg.la)).setL 6 (.int .u64 le.pg.ri)
  simp only [List.set_cons_zero, List.set_cons_succ] at hs
  go_wp2
  refine bodyPost_ret (insLeft_res _ _ b0 _ _ _ _ _ _ _ rfl hs.k0) rfl ⟨_, rfl, hs.tail⟩
theorem insRight_st (hon : x.on = true) (hn : x.ri.pg.sl.length ≤ 1000000) (hv : x.vr = .slice a x.ri.pg.sl.length c) (hs : St K w (insC b .nilFunc d x :: slC x.vr x.ri.pg :: F)) :
    Calls Tryz.prog 54 #[(.pointer (some ⟨b, 0, none⟩))] w fun e w' => ∃ va, e = .returned (.agg #[.int .u64 (x.ri).id, .int .u64 (x.ri).word, .int .i64 (x.ri).pg.lev, va, .string (x.ri).pg.hi, .bool (x.ri).pg.la, .int .u64 (x.ri).pg.ri]) ∧ St K w' (slC va x.ri.pg :: insC b .nilFunc d x :: slC x.vr x.ri.pg :: F) := by
  obtain ⟨fr, vf, fu, vu, err, le, vl, ri, vr, sep, on⟩ := x
  simp only at hv hn
  subst hv
  have hs := (hs.made (.cells #[.int .u64 0, .int .u64 0, .int .i64 0, .slice none 0 0, .string ⟨#[]⟩, .bool false, .int .u64 0] 45)).u2
  have Q := Lib.hid (insResult_st hon hn hs)
  have k := hs.k0
  unfold inCells inH at k
  clear hs hon
  go_enter Tryz.func54, Tryz.ntmps54
  go_wp2_with fail
  refine (Q.out).mono ?_
  clear Q k
  generalize w.heap.size = b0
  rintro e w1 ⟨va, rfl, hs⟩
  obtain ⟨a2, c2, rfl, _, _⟩ := hs.row_read
  have hs := hs.b3
  have k0 := hs.k0
  have f0 := hs.f0
  have hs := ((((((hs.setL 0 (.int .u64 ri.id)).setL 1 (.int .u64 ri.word)).setL 2 (.int .i64 ri.pg.lev)).setL 3 (.slice a2 ri.pg.sl.length c2)).setL 4 (.string ri.pg.hi)).setL 5 (.bool ri.pg.la)).setL 6 (.int .u64 ri.pg.ri)
  simp only [List.set_cons_zero, List.set_cons_succ] at hs
  go_wp2
  refine bodyPost_ret (insRight_res _ _ b0 _ _ _ _ _ _ _ rfl hs.k0) rfl ⟨_, rfl, hs.tail⟩
end
end Go.Proofs.YtlpdhhhgckpcfaaGreat

namespace Go.Proofs.YtlpdhhhgckpcfaaGreat
open Go.RowKit
set_option maxRecDepth 100000
/-- What is known of the page with the new slot. -/
structure FuOk (d : Cfg) (fr : InH) (fu : Pg) : Prop where
  lev : fu.lev = fr.pg.lev
  len : (fu.sl.length : Int) ≤ d.fa + 1
  r : ∀ s, s ∈ fu.sl → 0 ≤ s.r ∧ s.r < 18446744073709551616
  k : ∀ s, s ∈ fu.sl → s.k.size ≤ 1000000
  hi : fu.hi.size ≤ maxLen
  la : fu.la = true → fu.hi = ⟨#[]⟩
  ri : 0 ≤ fu.ri ∧ fu.ri < 18446744073709551616
theorem sepFrom_size (a b : ByteArray) : ∀ (f n : Nat), (sepFrom a b f n).size ≤ b.size := by
  intro f
  induction f with
  | zero => intro n; exact Nat.zero_le _
  | succ f ih =>
    intro n
    unfold sepFrom
    split
    · rw [ByteArray.size_extract]; omega
    · exact ih _
theorem sepK_size (a b : ByteArray) : (sepK a b).size ≤ b.size := sepFrom_size a b _ _
theorem cells_big {d : Cfg} (hd : d.Ok) : 10 ≤ d.cells := by
  have h1 := node_in hd (id := 1) (by omega) hd.no1 (k := 2) (by omega) (by have := hd.fa1; omega)
  have h2 := (start_cells d hd).2.1
  omega
section
variable {d : Cfg} {fr : InH} {fu : Pg} {id : Int}
theorem FuOk.fit (h : FuOk d fr fu) (hle : (fu.sl.length : Int) ≤ d.fa) : PgOk d fu :=
  ⟨hle, h.ri, h.r, fun s hs => Nat.le_trans (h.k s hs) (by decide), h.hi, h.la⟩
theorem FuOk.sep (h : FuOk d fr fu) : (splSep fu).size ≤ 1000000 := by
  unfold splSep
  split
  · rename_i x y hx hy
    have hy := h.k y (List.mem_of_getElem? hy)
    split
    · exact Nat.le_trans (sepK_size _ _) hy
    · exact hy
  · exact Nat.zero_le _
theorem FuOk.left (h : FuOk d fr fu) (hd : d.Ok) (hid : 0 ≤ id ∧ id < 18446744073709551616) : PgOk d (splL fu id) := by
  have h1 := hd.fa1
  have h2 := h.len
  refine ⟨?_, hid, fun s hs => h.r s (List.mem_of_mem_take hs), fun s hs => Nat.le_trans (h.k s (List.mem_of_mem_take hs)) (by decide), Nat.le_trans h.sep (by decide), fun e => by cases e⟩
  show ((fu.sl.take (splK fu.sl.length)).length : Int) ≤ d.fa
  rw [List.length_take]
  unfold splK
  omega
theorem FuOk.right (h : FuOk d fr fu) (hd : d.Ok) : PgOk d (splR fu) := by
  have h1 := hd.fa1
  have h2 := h.len
  refine ⟨?_, h.ri, fun s hs => h.r s (List.mem_of_mem_drop hs), fun s hs => Nat.le_trans (h.k s (List.mem_of_mem_drop hs)) (by decide), h.hi, h.la⟩
  show ((fu.sl.drop (splK fu.sl.length)).length : Int) ≤ d.fa
  rw [List.length_drop]
  unfold splK
  omega
theorem WrPs.len {p : Pg} {ps : List Pt} (h : WrPs d fr p ps) : 2 ≤ ps.length ∧ ps.length ≤ p.sl.length + 5 := by
  obtain ⟨mid, hn, rfl⟩ := h
  have := hn.1.length_le
  simp [pgPts, slPts_length] at this ⊢
  omega
end
/-- The page with the new slot is there, the machine has begun. -/
def inxA (fr : InH) (vf : Value) (fu : Pg) (vu : Value) : InX := { inx1 fr vf fu vu with on := true }
def inxB (fr : InH) (vf : Value) (fu : Pg) (vu : Value) (id : Int) (va : Value) : InX := { inxA fr vf fu vu with ri := ⟨id, ltLock 0, splR fu⟩, vr := va, sep := splSep fu }
/-- The number of the new node, the points of its page, the cells behind them. -/
def newId (L : List Cel) : Int := (getC L 4).n + 1
def frPts (d : Cfg) (fu : Pg) (L : List Cel) : List Pt := ⟨d.node (newId L) 0, ⟨ltLock 0, ⟨#[]⟩, 0⟩⟩ :: pgPts d (newId L) (splR fu)
def takL (L : List Cel) : List Cel := putC L 4 ⟨newId L, ⟨#[]⟩, 0⟩
/-- The last write: what Insert has, the page, the cells before it. -/
def WCase (d : Cfg) (fr : InH) (vf : Value) (fu : Pg) (vu : Value) (L : List Cel) (x : InX) (p : Pg) (L2 : List Cel) : Prop :=
  ((fu.sl.length : Int) ≤ d.fa ∧ x = inxA fr vf fu vu ∧ p = fu ∧ L2 = L) ∨
  (d.fa < (fu.sl.length : Int) ∧ newId L ≤ d.no ∧ (∃ va, x = inxB fr vf fu vu (newId L) va ∧ ∃ a c, va = .slice a (splR fu).sl.length c) ∧ p = splL fu (newId L) ∧ L2 = putAll (takL L) (frPts d fu L))
section
variable (K : Know) (W : World) (b bm bc : Nat) (d : Cfg) (fr : InH) (vf : Value) (fu : Pg) (vu : Value) (L : List Cel) (F : List Comp)
/-- While it takes a number. -/
def InT (j r : Nat) : Prop := d.fa < (fu.sl.length : Int) ∧ ∃ (B : TkB) (s : TakeS), (s.pc = 0 ∨ (s.pc = 1 ∧ s.seen = (getC L 4).n ∧ s.seen < d.no)) ∧ s.ok = false ∧ 2 - s.pc + (splR fu).sl.length + 4 + fu.sl.length + 5 ≤ r ∧
  St K W (insC b (stV (some (tkFV B))) d (inxA fr vf fu vu) :: memC bm bc L j :: slC vu fu :: (tkL b B 4 d.no s ++ slC vf fr.pg :: F))
/-- While it writes the new node. -/
def InF (j r : Nat) : Prop := d.fa < (fu.sl.length : Int) ∧ newId L ≤ d.no ∧ ∃ (B : FrB) (k : Nat), k < (frPts d fu L).length ∧ (∃ a c, B.vq = .slice a (splL fu (newId L)).sl.length c) ∧ (frPts d fu L).length - k + fu.sl.length + 5 ≤ r ∧
  St K W (insC b (stV (some (frFV B))) d (inxA fr vf fu vu) :: memC bm bc (putAll (takL L) ((frPts d fu L).take k)) j :: slC vf fr.pg :: (frL b B (newId L) (splR fu) (splL fu (newId L)) (splSep fu) (frPts d fu L) k ++ F))
/-- While it writes the old one. -/
def InW (j r : Nat) : Prop := ∃ (B : WrB) (x : InX) (p : Pg) (L2 : List Cel) (ps : List Pt) (k : Nat), WCase d fr vf fu vu L x p L2 ∧ WrPs d fr p ps ∧ k < ps.length ∧ ps.length - k ≤ r ∧
  St K W (insC b (stV (some (wrFV B))) d x :: memC bm bc (putAll L2 (ps.take k)) j :: (wrL b B fr.id (ltEnd (ltBegin fr.word)) p ps k ++ (slC vf fr.pg :: slC x.vr x.ri.pg :: F)))
/-- Behind j steps, with at most r left. -/
def InAt (j r : Nat) : Prop := InT K W b bm bc d fr vf fu vu L F j r ∨ InF K W b bm bc d fr vf fu vu L F j r ∨ InW K W b bm bc d fr vf fu vu L F j r
/-- The end. -/
def InEnd (j : Nat) : Prop :=
  (∃ (x : InX) (p : Pg) (L2 : List Cel) (ps : List Pt) (va : Value), WCase d fr vf fu vu L x p L2 ∧ WrPs d fr p ps ∧
    St K W (insC b .nilFunc d { x with le := ⟨fr.id, ltEnd (ltBegin fr.word), p⟩, vl := va } :: memC bm bc (putAll L2 ps) j :: slC va p :: slC vf fr.pg :: slC x.vr x.ri.pg :: F)) ∨
  (d.fa < (fu.sl.length : Int) ∧ d.no < newId L ∧ St K W (insC b .nilFunc d { inxA fr vf fu vu with err := 2, le := fr, vl := vf } :: memC bm bc L j :: slC vf fr.pg :: F))
end
section
variable {K : Know} {W W' : World} {b bm bc j r : Nat} {d : Cfg} {fr : InH} {vf vu : Value} {fu : Pg} {L : List Cel} {F : List Comp}
theorem InAt.same (h : InAt K W b bm bc d fr vf fu vu L F j r) (hb : Below W.heap.size W W') : InAt K W' b bm bc d fr vf fu vu L F j r := by
  rcases h with ⟨h1, B, s, h2, h3, h4, hs⟩ | ⟨h1, h2, B, k, h3, h4, h5, hs⟩ | ⟨B, x, p, L2, ps, k, h1, h2, h3, h4, hs⟩
  · exact .inl ⟨h1, B, s, h2, h3, h4, hs.same hb⟩
  · exact .inr (.inl ⟨h1, h2, B, k, h3, h4, h5, hs.same hb⟩)
  · exact .inr (.inr ⟨B, x, p, L2, ps, k, h1, h2, h3, h4, hs.same hb⟩)
theorem InAt.rest (h : InAt K W b bm bc d fr vf fu vu L F j r) : St K W F := by
  rcases h with ⟨h1, B, s, h2, h3, h4, hs⟩ | ⟨h1, h2, B, k, h3, h4, h5, hs⟩ | ⟨B, x, p, L2, ps, k, h1, h2, h3, h4, hs⟩
  · exact hs.tail.tail.tail.right.tail
  · exact hs.tail.tail.tail.right
  · exact hs.tail.tail.right.tail.tail
end
section
variable {K : Know} {w : World} {b bm bc j r : Nat} {d : Cfg} {fr : InH} {af au : Option Addr} {cf cu : Nat} {fu : Pg} {L : List Cel} {F : List Comp}
theorem insW_go (hd : d.Ok) (hfu : FuOk d fr fu) (hj : j ≤ 1000000) (h : InW K w b bm bc d fr (.slice af fr.pg.sl.length cf) fu (.slice au fu.sl.length cu) L F j r) : Calls Tryz.prog 77 #[(.pointer (some ⟨b, 0, none⟩)), (.pointer (some ⟨bm, 0, none⟩))] w fun e w' => (∃ r', r' < r ∧ e = .returned (.bool false) ∧ InAt K w' b bm bc d fr (.slice af fr.pg.sl.length cf) fu (.slice au fu.sl.length cu) L F (j + 1) r') ∨ (e = .returned (.bool true) ∧ InEnd K w' b bm bc d fr (.slice af fr.pg.sl.length cf) fu (.slice au fu.sl.length cu) L F (j + 1)) := by
  have h2 := hd.fa2
  have h3 := hfu.len
  obtain ⟨B, x, p, L2, ps, k, hc, hw, hk, hr, hs⟩ := h
  have hpl : p.sl.length ≤ 1000000 := by
    rcases hc with ⟨_, _, rfl, _⟩ | ⟨_, _, _, rfl, _⟩
    · omega
    · show (fu.sl.take _).length ≤ _
      rw [List.length_take]; omega
  have hg := List.getElem?_eq_getElem hk
  refine (insRunW B hpl hg (by omega) ((show St K w (_ :: _ :: _ :: _ :: _ :: _ :: _ :: _ :: _ :: _ :: _ :: F) from hs))).mono ?_
  rintro e w' (⟨hne, rfl, hs⟩ | ⟨he, rfl, va, hs⟩)
  · refine .inl ⟨r - 1, by omega, rfl, .inr (.inr ⟨B, x, p, L2, ps, k + 1, hc, hw, by omega, by omega, ?_⟩)⟩
    rw [putAll_take hg]
    exact hs
  · refine .inr ⟨rfl, .inl ⟨x, p, L2, ps, va, hc, hw, ?_⟩⟩
    rw [← putAll_take hg, he, List.take_length] at hs
    exact hs
theorem insF_go (hd : d.Ok) (hfr : fr.Ok d) (hfu : FuOk d fr fu) (hL : 0 ≤ newId L) (hj : j ≤ 1000000) (h : InF K w b bm bc d fr (.slice af fr.pg.sl.length cf) fu (.slice au fu.sl.length cu) L F j r) : Calls Tryz.prog 77 #[(.pointer (some ⟨b, 0, none⟩)), (.pointer (some ⟨bm, 0, none⟩))] w fun e w' => (∃ r', r' < r ∧ e = .returned (.bool false) ∧ InAt K w' b bm bc d fr (.slice af fr.pg.sl.length cf) fu (.slice au fu.sl.length cu) L F (j + 1) r') ∨ (e = .returned (.bool true) ∧ InEnd K w' b bm bc d fr (.slice af fr.pg.sl.length cf) fu (.slice au fu.sl.length cu) L F (j + 1)) := by
  have h2 := hd.fa2
  have h3 := hfu.len
  have hn2 := hd.no2
  obtain ⟨hle, hno, B, k, hk, hvq, hr, hs⟩ := h
  have hg := List.getElem?_eq_getElem hk
  have hrl : (splR fu).sl.length ≤ 1000000 := by
    show (fu.sl.drop _).length ≤ _
    rw [List.length_drop]; omega
  have hll : (splL fu (newId L)).sl.length ≤ fu.sl.length := by
    show (fu.sl.take _).length ≤ _
    rw [List.length_take]; omega
  refine (insRunF (x := inxA fr (.slice af fr.pg.sl.length cf) fu (.slice au fu.sl.length cu)) B hd hfr (hfu.left hd ⟨hL, by omega⟩) (by show 0 ≤ fu.lev ∧ fu.lev < _; rw [hfu.lev]; exact hfr.lev) hrl rfl hvq hg (by omega) hs).mono ?_
  rintro e w' ⟨rfl, ⟨hne, hs⟩ | ⟨he, va, B', ps', hw, hs⟩⟩
  · refine .inl ⟨r - 1, by omega, rfl, .inr (.inl ⟨hle, hno, B, k + 1, by omega, hvq, by omega, ?_⟩)⟩
    rw [putAll_take hg]
    exact hs
  · have hlen := hw.len
    have hs := (show St K w' (_ :: _ :: _ :: slC va (splR fu) :: _ :: _ :: _ :: _ :: _ :: _ :: _ :: _ :: F) from hs)
    obtain ⟨a, c, hva, _, _⟩ := (show St K w' (rowC va 69 2 (splR fu).sl.length (slRow (splR fu).sl) :: _) from hs.b3).row_read
    refine .inl ⟨fu.sl.length + 5, by omega, rfl, .inr (.inr ⟨B', inxB fr (.slice af fr.pg.sl.length cf) fu (.slice au fu.sl.length cu) (newId L) va, splL fu (newId L), putAll (takL L) (frPts d fu L), ps', 0, .inr ⟨hle, hno, ⟨va, rfl, a, c, hva⟩, rfl, rfl⟩, hw, by omega, by omega, ?_⟩)⟩
    rw [← putAll_take hg, he, List.take_length] at hs
    exact (hs.re [4, 0, 1, 5, 6, 7, 8, 9, 10, 11, 2, 3] rfl).tail
theorem insT_go (hd : d.Ok) (hfr : fr.Ok d) (hfu : FuOk d fr fu) (hL : 0 ≤ (getC L 4).n) (hlen : (L.length : Int) = d.cells) (hj : j ≤ 1000000) (h : InT K w b bm bc d fr (.slice af fr.pg.sl.length cf) fu (.slice au fu.sl.length cu) L F j r) : Calls Tryz.prog 77 #[(.pointer (some ⟨b, 0, none⟩)), (.pointer (some ⟨bm, 0, none⟩))] w fun e w' => (∃ r', r' < r ∧ e = .returned (.bool false) ∧ InAt K w' b bm bc d fr (.slice af fr.pg.sl.length cf) fu (.slice au fu.sl.length cu) L F (j + 1) r') ∨ (e = .returned (.bool true) ∧ InEnd K w' b bm bc d fr (.slice af fr.pg.sl.length cf) fu (.slice au fu.sl.length cu) L F (j + 1)) := by
  have h1 := hd.fa1
  have h2 := hd.fa2
  have h3 := hfu.len
  have hn2 := hd.no2
  obtain ⟨hle, B, s, hst, hok, hr, hs⟩ := h
  have hid : newId L = (getC L 4).n + 1 := rfl
  have h2s : 2 ≤ fu.sl.length := by omega
  obtain ⟨pc, seen, ok⟩ := s
  simp only at hst hok hr
  subst hok
  rcases hst with rfl | ⟨rfl, rfl, hlt⟩
  · have e1 : takeStep 4 d.no L ⟨0, seen, false⟩ = (⟨if d.no ≤ (getC L 4).n then 2 else 1, (getC L 4).n, false⟩, L) := rfl
    refine (insRunT (x := inxA fr (.slice af fr.pg.sl.length cf) fu (.slice au fu.sl.length cu)) B hd (by show 0 ≤ fu.lev ∧ fu.lev < _; rw [hfu.lev]; exact hfr.lev) h2s h3 hfu.k rfl rfl (s := ⟨0, seen, false⟩) (by show 0 < 2; omega) (fun e => by cases e) (fun e => by rw [e1] at e; cases e) (by omega) hs).mono ?_
    rw [e1]
    rintro e w' (⟨hpc, rfl, hs⟩ | ⟨hpc, _, rfl, hs⟩ | ⟨_, hok, _⟩)
    · have hno : ¬ d.no ≤ (getC L 4).n := by
        intro hc
        rw [if_pos hc] at hpc
        exact absurd hpc (by show ¬ 2 < 2; omega)
      rw [if_neg hno] at hs
      exact .inl ⟨r - 1, by omega, rfl, .inl ⟨hle, B, _, .inr ⟨rfl, rfl, by show (getC L 4).n < d.no; omega⟩, rfl, by show 2 - 1 + _ + _ + _ + _ ≤ _; omega, hs⟩⟩
    · have hno : d.no ≤ (getC L 4).n := by
        by_cases hc : d.no ≤ (getC L 4).n
        · exact hc
        · rw [if_neg hc] at hpc
          exact absurd hpc (by show ¬ 2 ≤ 1; omega)
      exact .inr ⟨rfl, .inr ⟨hle, by omega, (hs.re [2, 0, 1] rfl).tail⟩⟩
    · cases hok
  · have hcl := cells_big hd
    have hsw : swapOk L 4 (getC L 4).n = true := by
      unfold swapOk
      rw [decide_eq_true (by omega : (0 : Int) ≤ 4), decide_eq_true (by omega : (4 : Int) < L.length), decide_eq_true rfl]
      rfl
    have e1 : takeStep 4 d.no L ⟨1, (getC L 4).n, false⟩ = (⟨2, (getC L 4).n, true⟩, takL L) := by
      show (if swapOk L 4 (getC L 4).n then _ else _) = _
      rw [if_pos hsw]
      rfl
    refine (insRunT (x := inxA fr (.slice af fr.pg.sl.length cf) fu (.slice au fu.sl.length cu)) B hd (by show 0 ≤ fu.lev ∧ fu.lev < _; rw [hfu.lev]; exact hfr.lev) h2s h3 hfu.k rfl rfl (s := ⟨1, (getC L 4).n, false⟩) (by show 1 < 2; omega) (fun _ => ⟨hL, by show (getC L 4).n < _; omega⟩) (fun _ => by rw [e1]; exact ⟨hL, by show (getC L 4).n < _; omega⟩) (by omega) hs).mono ?_
    rw [e1]
    rintro e w' (⟨hpc, rfl, hs⟩ | ⟨hpc, hok, _⟩ | ⟨_, _, rfl, B', ps, rfl, hvq, hs⟩)
    · exact absurd hpc (by show ¬ 2 < 2; omega)
    · cases hok
    · have hfl : (frPts d fu L).length = (splR fu).sl.length + 4 := by simp [frPts, pgPts, slPts_length]
      refine .inl ⟨r - 1, by omega, rfl, .inr (.inl ⟨hle, by omega, B', 0, by omega, hvq, by omega, ?_⟩)⟩
      have hs := (show St K w' (_ :: _ :: _ :: _ :: _ :: _ :: _ :: _ :: _ :: _ :: _ :: _ :: _ :: slC (.slice af fr.pg.sl.length cf) fr.pg :: F) from hs)
      exact (hs.re [2, 0, 1, 13, 3, 4, 5, 6, 7, 8, 9, 10, 11, 12] rfl).tail
/-- A step. -/
theorem insGo (hd : d.Ok) (hfr : fr.Ok d) (hfu : FuOk d fr fu) (hL : 0 ≤ (getC L 4).n) (hlen : (L.length : Int) = d.cells) (hj : j ≤ 1000000) (h : InAt K w b bm bc d fr (.slice af fr.pg.sl.length cf) fu (.slice au fu.sl.length cu) L F j r) : Calls Tryz.prog 48 #[(.pointer (some ⟨b, 0, none⟩)), (.pointer (some ⟨bm, 0, none⟩))] w fun e w' => (∃ r', r' < r ∧ e = .returned (.bool false) ∧ InAt K w' b bm bc d fr (.slice af fr.pg.sl.length cf) fu (.slice au fu.sl.length cu) L F (j + 1) r') ∨ (e = .returned (.bool true) ∧ InEnd K w' b bm bc d fr (.slice af fr.pg.sl.length cf) fu (.slice au fu.sl.length cu) L F (j + 1)) := by
  have q : Calls Tryz.prog 77 #[(.pointer (some ⟨b, 0, none⟩)), (.pointer (some ⟨bm, 0, none⟩))] w fun e w' => (∃ r', r' < r ∧ e = .returned (.bool false) ∧ InAt K w' b bm bc d fr (.slice af fr.pg.sl.length cf) fu (.slice au fu.sl.length cu) L F (j + 1) r') ∨ (e = .returned (.bool true) ∧ InEnd K w' b bm bc d fr (.slice af fr.pg.sl.length cf) fu (.slice au fu.sl.length cu) L F (j + 1)) := by
    rcases h with h | h | h
    · exact insT_go hd hfr hfu hL hlen hj h
    · exact insF_go hd hfr hfu (by unfold newId; omega) hj h
    · exact insW_go hd hfu hj h
  have q2 : Calls Tryz.prog 77 #[(.pointer (some ⟨b, 0, none⟩)), (.pointer (some ⟨bm, 0, none⟩))] w fun e w' => ∃ v, e = .returned v ∧ ((∃ r', r' < r ∧ v = .bool false ∧ InAt K w' b bm bc d fr (.slice af fr.pg.sl.length cf) fu (.slice au fu.sl.length cu) L F (j + 1) r') ∨ (v = .bool true ∧ InEnd K w' b bm bc d fr (.slice af fr.pg.sl.length cf) fu (.slice au fu.sl.length cu) L F (j + 1))) := by
    refine q.mono ?_
    rintro e w' (⟨r', hr, rfl, h⟩ | ⟨rfl, h⟩)
    · exact ⟨_, rfl, .inl ⟨r', hr, rfl, h⟩⟩
    · exact ⟨_, rfl, .inr ⟨rfl, h⟩⟩
  refine (insStep_st (P := fun v w' => (∃ r', r' < r ∧ v = .bool false ∧ InAt K w' b bm bc d fr (.slice af fr.pg.sl.length cf) fu (.slice au fu.sl.length cu) L F (j + 1) r') ∨ (v = .bool true ∧ InEnd K w' b bm bc d fr (.slice af fr.pg.sl.length cf) fu (.slice au fu.sl.length cu) L F (j + 1))) q2 ?_).mono ?_
  · rintro v w' (⟨_, _, rfl, _⟩ | ⟨rfl, _⟩)
    · exact ⟨_, rfl⟩
    · exact ⟨_, rfl⟩
  · rintro e w' ⟨v, rfl, ⟨r', hr, rfl, h⟩ | ⟨rfl, h⟩⟩
    · exact .inl ⟨r', hr, rfl, h⟩
    · exact .inr ⟨rfl, h⟩
/-- NewInsert. -/
theorem newInsert_at {key : ByteArray} {ref : Int} {acc : Nat} (hd : d.Ok) (hfr : fr.Ok d) (he : fu = insPg fr.pg key ref) (hno : decide (loK fr.pg.sl key < hiK fr.pg.sl key) = false) (hasc : Asc fr.pg.sl) (hfu : FuOk d fr fu) (hs : St K w (slC (.slice af fr.pg.sl.length cf) fr.pg :: memC bm bc L acc :: F)) :
    Calls Tryz.prog 46 #[.agg #[.int .i64 d.th, .int .i64 d.sn, .int .i64 d.no, .int .i64 d.ch, .int .i64 d.re, .int .i64 d.fa, .int .u64 d.cl], (.agg #[.int .u64 (fr).id, .int .u64 (fr).word, .int .i64 (fr).pg.lev, (.slice af fr.pg.sl.length cf), .string (fr).pg.hi, .bool (fr).pg.la, .int .u64 (fr).pg.ri]), .string key, .int .u64 ref] w fun e w' => ∃ (b : Nat) (a : Option Addr) (c : Nat), e = .returned (.pointer (some ⟨b, 0, none⟩)) ∧ InAt K w' b bm bc d fr (.slice af fr.pg.sl.length cf) fu (.slice a fu.sl.length c) L F acc (2 * fu.sl.length + 11) := by
  refine (newInsert_st hd hfr he hno hasc (fun h => hfu.fit h) hs).mono ?_
  rintro e w' ⟨b, a, c, rfl, ⟨hle, B, ps, hw, hs⟩ | ⟨hle, B, hs⟩⟩
  · have hlen := hw.len
    refine ⟨b, a, c, rfl, .inr (.inr ⟨B, inxA fr (.slice af fr.pg.sl.length cf) fu (.slice a fu.sl.length c), fu, L, ps, 0, .inl ⟨hle, rfl, rfl, rfl⟩, hw, by omega, by omega, ?_⟩)⟩
    have hs := (show St K w' (_ :: _ :: _ :: _ :: _ :: _ :: _ :: _ :: _ :: _ :: _ :: F) from hs)
    exact (hs.row_nil (T := 69) (size := 2)).re [3, 1, 11, 4, 5, 6, 7, 8, 9, 10, 2, 0] rfl |>.tail
  · have hr : (splR fu).sl.length ≤ fu.sl.length := by
      show (fu.sl.drop _).length ≤ _
      rw [List.length_drop]; omega
    refine ⟨b, a, c, rfl, .inl ⟨hle, B, ⟨0, 0, false⟩, .inl rfl, rfl, by show 2 - 0 + _ + _ + _ + _ ≤ _; omega, ?_⟩⟩
    have hs := (show St K w' (_ :: _ :: _ :: _ :: _ :: _ :: _ :: _ :: F) from hs)
    exact hs.re [0, 7, 2, 3, 4, 5, 6, 1] rfl
end
end Go.Proofs.YtlpdhhhgckpcfaaGreat
