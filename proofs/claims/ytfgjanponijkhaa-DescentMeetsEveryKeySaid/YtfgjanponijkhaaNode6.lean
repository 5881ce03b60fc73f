/- The reader of a node as a machine: its state as a function of the cells. -/
import Derived.Test.YtfgjanponijkhaaNode4
import Derived.Test.YtfgjanponijkhaaNode5
import Derived.Test.YtfgjanponijkhaaChainLaw
namespace Go.Proofs.Ytfgjanponijkhaa
open Go.RowKit
set_option maxRecDepth 100000

/-- Read: 0 open, 1 head, 2 high, 3 right, 4 slot, 5 validate, 6 done; t: whether what follows the copy has been laid down. -/
structure RdS where
  pc : Nat
  pg : Pg
  left : Nat
  word : Int
  t : Bool
def pg0 : Pg := ⟨0, [], ⟨#[]⟩, false, 0⟩
def rd0 : RdS := ⟨0, pg0, 0, 0, false⟩
def rdStep (d : Cfg) (id : Int) (L : List Cel) (s : RdS) : RdS :=
  match s.pc with
  | 0 => if ltChg (getC L (d.node id 0)).n then ⟨0, s.pg, s.left, (getC L (d.node id 0)).n, s.t⟩ else ⟨1, s.pg, s.left, (getC L (d.node id 0)).n, true⟩
  | 1 => ⟨2, ⟨wrap64 (getC L (d.node id 1)).m, [], ⟨#[]⟩, false, 0⟩, leftOf d (getC L (d.node id 1)), s.word, s.t⟩
  | 2 => ⟨3, s.pg.high (getC L (d.node id 2)), s.left, s.word, s.t⟩
  | 3 => ⟨if s.left = 0 then 5 else 4, s.pg.right (getC L (d.node id 3)), s.left, s.word, s.t⟩
  | 4 => ⟨if s.left - 1 = 0 then 5 else 4, s.pg.push (getC L (d.slot id s.pg.sl.length)), s.left - 1, s.word, s.t⟩
  | 5 => if ltUnlock s.word == ltUnlock (getC L (d.node id 0)).n then ⟨6, s.pg, s.left, s.word, s.t⟩ else ⟨0, s.pg, s.left, s.word, s.t⟩
  | _ => s

/-- The state functions. -/
def rdPv (b : Nat) : Nat → Option FV
  | 0 => rdOpen b
  | 1 => rdHead b
  | 2 => some ⟨187, #[.pointer (some ⟨b, 2, none⟩)], #[]⟩
  | 3 => some ⟨201, #[.pointer (some ⟨b, 2, none⟩)], #[]⟩
  | 4 => some ⟨205, #[.pointer (some ⟨b, 2, none⟩)], #[]⟩
  | 5 => rdVal b
  | _ => none
def rdTh (b : Nat) (t : Bool) : Option FV := if t then rdVal b else none
/-- The machine's block; its slots are a row of their own. -/
def rdC (b : Nat) (d : Cfg) (id : Int) (va : Value) (s : RdS) : Comp := blk b (.cells (rdCells (stV (rdPv b s.pc)) d id s.pg va s.left (stV (rdTh b s.t)) s.word).toArray 161)
def slC (va : Value) (pg : Pg) : Comp := rowC va 132 2 (pg).sl.length (slRow (pg).sl)
theorem rdPv_none {b p : Nat} : (rdPv b p).isNone = decide (6 ≤ p) := by
  match p with
  | 0 => rfl
  | 1 => rfl
  | 2 => rfl
  | 3 => rfl
  | 4 => rfl
  | 5 => rfl
  | n + 6 => simp [rdPv]
theorem more_pv {b left : Nat} : moreV b left (rdVal b) = rdPv b (if left = 0 then 5 else 4) := by
  unfold moreV
  split <;> rfl

/-- What a reader's state has to keep. -/
structure RdS.Ok (d : Cfg) (s : RdS) : Prop where
  pc : s.pc ≤ 6
  word : 0 ≤ s.word ∧ s.word < 18446744073709551616
  len : s.pc ≤ 1 ∨ (s.pg.sl.length + s.left : Int) ≤ d.fa
  th : s.pc = 0 ∨ s.pc = 6 ∨ s.t = true
  left : s.pc = 4 → 0 < s.left
theorem rd0_ok (d : Cfg) : rd0.Ok d := ⟨by decide, ⟨by decide, by decide⟩, .inl (by decide), .inl rfl, by decide⟩
theorem leftOf_le {d : Cfg} (hd : d.Ok) {c : Cel} (hc : CelOk c) : (leftOf d c : Int) ≤ d.fa := by
  have := hd.fa1
  have := hc.1
  unfold leftOf
  omega
theorem rdStep_ok {d : Cfg} (hd : d.Ok) {id : Int} {L : List Cel} (hL : CelsOk L) {s : RdS} (h : s.Ok d) : (rdStep d id L s).Ok d := by
  obtain ⟨pc, pg, left, word, t⟩ := s
  have h1 := h.pc; have h2 := h.word; have h3 := h.len; have h4 := h.th; have h5 := h.left
  simp only at h1 h2 h3 h4 h5
  rcases (show pc = 0 ∨ pc = 1 ∨ pc = 2 ∨ pc = 3 ∨ pc = 4 ∨ pc = 5 ∨ pc = 6 by omega) with rfl | rfl | rfl | rfl | rfl | rfl | rfl
  · simp only [rdStep]
    split
    · exact ⟨by simp, hL _, .inl (by simp), .inl rfl, by simp⟩
    · exact ⟨by simp, hL _, .inl (by simp), .inr (.inr rfl), by simp⟩
  · simp only [rdStep]
    exact ⟨by simp, h2, .inr (by simpa using leftOf_le hd (hL _)), by simpa using h4, by simp⟩
  · simp only [rdStep]
    exact ⟨by simp, h2, .inr (by simpa [Pg.high] using h3), by simpa using h4, by simp⟩
  · simp only [rdStep]
    refine ⟨by simp only; split <;> omega, h2, .inr (by simpa [Pg.right] using h3), .inr (.inr (by simpa using h4)), ?_⟩
    simp only
    split <;> omega
  · simp only [rdStep]
    have hl : 0 < left := h5 rfl
    refine ⟨by simp only; split <;> omega, h2, .inr ?_, .inr (.inr (by simpa using h4)), ?_⟩
    · have h3' : (pg.sl.length : Int) + left ≤ d.fa := by simpa using h3
      simp only [Pg.push, List.length_append, List.length_singleton]
      omega
    · simp only
      split <;> omega
  · simp only [rdStep]
    split
    · exact ⟨by simp, h2, .inr (by simpa using h3), .inr (.inl rfl), by simp⟩
    · exact ⟨by simp, h2, .inl (by simp), .inl rfl, by simp⟩
  · exact h

section
variable {K : Know} {w : World} {F : List Comp} {b bm bc : Nat} {L : List Cel} {acc : Nat} {nx va : Value} {d : Cfg} {id : Int} {s : RdS}

theorem enters_open : Enters 102 := fun _ _ => rfl
theorem enters_head : Enters 164 := fun _ _ => rfl
theorem enters_high : Enters 187 := fun _ _ => rfl
theorem enters_right : Enters 201 := fun _ _ => rfl
theorem enters_slot : Enters 205 := fun _ _ => rfl
theorem enters_validate : Enters 152 := fun _ _ => rfl

/-- A step whose state function leaves parts that hang on a value. -/
theorem runStep_some {α : Type} {m : Nat} {f : FV} {o : Option FV} {nx : Value} {tl : α → List Value} {T : TypeId} {F' : α → List Comp} (hf : Enters f.f) (hc : w.cell? ⟨b, 0, none⟩ = some (stV (some f)))
    (hcall : Calls Try.prog f.f (f.x ++ #[.pointer (some ⟨m, 0, none⟩)] ++ f.y) w fun e w1 => ∃ x, e = .returned (stV o) ∧ St K w1 (blk b (.cells (nx :: tl x).toArray T) :: F' x)) :
    Calls Try.prog 103 #[.pointer (some ⟨b, 0, none⟩), .pointer (some ⟨m, 0, none⟩)] w fun e w' => ∃ x, e = .returned (.bool o.isNone) ∧ St K w' (blk b (.cells (stV o :: tl x).toArray T) :: F' x) := by
  refine (runStep_st (R := fun l => ∃ x, l = ⟨o, K, nx, tl x, T, F' x⟩) w b m f hf hc (hcall.mono fun e w1 ⟨x, he, hs⟩ => ⟨⟨o, K, nx, tl x, T, F' x⟩, he, ⟨x, rfl⟩, hs⟩)).mono ?_
  rintro e w' ⟨l, he, ⟨x, rfl⟩, hs⟩
  exact ⟨x, he, hs⟩
end
end Go.Proofs.Ytfgjanponijkhaa
